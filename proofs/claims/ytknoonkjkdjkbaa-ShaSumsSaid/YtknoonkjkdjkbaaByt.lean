/-
  Bytes: the eight bytes of a number, the digits of bytes.
-/
import Derived.Test.YtknoonkjkdjkbaaBase
namespace Go.Proofs.Ytknoonkjkdjkbaa
open Go.RowKit

def b8s (l : List UInt8) : List Value := l.map fun b => Value.int .u8 b.toNat
theorem b8s_length (l : List UInt8) : (b8s l).length = l.length := by simp [b8s]
theorem b8s_append (a b : List UInt8) : b8s (a ++ b) = b8s a ++ b8s b := by simp [b8s]
theorem b8s_at (l : List UInt8) (j : Nat) (h : j < l.length) : (b8s l)[j]? = some (.int .u8 (l.getD j 0).toNat) := by simp [b8s, h]
theorem b8s_one (l : List UInt8) : ∀ u ∈ b8s l, u.oneCell' = true := by
  intro u hu; simp only [b8s, List.mem_map] at hu; obtain ⟨x, _, rfl⟩ := hu; rfl
def be8 (n : Nat) : List UInt8 := (List.range 8).map fun k => UInt8.ofNat (n / 2 ^ (56 - 8 * k))
theorem be8_length (n : Nat) : (be8 n).length = 8 := by simp [be8]
theorem be8_take (n k : Nat) (h : k < 8) : (be8 n).take (k + 1) = (be8 n).take k ++ [UInt8.ofNat (n / 2 ^ (56 - 8 * k))] := by
  rw [List.take_succ_eq_append_getElem (by rw [be8_length]; exact h)]
  simp [be8]
theorem Try.info5 : (Try.prog.info? 5).map (fun i => (i.zero, i.size, i.bytes)) = some (some (.int .u8 0), 1, 1) := by kernel_rfl
def Owns8 (B : Nat) (w : World) (v : Value) (l : List UInt8) : Prop := w.ownsRow B 5 1 v l.length (b8s l)
theorem u8_of (n : Nat) : ((UInt8.ofNat n).toNat : Int) = (n : Int) % 256 := by rw [UInt8.toNat_ofNat']; omega
theorem eight_any (n : Nat) (w : World) (_hn : n < 18446744073709551616) :
    Calls Try.prog 15 #[.int .u64 n] w fun e w' => ∃ v, e = .returned v ∧ Owns8 w.heap.size w' v (be8 n) ∧ Below w.heap.size w w' := by
  go_enter Try.func15, Try.ntmps15
  go_wp2_with fail
  go_loopw [3, 4] (fun v s wr => ∃ k : Nat, k ≤ 8 ∧ s = .int .i64 (56 - 8 * (k : Int)) ∧ wr.ownsRow w.heap.size 5 1 v k (b8s ((be8 n).take k)) ∧ Below w.heap.size w wr) (fun _ s _ => (intOf s + 8).toNat)
  case atStart => exact ⟨0, by omega, rfl, World.ownsRow_nil _ _ _ _, Below.refl _ _⟩
  case round =>
    obtain ⟨k, hk, rfl, hown, hB⟩ := hrel
    obtain ⟨A, cap, rfl, hcap, _⟩ := own_form hown
    have Hown := Lib.hid hown; have hbs := hB.size; clear hown
    by_cases hk8 : k < 8
    · go_wp2_with (at_builtin; refine wpList_push rfl (.tmp 9) (.tmp 14) 22 rfl w.heap.size 5 (.int .u8 0) 1 1 Try.underlying22 Try.info5 rfl (by decide) _ _ _ rfl Hown.out _ 1 (by decide) rfl rfl rfl (by omega) (by omega) (by omega) ?_; intro g1 cap1 w1 hown1 hg1 hb1)
      have e : b8s ((be8 n).take (k + 1)) = b8s ((be8 n).take k) ++ #[Value.int IntKind.u8 ((n : Int) / 2 ^ (56 - 8 * k) % 256)].toList := by
        rw [be8_take n k hk8, b8s_append]
        simp only [b8s, List.map_cons, List.map_nil, u8_of]
        simp
      rw [← e] at hown1
      go_roundw
      case rel => exact ⟨k + 1, by omega, by go_num, hown1, hB.trans hb1⟩
      case measure => simp [intOf]; omega
    · obtain rfl : k = 8 := by omega
      go_wp2_with fail
      go_ret
      have := Hown.out
      rw [List.take_of_length_le (by rw [be8_length]; omega)] at this
      exact ⟨_, rfl, by rw [Owns8, be8_length]; exact this, hB⟩

def hexDigits : List UInt8 := [48, 49, 50, 51, 52, 53, 54, 55, 56, 57, 97, 98, 99, 100, 101, 102]
def hexD (a : Nat) : UInt8 := hexDigits.getD a 0
def hexOf (l : List UInt8) : List UInt8 := l.flatMap fun x => [hexD (x.toNat / 16), hexD (x.toNat % 16)]

def hexB : ByteArray := ⟨#[48, 49, 50, 51, 52, 53, 54, 55, 56, 57, 97, 98, 99, 100, 101, 102]⟩
theorem hex_extract : ∀ a : Fin 16, (hexB.extract a.1 (a.1 + 1)) = ⟨#[hexD a.1]⟩ := by decide
theorem hex_slice (a : Nat) (ha : a < 16) (w : World) : (Instr.slice 9 (.string ⟨#[48, 49, 50, 51, 52, 53, 54, 55, 56, 57, 97, 98, 99, 100, 101, 102]⟩) (some (.int .u8 (a : Int))) (some (.int .u8 ((a : Int) + 1))) none).run Try.prog w = .ok (.string ⟨#[hexD a]⟩) w := by
  rw [run_slice_string_if w 9 _ .u8 .u8 _ _ Try.underlying9]
  rw [if_pos ⟨by omega, by show (a : Int) + 1 ≤ 16; omega⟩, if_pos (by omega)]
  have := hex_extract ⟨a, ha⟩
  rw [show ((a : Int)).toNat = a from by omega, show ((a : Int) + 1).toNat = a + 1 from by omega]
  rw [← this]; rfl

theorem hexOf_length (l : List UInt8) : (hexOf l).length = 2 * l.length := by
  induction l with
  | nil => rfl
  | cons x l ih =>
    have : hexOf (x :: l) = [hexD (x.toNat / 16), hexD (x.toNat % 16)] ++ hexOf l := rfl
    rw [this, List.length_append, ih]; simp; omega
theorem hexOf_snoc (l : List UInt8) (x : UInt8) : hexOf (l ++ [x]) = hexOf l ++ [hexD (x.toNat / 16), hexD (x.toNat % 16)] := by simp [hexOf]

theorem refHex_any (l : List UInt8) (A : Option Addr) (cap B : Nat) (w : World) (hr : Rd w B 1 A l.length (b8s l)) (hcap : l.length ≤ cap) (hl : l.length ≤ 1000) :
    Calls Try.prog 11 #[.slice A l.length cap] w fun e w' => e = .returned (.string ⟨(hexOf l).toArray⟩) ∧ ∃ n, w' = w.drewN n := by
  obtain ⟨n, hn⟩ : ∃ n, n = l.length := ⟨_, rfl⟩
  rw [← hn] at hr hcap hl ⊢
  have Hr := Lib.hid hr; have Hn := Lib.hid hn; clear hr hn
  go_enter Try.func11, Try.ntmps11
  go_wp2_with fail
  go_loopw [3, 9] (fun s i wr => ∃ k : Nat, k ≤ n ∧ i = .int .i64 k ∧ s = .string ⟨(hexOf (l.take k)).toArray⟩ ∧ ∃ q, wr = w.drewN q) (fun _ i _ => n - (intOf i).toNat)
  case atStart => exact ⟨0, by omega, rfl, rfl, 0, rfl⟩
  case round =>
    obtain ⟨k, hk, rfl, rfl, q, rfl⟩ := hrel
    by_cases hk8 : k < n
    · obtain ⟨b, off, rfl, hb, hcell⟩ := Hr.out.at_ (by omega)
      have hkl : k < l.length := by rw [← Hn.out]; exact hk8
      have hck : w.cell? ⟨b, off + k, none⟩ = some (.int .u8 ((l.getD k 0).toNat : Nat)) := by rw [hcell k (by omega)]; exact b8s_at l k hkl
      clear hcell
      have hx : (l.getD k 0).toNat < 256 := (l.getD k 0).toNat_lt
      have Hnext : Hid (hexOf (l.take (k + 1)) = hexOf (l.take k) ++ [hexD ((l.getD k 0).toNat / 16), hexD ((l.getD k 0).toNat % 16)]) := by
        have : l.take (k + 1) = l.take k ++ [l.getD k 0] := by
          rw [List.take_succ_eq_append_getElem hkl]; simp [hkl]
        rw [Hid, this, hexOf_snoc]
      clear hkl
      generalize (l.getD k 0).toNat = x at *
      go_wp2_with fail
      have e1 : IntKind.u8.wrap ((x : Int) / 16) = ((x / 16 : Nat) : Int) := by rw [IntKind.wrap_u8']; omega
      have e2 : IntKind.u8.wrap (((x / 16 : Nat) : Int) + 1) = ((x / 16 : Nat) : Int) + 1 := by rw [IntKind.wrap_u8']; omega
      have e4 : IntKind.u8.wrap (((x % 16 : Nat) : Int) + 1) = ((x % 16 : Nat) : Int) + 1 := by rw [IntKind.wrap_u8']; omega
      have e3 : (x : Int).tmod 16 = ((x % 16 : Nat) : Int) := rfl
      have ha : x / 16 < 16 := by omega
      have hd : x % 16 < 16 := by omega
      have hs1 := hex_slice (x / 16) ha
      have hs2 := hex_slice (x % 16) hd
      have hacc : (hexOf (l.take k)).length ≤ 2000 := by rw [hexOf_length, List.length_take]; omega
      generalize hexOf (l.take k) = acc at *
      have hcat : ((⟨#[hexD (x / 16)]⟩ : ByteArray) ++ ⟨#[hexD (x % 16)]⟩) = ⟨#[hexD (x / 16), hexD (x % 16)]⟩ := rfl
      generalize x / 16 = a at *
      generalize x % 16 = d at *
      go_quiet (fail)
      go_wp2_with fail
      go_roundw
      case rel =>
        refine ⟨k + 1, by omega, by go_num, ?_, q + nq, rfl⟩
        rw [Hnext.out]
        exact congrArg Value.string (ByteArray.ext (by simp))
      case measure => simp [intOf]; omega
    · obtain rfl : k = n := by omega
      go_wp2_with fail
      go_ret
      refine ⟨?_, q, rfl⟩
      rw [List.take_of_length_le (by have := Hn.out; omega)]
      rfl
end Go.Proofs.Ytknoonkjkdjkbaa
