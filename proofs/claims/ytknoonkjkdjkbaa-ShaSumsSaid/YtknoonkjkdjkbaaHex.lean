/-
  sha.Hex: the digits of the digest.
-/
import Derived.Lib.BufferRead
import Derived.Test.YtknoonkjkdjkbaaSum
namespace Go.Proofs.Ytknoonkjkdjkbaa
open Go.RowKit Go.Shelf

theorem digest_length (l : List UInt8) : (digest l).length = 32 := by simp [digest, bytesOf_length, S8.list]
theorem run_index26 (w : World) (cs : Array Value) (j : Nat) (v : Value) (hj : j < 32) (hv : cs[j]? = some v) : (Instr.index 26 (.agg cs) (.int .i64 j)).run Try.prog w = .ok v w := by
  have h0 : (0 : Int) ≤ (j : Int) ∧ (j : Int) < 32 := by omega
  simp [Instr.index, run_underlying Try.underlying26, asIntOf, part, h0, go_sem, hv]
  intro; omega
theorem wpList_index26 {ops : Array Oper} {rest : List Oper} {o : Oper} {a : Act} {w : World} {Q : Exit → Act → World → Prop} (hgd : o.guard = none) (x y : Operand) (ho : o.op = .index 26 x y)
    (cs : Array Value) (j : Nat) (v : Value) (hx : a.eval x = .agg cs) (hy : a.eval y = .int .i64 j) (hj : j < 32) (hv : cs[j]? = some v)
    (h : wpList Try.prog ops Q rest (a.put o.dst v) w) : wpList Try.prog ops Q (o :: rest) a w := by
  refine wpList_plain hgd fun K hK => ?_
  unfold Oper.wp execOp
  simp only [ho, hx, hy, Sem.run_bind, run_index26 w cs j v hj hv, Result.andThen_ok]
  exact hK _ _ h
theorem hex_index (a : Nat) (ha : a < 16) (w : World) : (Instr.index 9 (.string ⟨#[48, 49, 50, 51, 52, 53, 54, 55, 56, 57, 97, 98, 99, 100, 101, 102]⟩) (.int .u8 (a : Int))).run Try.prog w = .ok (.int .u8 ((hexD a).toNat : Nat)) w := by
  rw [run_index_string _ _ _ _ _ Try.underlying9]
  have h16 : (⟨#[48, 49, 50, 51, 52, 53, 54, 55, 56, 57, 97, 98, 99, 100, 101, 102]⟩ : ByteArray).size = 16 := rfl
  rw [dif_pos ⟨by omega, by rw [h16]; omega⟩]
  have : ∀ a : Fin 16, ∀ h, ((⟨#[48, 49, 50, 51, 52, 53, 54, 55, 56, 57, 97, 98, 99, 100, 101, 102]⟩ : ByteArray)[a.1]'h).toNat = (hexD a.1).toNat := by decide
  simp only [Int.toNat_natCast]
  rw [this ⟨a, ha⟩]
theorem hexD_get (i : Int) (n : Nat) (h : i = n) (hn : n < 16) (hp) : ((⟨#[48, 49, 50, 51, 52, 53, 54, 55, 56, 57, 97, 98, 99, 100, 101, 102]⟩ : ByteArray)[i.toNat]'hp).toNat = (hexD n).toNat := by
  subst h
  have : ∀ a : Fin 16, ∀ h, ((⟨#[48, 49, 50, 51, 52, 53, 54, 55, 56, 57, 97, 98, 99, 100, 101, 102]⟩ : ByteArray)[a.1]'h).toNat = (hexD a.1).toNat := by decide
  simp only [Int.toNat_natCast]
  rw [this ⟨n, hn⟩]
theorem and15 (x : Nat) (hx : x < 256) : bits .and .u8 (x : Int) 15 = ((x % 16 : Nat) : Int) := by
  have : ∀ y : Fin 256, bits .and .u8 (y.1 : Int) 15 = ((y.1 % 16 : Nat) : Int) := by decide +kernel
  exact this ⟨x, hx⟩

theorem rd_string {w : World} {B : Nat} {A : Option Addr} (l : List UInt8) (cap : Nat) (h : Rd w B 1 A l.length (b8s l)) : (convert 22 9 (.slice A l.length cap)).run Try.prog w = .ok (.string ⟨l.toArray⟩) w := by
  by_cases hl : 0 < l.length
  · obtain ⟨b, off, rfl, _, hc⟩ := h.at_ hl
    refine run_convert_bytes_back w 22 9 5 ⟨b, off, none⟩ cap l Try.underlying22 Try.underlying5 Try.underlying9 ?_
    intro j hj
    rw [add_eq, hc j (by omega)]
    simp [b8s, hj]
  · obtain rfl : l = [] := by cases l with | nil => rfl | cons x l => simp at hl
    cases A with
    | none => exact Lib.run_convert_nil_bytes w 22 9 5 cap Try.underlying22 Try.underlying5 Try.underlying9
    | some a => exact run_convert_bytes_back w 22 9 5 a cap [] Try.underlying22 Try.underlying5 Try.underlying9 (fun j hj => by simp at hj)

set_option maxHeartbeats 2000000 in
theorem hex_any (ps : List Part) (A : Option Addr) (cap B : Nat) (w : World) (hp : partsAt w B A ps) (hB0 : B ≤ w.heap.size) (hcap : ps.length ≤ cap) (hn : ps.length ≤ 1000) (hl : (allBytes ps).length ≤ 5000) :
    Calls Try.prog 10 #[.slice A ps.length cap] w fun e w' => e = .returned (.string ⟨(hexOf (digest (allBytes ps))).toArray⟩) ∧ Below w.heap.size w w' := by
  have HS := Lib.hid (sum_any ps A cap B w hp hB0 hcap hn hl)
  have hDl := digest_length (allBytes ps)
  obtain ⟨D, hD⟩ : ∃ D, D = digest (allBytes ps) := ⟨_, rfl⟩
  rw [← hD] at HS hDl ⊢
  clear hp hcap hn hl hD hB0
  have HDl := Lib.hid hDl; clear hDl
  generalize ps.length = np at *
  go_enter Try.func10, Try.ntmps10
  go_wp2_with fail
  refine HS.out.mono ?_
  rintro e w1 ⟨rfl, b1⟩
  clear HS
  have hs1 := b1.size
  go_wp2_with fail
  go_loopw [3, 8] (fun v i wr => ∃ k : Nat, k ≤ 32 ∧ i = .int .i64 k ∧ wr.ownsRow w.heap.size 5 1 v (2 * k) (b8s (hexOf (D.take k))) ∧ Below w.heap.size w wr)
    (fun _ i _ => 32 - (intOf i).toNat)
  case atStart => exact ⟨0, by omega, rfl, World.ownsRow_nil _ _ _ _, b1⟩
  case round =>
    obtain ⟨k, hk, rfl, hown, hB⟩ := hrel
    obtain ⟨A2, c2, rfl, hc2, _⟩ := own_form hown
    have Hown := Lib.hid hown; have hbs := hB.size; clear hown
    by_cases hk8 : k < 32
    · have hkl : k < D.length := by rw [HDl.out]; exact hk8
      have hv : (b8s D).toArray[k]? = some (.int .u8 ((D.getD k 0).toNat : Nat)) := by simpa using b8s_at D k hkl
      have hx : (D.getD k 0).toNat < 256 := (D.getD k 0).toNat_lt
      have Hnext : Hid (hexOf (D.take (k + 1)) = hexOf (D.take k) ++ [hexD ((D.getD k 0).toNat / 16), hexD ((D.getD k 0).toNat % 16)]) := by
        have : D.take (k + 1) = D.take k ++ [D.getD k 0] := by
          rw [List.take_succ_eq_append_getElem hkl]; simp [hkl]
        rw [Hid, this, hexOf_snoc]
      clear hkl
      generalize (D.getD k 0).toNat = x at *
      have Hv := Lib.hid hv; clear hv
      have l32 : (k : Int) < 32 := by omega
      have ea := and15 x hx
      have ha : x / 16 < 16 := by omega
      have hd : x % 16 < 16 := by omega
      have hs1 := hex_index (x / 16) ha
      have hs2 := hex_index (x % 16) hd
      go_wp2_with (first | refine wpList_index26 rfl (.tmp 7) (.tmp 8) rfl (b8s D).toArray k (.int .u8 x) rfl rfl hk8 Hv.out ?_)
      go_region_held3 (fun _ => True) (first | go_keep | trivial)
        ((refine step_push (by rfl) _ _ 22 (by rfl) w.heap.size 5 (.int .u8 0) 1 1 Try.underlying22 Try.info5 rfl (by decide) _ _ _ (by rfl) (own_drew (Hown.out.alloc _)) wr.heap.size [_, _] 2 (by decide) (by rfl) (heap_alloc_new wr _) (by rfl) (by rfl) (by omega) (by omega) (by simp; omega) ?_; intro g7 cap7 w7 hown7 hg7 hb7 _; have hb8 := below_undo hbs hb7))
      all_goals (
        rw [hexD_get ((x : Int) / 16) (x / 16) rfl ha, hexD_get ((x : Int) % 16) (x % 16) rfl hd] at hown7
        have hown8 : w7.ownsRow w.heap.size 5 1 (.slice (some ⟨g7, 0, none⟩) (2 * (k + 1)) cap7) (2 * (k + 1)) (b8s (hexOf (D.take (k + 1)))) := by
          rw [Hnext.out, b8s_append]; exact hown7
        have Hown8 := Lib.hid hown8; clear hown7 hown8
        go_wp2_with fail
        go_roundw
        case rel => exact ⟨k + 1, by omega, by go_num, Hown8.out, hB.trans hb8⟩
        case measure => simp [intOf]; omega)
    · obtain rfl : k = 32 := by omega
      have hlen : (hexOf (D.take 32)).length = 64 := by rw [hexOf_length, List.length_take, HDl.out]; rfl
      have hcv := rd_string (hexOf (D.take 32)) c2 (by rw [hlen]; exact Rd.of_own Hown.out)
      rw [hlen] at hcv
      go_wp2_with fail
      go_ret
      refine ⟨?_, hB⟩
      rw [List.take_of_length_le (by rw [HDl.out]; exact Nat.le_refl _)]; rfl
end Go.Proofs.Ytknoonkjkdjkbaa
