/-
  The tables: products in two words, roots bit by bit, the first primes.
-/
import Derived.Test.YtknoonkjkdjkbaaBase
namespace Go.Proofs.Ytknoonkjkdjkbaa
open Go.RowKit

def tLow (a b : Nat) : Nat := a % 4294967296 * (b % 4294967296) % 18446744073709551616
def tMid (a b : Nat) : Nat := (a / 4294967296 * (b % 4294967296) % 18446744073709551616 + tLow a b / 4294967296 % 18446744073709551616) % 18446744073709551616
def tMid2 (a b : Nat) : Nat := (a % 4294967296 * (b / 4294967296) % 18446744073709551616 + tMid a b % 4294967296) % 18446744073709551616
def tHi (a b : Nat) : Nat := ((a / 4294967296 * (b / 4294967296) % 18446744073709551616 + tMid a b / 4294967296 % 18446744073709551616) % 18446744073709551616 + tMid2 a b / 4294967296 % 18446744073709551616) % 18446744073709551616
def tLo (a b : Nat) : Nat := (tMid2 a b * 4294967296 % 18446744073709551616 + tLow a b % 4294967296) % 18446744073709551616
theorem tHi_lt (a b : Nat) : tHi a b < 18446744073709551616 := Nat.mod_lt _ (by decide)
theorem tLo_lt (a b : Nat) : tLo a b < 18446744073709551616 := Nat.mod_lt _ (by decide)
theorem wrap64n (a : Nat) : IntKind.u64.wrap (a : Int) = ((a % 18446744073709551616 : Nat) : Int) := by rw [IntKind.wrap_u64]; omega
theorem c32 : (4294967296 : Int) = ((4294967296 : Nat) : Int) := rfl
theorem tdivn (a b : Nat) : ((a : Int).tdiv (b : Int)) = ((a / b : Nat) : Int) := rfl
theorem tmodn (a b : Nat) : ((a : Int).tmod (b : Int)) = ((a % b : Nat) : Int) := rfl

theorem times_any (a b : Nat) (w : World) (h1 : a < 18446744073709551616) (h2 : b < 18446744073709551616) :
    Calls Try.prog 27 #[.int .u64 a, .int .u64 b] w fun e w' => e = .returned (.tuple #[.int .u64 (tHi a b : Nat), .int .u64 (tLo a b : Nat)]) ∧ w = w' := by
  go_enter Try.func27, Try.ntmps27
  go_wp2
  go_ret2
  refine ⟨ret2_int ?_ ?_, rfl⟩
  all_goals
    simp only [c32, ← Int.natCast_mul, ← Int.natCast_ediv, ← Int.natCast_emod, ← Int.natCast_add, wrap64n, tdivn, tmodn]
    simp only [tLow, tMid, tMid2, tHi, tLo]

def rootStep (p deg x b : Nat) : Nat :=
  let y := (x + 2 ^ b) % 18446744073709551616
  let hi := tHi y y
  let lo := tLo y y
  if deg = 2 then (if hi < p ∨ (hi = p ∧ lo = 0) then y else x)
  else
    let top := (tLo hi y + tHi lo y) % 18446744073709551616
    let l1 := tLo lo y
    let t := p * 4294967296 % 18446744073709551616
    if top < t ∨ (top = t ∧ l1 = 0) then y else x
/-- after the bits 35 down to 36 - k -/
def rootIter (p deg : Nat) : Nat → Nat
  | 0 => 0
  | k + 1 => rootStep p deg (rootIter p deg k) (35 - k)
def rootS (p deg : Nat) : Nat := rootIter p deg 36 % 4294967296

theorem times_int (a b : Int) (w : World) (h0 : 0 ≤ a) (h1 : a < 18446744073709551616) (h2 : 0 ≤ b) (h3 : b < 18446744073709551616) :
    Calls Try.prog 27 #[.int .u64 a, .int .u64 b] w fun e w' => e = .returned (.tuple #[.int .u64 (tHi a.toNat b.toNat : Nat), .int .u64 (tLo a.toNat b.toNat : Nat)]) ∧ w = w' := by
  obtain ⟨a, rfl⟩ := Int.eq_ofNat_of_zero_le h0
  obtain ⟨b, rfl⟩ := Int.eq_ofNat_of_zero_le h2
  exact times_any a b w (by omega) (by omega)

theorem rootIter_lt (p deg : Nat) : ∀ k, rootIter p deg k < 18446744073709551616
  | 0 => by show 0 < _; decide
  | k + 1 => by
    have ih := rootIter_lt p deg k
    have : ∀ x b, x < 18446744073709551616 → rootStep p deg x b < 18446744073709551616 := by
      intro x b hx
      have hy : (x + 2 ^ b) % 18446744073709551616 < 18446744073709551616 := Nat.mod_lt _ (by decide)
      simp only [rootStep]
      repeat' split
      all_goals assumption
    exact this _ _ ih

theorem y_cast (x k : Nat) : IntKind.u64.wrap ((x : Int) + IntKind.u64.wrap (2 ^ (35 - k))) = (((x + 2 ^ (35 - k)) % 18446744073709551616 : Nat) : Int) := by
  have e : ((2 : Int) ^ (35 - k)) = ((2 ^ (35 - k) : Nat) : Int) := by simp
  rw [e, wrap64n, ← Int.natCast_add, wrap64n]
  simp

def Key (p deg k y x : Nat) (c : Bool) : Prop := rootIter p deg (k + 1) = bif c then y else x
theorem Key.out {p deg k y x : Nat} {c : Bool} (h : Key p deg k y x c) : rootIter p deg (k + 1) = bif c then y else x := h

theorem bif_if (P : Prop) [Decidable P] (c : Bool) (h : P ↔ c = true) (y x : Nat) : (if P then y else x) = bif c then y else x := by
  cases c <;> simp_all

theorem key_iff (a b c : Nat) : (a < b ∨ (a = b ∧ c = 0)) ↔ (decide (a < b) || ((a : Int) == (b : Int)) && ((c : Int) == 0)) = true := by
  simp only [Bool.or_eq_true, Bool.and_eq_true, decide_eq_true_eq, beq_iff_eq]; omega

theorem root2_any (p : Nat) (w : World) (_h1 : p < 18446744073709551616) :
    Calls Try.prog 26 #[.int .u64 p, .int .i64 2] w fun e w' => e = .returned (.int .u32 (rootS p 2 : Nat)) ∧ w = w' := by
  go_enter Try.func26, Try.ntmps26
  go_wp2_with fail
  go_loop [5, 6] (fun x b => ∃ k : Nat, k ≤ 36 ∧ b = .int .i64 (35 - (k : Int)) ∧ x = .int .u64 (rootIter p 2 k : Nat)) (fun _ b => (intOf b + 1).toNat)
  case atStart => exact ⟨0, by omega, rfl, rfl⟩
  case round =>
    obtain ⟨k, hk, rfl, rfl⟩ := hrel
    have hx := rootIter_lt p 2 k
    by_cases hlt : k < 36
    · have hs : rootIter p 2 (k + 1) = rootStep p 2 (rootIter p 2 k) (35 - k) := rfl
      rw [rootStep] at hs
      have hy : (rootIter p 2 k + 2 ^ (35 - k)) % 18446744073709551616 < 18446744073709551616 := Nat.mod_lt _ (by decide)
      have ey := y_cast (rootIter p 2 k) k
      generalize rootIter p 2 k = x at *
      generalize (x + 2 ^ (35 - k)) % 18446744073709551616 = y at *
      have ha := tHi_lt y y
      have hb := tLo_lt y y
      have c1 := times_any y y w hy hy
      have c2 := times_any (tLo y y) y w hb hy
      have c3 := times_any (tHi y y) y w ha hy
      generalize tHi y y = hi at *
      generalize tLo y y = lo at *
      have K : Key p 2 k y x (decide (hi < p) || ((hi : Int) == (p : Int)) && ((lo : Int) == 0)) := by
        rw [Key, hs, if_pos rfl]
        exact bif_if _ _ (key_iff _ _ _) _ _
      clear hs c2 c3 hx hy ha hb
      have Ey := Lib.hid ey; have C1 := Lib.hid c1; clear ey c1
      cases a2 : ((hi : Int) == (p : Int)) <;> cases a3 : ((lo : Int) == 0) <;> by_cases a1 : hi < p
      all_goals
        rw [a2, a3] at K
        first | rw [decide_eq_true a1] at K | rw [decide_eq_false a1] at K
      all_goals
        go_wp2_with fail
        rw [Ey.out]
        refine C1.out.mono ?_
        rintro e w' ⟨rfl, rfl⟩
        go_wp2_with fail
      all_goals
        go_round
        case rel => exact ⟨k + 1, by omega, by go_num, by rw [K.out]; rfl⟩
        case measure => simp [intOf]; omega
    · obtain rfl : k = 36 := by omega
      go_wp2_with fail
      go_ret
      exact ⟨ret_int (by rw [rootS]; rfl), rfl⟩

theorem root3_any (p : Nat) (w : World) (_h1 : p < 18446744073709551616) :
    Calls Try.prog 26 #[.int .u64 p, .int .i64 3] w fun e w' => e = .returned (.int .u32 (rootS p 3 : Nat)) ∧ w = w' := by
  go_enter Try.func26, Try.ntmps26
  go_wp2_with fail
  go_loop [5, 6] (fun x b => ∃ k : Nat, k ≤ 36 ∧ b = .int .i64 (35 - (k : Int)) ∧ x = .int .u64 (rootIter p 3 k : Nat)) (fun _ b => (intOf b + 1).toNat)
  case atStart => exact ⟨0, by omega, rfl, rfl⟩
  case round =>
    obtain ⟨k, hk, rfl, rfl⟩ := hrel
    have hx := rootIter_lt p 3 k
    by_cases hlt : k < 36
    · have hs : rootIter p 3 (k + 1) = rootStep p 3 (rootIter p 3 k) (35 - k) := rfl
      rw [rootStep] at hs
      have hy : (rootIter p 3 k + 2 ^ (35 - k)) % 18446744073709551616 < 18446744073709551616 := Nat.mod_lt _ (by decide)
      have ey := y_cast (rootIter p 3 k) k
      generalize rootIter p 3 k = x at *
      generalize (x + 2 ^ (35 - k)) % 18446744073709551616 = y at *
      have ha := tHi_lt y y
      have hb := tLo_lt y y
      have c1 := times_any y y w hy hy
      have c2 := times_any (tLo y y) y w hb hy
      have c3 := times_any (tHi y y) y w ha hy
      generalize tHi y y = hi at *
      generalize tLo y y = lo at *
      have et : IntKind.u64.wrap ((tLo hi y : Nat) + (tHi lo y : Nat)) = (((tLo hi y + tHi lo y) % 18446744073709551616 : Nat) : Int) := by rw [← Int.natCast_add, wrap64n]
      have ep : IntKind.u64.wrap ((p : Int) * 4294967296) = ((p * 4294967296 % 18446744073709551616 : Nat) : Int) := by rw [c32, ← Int.natCast_mul, wrap64n]
      generalize tLo hi y = u at *
      generalize tHi lo y = v at *
      generalize tLo lo y = l1 at *
      generalize (u + v) % 18446744073709551616 = top at *
      generalize p * 4294967296 % 18446744073709551616 = t at *
      have K : Key p 3 k y x (decide (top < t) || ((top : Int) == (t : Int)) && ((l1 : Int) == 0)) := by
        rw [Key, hs, if_neg (by decide)]
        exact bif_if _ _ (key_iff _ _ _) _ _
      clear hs hx hy ha hb
      have Ey := Lib.hid ey; have C1 := Lib.hid c1; have C2 := Lib.hid c2; have C3 := Lib.hid c3; clear ey c1 c2 c3
      cases a2 : ((top : Int) == (t : Int)) <;> cases a3 : ((l1 : Int) == 0) <;> by_cases a1 : top < t
      all_goals
        rw [a2, a3] at K
        first | rw [decide_eq_true a1] at K | rw [decide_eq_false a1] at K
      all_goals
        go_wp2_with fail
        rw [Ey.out]
        refine C1.out.mono ?_
        rintro e w' ⟨rfl, rfl⟩
        go_wp2_with fail
        refine C2.out.mono ?_
        rintro e w' ⟨rfl, rfl⟩
        go_wp2_with fail
        refine C3.out.mono ?_
        rintro e w' ⟨rfl, rfl⟩
        go_wp2_with fail
      all_goals
        go_round
        case rel => exact ⟨k + 1, by omega, by go_num, by rw [K.out]; rfl⟩
        case measure => simp [intOf]; omega
    · obtain rfl : k = 36 := by omega
      go_wp2_with fail
      go_ret
      exact ⟨ret_int (by rw [rootS]; rfl), rfl⟩

def ps : Nat → List Nat
  | 0 => []
  | k + 1 => bif (ps k).all (fun q => (k + 2) % q != 0) then ps k ++ [k + 2] else ps k
def isp (k j : Nat) : Bool := ((ps k).take j).all (fun q => (k + 2) % q != 0)
def u64s (l : List Nat) : List Value := l.map fun q => Value.int .u64 (q : Nat)
theorem ps_ge (k : Nat) : ∀ q ∈ ps k, 2 ≤ q := by
  induction k with
  | zero => intro q hq; cases hq
  | succ k ih =>
    intro q hq
    rw [ps] at hq
    cases h : (ps k).all (fun q => (k + 2) % q != 0)
    · rw [h] at hq; exact ih q hq
    · rw [h] at hq
      rcases List.mem_append.1 hq with hq | hq
      · exact ih q hq
      · simp at hq; omega
theorem ps_le (k : Nat) : (ps k).length ≤ k := by
  induction k with
  | zero => simp [ps]
  | succ k ih =>
    rw [ps]
    cases h : (ps k).all (fun q => (k + 2) % q != 0) <;> simp <;> omega
theorem isp_succ (k j : Nat) (h : j < (ps k).length) : isp k (j + 1) = (isp k j && ((k + 2) % (ps k).getD j 0 != 0)) := by
  unfold isp
  rw [List.take_succ_eq_append_getElem h, List.all_append]
  simp [h]
theorem isp_all (k : Nat) : isp k (ps k).length = (ps k).all (fun q => (k + 2) % q != 0) := by simp [isp]
theorem ps_yes (k : Nat) (h : isp k (ps k).length = true) : ps (k + 1) = ps k ++ [k + 2] := by rw [isp_all] at h; rw [ps, h]; rfl
theorem ps_no (k : Nat) (h : isp k (ps k).length = false) : ps (k + 1) = ps k := by rw [isp_all] at h; rw [ps, h]; rfl

theorem Try.info41 : (Try.prog.info? 41).map (fun i => (i.zero, i.size, i.bytes)) = some (some (.int .u64 0), 1, 8) := by kernel_rfl

theorem mod_bne (k q : Nat) : (((k : Int) + 2) % (q : Int) != 0) = ((k + 2) % q != 0) := by
  rw [Bool.eq_iff_iff]; simp only [bne_iff_ne, ne_eq]; rw [show ((k : Int) + 2) % (q : Int) = (((k + 2) % q : Nat) : Int) from by simp]; omega

theorem primes_any (n K : Nat) (w : World) (hK : K ≤ 400) (hn : (ps K).length = n) (hlt : ∀ k, k < K → (ps k).length < n) :
    Calls Try.prog 25 #[.int .i64 n] w fun e w' => ∃ v, e = .returned v ∧ w'.ownsRow w.heap.size 41 1 v n (u64s (ps K)) ∧ Below w.heap.size w w' := by
  have hnK := ps_le K
  have Hlt := Lib.hid hlt; have Hn := Lib.hid hn; clear hlt hn
  have hn2 : n ≤ 400 := by have := Hn.out; omega
  clear hnK
  go_enter Try.func25, Try.ntmps25
  go_wp2_with fail
  go_loopw [3, 4] (fun v p wr => ∃ k : Nat, k ≤ K ∧ p = .int .u64 ((k : Int) + 2) ∧ wr.ownsRow w.heap.size 41 1 v (ps k).length (u64s (ps k)) ∧ Below w.heap.size w wr) (fun _ p _ => K + 2 - (intOf p).toNat)
  case atStart => exact ⟨0, Nat.zero_le _, rfl, World.ownsRow_nil _ _ _ _, Below.refl _ _⟩
  case round =>
    obtain ⟨k, hk, rfl, hown, hB⟩ := hrel
    have hl := ps_le k
    obtain ⟨A, cap, rfl, hcap, hA⟩ := own_form hown
    by_cases hkK : k < K
    · have hkn := Hlt.out k hkK
      have Hge := Lib.hid (ps_ge k)
      have Hown := Lib.hid hown
      have Hyes := Lib.hid (ps_yes k); have Hno := Lib.hid (ps_no k); have Hsucc := Lib.hid (isp_succ k)
      have H0 : Hid (isp k 0 = true) := by simp [Hid, isp]
      have hbs := hB.size
      clear hown hA
      have hl2 : (ps k).length ≤ 400 := by omega
      have HL : Hid ((u64s (ps k)).length = (ps k).length) := by simp [Hid, u64s]
      generalize hL : ps k = L at *
      have HLk := Lib.hid hL; clear hL
      generalize hlen : L.length = l at *
      have Hlen := Lib.hid hlen; clear hlen
      go_wp2_with fail
      go_loop [5, 16] (fun b i => ∃ j : Nat, j ≤ l ∧ i = .int .i64 j ∧ b = .bool (isp k j)) (fun _ i => l - (intOf i).toNat)
      case atStart => exact ⟨0, Nat.zero_le _, rfl, by rw [H0.out]⟩
      case round =>
        obtain ⟨j, hj, rfl, rfl⟩ := hrel
        by_cases hjl : j < l
        · obtain ⟨g, rfl, _, _⟩ := own_some Hown.out (by omega)
          have hjL : j < L.length := by rw [Hlen.out]; exact hjl
          have hq2 : 2 ≤ L.getD j 0 := by
            have := Hge.out (L.getD j 0) (by simp [hjL])
            exact this
          have Hs := Lib.hid (Hsucc.out j hjl)
          have hc : wr.cell? ⟨g, j, none⟩ = some (.int .u64 (L.getD j 0 : Nat)) := by
            rw [Hown.out.cellAt j (by omega)]
            simp [u64s, hjL]
          clear hjL
          generalize L.getD j 0 = q at *
          have Hm := Lib.hid (mod_bne k q)
          cases hb : isp k j
          · rw [hb] at Hs
            go_wp2_with fail
            go_round
            case rel => exact ⟨j + 1, by omega, by go_num, by rw [Hs.out]; rfl⟩
            case measure => simp [intOf]; omega
          · rw [hb] at Hs
            go_wp2_with fail
            go_round
            case rel => exact ⟨j + 1, by omega, by go_num, by rw [Hs.out, ← Hm.out]; rfl⟩
            case measure => simp [intOf]; omega
        · obtain rfl : j = l := by omega
          cases hb : isp k j
          · have He := Lib.hid (Hno.out hb)
            go_wp2_with fail
            go_roundw
            case rel => exact ⟨k + 1, by omega, by go_num, by rw [He.out, Hlen.out]; exact Hown.out, hB⟩
            case measure => simp [intOf]; omega
          · have He := Lib.hid (Hyes.out hb)
            go_wp2_with (at_builtin; refine wpList_push rfl (.tmp 29) (.tmp 31) 59 rfl w.heap.size 41 (.int .u64 0) 1 8 Try.underlying59 Try.info41 rfl (by decide) _ _ _ rfl Hown.out #[.int .u64 ((k : Int) + 2)] 1 (by decide) rfl rfl rfl (by omega) (by omega) (by omega) ?_; intro g1 cap1 w1 hown1 hg1 hb1)
            have Hown1 := Lib.hid hown1; clear hown1
            go_wp2_with fail
            go_roundw
            case rel =>
              refine ⟨k + 1, by omega, by go_num, ?_, hB.trans hb1⟩
              rw [He.out, List.length_append, Hlen.out]
              have := Hown1.out
              rw [show u64s (L ++ [k + 2]) = u64s L ++ [.int .u64 ((k : Int) + 2)] from by simp [u64s]]
              exact this
            case measure => simp [intOf]; omega
    · obtain rfl : k = K := by omega
      have Hown := Lib.hid hown
      have hbs := hB.size
      have hn' := Hn.out
      have Hl : Hid ((ps k).length = n) := Hn
      rw [hn'] at hcap hl
      rw [hn'] at Hown
      rw [hn']
      clear hown hA hn' Hn Hlt
      go_wp2_with fail
      go_ret
      exact ⟨_, rfl, Hown.out, hB⟩
end Go.Proofs.Ytknoonkjkdjkbaa
