/-
  The document's path.
-/
import Derived.Test.YthilkpjdfjjikaaDoorRsp
namespace Go.Proofs.YthilkpjdfjjikaaDoor
open Go.RowKit

/-- What the document's path answers. -/
def PathO (w : World) (B : Nat) (v : Value) (ok : Bool) : Option (List Bs) → Prop
  | none => ok = false
  | some l => ok = true ∧ w.ownsRow B 9 1 v l.length (strs l)
theorem splitL_le (c : UInt8) : ∀ s : Bs, ∀ x ∈ splitL c s, x.length ≤ s.length
  | [], x, h => by
    have : x = [] := by simpa [splitL] using h
    rw [this]; exact Nat.le_refl _
  | y :: r, x, h => by
    have ih := splitL_le c r
    unfold splitL at h
    rw [List.length_cons]
    split at h
    · rcases List.mem_cons.1 h with rfl | h
      · simp
      · have := ih x h; omega
    · cases hs : splitL c r with
      | nil => exact absurd hs (splitL_ne c r)
      | cons a t =>
        rw [hs] at h ih
        rcases List.mem_cons.1 h with rfl | h
        · have := ih a (List.mem_cons_self ..); simp; omega
        · have := ih x (List.mem_cons_of_mem _ h); omega
set_option maxHeartbeats 2000000 in
set_option maxRecDepth 100000 in
theorem pathR_any (s : Bs) (w : World) (hl : s.length ≤ 900000) :
    Calls Tryd.prog 58 #[.string (bs s)] w fun e w' => ∃ v ok, e = .returned (.tuple #[v, .bool ok]) ∧ PathO w' w.heap.size v ok (pathL s) ∧ Below w.heap.size w w' := by
  have H74 := Lib.hid (splitR_any s 46 w (by omega))
  have hle := splitL_le 46 s
  have hp : pathL s = if 5 < (splitL 46 s).length ∨ (splitL 46 s).any (fun x => !nameB x) = true then none else some (splitL 46 s) := by
    unfold pathL; rw [splitDot_eq]
  obtain ⟨L, hL⟩ : ∃ L, L = splitL 46 s := ⟨_, rfl⟩
  rw [← hL] at H74 hp hle
  clear hL
  obtain ⟨PL, hPL⟩ : ∃ PL, PL = pathL s := ⟨_, rfl⟩
  rw [← hPL] at hp ⊢
  have HP := Lib.hid hp
  have HLE := Lib.hid hle
  clear hPL hp hle
  obtain ⟨n, hn⟩ : ∃ n, n = L.length := ⟨_, rfl⟩
  rw [← hn] at H74 HP
  have Hn := Lib.hid hn; clear hn
  have H74 : Hid (Calls Tryd.prog 74 #[.string (bs s), .int .u8 46] w fun e w' => ∃ v, e = .returned v ∧ w'.ownsRow w.heap.size 9 1 v n (strs L) ∧ n ≤ s.length + 1 ∧ Below w.heap.size w w') := H74
  go_enter Tryd.func58, Tryd.ntmps58
  go_wp2_with fail
  refine H74.out.mono ?_
  rintro e w1 ⟨v, rfl, ho, hnb, hb1⟩
  obtain ⟨A, c, rfl, hc, _⟩ := own_form ho
  have hrd := Rd.of_own (show w1.ownsRow w.heap.size 9 1 (.slice A n c) n (strs L) from ho)
  have HO := Lib.hid ho; have HB := Lib.hid hb1; have HRD := Lib.hid hrd
  have hs1 := hb1.size
  clear ho hb1 H74 hrd
  go_wp2_with fail
  go_loopw [11] (fun i wr => ∃ j : Nat, i = .int .i64 (j : Int) ∧ j ≤ n ∧ (∀ k, k < j → nameB (L.getD k []) = true) ∧ Below w1.heap.size w1 wr) (fun i _ => n - (intOf i).toNat)
  case atStart => exact ⟨0, rfl, Nat.zero_le _, fun k hk => absurd hk (Nat.not_lt_zero k), Below.refl _ _⟩
  case round =>
    obtain ⟨j, rfl, hj, hno, hbr⟩ := hrel
    have HN := Lib.hid hno; have HBR := Lib.hid hbr
    have hrd := HRD.out.keep hbr
    have hbt := HB.out.trans (hbr.mono hs1)
    have HBT := Lib.hid hbt
    have hst := hbt.size
    clear hno hbr hbt
    by_cases hjn : j < n
    · have tj : decide ((j : Int) < (n : Int)) = true := by rw [decide_eq_true_eq]; omega
      obtain ⟨b, off, rfl, hb, hcell⟩ := hrd.at_ (by omega)
      have hcj := hcell j (by simpa using hjn)
      rw [strs_at L j (by rw [← Hn.out]; exact hjn)] at hcj
      have hlj : (L.getD j []).length ≤ 1000000 := by
        have := HLE.out (L.getD j []) (by rw [List.getD_eq_getElem?_getD, List.getElem?_eq_getElem (by rw [← Hn.out]; exact hjn)]; exact List.getElem_mem _)
        omega
      have H59 := Lib.hid (nameR_any (L.getD j []) wr hlj)
      have HNJ : Hid (nameB (L.getD j []) = nameB (L.getD j [])) := Lib.hid rfl
      obtain ⟨X, hX⟩ : ∃ X, X = bs (L.getD j []) := ⟨_, rfl⟩
      rw [← hX] at hcj H59
      clear hX hcell hrd hlj
      cases hnm : nameB (L.getD j []) with
      | true =>
        rw [hnm] at H59
        have HNM := Lib.hid hnm
        clear hnm
        go_wp2_with (go_at_call 59; refine H59.out.mono ?_; rintro e w2 ⟨rfl, hb2⟩)
        refine ⟨⟨j + 1, by go_num, by omega, ?_, HBR.out.trans (hb2.mono HBR.out.size)⟩, by simp [intOf]; omega⟩
        intro k hk
        by_cases h : k < j
        · exact HN.out k h
        · obtain rfl : k = j := by omega
          exact HNM.out
      | false =>
        rw [hnm] at H59
        have hPn : PL = none := by
          have ha : L.any (fun x => !nameB x) = true := List.any_eq_true.2 ⟨L.getD j [], by
            rw [List.getD_eq_getElem?_getD, List.getElem?_eq_getElem (by rw [← Hn.out]; exact hjn)]
            exact List.getElem_mem _, by rw [hnm]; rfl⟩
          rw [HP.out, if_pos (.inr ha)]
        have HPN := Lib.hid hPn
        clear hnm hPn
        go_wp2_with (go_at_call 59; refine H59.out.mono ?_; rintro e w2 ⟨rfl, hb2⟩)
        go_ret2
        exact ⟨_, _, rfl, by rw [HPN.out]; rfl, HBT.out.trans (hb2.mono hst)⟩
    · obtain rfl : j = n := by omega
      have tj : decide ((j : Int) < (j : Int)) = false := by rw [decide_eq_false_iff_not]; omega
      have hany : L.any (fun x => !nameB x) = false := by
        rw [List.any_eq_false]
        intro x hx
        obtain ⟨k, hk, e⟩ := List.mem_iff_getElem.1 hx
        have := HN.out k (by rw [Hn.out]; exact hk)
        rw [List.getD_eq_getElem?_getD, List.getElem?_eq_getElem hk] at this
        rw [← e]
        simp only [Option.getD_some] at this
        rw [this]; decide
      have ho2 := own_below HO.out HBR.out (fun k hk => (HO.out.lt k hk).2)
      by_cases h5 : j ≤ 5
      · have t5 : decide ((j : Int) ≤ 5) = true := by rw [decide_eq_true_eq]; omega
        have hPs : PL = some L := by rw [HP.out, if_neg (by rw [hany]; intro e; rcases e with e | e; omega; cases e)]
        have HPS := Lib.hid hPs; have HO2 := Lib.hid ho2
        clear hPs hany ho2 hrd
        go_wp2_with fail
        go_ret2
        refine ⟨_, _, rfl, ?_, HBT.out⟩
        rw [HPS.out]
        refine ⟨rfl, ?_⟩
        rw [← Hn.out]
        exact HO2.out
      · have t5 : decide ((j : Int) ≤ 5) = false := by rw [decide_eq_false_iff_not]; omega
        have hPn : PL = none := by rw [HP.out, if_pos (.inl (by omega))]
        have HPN := Lib.hid hPn
        clear hPn hany ho2 hrd
        go_wp2_with fail
        go_ret2
        exact ⟨_, _, rfl, by rw [HPN.out]; rfl, HBT.out⟩
end Go.Proofs.YthilkpjdfjjikaaDoor
