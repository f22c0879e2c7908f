/-
  The document's split at a byte, and its path.
-/
import Derived.Test.YthilkpjdfjjikaaDoorRna
import Derived.Test.YthilkpjdfjjikaaDoorRfi
import Derived.Lib.SplitLaws
namespace Go.Proofs.YthilkpjdfjjikaaDoor
open Go.RowKit

def preL (p : Bs) : List Bs → List Bs
  | [] => [p]
  | h :: t => (p ++ h) :: t
def splitL (c : UInt8) : Bs → List Bs
  | [] => [[]]
  | x :: r => if x = c then [] :: splitL c r else preL [x] (splitL c r)
theorem splitL_ne (c : UInt8) : ∀ l : Bs, splitL c l ≠ []
  | [] => by simp [splitL]
  | x :: r => by
    unfold splitL
    split
    · simp
    · cases h : splitL c r with
      | nil => exact absurd h (splitL_ne c r)
      | cons a t => simp [preL]
theorem preL_nil {l : List Bs} (h : l ≠ []) : preL [] l = l := by
  cases l with
  | nil => exact absurd rfl h
  | cons a t => rfl
theorem preL_pre (p q : Bs) (l : List Bs) : preL p (preL q l) = preL (p ++ q) l := by
  cases l with
  | nil => rfl
  | cons a t => simp [preL]
theorem splitK_eq (c : UInt8) : ∀ l : Bs, Lib.splitK [c] 0 (Lib.count l [c]) l = splitL c l
  | [] => by
    rw [show Lib.count [] [c] = 0 from by rw [Lib.count_one]; rfl]
    rfl
  | x :: r => by
    have ih := splitK_eq c r
    by_cases hx : x = c
    · subst hx
      rw [Lib.count_cons_eq, Nat.add_comm, Lib.splitK]
      have hix : Lib.index (x :: r) [x] = 0 := by rw [Lib.index]; simp [List.isPrefixOf]
      rw [hix, if_neg (by decide)]
      rw [show splitL x (x :: r) = [] :: splitL x r from by rw [splitL, if_pos rfl], ← ih]
      rfl
    · rw [Lib.count_cons_ne x c r hx]
      have hs : splitL c (x :: r) = preL [x] (splitL c r) := by rw [splitL, if_neg hx]
      rw [hs, ← ih]
      have hp : ([c] : Bs).isPrefixOf (x :: r) = false := by simp [List.isPrefixOf, Ne.symm hx]
      have hix : Lib.index (x :: r) [c] = if Lib.index r [c] == -1 then -1 else Lib.index r [c] + 1 := by rw [Lib.index, hp]; simp
      cases hk : Lib.count r [c] with
      | zero => rfl
      | succ k =>
        have hne : ¬ Lib.index r [c] = -1 := by
          intro e
          rw [Lib.count_miss e] at hk; cases hk
        have hge := Lib.index_ge r [c]
        rw [Lib.splitK, Lib.splitK, hix, if_neg (show ¬ (Lib.index r [c] == -1) = true from by simpa using hne), if_neg (show ¬ (Lib.index r [c] + 1 == -1) = true from by simp; omega), if_neg (show ¬ (Lib.index r [c] == -1) = true from by simpa using hne)]
        rw [show (Lib.index r [c] + 1).toNat = (Lib.index r [c]).toNat + 1 from by omega]
        rfl
theorem splitDot_eq (s : Bs) : splitDot s = splitL 46 s := by
  unfold splitDot
  rw [Lib.splitB_data]
  exact splitK_eq 46 s
theorem strs_snoc (l : List Bs) (x : Bs) : strs (l ++ [x]) = strs l ++ [.string (bs x)] := by simp [strs]
theorem take_drop_snoc (s : Bs) (a i : Nat) (ha : a ≤ i) (hi : i < s.length) : (s.take (i + 1)).drop a = (s.take i).drop a ++ [s.getD i 0] := by
  rw [List.take_succ_eq_append_getElem hi, List.drop_append_of_le_length (by rw [List.length_take]; omega), List.getD_eq_getElem?_getD, List.getElem?_eq_getElem hi]
  rfl
set_option maxHeartbeats 4000000 in
set_option maxRecDepth 100000 in
theorem splitR_any (s : Bs) (c : UInt8) (w : World) (hl : s.length ≤ 1000000) :
    Calls Tryd.prog 74 #[.string (bs s), u8v c] w fun e w' => ∃ v, e = .returned v ∧ w'.ownsRow w.heap.size 9 1 v (splitL c s).length (strs (splitL c s)) ∧ (splitL c s).length ≤ s.length + 1 ∧ Below w.heap.size w w' := by
  have hz : (bs s).size = s.length := bs_size s
  have HX := Lib.hid (fun i h w => str_byte s i h w)
  have HU := Lib.hid (fun a b h h' w => str_cut s a b h h' w)
  obtain ⟨R, hR⟩ : ∃ R, R = splitL c s := ⟨_, rfl⟩
  rw [← hR]
  have HR := Lib.hid hR; clear hR
  obtain ⟨S, hS⟩ : ∃ S, S = bs s := ⟨_, rfl⟩
  rw [← hS] at hz HX HU ⊢
  clear hS
  obtain ⟨n, hn⟩ : ∃ n, n = s.length := ⟨_, rfl⟩
  rw [← hn] at hz hl HX HU ⊢
  have Hn := Lib.hid hn; clear hn
  unfold u8v
  go_enter Tryd.func74, Tryd.ntmps74
  go_wp2_with fail
  go_loopw [5, 6, 7] (fun v at_ i wr => ∃ (a j : Nat) (out : List Bs), at_ = .int .i64 (a : Int) ∧ i = .int .i64 (j : Int) ∧ out.length ≤ j ∧ a ≤ j ∧ wr.ownsRow w.heap.size 9 1 v out.length (strs out) ∧ Below w.heap.size w wr ∧
      ((j ≤ n ∧ R = out ++ preL ((s.take j).drop a) (splitL c (s.drop j))) ∨ (j = n + 1 ∧ R = out)))
    (fun _ _ i _ => n + 1 - (intOf i).toNat)
  case atStart =>
    refine ⟨0, 0, [], rfl, rfl, Nat.le_refl _, Nat.le_refl _, World.ownsRow_nil _ _ _ _, Below.refl _ _, .inl ⟨Nat.zero_le _, ?_⟩⟩
    rw [HR.out]
    exact (preL_nil (splitL_ne c s)).symm
  case round =>
    obtain ⟨a, j, out, rfl, rfl, hol, haj, hown, hB, hcase⟩ := hrel
    obtain ⟨A0, c0, rfl, hc0, _⟩ := own_form hown
    have HO := Lib.hid hown; have HB := Lib.hid hB
    have hsw := hB.size
    clear hown hB
    rcases hcase with ⟨hjn, hRe⟩ | ⟨rfl, hRe⟩
    · have tj : decide ((j : Int) ≤ (n : Int)) = true := by rw [decide_eq_true_eq]; omega
      have HRE := Lib.hid hRe; clear hRe
      have hcut := fun W => HU.out a j haj hjn W
      by_cases hje : j = n
      · have te : ((j : Int) == (n : Int)) = true := by rw [hje]; exact beq_self_eq_true _
        have hRf : R = out ++ [(s.take j).drop a] := by
          rw [HRE.out, show s.drop j = [] from List.drop_of_length_le (by rw [hje, Hn.out]; exact Nat.le_refl _)]
          show out ++ [(s.take j).drop a ++ []] = _
          rw [List.append_nil]
        have HRF := Lib.hid hRf
        have HJ := Lib.hid hje
        generalize hXg : bs ((s.take j).drop a) = X at hcut
        have HXg := Lib.hid hXg
        have hol2 : out.length ≤ 1000000 := by omega
        clear hRf hje hXg
        go_wp2_with (at_builtin; refine wpList_pushG rfl (.tmp 25) (.tmp 30) 32 rfl w.heap.size 9 (.string ⟨#[]⟩) 1 16 Tryd.underlying32 (by kernel_rfl) rfl (by decide) (.slice A0 out.length c0) out.length _ rfl HO.out #[.string X] 1 (by decide) rfl rfl (by simp [Value.oneCell']) (by omega) (by omega) hsw ?_; intro g4 cap4 w4 hown4 hg4 hb4 hgr4; have HO4 := Lib.hid hown4; have HB4 := Lib.hid hb4; clear hown4 hb4 hgr4)
        refine ⟨⟨j + 1, j + 1, out ++ [(s.take j).drop a], by go_num, by go_num, by rw [List.length_append, List.length_singleton]; omega, Nat.le_refl _, ?_, HB.out.trans HB4.out, .inr ⟨by rw [HJ.out], HRF.out⟩⟩, by simp [intOf]; omega⟩
        rw [List.length_append, List.length_singleton, strs_snoc, HXg.out]
        exact HO4.out
      · have te : ((j : Int) == (n : Int)) = false := by rw [beq_eq_false_iff_ne]; omega
        have hjn' : j < n := by omega
        have hx := fun W => HX.out j hjn' W
        have hdr := drop_getD s j (by rw [← Hn.out]; exact hjn')
        have htd := take_drop_snoc s a j haj (by rw [← Hn.out]; exact hjn')
        have hdd : (s.take (j + 1)).drop (j + 1) = [] := List.drop_of_length_le (by rw [List.length_take]; omega)
        by_cases hc : s.getD j 0 = c
        · have tc : ((((s.getD j 0).toNat : Nat) : Int) == ((c.toNat : Nat) : Int)) = true := by rw [hc]; exact beq_self_eq_true _
          have hRf : R = (out ++ [(s.take j).drop a]) ++ preL ((s.take (j + 1)).drop (j + 1)) (splitL c (s.drop (j + 1))) := by
            rw [HRE.out, hdr, hdd, preL_nil (splitL_ne c _), splitL, if_pos hc]
            show out ++ (((s.take j).drop a ++ []) :: splitL c (s.drop (j + 1))) = _
            rw [List.append_nil]; simp
          have HRF := Lib.hid hRf
          generalize (s.getD j 0).toNat = y at hx tc
          generalize hXg : bs ((s.take j).drop a) = X at hcut
          have HXg := Lib.hid hXg
          have hol2 : out.length ≤ 1000000 := by omega
          clear hRf hXg hdr htd hdd hc
          go_wp2_with (at_builtin; refine wpList_pushG rfl (.tmp 25) (.tmp 30) 32 rfl w.heap.size 9 (.string ⟨#[]⟩) 1 16 Tryd.underlying32 (by kernel_rfl) rfl (by decide) (.slice A0 out.length c0) out.length _ rfl HO.out #[.string X] 1 (by decide) rfl rfl (by simp [Value.oneCell']) (by omega) (by omega) hsw ?_; intro g4 cap4 w4 hown4 hg4 hb4 hgr4; have HO4 := Lib.hid hown4; have HB4 := Lib.hid hb4; clear hown4 hb4 hgr4)
          refine ⟨⟨j + 1, j + 1, out ++ [(s.take j).drop a], by go_num, by go_num, by rw [List.length_append, List.length_singleton]; omega, Nat.le_refl _, ?_, HB.out.trans HB4.out, .inl ⟨by omega, HRF.out⟩⟩, by simp [intOf]; omega⟩
          rw [List.length_append, List.length_singleton, strs_snoc, HXg.out]
          exact HO4.out
        · have tc : ((((s.getD j 0).toNat : Nat) : Int) == ((c.toNat : Nat) : Int)) = false := by
            rw [beq_eq_false_iff_ne]; intro e; exact hc (by apply UInt8.toNat_inj.1; omega)
          have hRf : R = out ++ preL ((s.take (j + 1)).drop a) (splitL c (s.drop (j + 1))) := by
            rw [HRE.out, hdr, htd, splitL, if_neg hc, preL_pre]
          have HRF := Lib.hid hRf
          generalize (s.getD j 0).toNat = y at hx tc
          clear hRf hdr htd hdd hc hcut
          go_wp2_with fail
          exact ⟨⟨a, j + 1, out, rfl, by go_num, by omega, by omega, HO.out, HB.out, .inl ⟨by omega, HRF.out⟩⟩, by simp [intOf]; omega⟩
    · have tj : decide (((n + 1 : Nat) : Int) ≤ (n : Int)) = false := by rw [decide_eq_false_iff_not]; omega
      subst hRe
      go_wp2_with fail
      go_ret
      exact ⟨_, rfl, HO.out, hol, HB.out⟩
end Go.Proofs.YthilkpjdfjjikaaDoor
