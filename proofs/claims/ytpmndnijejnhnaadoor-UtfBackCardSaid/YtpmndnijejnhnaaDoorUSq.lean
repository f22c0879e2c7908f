/-
  utf.Squeeze.
-/
import Derived.Test.YtpmndnijejnhnaaDoorIxR
import Derived.Test.YtpmndnijejnhnaaDoorFld
import Derived.Lib.IndexAny
namespace Go.Proofs.YtpmndnijejnhnaaDoor
open Go.RowKit

def l5 : List UInt8 := [32, 9, 10, 13, 12]
theorem one_last (x : Nat) (h : 128 ≤ x) (hx : x ≤ 1114111) : ∃ k, 1 ≤ k ∧ k < 4 ∧ (oneL x).length = k + 1 ∧ 128 ≤ ((oneL x).getD k 0).toNat := by
  unfold oneL
  rw [if_neg (by omega)]
  by_cases h2 : x < 2048
  · rw [if_pos h2]
    exact ⟨1, by omega, by omega, rfl, by show 128 ≤ (UInt8.ofNat (128 + x % 64)).toNat; rw [tn _ (by omega)]; omega⟩
  · rw [if_neg h2]
    by_cases h3 : x < 65536
    · rw [if_pos h3]
      exact ⟨2, by omega, by omega, rfl, by show 128 ≤ (UInt8.ofNat (128 + x % 64)).toNat; rw [tn _ (by omega)]; omega⟩
    · rw [if_neg h3]
      exact ⟨3, by omega, by omega, rfl, by show 128 ≤ (UInt8.ofNat (128 + x % 64)).toNat; rw [tn _ (by omega)]; omega⟩
theorem l5_small : ∀ k : Nat, k < 5 → (l5.getD k 0).toNat < 128 := by
  intro k hk
  match k, hk with
  | 0, _ => decide
  | 1, _ => decide
  | 2, _ => decide
  | 3, _ => decide
  | 4, _ => decide
theorem l5_all : ∀ x ∈ l5, x.toNat < 128 := by decide
theorem index_none (l : List UInt8) (c : UInt8) (hl : ∀ x ∈ l, x.toNat < 128) (hc : 128 ≤ c.toNat) : Lib.indexByte l c = -1 := by
  have h1 := Lib.contains_iff_indexByte l c
  have h2 : l.contains c = false := by
    cases h : l.contains c with
    | false => rfl
    | true =>
      have := hl c (by simpa using h)
      omega
  rw [h2] at h1
  have h3 := of_decide_eq_false h1.symm
  have h4 := Lib.indexByte_ge l c
  omega
theorem valid_pt (x : Nat) : Lib.validRune (x : Int) = isPt (x : Int) := by
  unfold Lib.validRune isPt
  rw [Bool.eq_iff_iff]
  simp
  omega
theorem drew_below (w : World) (q : Nat) : Below w.heap.size w (w.drewN q) := by
  have : ∀ q, Below w.heap.size w (w.drewN q) := by
    intro q
    induction q with
    | zero => exact Below.refl _ _
    | succ q ih => exact ih.drew
  exact this q
theorem ir_any (x : Nat) (h : 128 ≤ x) (hx : x ≤ 1114111) (w : World) :
    Calls Tryd.prog 44 #[.string ⟨l5.toArray⟩, .int .i32 x] w fun e w' => e = .returned (.int .i64 (-1)) ∧ Below w.heap.size w w' := by
  by_cases h1 : x = 65533
  · subst h1
    exact ir_err l5 l5_all w
  · have h1z : (x : Int) ≠ 65533 := by omega
    cases hv : Lib.validRune (x : Int) with
    | false => exact (ir_bad ⟨l5.toArray⟩ x (by omega) h1z hv w).mono fun e w' ⟨he, hw⟩ => ⟨he, by rw [hw]; exact Below.refl _ _⟩
    | true =>
      obtain ⟨k, hk1, hk4, hl, hb⟩ := one_last x h hx
      have hp : isPt (x : Int) = true := by rw [← valid_pt]; exact hv
      have hbs := fun W => str_index (oneL x) k (by omega) W
      have has := fun W => str_index l5 k (by show k < 5; omega) W
      have hss := fun W => str_from l5 (k + 1) (by show k + 1 ≤ 5; omega) W
      have ha := l5_small k (by omega)
      refine (ir_none ⟨l5.toArray⟩ ⟨(oneL x).toArray⟩ ⟨(l5.drop (k + 1)).toArray⟩ x k _ _ (by omega) h1z hv (enc_utf8 x hp) (by simp [ByteArray.size, hl]) hk1 rfl (by omega) has hbs (fun W => hss W) ?_ ?_ w).mono
        fun e w' ⟨he, q, hq⟩ => ⟨he, by rw [hq]; exact drew_below _ _⟩
      · rw [bne_iff_ne]; omega
      · refine index_none _ _ (fun y hy => l5_all y (List.mem_of_mem_drop hy)) ?_
        have : ((((oneL x).getD k 0).toNat : Nat) : Int).toNat.toUInt8 = (oneL x).getD k 0 := by simp
        rw [this]; exact hb
theorem ascii_blank : ∀ x : Fin 128, decide (0 ≤ Lib.indexByte l5 ((x.val : Nat) : Int).toNat.toUInt8) = isB ((x.val : Nat) : Int) := by decide
set_option maxHeartbeats 2000000 in
theorem contains_any (x : Nat) (hx : x ≤ 1114111) (w : World) :
    Calls Tryd.prog 32 #[.string ⟨l5.toArray⟩, .int .i32 x] w fun e w' => e = .returned (.bool (isB (x : Int))) ∧ Below w.heap.size w w' := by
  by_cases h : x < 128
  · have h1 := ascii_blank ⟨x, h⟩
    refine (Tryd.strings_ContainsRune_ascii ⟨l5.toArray⟩ x w (by omega) (by omega)).mono fun e w' ⟨he, hw⟩ => ⟨by rw [he, ← h1], by rw [hw]; exact Below.refl _ _⟩
  · have H44 := Lib.hid (ir_any x (by omega) hx w)
    have hb : isB (x : Int) = false := by
      unfold isB
      simp
      omega
    have HB := Lib.hid hb; clear hb
    go_enter Tryd.func32, Tryd.ntmps32
    go_wp2_with fail
    refine H44.out.mono ?_
    rintro e w' ⟨rfl, hw⟩
    go_wp2_with fail
    go_ret
    exact ⟨by rw [HB.out]; rfl, hw⟩
theorem blank_any (x : Nat) (hx : x ≤ 1114111) (w : World) :
    Calls Tryd.prog 31 #[.int .i32 x] w fun e w' => e = .returned (.bool (isBN x)) ∧ Below w.heap.size w w' := by
  have H32 : Hid (Calls Tryd.prog 32 #[.string ⟨#[32, 9, 10, 13, 12]⟩, .int .i32 x] w fun e w' => e = .returned (.bool (isBN x)) ∧ Below w.heap.size w w') := Lib.hid (contains_any x hx w)
  go_enter Tryd.func31, Tryd.ntmps31
  go_wp2_with fail
  refine H32.out.mono ?_
  rintro e w' ⟨rfl, hw⟩
  go_wp2_with fail
  go_ret
  exact ⟨rfl, hw⟩
theorem fd_step_len (t : List (List Int) × List Int) (p : Int) : (fdEnd (fdStep t p)).length ≤ (fdEnd t).length + 1 := by
  unfold fdStep
  by_cases hb : isB p = true
  · rw [if_pos hb]
    by_cases ht : t.2 = []
    · rw [if_pos ht]; omega
    · rw [if_neg ht]; unfold fdEnd; rw [if_neg ht, if_pos rfl]; exact Nat.le_succ _
  · rw [if_neg hb]
    unfold fdEnd
    rw [if_neg (by simp)]
    by_cases ht : t.2 = []
    · rw [if_pos ht, List.length_append]; exact Nat.le_refl _
    · rw [if_neg ht, List.length_append, List.length_append]; simp
theorem fd_len : ∀ (l : List Int) (t : List (List Int) × List Int), (fdEnd (l.foldl fdStep t)).length ≤ (fdEnd t).length + l.length
  | [], _ => Nat.le_refl _
  | p :: l, t => by
    have h1 := fd_len l (fdStep t p)
    have h2 := fd_step_len t p
    rw [List.foldl_cons, List.length_cons]; omega
set_option maxHeartbeats 4000000 in
theorem squeeze_any (l : List UInt8) (w : World) (hl : l.length ≤ 60000) :
    Calls Tryd.prog 17 #[.string ⟨l.toArray⟩] w fun e w' => e = .returned (.string ⟨(squeezeL l).toArray⟩) ∧ Below w.heap.size w w' := by
  have hpt := fixedL_pts l
  have hlen := fixedL_length l
  have htl := textL_length (fixedL l)
  have H21 := Lib.hid (repair_any l w hl)
  have hsq := squeeze_fields (fixedL l) hpt
  have hFF := fun W : World => Tryd.strings_FieldsFunc_grows 31 #[] (by intro args w; exact enters_of Tryd.func31 (by kernel_rfl) rfl args w) isBN ⟨(repairL l).toArray⟩ W (by show (repairL l).length ≤ _; unfold repairL; omega) (fun W' x hx _ => blank_any x hx W')
  have hsl := sq_length (fixedL l)
  have hst := textL_length (sqL (fixedL l))
  show Calls Tryd.prog 17 #[.string ⟨l.toArray⟩] w fun e w' => e = .returned (.string ⟨(textL (sqL (fixedL l))).toArray⟩) ∧ Below w.heap.size w w'
  obtain ⟨R, hR⟩ : ∃ R, R = repairL l := ⟨_, rfl⟩
  rw [← hR] at H21 hFF
  rw [show textL (fixedL l) = R from hR.symm] at hsq
  obtain ⟨F, hF⟩ : ∃ F, F = Lib.goFieldsP isBN ⟨R.toArray⟩ := ⟨_, rfl⟩
  rw [← hF] at hsq
  simp only [← hF] at hFF
  have HFF := Lib.hid hFF
  have HSQ := Lib.hid hsq
  have hjl : (Lib.join (F.map (·.data.toList)) [32]).length ≤ 140737488355328 := by rw [hsq]; omega
  have hFl : F.length ≤ 60001 * 5 := by
    have h1 := fields_text (fixedL l) (fixedL_pts l)
    rw [show textL (fixedL l) = R from hR.symm, ← hF] at h1
    have h2 := fd_len (fixedL l) ([], [])
    rw [h1, List.length_map]
    have h3 : (fdEnd (([], []) : List (List Int) × List Int)).length = 0 := rfl
    show (fdEnd ((fixedL l).foldl fdStep ([], []))).length ≤ _
    omega
  have HJL := Lib.hid hjl
  clear hFF hsq hjl hF hR hpt htl hsl hst hlen
  go_enter Tryd.func17, Tryd.ntmps17
  go_wp2_with fail
  refine H21.out.mono ?_
  rintro e w1 ⟨rfl, b1⟩
  go_wp2_with (first | (go_at_call 30; refine (HFF.out w1).mono ?_) | fail)
  rintro e w2 ⟨A, rfl, hA, ho2, b2⟩
  have hsz2 := b2.size
  have hlt : A < w2.heap.size := (ho2.lt A rfl).2
  have HJ := Lib.hid (Tryd.strings_Join A 0 F.length F ⟨#[32]⟩ w2 (fun j x hj => by
    have hjl : j < F.length := (List.getElem?_eq_some_iff.1 hj).1
    have := ho2.cellAt j (by omega)
    rw [Nat.zero_add, this, List.getElem?_map, hj]; rfl) hlt (by omega) (Nat.le_refl _) HJL.out)
  rw [show (⟨#[32]⟩ : ByteArray).data.toList = [32] from rfl, HSQ.out] at HJ
  clear ho2 HFF
  go_wp2_with fail
  refine HJ.out.mono ?_
  rintro e w3 ⟨rfl, b3⟩
  have hsz1 := b1.size
  go_wp2_with fail
  go_ret
  exact ⟨rfl, b1.trans ((b2.trans (b3.mono hsz2)).mono hsz1)⟩
end Go.Proofs.YtpmndnijejnhnaaDoor
