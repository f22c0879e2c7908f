/-
  utf.keep, at whatever predicate.
-/
import Derived.Test.YtpmndnijejnhnaaDoorEnc
namespace Go.Proofs.YtpmndnijejnhnaaDoor
open Go.RowKit

set_option maxHeartbeats 2000000 in
set_option maxRecDepth 100000 in
theorem keep_any (g : Nat) (eg : ∀ args w, (callFunc g args).run Tryd.prog w = .ok (.enter g args) w) (f : Int → Bool) (hf : ∀ (p : Nat) (W : World), p ≤ 1114111 → Calls Tryd.prog g #[.int .i32 p] W fun e w' => e = .returned (.bool (f p)) ∧ w' = W)
    (l : List UInt8) (w : World) (hl : l.length ≤ 60000) :
    Calls Tryd.prog 33 #[.string ⟨l.toArray⟩, .func (.func g) #[] #[]] w fun e w' => e = .returned (.string ⟨(textL ((fixedL l).filter f)).toArray⟩) ∧ Below w.heap.size w w' := by
  have hdec := Lib.hid (decode_read l)
  have hsz : (⟨l.toArray⟩ : ByteArray).size = l.length := by simp [ByteArray.size]
  obtain ⟨S, hS⟩ : ∃ S, S = (⟨l.toArray⟩ : ByteArray) := ⟨_, rfl⟩
  rw [← hS] at hdec hsz ⊢
  clear hS
  obtain ⟨n, hn⟩ : ∃ n, n = l.length := ⟨_, rfl⟩
  rw [← hn] at hsz hl
  have Hn := Lib.hid hn; have Hsz := Lib.hid hsz; have Hf := Lib.hid hf; clear hn hsz hf
  go_enter Tryd.func33, Tryd.ntmps33
  go_wp2_with fail
  go_loopw [] (fun wr => ∃ (m : Nat) (done : List Int), m ≤ n ∧ done.length ≤ m ∧ fixedL l = done ++ fixedL (l.drop m) ∧ wr.heap[w.heap.size + 1]? = some (.stringIter S m) ∧ Lib.IsBuilderF 48 5 w.heap.size w.heap.size (b8s (textL (done.filter f))) wr ∧ Below w.heap.size w wr)
    (fun wr => n - wr.iterPos (w.heap.size + 1))
  case atStart =>
    refine ⟨0, [], by omega, Nat.le_refl _, by simp, ?_, ?_, ?_⟩
    · have h := World.iter_heap (w.alloc (.cells #[.pointer none, .slice none 0 0] 48)) S 0
      have e : (w.alloc (.cells #[.pointer none, .slice none 0 0] 48)).heap.size = w.heap.size + 1 := by simp
      rw [e] at h; exact h
    · exact (builder_new w).alloc _
    · exact ((Below.refl _ w).alloc (Nat.le_refl _) _).alloc (by simp) _
  case round =>
    obtain ⟨m, done, hm, hqm, hpts, hit, hbd, hB⟩ := hrel
    have hbs : w.heap.size + 1 < wr.heap.size := (Array.getElem?_eq_some_iff.1 hit).1
    have hip : wr.iterPos (w.heap.size + 1) = m := by unfold World.iterPos; rw [hit]
    have Hpts := Lib.hid hpts; have Hip := Lib.hid hip; have Hbd := Lib.hid hbd
    clear hpts hip hbd
    by_cases hmn : m < n
    · obtain ⟨x, r, hxr⟩ : ∃ x r, l.drop m = x :: r := by
        cases hd : l.drop m with
        | nil => have := congrArg List.length hd; rw [List.length_drop, ← Hn.out] at this; simp at this; omega
        | cons x r => exact ⟨x, r, rfl⟩
      have hrl : r.length + 1 = n - m := by have := congrArg List.length hxr; rw [List.length_drop, ← Hn.out] at this; simpa using this.symm
      have hd := hdec.out m x r hxr
      have hle := readL_le x r
      have hpt := isPt_read x r
      have hcons : fixedL l = (done ++ [fixP (readL (x :: r)).1]) ++ fixedL (l.drop (m + (readL (x :: r)).2)) := by
        rw [Hpts.out, hxr, fixedL_cons, List.append_assoc, ← List.drop_drop, hxr]; rfl
      have hfr : 0 ≤ fixP (readL (x :: r)).1 ∧ fixP (readL (x :: r)).1 ≤ 1114111 := by
        have h := hpt
        simp only [isPt, Bool.and_eq_true, Bool.or_eq_true, decide_eq_true_eq] at h; omega
      obtain ⟨p, hp⟩ : ∃ p : Nat, fixP (readL (x :: r)).1 = (p : Int) := ⟨(fixP (readL (x :: r)).1).toNat, by omega⟩
      rw [hp] at hd hcons hfr hpt
      rw [Int.toNat_natCast] at hd
      obtain ⟨wd, hwd⟩ : ∃ wd, wd = (readL (x :: r)).2 := ⟨_, rfl⟩
      rw [← hwd] at hd hcons hle
      have hnx := fun ty => Lib.run_next_any_at (P := Tryd.prog) wr (w.heap.size + 1) S m ty hit (by rw [Hsz.out]; exact hmn)
      rw [hd] at hnx
      dsimp only at hnx
      have Hcons := Lib.hid hcons; have Hpt := Lib.hid hpt
      clear hcons hxr hd hp hwd hpt
      obtain ⟨W, hW⟩ : ∃ W, W = wr.iterAt (w.heap.size + 1) S (m + wd) := ⟨_, rfl⟩
      rw [← hW] at hnx
      have hitW : W.heap[w.heap.size + 1]? = some (.stringIter S (m + wd)) := by rw [hW]; exact Lib.iterAt_heap _ _ _ _ _ hit
      have HbdW : Hid (Lib.IsBuilderF 48 5 w.heap.size w.heap.size (b8s (textL (done.filter f))) W) := by rw [hW]; exact Hbd.out.iterAt hit _
      have hBW : Below w.heap.size w W := by rw [hW]; exact Lib.below_iterAt hB (Nat.le_succ _) _ _
      have hBs := hBW.size
      have hipW : W.iterPos (w.heap.size + 1) = m + wd := by unfold World.iterPos; rw [hitW]
      have HipW := Lib.hid hipW
      have HF := Lib.hid (Hf.out p W (by omega))
      have hlen : (textL (done.filter f)).length ≤ 4 * n := by
        have h1 := textL_length (done.filter f)
        have h2 := List.length_filter_le f done
        omega
      clear Hbd hW hit hipW
      by_cases hfp : f p = true
      · have e1 : (done ++ [(p : Int)]).filter f = done.filter f ++ [(p : Int)] := by rw [List.filter_append]; simp [hfp]
        have e2 : textL ((done ++ [(p : Int)]).filter f) = textL (done.filter f) ++ oneL p := by
          rw [e1]; unfold textL; rw [List.flatMap_append]; simp
        have e3 : b8s (textL ((done ++ [(p : Int)]).filter f)) = b8s (textL (done.filter f)) ++ Lib.runeCells p := by rw [e2, b8s_append, enc_one p Hpt.out]
        have HW := Lib.hid (writeRune_any w.heap.size w.heap.size _ p (by omega) (by omega) W HbdW.out (by rw [b8s_length]; omega) hBs)
        rw [← e3] at HW
        clear e1 e2 e3
        go_wp2_with (go_at_fn g; refine HF.out.mono ?_; rintro e W' ⟨rfl, rfl⟩; rw [hfp])
        refine HW.out.mono ?_
        rintro e w1 ⟨⟨v1, rfl⟩, hb1, hbe1, hk1⟩
        have hit1 := hk1.iter hitW (by omega)
        have hip1 : w1.iterPos (w.heap.size + 1) = m + wd := by unfold World.iterPos; rw [hit1]
        go_wp2_with fail
        exact ⟨⟨m + wd, done ++ [(p : Int)], by omega, by rw [List.length_append, List.length_singleton]; omega, Hcons.out, hit1, .inr hb1, hBW.trans hbe1⟩, by rw [Hip.out, hip1]; omega⟩
      · have hfp' : f p = false := by simpa using hfp
        have e1 : (done ++ [(p : Int)]).filter f = done.filter f := by rw [List.filter_append]; simp [hfp']
        have E1 := Lib.hid e1; clear e1
        go_wp2_with (go_at_fn g; refine HF.out.mono ?_; rintro e W' ⟨rfl, rfl⟩; rw [hfp'])
        go_roundw
        case rel => exact ⟨m + wd, done ++ [(p : Int)], by omega, by rw [List.length_append, List.length_singleton]; omega, Hcons.out, hitW, by rw [E1.out]; exact HbdW.out, hBW⟩
        case measure => rw [Hip.out, HipW.out]; omega
    · obtain rfl : m = n := by omega
      have hnx := fun ty => Lib.run_next_end_at (P := Tryd.prog) wr (w.heap.size + 1) S m ty hit (by rw [Hsz.out]; exact hmn)
      have hend : fixedL l = done := by
        rw [Hpts.out, List.drop_of_length_le (by rw [← Hn.out]; exact Nat.le_refl _)]
        exact List.append_nil _
      have HS := Lib.hid (Tryd.Builder_String_any_k w.heap.size w.heap.size (textL (done.filter f)) wr Hbd.out hB.size)
      have Hend := Lib.hid hend; clear hend
      go_wp2_with fail
      refine HS.out.mono ?_
      rintro e w1 ⟨rfl, _, hb1, _⟩
      go_wp2_with fail
      go_ret
      exact ⟨by rw [Hend.out]; rfl, hB.trans hb1⟩
theorem yes_any (p : Nat) (W : World) (_hp : p ≤ 1114111) : Calls Tryd.prog 34 #[.int .i32 p] W fun e w' => e = .returned (.bool ((fun _ => true) (p : Int))) ∧ w' = W := by
  go_enter Tryd.func34, Tryd.ntmps34
  go_wp2_with fail
  go_ret
  exact ⟨rfl, rfl⟩
theorem xml_any (p : Nat) (W : World) (_hp : p ≤ 1114111) : Calls Tryd.prog 36 #[.int .i32 p] W fun e w' => e = .returned (.bool (xmlP (p : Int))) ∧ w' = W := by
  go_enter Tryd.func36, Tryd.ntmps36
  go_wp2_with fail
  all_goals go_ret
  all_goals refine ⟨congrArg (fun b => Ending.returned (Value.bool b)) ?_, rfl⟩
  all_goals first | (simp_all [xmlP]; done) | (simp [xmlP]; rw [Bool.eq_iff_iff]; simp; omega) | trace_state
theorem repair_any (l : List UInt8) (w : World) (hl : l.length ≤ 60000) :
    Calls Tryd.prog 21 #[.string ⟨l.toArray⟩] w fun e w' => e = .returned (.string ⟨(repairL l).toArray⟩) ∧ Below w.heap.size w w' := by
  have HK := Lib.hid (keep_any 34 (by intro args w; exact enters_of Tryd.func34 (by kernel_rfl) rfl args w) (fun _ => true) yes_any l w hl)
  have e : (fixedL l).filter (fun _ => true) = fixedL l := List.filter_eq_self.2 fun _ _ => rfl
  rw [e] at HK
  go_enter Tryd.func21, Tryd.ntmps21
  go_wp2_with fail
  refine HK.out.mono ?_
  rintro e w' ⟨rfl, hb⟩
  go_wp2_with fail
  go_ret
  exact ⟨rfl, hb⟩
theorem plain_any (l : List UInt8) (w : World) (hl : l.length ≤ 60000) :
    Calls Tryd.prog 23 #[.string ⟨l.toArray⟩] w fun e w' => e = .returned (.string ⟨(plainL l).toArray⟩) ∧ Below w.heap.size w w' := by
  have HK := Lib.hid (keep_any 36 (by intro args w; exact enters_of Tryd.func36 (by kernel_rfl) rfl args w) xmlP xml_any l w hl)
  go_enter Tryd.func23, Tryd.ntmps23
  go_wp2_with fail
  refine HK.out.mono ?_
  rintro e w' ⟨rfl, hb⟩
  go_wp2_with fail
  go_ret
  exact ⟨rfl, hb⟩
end Go.Proofs.YtpmndnijejnhnaaDoor
