/-
  The fields that strings.FieldsFunc cuts out of a text are the fields of its code points (plain).
-/
import Derived.Test.YtpmndnijejnhnaaDoorLaw
namespace Go.Proofs.YtpmndnijejnhnaaDoor

theorem fixP_pt {p : Int} (h : isPt p = true) : fixP p = p := by have := isPt_range h; exact if_neg (by omega)
theorem drop_text (done rest : List Int) : (textL (done ++ rest)).drop (textL done).length = textL rest := by
  rw [textL_app, List.drop_left]
theorem extract_text (d0 cur rest : List Int) : (⟨(textL (d0 ++ cur ++ rest)).toArray⟩ : ByteArray).extract (textL d0).length (textL (d0 ++ cur)).length = ⟨(textL cur).toArray⟩ := by
  rw [Lib.extract_eq]
  have e1 : (⟨(textL (d0 ++ cur ++ rest)).toArray⟩ : ByteArray).data.toList = textL (d0 ++ (cur ++ rest)) := by rw [← List.append_assoc]
  rw [e1, drop_text, textL_app d0 cur, List.length_append, Nat.add_sub_cancel_left, textL_app, List.take_left]
def bytesOf (f : List Int) : ByteArray := ⟨(textL f).toArray⟩
def isBN (x : Nat) : Bool := isB (x : Int)
/-- What the pass over the bytes has, beside what the pass over the code points has. -/
def Rel (S : ByteArray) (done : List Int) (st : Option Nat) (acc : List (Nat × Nat)) (t : List (List Int) × List Int) : Prop :=
  acc.map (fun x => S.extract x.1 x.2) = t.1.map bytesOf ∧
  match st with
  | none => t.2 = []
  | some a => t.2 ≠ [] ∧ ∃ d0, done = d0 ++ t.2 ∧ a = (textL d0).length
theorem spans_text (ps : List Int) (S : ByteArray) (hS : S = ⟨(textL ps).toArray⟩) (hps : ∀ p ∈ ps, isPt p = true) : ∀ (rest done : List Int) (st : Option Nat) (acc : List (Nat × Nat)) (t : List (List Int) × List Int) (f : Nat),
    ps = done ++ rest → rest.length ≤ f → Rel S done st acc t →
    (Lib.closeSpans S (Lib.spansFromP isBN S f (textL done).length st acc)).map (fun x => S.extract x.1 x.2) = (fdEnd (rest.foldl fdStep t)).map bytesOf := by
  have hsz : S.size = (textL ps).length := by rw [hS]; simp [ByteArray.size]
  intro rest
  induction rest with
  | nil =>
    intro done st acc t f hd _ hR
    rw [List.append_nil] at hd
    subst hd
    rw [Lib.spansFromP_end isBN S f _ _ _ (by rw [hsz]; omega)]
    obtain ⟨h1, h2⟩ := hR
    show _ = (fdEnd t).map bytesOf
    cases st with
    | none =>
      have h2 : t.2 = [] := h2
      unfold fdEnd
      rw [if_pos h2]
      exact h1
    | some a =>
      obtain ⟨hne, d0, hd0, rfl⟩ := h2
      unfold fdEnd
      rw [if_neg hne, List.map_append, ← h1]
      show List.map _ (acc ++ [((textL d0).length, S.size)]) = _
      rw [List.map_append]
      congr 1
      show [S.extract (textL d0).length S.size] = [bytesOf t.2]
      rw [hsz, hS]
      have := extract_text d0 t.2 []
      rw [List.append_nil, ← hd0] at this
      rw [this]; rfl
  | cons p rest ih =>
    intro done st acc t f hd hf hR
    obtain ⟨f, rfl⟩ : ∃ f', f = f' + 1 := ⟨f - 1, by simp at hf; omega⟩
    have hp := hps p (by rw [hd]; simp)
    obtain ⟨q, rfl⟩ : ∃ q : Nat, p = q := ⟨p.toNat, by have := isPt_range hp; omega⟩
    have hone := oneL_length q
    have hlt : (textL done).length < S.size := by
      rw [hsz, hd, textL_app, textL_cons, List.length_append, List.length_append, Int.toNat_natCast]; omega
    have hdec : Utf8.decode S (textL done).length = (q, (oneL q).length) := by
      obtain ⟨x, r, hxr⟩ := oneL_cons q
      have hdr : (textL ps).drop (textL done).length = x :: (r ++ textL rest) := by
        rw [hd, drop_text, textL_cons, Int.toNat_natCast, hxr]; rfl
      have h1 := decode_read (textL ps) (textL done).length x (r ++ textL rest) hdr
      have h2 := readL_one q (textL rest) hp
      rw [hxr, List.cons_append] at h2
      rw [← hS, h2] at h1
      rw [h1]
      dsimp only
      rw [fixP_pt hp, hxr, Int.toNat_natCast]
    have hpos : (textL done).length + (oneL q).length = (textL (done ++ [(q : Int)])).length := by
      rw [textL_app, textL_cons, textL_nil, List.append_nil, List.length_append, Int.toNat_natCast]
    have hd' : ps = (done ++ [(q : Int)]) ++ rest := by rw [hd]; simp
    obtain ⟨h1, h2⟩ := hR
    rw [List.foldl_cons]
    unfold Lib.spansFromP
    rw [if_pos hlt, hdec]
    dsimp only
    rw [hpos]
    cases hb : isB (q : Int) with
    | true =>
      have hbn : isBN q = true := hb
      rw [if_pos hbn]
      cases st with
      | none =>
        have h2 : t.2 = [] := h2
        have e : fdStep t q = t := by unfold fdStep; rw [hb, if_pos rfl, if_pos h2]
        rw [e]
        exact ih _ _ _ _ _ hd' (by simp at hf; omega) ⟨h1, h2⟩
      | some a =>
        obtain ⟨hne, d0, hd0, rfl⟩ := h2
        have e : fdStep t q = (t.1 ++ [t.2], []) := by unfold fdStep; rw [hb, if_pos rfl, if_neg hne]
        rw [e]
        refine ih _ _ _ _ _ hd' (by simp at hf; omega) ⟨?_, rfl⟩
        rw [List.map_append, List.map_append, h1]
        congr 1
        show [S.extract (textL d0).length (textL done).length] = [bytesOf t.2]
        have := extract_text d0 t.2 ((q : Int) :: rest)
        rw [← hd0, ← hd, ← hS] at this
        rw [this]; rfl
    | false =>
      have hbn : ¬ isBN q = true := by show ¬ isB (q : Int) = true; rw [hb]; decide
      rw [if_neg hbn]
      have e : fdStep t q = (t.1, t.2 ++ [(q : Int)]) := by unfold fdStep; rw [hb]; rfl
      rw [e]
      cases st with
      | none =>
        have h2 : t.2 = [] := h2
        refine ih _ _ _ _ _ hd' (by simp at hf; omega) ⟨h1, by simp, done, by rw [h2]; rfl, rfl⟩
      | some a =>
        obtain ⟨hne, d0, hd0, rfl⟩ := h2
        exact ih _ _ _ _ _ hd' (by simp at hf; omega) ⟨h1, by simp, d0, by rw [hd0]; simp, rfl⟩
theorem text_ge : ∀ ps : List Int, ps.length ≤ (textL ps).length
  | [] => Nat.le_refl _
  | p :: ps => by
    have := text_ge ps
    have h := (oneL_length p.toNat).1
    rw [textL_cons, List.length_append, List.length_cons]; omega
theorem fields_text (ps : List Int) (hps : ∀ p ∈ ps, isPt p = true) : Lib.goFieldsP isBN ⟨(textL ps).toArray⟩ = (fdL ps).map bytesOf := by
  have hsz : (⟨(textL ps).toArray⟩ : ByteArray).size = (textL ps).length := by simp [ByteArray.size]
  unfold Lib.goFieldsP Lib.spansOfP
  have := spans_text ps _ rfl hps ps [] none [] ([], []) (⟨(textL ps).toArray⟩ : ByteArray).size rfl (by rw [hsz]; exact text_ge ps) ⟨rfl, rfl⟩
  exact this
theorem join_text : ∀ fs : List (List Int), Lib.join (fs.map textL) [32] = textL (joinI fs)
  | [] => rfl
  | [f] => Lib.join_one _ _
  | f :: g :: r => by
    have ih := join_text (g :: r)
    have e : textL (joinI (f :: g :: r)) = textL f ++ 32 :: textL (joinI (g :: r)) := by
      show textL (f ++ 32 :: joinI (g :: r)) = _
      rw [textL_app, textL_cons]; rfl
    rw [e, ← ih]
    show Lib.join (textL f :: textL g :: r.map textL) [32] = textL f ++ 32 :: Lib.join (textL g :: r.map textL) [32]
    rw [Lib.join_cons, Lib.join_cons]
    simp [Lib.joinTail]
theorem squeeze_fields (ps : List Int) (hps : ∀ p ∈ ps, isPt p = true) : Lib.join ((Lib.goFieldsP isBN ⟨(textL ps).toArray⟩).map (·.data.toList)) [32] = textL (sqL ps) := by
  rw [fields_text ps hps, List.map_map, sq_fd, ← join_text]
  rfl
end Go.Proofs.YtpmndnijejnhnaaDoor
