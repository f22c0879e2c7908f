/-
  Links, plain: percents in their one form.
-/
import Derived.Test.YtcpkkaimingnlaaGreatDoorLke
namespace Go.Proofs.YtcpkkaimingnlaaGreatDoor

def upB (c : UInt8) : UInt8 := if decide (97 ≤ c.toNat) && decide (c.toNat ≤ 122) then c - 32 else c
/-- What needs no percent. -/
def unresB (c : UInt8) : Bool := alB c || c == 45 || c == 46 || c == 95 || c == 126
def pctN (a b : UInt8) : UInt8 := UInt8.ofNat (16 * hexV a + hexV b)
def pctT (a b : UInt8) : Bs := if unresB (pctN a b) then [pctN a b] else [37, upB a, upB b]
def normP : Bs → Bs
  | [] => []
  | [c] => [c]
  | [c, d] => [c, d]
  | c :: a :: b :: t => if c = 37 ∧ hex2 (a :: b :: t) = true then pctT a b ++ normP t else c :: normP (a :: b :: t)
/-- In its one form. -/
def okN : Bs → Bool
  | a :: b :: _ => hexB a && hexB b && (upB a == a) && (upB b == b) && !unresB (pctN a b)
  | _ => false
def isNorm : Bs → Bool
  | [] => true
  | c :: r => (c != 37 || okN r) && isNorm r
theorem isNorm_cons (c : UInt8) (r : Bs) : isNorm (c :: r) = ((c != 37 || okN r) && isNorm r) := rfl
theorem okN_cons (a b : UInt8) (r : Bs) : okN (a :: b :: r) = (hexB a && hexB b && (upB a == a) && (upB b == b) && !unresB (pctN a b)) := rfl
theorem normP_cons (c a b : UInt8) (t : Bs) : normP (c :: a :: b :: t) = if c = 37 ∧ hex2 (a :: b :: t) = true then pctT a b ++ normP t else c :: normP (a :: b :: t) := by rw [normP]
theorem normP_miss (c : UInt8) (r : Bs) (h : ¬ (c = 37 ∧ hex2 r = true)) : normP (c :: r) = c :: normP r := by
  match r with
  | [] => rfl
  | [a] => rfl
  | a :: b :: t => rw [normP_cons, if_neg h]
theorem hexB_iff (c : UInt8) : hexB c = true ↔ (48 ≤ c.toNat ∧ c.toNat ≤ 57) ∨ (97 ≤ c.toNat ∧ c.toNat ≤ 102) ∨ (65 ≤ c.toNat ∧ c.toNat ≤ 70) := by
  unfold hexB digB; simp only [Bool.or_eq_true, Bool.and_eq_true, decide_eq_true_eq, or_assoc]
theorem upB_nat (c : UInt8) : (upB c).toNat = if 97 ≤ c.toNat ∧ c.toNat ≤ 122 then c.toNat - 32 else c.toNat := by
  have := c.toNat_lt
  unfold upB
  by_cases h : 97 ≤ c.toNat ∧ c.toNat ≤ 122
  · rw [if_pos (by simpa using h), if_pos h, UInt8.toNat_sub_of_le]
    · rfl
    · rw [UInt8.le_iff_toNat_le]; show 32 ≤ _; omega
  · rw [if_neg (by simpa using h), if_neg h]
theorem up_hex {c : UInt8} (h : hexB c = true) : hexB (upB c) = true ∧ upB (upB c) = upB c ∧ hexV (upB c) = hexV c := by
  rw [hexB_iff] at h
  have h1 := upB_nat c
  have h2 := upB_nat (upB c)
  refine ⟨?_, ?_, ?_⟩
  · rw [hexB_iff, h1]; split <;> omega
  · rw [← UInt8.toNat_inj, h2, h1]; split <;> (try split) <;> omega
  · unfold hexV; rw [h1]; split <;> (repeat' split) <;> omega
theorem unres_iff (c : UInt8) : unresB c = true ↔ (97 ≤ c.toNat ∧ c.toNat ≤ 122) ∨ (65 ≤ c.toNat ∧ c.toNat ≤ 90) ∨ (48 ≤ c.toNat ∧ c.toNat ≤ 57) ∨ c.toNat = 45 ∨ c.toNat = 46 ∨ c.toNat = 95 ∨ c.toNat = 126 := by
  unfold unresB
  simp only [Bool.or_eq_true, alB_iff, beq_iff_eq, ← UInt8.toNat_inj]
  rw [show UInt8.toNat 45 = 45 from rfl, show UInt8.toNat 46 = 46 from rfl, show UInt8.toNat 95 = 95 from rfl, show UInt8.toNat 126 = 126 from rfl]
  omega
theorem pct_nat {a b : UInt8} (ha : hexB a = true) (hb : hexB b = true) : (pctN a b).toNat = 16 * hexV a + hexV b := by
  have h : hexV a < 16 ∧ hexV b < 16 := by
    rw [hexB_iff] at ha hb
    unfold hexV
    constructor <;> (repeat' split) <;> omega
  unfold pctN
  rw [UInt8.toNat_ofNat']; omega
theorem unres_not {c : UInt8} (h : unresB c = true) : c ≠ 37 ∧ c ≠ 47 ∧ c ≠ 63 ∧ c ≠ 35 ∧ c ≠ 38 ∧ okB c = true := by
  refine ⟨?_, ?_, ?_, ?_, ?_, ?_⟩
  · rintro rfl; revert h; decide
  · rintro rfl; revert h; decide
  · rintro rfl; revert h; decide
  · rintro rfl; revert h; decide
  · rintro rfl; revert h; decide
  · rw [unres_iff] at h
    unfold okB
    have hm : marksB.contains c = false := by
      cases hc : marksB.contains c with
      | false => rfl
      | true =>
        exfalso
        simp only [marksB, List.contains_iff_mem, List.mem_cons, List.not_mem_nil, or_false] at hc
        rcases hc with rfl | rfl | rfl | rfl | rfl | rfl | rfl | rfl | rfl <;> revert h <;> decide
    rw [hm]
    simp only [Bool.and_eq_true, decide_eq_true_eq, Bool.not_false, and_true]
    omega
theorem hex_unres {c : UInt8} (h : hexB c = true) : unresB c = true := by
  rw [hexB_iff] at h; rw [unres_iff]; omega
theorem pctT_cases {a b : UInt8} (ha : hexB a = true) (hb : hexB b = true) :
    (unresB (pctN a b) = true ∧ pctT a b = [pctN a b]) ∨ (unresB (pctN a b) = false ∧ pctT a b = [37, upB a, upB b] ∧ ∀ r, okN (upB a :: upB b :: r) = true) := by
  unfold pctT
  cases h : unresB (pctN a b) with
  | true => exact .inl ⟨rfl, by rw [if_pos rfl]⟩
  | false =>
    obtain ⟨a1, a2, a3⟩ := up_hex ha
    obtain ⟨b1, b2, b3⟩ := up_hex hb
    refine .inr ⟨rfl, by rw [if_neg (by decide)], fun r => ?_⟩
    have hp : pctN (upB a) (upB b) = pctN a b := by unfold pctN; rw [a3, b3]
    rw [okN_cons, a1, b1, a2, b2, hp, h]
    simp
theorem right_tail2 {c : UInt8} {r : Bs} (h : rightL (c :: r) = true) : okB c = true ∧ (c = 37 → hex2 r = true) ∧ rightL r = true := by
  rw [rightL_cons, Bool.and_eq_true, Bool.and_eq_true, Bool.or_eq_true, bne_iff_ne] at h
  exact ⟨h.1.1, fun e => h.1.2.resolve_left (fun hn => hn e), h.2⟩
/-- What a right text becomes: right, in its one form, of bytes that stood there or need no percent. -/
theorem norm_all : ∀ s : Bs, rightL s = true → isNorm (normP s) = true ∧ rightL (normP s) = true ∧ ∀ x ∈ normP s, x ∈ s ∨ x = 37 ∨ unresB x = true
  | [], _ => ⟨rfl, rfl, fun x hx => by cases hx⟩
  | [c], h => by
    obtain ⟨h1, h2, _⟩ := right_tail2 h
    have hc : c ≠ 37 := fun e => by have := h2 e; cases this
    refine ⟨?_, h, fun x hx => .inl hx⟩
    show isNorm [c] = true
    rw [isNorm_cons, bne_iff_ne.2 hc]; rfl
  | [c, d], h => by
    obtain ⟨h1, h2, h3⟩ := right_tail2 h
    obtain ⟨g1, g2, _⟩ := right_tail2 h3
    have hc : c ≠ 37 := fun e => by have := h2 e; cases this
    have hd : d ≠ 37 := fun e => by have := g2 e; cases this
    refine ⟨?_, h, fun x hx => .inl hx⟩
    show isNorm [c, d] = true
    rw [isNorm_cons, isNorm_cons, bne_iff_ne.2 hc, bne_iff_ne.2 hd]; rfl
  | c :: a :: b :: t, h => by
    obtain ⟨h1, h2, h3⟩ := right_tail2 h
    rw [normP_cons]
    by_cases hc : c = 37
    · have hx := h2 hc
      rw [if_pos ⟨hc, hx⟩]
      rw [hex2_cons, Bool.and_eq_true] at hx
      obtain ⟨_, _, h4⟩ := right_tail2 h3
      obtain ⟨_, _, h5⟩ := right_tail2 h4
      obtain ⟨i1, i2, i3⟩ := norm_all t h5
      rcases pctT_cases hx.1 hx.2 with ⟨u1, u2⟩ | ⟨u1, u2, u3⟩
      · obtain ⟨n1, _, _, _, _, n6⟩ := unres_not u1
        rw [u2, List.singleton_append]
        refine ⟨?_, ?_, ?_⟩
        · rw [isNorm_cons, bne_iff_ne.2 n1, i1]; rfl
        · rw [rightL_cons, n6, bne_iff_ne.2 n1, i2]; rfl
        · intro x hx
          rcases List.mem_cons.1 hx with rfl | hx
          · exact .inr (.inr u1)
          · rcases i3 x hx with h | h
            · exact .inl (List.mem_cons_of_mem _ (List.mem_cons_of_mem _ (List.mem_cons_of_mem _ h)))
            · exact .inr h
      · have ua := hex_unres (up_hex hx.1).1
        have ub := hex_unres (up_hex hx.2).1
        obtain ⟨na, _, _, _, _, oa⟩ := unres_not ua
        obtain ⟨nb, _, _, _, _, ob⟩ := unres_not ub
        rw [u2]
        refine ⟨?_, ?_, ?_⟩
        · show isNorm (37 :: upB a :: upB b :: normP t) = true
          rw [isNorm_cons, isNorm_cons, isNorm_cons, u3, bne_iff_ne.2 na, bne_iff_ne.2 nb, i1]; rfl
        · show rightL (37 :: upB a :: upB b :: normP t) = true
          rw [rightL_cons, rightL_cons, rightL_cons, hex2_cons, (up_hex hx.1).1, (up_hex hx.2).1, oa, ob, bne_iff_ne.2 na, bne_iff_ne.2 nb, i2]; rfl
        · intro x hx
          have hx : x ∈ 37 :: upB a :: upB b :: normP t := hx
          rcases List.mem_cons.1 hx with rfl | hx
          · exact .inr (.inl rfl)
          · rcases List.mem_cons.1 hx with rfl | hx
            · exact .inr (.inr ua)
            · rcases List.mem_cons.1 hx with rfl | hx
              · exact .inr (.inr ub)
              · rcases i3 x hx with h | h
                · exact .inl (List.mem_cons_of_mem _ (List.mem_cons_of_mem _ (List.mem_cons_of_mem _ h)))
                · exact .inr h
    · rw [if_neg (fun e => hc e.1)]
      obtain ⟨i1, i2, i3⟩ := norm_all (a :: b :: t) h3
      refine ⟨?_, ?_, ?_⟩
      · rw [isNorm_cons, bne_iff_ne.2 hc, i1]; rfl
      · rw [right_cons h1 hc, i2]
      · intro x hx
        rcases List.mem_cons.1 hx with rfl | hx
        · exact .inl List.mem_cons_self
        · rcases i3 x hx with h | h
          · exact .inl (List.mem_cons_of_mem _ h)
          · exact .inr h
/-- A text in its one form stays. -/
theorem norm_self : ∀ s : Bs, isNorm s = true → normP s = s
  | [], _ => rfl
  | [c], _ => rfl
  | [c, d], _ => rfl
  | c :: a :: b :: t, h => by
    rw [isNorm_cons, Bool.and_eq_true, Bool.or_eq_true, bne_iff_ne] at h
    obtain ⟨h1, h2⟩ := h
    rw [normP_cons]
    by_cases hc : c = 37 ∧ hex2 (a :: b :: t) = true
    · rw [if_pos hc]
      have ho := h1.resolve_left (fun hn => hn hc.1)
      rw [okN_cons] at ho
      simp only [Bool.and_eq_true, beq_iff_eq, Bool.not_eq_true'] at ho
      obtain ⟨⟨⟨⟨o1, o2⟩, o3⟩, o4⟩, o5⟩ := ho
      rw [isNorm_cons, isNorm_cons, Bool.and_eq_true, Bool.and_eq_true] at h2
      rw [norm_self t h2.2.2]
      unfold pctT
      rw [if_neg (by rw [o5]; decide), o3, o4, hc.1]; rfl
    · rw [if_neg hc, norm_self (a :: b :: t) h2]
theorem norm_idem (s : Bs) (h : rightL s = true) : normP (normP s) = normP s := norm_self _ (norm_all s h).1
theorem okN_app (a b : Bs) (hb : ∀ y r, b = y :: r → hexB y = false) : okN (a ++ b) = okN a := by
  match a with
  | [] =>
    rw [List.nil_append]
    match b with
    | [] => rfl
    | [y] => rfl
    | y :: z :: r => rw [okN_cons, hb y _ rfl]; rfl
  | [x] =>
    match b with
    | [] => rfl
    | y :: r => show okN (x :: y :: r) = false; rw [okN_cons, hb y r rfl]; simp
  | x :: y :: r => rfl
theorem isNorm_app (b : Bs) (hb : ∀ y r, b = y :: r → hexB y = false) : ∀ a : Bs, isNorm (a ++ b) = (isNorm a && isNorm b)
  | [] => by rw [List.nil_append]; rfl
  | x :: a => by
    rw [List.cons_append, isNorm_cons, isNorm_cons, okN_app a b hb, isNorm_app b hb a, Bool.and_assoc]
/-- Both, piece by piece. -/
theorem isNorm_join (c : UInt8) (h1 : hexB c = false) (h2 : c ≠ 37) : ∀ l : List Bs, isNorm (joinC c l) = true ↔ ∀ p ∈ l, isNorm p = true
  | [] => by simp [joinC, isNorm]
  | [p] => by simp [joinC]
  | p :: q :: r => by
    have ih := isNorm_join c h1 h2 (q :: r)
    rw [joinC_cons c p (by simp), isNorm_app _ (fun y s h => by injection h with h _; rw [← h]; exact h1), isNorm_cons, bne_iff_ne.2 h2, Bool.true_or, Bool.true_and, Bool.and_eq_true, ih]
    simp
theorem right_join (c : UInt8) (h1 : hexB c = false) (h2 : c ≠ 37) (h3 : okB c = true) : ∀ l : List Bs, rightL (joinC c l) = true ↔ ∀ p ∈ l, rightL p = true
  | [] => by simp [joinC, rightL]
  | [p] => by simp [joinC]
  | p :: q :: r => by
    have ih := right_join c h1 h2 h3 (q :: r)
    rw [joinC_cons c p (by simp), right_app _ (fun y s h => by injection h with h _; rw [← h]; exact h1), right_cons h3 h2, Bool.and_eq_true, ih]
    simp
end Go.Proofs.YtcpkkaimingnlaaGreatDoor
