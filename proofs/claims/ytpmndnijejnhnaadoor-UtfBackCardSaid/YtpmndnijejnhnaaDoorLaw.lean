/-
  The plain laws of texts and code points: no program in sight.
-/
import Derived.Test.YtpmndnijejnhnaaDoorUPt
import Derived.Lib.Strings
import Derived.Lib.Join
import Derived.Lib.FieldsP
import Derived.Lib.ValidLaws
namespace Go.Proofs.YtpmndnijejnhnaaDoor

theorem isPt_read (x : UInt8) (r : List UInt8) : isPt (fixP (readL (x :: r)).1) = true := by
  have hneg : isPt (fixP (-1)) = true := by decide
  simp only [readL]
  split
  · have hx := x.toNat_lt
    rename_i h
    simp only [fixP, isPt, Bool.and_eq_true, Bool.or_eq_true, decide_eq_true_eq]
    rw [if_neg (by omega)]; omega
  · split
    · exact hneg
    · split
      · exact hneg
      · split
        · exact hneg
        · split
          · exact hneg
          · rename_i p _ h
            have hp : isPt p = true := by
              cases hq : isPt p with
              | true => rfl
              | false => exact absurd (Or.inr hq) h
            have h0 : 0 ≤ p := by simp only [isPt, Bool.and_eq_true, decide_eq_true_eq] at hp; omega
            show isPt (fixP p) = true
            rw [show fixP p = p from if_neg (by omega)]; exact hp
theorem fixedL_pts (l : List UInt8) : ∀ p ∈ fixedL l, isPt p = true := by
  suffices h : ∀ n, ∀ l : List UInt8, l.length ≤ n → ∀ p ∈ fixedL l, isPt p = true from h _ l (Nat.le_refl _)
  intro n
  induction n with
  | zero => intro l hl p hp; obtain rfl : l = [] := List.length_eq_zero_iff.1 (by omega); cases hp
  | succ n ih =>
    intro l hl p hp
    cases l with
    | nil => cases hp
    | cons x r =>
      rw [fixedL_cons] at hp
      rcases List.mem_cons.1 hp with rfl | hp
      · exact isPt_read x r
      · have := readL_le x r
        exact ih _ (by rw [List.length_drop, List.length_cons]; rw [List.length_cons] at hl; omega) p hp
def xmlP (p : Int) : Bool := (decide (32 ≤ p) && decide (p ≠ 65534) && decide (p ≠ 65535)) || decide (p = 9) || decide (p = 10) || decide (p = 13)
def repairL (l : List UInt8) : List UInt8 := textL (fixedL l)
def plainL (l : List UInt8) : List UInt8 := textL ((fixedL l).filter xmlP)
theorem fixedL_length (l : List UInt8) : (fixedL l).length ≤ l.length := by
  unfold fixedL; rw [List.length_map]; exact ptsL_length _ l (Nat.le_refl _)
theorem tn (n : Nat) (h : n < 256) : (UInt8.ofNat n).toNat = n := by rw [UInt8.toNat_ofNat', Nat.mod_eq_of_lt (by simpa using h)]
theorem ofn (n : Nat) (x : UInt8) (h : n = x.toNat) : UInt8.ofNat n = x := by subst h; simp
/-- What is read of a code point's bytes is the code point. -/
theorem readL_one (p : Nat) (r : List UInt8) (h : isPt (p : Int) = true) : readL (oneL p ++ r) = ((p : Int), (oneL p).length) := by
  have hp : p ≤ 1114111 ∧ (p < 55296 ∨ 57343 < p) := by
    simp only [isPt, Bool.and_eq_true, Bool.or_eq_true, decide_eq_true_eq] at h; omega
  have hf : ¬ isPt (p : Int) = false := by rw [h]; simp
  unfold oneL
  by_cases h1 : p < 128
  · rw [if_pos h1]
    show readL (UInt8.ofNat p :: r) = _
    simp only [readL]; rw [tn p (by omega), if_pos h1]; rfl
  · rw [if_neg h1]
    by_cases h2 : p < 2048
    · rw [if_pos h2]
      show readL (UInt8.ofNat (192 + p / 64) :: UInt8.ofNat (128 + p % 64) :: r) = _
      have hh : hdB (192 + p / 64) = some (2, 128, p / 64) := by
        unfold hdB; rw [if_pos (by omega), show 192 + p / 64 - 192 = p / 64 by omega]
      simp only [readL]
      rw [tn _ (by omega : 192 + p / 64 < 256), if_neg (by omega), hh]
      dsimp only
      rw [if_neg (by simp), show (2 - 1 : Nat) = 0 + 1 from rfl, contN_cons, tn _ (by omega : 128 + p % 64 < 256), if_neg (by omega)]
      simp only [contN]
      rw [show (64 * ((p / 64 : Nat) : Int) + ((128 + p % 64 : Nat) : Int) - 128) = (p : Int) by omega]
      rw [if_neg (by intro hc; rcases hc with hc | hc; · omega
                     · exact hf hc)]
      rfl
    · rw [if_neg h2]
      by_cases h3 : p < 65536
      · rw [if_pos h3]
        show readL (UInt8.ofNat (224 + p / 4096) :: UInt8.ofNat (128 + p / 64 % 64) :: UInt8.ofNat (128 + p % 64) :: r) = _
        have hh : hdB (224 + p / 4096) = some (3, 2048, p / 4096) := by
          unfold hdB; rw [if_neg (by omega), if_pos (by omega), show 224 + p / 4096 - 224 = p / 4096 by omega]
        simp only [readL]
        rw [tn _ (by omega : 224 + p / 4096 < 256), if_neg (by omega), hh]
        dsimp only
        rw [if_neg (by simp), show (3 - 1 : Nat) = 1 + 1 from rfl, contN_cons, tn _ (by omega : 128 + p / 64 % 64 < 256), if_neg (by omega),
          show (1 : Nat) = 0 + 1 from rfl, contN_cons, tn _ (by omega : 128 + p % 64 < 256), if_neg (by omega)]
        simp only [contN]
        rw [show (64 * (64 * ((p / 4096 : Nat) : Int) + ((128 + p / 64 % 64 : Nat) : Int) - 128) + ((128 + p % 64 : Nat) : Int) - 128) = (p : Int) by omega]
        rw [if_neg (by intro hc; rcases hc with hc | hc; · omega
                       · exact hf hc)]
        rfl
      · rw [if_neg h3]
        show readL (UInt8.ofNat (240 + p / 262144) :: UInt8.ofNat (128 + p / 4096 % 64) :: UInt8.ofNat (128 + p / 64 % 64) :: UInt8.ofNat (128 + p % 64) :: r) = _
        have hh : hdB (240 + p / 262144) = some (4, 65536, p / 262144) := by
          unfold hdB; rw [if_neg (by omega), if_neg (by omega), if_pos (by omega), show 240 + p / 262144 - 240 = p / 262144 by omega]
        simp only [readL]
        rw [tn _ (by omega : 240 + p / 262144 < 256), if_neg (by omega), hh]
        dsimp only
        rw [if_neg (by simp), show (4 - 1 : Nat) = 2 + 1 from rfl, contN_cons, tn _ (by omega : 128 + p / 4096 % 64 < 256), if_neg (by omega),
          show (2 : Nat) = 1 + 1 from rfl, contN_cons, tn _ (by omega : 128 + p / 64 % 64 < 256), if_neg (by omega),
          show (1 : Nat) = 0 + 1 from rfl, contN_cons, tn _ (by omega : 128 + p % 64 < 256), if_neg (by omega)]
        simp only [contN]
        rw [show (64 * (64 * (64 * ((p / 262144 : Nat) : Int) + ((128 + p / 4096 % 64 : Nat) : Int) - 128) + ((128 + p / 64 % 64 : Nat) : Int) - 128) + ((128 + p % 64 : Nat) : Int) - 128) = (p : Int) by omega]
        rw [if_neg (by intro hc; rcases hc with hc | hc; · omega
                       · exact hf hc)]
        rfl
/-- What is read, unless bad, has these bytes. -/
theorem one_read (x : UInt8) (r : List UInt8) (h : 0 ≤ (readL (x :: r)).1) : oneL (readL (x :: r)).1.toNat = (x :: r).take (readL (x :: r)).2 := by
  have hx := x.toNat_lt
  by_cases h0 : x.toNat < 128
  · have e : readL (x :: r) = (((x.toNat : Nat) : Int), 1) := by simp only [readL]; rw [if_pos h0]
    rw [e]
    show oneL ((x.toNat : Nat) : Int).toNat = [x]
    rw [Int.toNat_natCast]; unfold oneL; rw [if_pos h0, ofn _ x rfl]
  · cases hh : hdB x.toNat with
    | none =>
      have e : readL (x :: r) = (-1, 1) := by simp only [readL]; rw [if_neg h0, hh]
      rw [e] at h; exact absurd h (by decide)
    | some v =>
      obtain ⟨n, least, b⟩ := v
      rcases hdB_some hh with ⟨q1, q2, q3, q4, q5⟩ | ⟨q1, q2, q3, q4, q5⟩ | ⟨q1, q2, q3, q4, q5⟩
      · rw [q3, q4, q5] at hh
        clear q3 q4 q5
        match r with
        | [] => exfalso; simp only [readL] at h; rw [if_neg h0, hh] at h; simp at h
        | c :: r =>
          have hc0 := c.toNat_lt
          simp only [readL] at h ⊢
          rw [if_neg h0, hh] at h ⊢
          dsimp only at h ⊢
          rw [if_neg (by simp), show (2 - 1 : Nat) = 0 + 1 from rfl, contN_cons] at h ⊢
          by_cases hc : c.toNat < 128 ∨ 192 ≤ c.toNat
          · rw [if_pos hc] at h; exact absurd h (by decide)
          · rw [if_neg hc] at h ⊢
            simp only [contN] at h ⊢
            obtain ⟨q, hq⟩ : ∃ q : Nat, (64 * ((x.toNat - 192 : Nat) : Int) + (c.toNat : Nat) - 128) = (q : Int) := ⟨(64 * ((x.toNat - 192 : Nat) : Int) + (c.toNat : Nat) - 128).toNat, by omega⟩
            rw [hq] at h ⊢
            by_cases hb : ((q : Int) < ((128 : Nat) : Int) ∨ isPt (q : Int) = false)
            · rw [if_pos hb] at h; exact absurd h (by decide)
            · rw [if_neg hb]
              have hb1 : ¬ (q : Int) < ((128 : Nat) : Int) := fun hx => hb (.inl hx)
              show oneL ((q : Int).toNat) = [x, c]
              rw [Int.toNat_natCast]; unfold oneL
              rw [if_neg (by omega), if_pos (by omega), ofn _ x (by omega), ofn _ c (by omega)]
      · rw [q3, q4, q5] at hh
        clear q3 q4 q5
        match r with
        | [] => exfalso; simp only [readL] at h; rw [if_neg h0, hh] at h; simp at h
        | [c] => exfalso; simp only [readL] at h; rw [if_neg h0, hh] at h; simp at h
        | c :: c2 :: r =>
          have hc0 := c.toNat_lt
          have hc20 := c2.toNat_lt
          simp only [readL] at h ⊢
          rw [if_neg h0, hh] at h ⊢
          dsimp only at h ⊢
          rw [if_neg (by simp), show (3 - 1 : Nat) = 1 + 1 from rfl, contN_cons] at h ⊢
          by_cases hc : c.toNat < 128 ∨ 192 ≤ c.toNat
          · rw [if_pos hc] at h; exact absurd h (by decide)
          · rw [if_neg hc] at h ⊢
            rw [show (1 : Nat) = 0 + 1 from rfl, contN_cons] at h ⊢
            by_cases hc2 : c2.toNat < 128 ∨ 192 ≤ c2.toNat
            · rw [if_pos hc2] at h; exact absurd h (by decide)
            · rw [if_neg hc2] at h ⊢
              simp only [contN] at h ⊢
              obtain ⟨q, hq⟩ : ∃ q : Nat, (64 * (64 * ((x.toNat - 224 : Nat) : Int) + (c.toNat : Nat) - 128) + (c2.toNat : Nat) - 128) = (q : Int) := ⟨(64 * (64 * ((x.toNat - 224 : Nat) : Int) + (c.toNat : Nat) - 128) + (c2.toNat : Nat) - 128).toNat, by omega⟩
              rw [hq] at h ⊢
              by_cases hb : ((q : Int) < ((2048 : Nat) : Int) ∨ isPt (q : Int) = false)
              · rw [if_pos hb] at h; exact absurd h (by decide)
              · rw [if_neg hb]
                have hb1 : ¬ (q : Int) < ((2048 : Nat) : Int) := fun hx => hb (.inl hx)
                show oneL ((q : Int).toNat) = [x, c, c2]
                rw [Int.toNat_natCast]; unfold oneL
                rw [if_neg (by omega), if_neg (by omega), if_pos (by omega), ofn _ x (by omega), ofn _ c (by omega), ofn _ c2 (by omega)]
      · rw [q3, q4, q5] at hh
        clear q3 q4 q5
        match r with
        | [] => exfalso; simp only [readL] at h; rw [if_neg h0, hh] at h; simp at h
        | [c] => exfalso; simp only [readL] at h; rw [if_neg h0, hh] at h; simp at h
        | [c, c2] => exfalso; simp only [readL] at h; rw [if_neg h0, hh] at h; simp at h
        | c :: c2 :: c3 :: r =>
          have hc0 := c.toNat_lt
          have hc20 := c2.toNat_lt
          have hc30 := c3.toNat_lt
          simp only [readL] at h ⊢
          rw [if_neg h0, hh] at h ⊢
          dsimp only at h ⊢
          rw [if_neg (by simp), show (4 - 1 : Nat) = 2 + 1 from rfl, contN_cons] at h ⊢
          by_cases hc : c.toNat < 128 ∨ 192 ≤ c.toNat
          · rw [if_pos hc] at h; exact absurd h (by decide)
          · rw [if_neg hc] at h ⊢
            rw [show (2 : Nat) = 1 + 1 from rfl, contN_cons] at h ⊢
            by_cases hc2 : c2.toNat < 128 ∨ 192 ≤ c2.toNat
            · rw [if_pos hc2] at h; exact absurd h (by decide)
            · rw [if_neg hc2] at h ⊢
              rw [show (1 : Nat) = 0 + 1 from rfl, contN_cons] at h ⊢
              by_cases hc3 : c3.toNat < 128 ∨ 192 ≤ c3.toNat
              · rw [if_pos hc3] at h; exact absurd h (by decide)
              · rw [if_neg hc3] at h ⊢
                simp only [contN] at h ⊢
                obtain ⟨q, hq⟩ : ∃ q : Nat, (64 * (64 * (64 * ((x.toNat - 240 : Nat) : Int) + (c.toNat : Nat) - 128) + (c2.toNat : Nat) - 128) + (c3.toNat : Nat) - 128) = (q : Int) := ⟨(64 * (64 * (64 * ((x.toNat - 240 : Nat) : Int) + (c.toNat : Nat) - 128) + (c2.toNat : Nat) - 128) + (c3.toNat : Nat) - 128).toNat, by omega⟩
                rw [hq] at h ⊢
                by_cases hb : ((q : Int) < ((65536 : Nat) : Int) ∨ isPt (q : Int) = false)
                · rw [if_pos hb] at h; exact absurd h (by decide)
                · rw [if_neg hb]
                  have hb1 : ¬ (q : Int) < ((65536 : Nat) : Int) := fun hx => hb (.inl hx)
                  show oneL ((q : Int).toNat) = [x, c, c2, c3]
                  rw [Int.toNat_natCast]; unfold oneL
                  rw [if_neg (by omega), if_neg (by omega), if_neg (by omega), ofn _ x (by omega), ofn _ c (by omega), ofn _ c2 (by omega), ofn _ c3 (by omega)]

theorem textL_nil : textL [] = [] := rfl
theorem textL_cons (p : Int) (ps : List Int) : textL (p :: ps) = oneL p.toNat ++ textL ps := by simp [textL]
theorem textL_app (a b : List Int) : textL (a ++ b) = textL a ++ textL b := by unfold textL; rw [List.flatMap_append]
theorem oneL_cons (p : Nat) : ∃ x t, oneL p = x :: t := by
  have h1 := (oneL_length p).1
  cases h : oneL p with
  | nil => rw [h] at h1; simp at h1
  | cons x t => exact ⟨x, t, rfl⟩
theorem pts_text (ps : List Int) (r : List UInt8) : (∀ p ∈ ps, isPt p = true) → ptsL (textL ps ++ r) = ps ++ ptsL r := by
  induction ps with
  | nil => intro _; rfl
  | cons p ps ih =>
    intro hps
    have hp := hps p (by simp)
    obtain ⟨q, rfl⟩ : ∃ q : Nat, p = q := ⟨p.toNat, by have := isPt_range hp; omega⟩
    have hr := readL_one q (textL ps ++ r) hp
    have ih := ih fun p h => hps p (by simp [h])
    have e : textL ((q : Int) :: ps) ++ r = oneL q ++ (textL ps ++ r) := by rw [textL_cons, Int.toNat_natCast, List.append_assoc]
    rw [e]
    obtain ⟨x, t, hxt⟩ := oneL_cons q
    have hd : (oneL q ++ (textL ps ++ r)).drop (oneL q).length = textL ps ++ r := List.drop_left
    rw [hxt] at hr hd ⊢
    rw [List.cons_append] at hr hd ⊢
    rw [ptsL_cons, hr, hd, ih]
    rfl
theorem fixP_pts (ps : List Int) (h : ∀ p ∈ ps, isPt p = true) : ps.map fixP = ps := by
  have : ∀ p ∈ ps, fixP p = id p := by
    intro p hp
    have := isPt_range (h p hp)
    exact if_neg (by omega)
  rw [List.map_congr_left this, List.map_id]
theorem fixed_text (ps : List Int) (r : List UInt8) (h : ∀ p ∈ ps, isPt p = true) : fixedL (textL ps ++ r) = ps ++ fixedL r := by
  unfold fixedL
  rw [pts_text ps r h, List.map_append, fixP_pts ps h]
theorem fixed_textL (ps : List Int) (h : ∀ p ∈ ps, isPt p = true) : fixedL (textL ps) = ps := by
  have := fixed_text ps [] h
  rw [List.append_nil] at this
  rw [this]; exact List.append_nil _
theorem text_valid : ∀ (n : Nat) (l : List UInt8), l.length ≤ n → ((ptsL l).all fun p => decide (0 ≤ p)) = true → textL (fixedL l) = l := by
  intro n
  induction n with
  | zero => intro l h _; obtain rfl : l = [] := List.eq_nil_of_length_eq_zero (by omega); rfl
  | succ n ih =>
    intro l h hv
    match l with
    | [] => rfl
    | x :: r =>
      rw [ptsL_cons, List.all_cons, Bool.and_eq_true, decide_eq_true_eq] at hv
      have hle := readL_le x r
      have h2 := ih ((x :: r).drop (readL (x :: r)).2) (by simp at h ⊢; omega) hv.2
      rw [fixedL_cons, textL_cons, h2, show fixP (readL (x :: r)).1 = (readL (x :: r)).1 from if_neg (by omega), one_read x r hv.1, List.take_append_drop]
theorem all_pts (ps : List Int) (h : ∀ p ∈ ps, isPt p = true) : (ps.all fun p => decide (0 ≤ p)) = true := by
  rw [List.all_eq_true]; intro p hp; rw [decide_eq_true_eq]; exact (isPt_range (h p hp)).1
/-- A text is valid just where nothing is to be repaired. -/
theorem valid_iff (l : List UInt8) : ((ptsL l).all fun p => decide (0 ≤ p)) = decide (repairL l = l) := by
  rw [Bool.eq_iff_iff, decide_eq_true_eq]
  refine ⟨text_valid l.length l (Nat.le_refl _), fun h => ?_⟩
  have h1 : ptsL (repairL l) = fixedL l := by
    have := pts_text (fixedL l) [] (fixedL_pts l)
    rw [List.append_nil] at this
    exact this.trans (List.append_nil _)
  rw [h] at h1
  rw [h1]
  exact all_pts _ (fixedL_pts l)
theorem ptsL_text (ps : List Int) (h : ∀ p ∈ ps, isPt p = true) : ptsL (textL ps) = ps := by
  have := pts_text ps [] h
  rw [List.append_nil] at this
  exact this.trans (List.append_nil _)
theorem valid_text (ps : List Int) (h : ∀ p ∈ ps, isPt p = true) : ((ptsL (textL ps)).all fun p => decide (0 ≤ p)) = true := by
  rw [ptsL_text ps h]; exact all_pts ps h
theorem repair_text (ps : List Int) (h : ∀ p ∈ ps, isPt p = true) : repairL (textL ps) = textL ps := by unfold repairL; rw [fixed_textL ps h]

/-! ### Blanks -/
def isB (p : Int) : Bool := p == 32 || p == 9 || p == 10 || p == 13 || p == 12
/-- The reference's step: what is out, and whether blanks were passed. -/
def sqStep (s : List Int × Bool) (p : Int) : List Int × Bool :=
  if isB p then (s.1, true) else ((if s.2 && decide (0 < s.1.length) then s.1 ++ [32] else s.1) ++ [p], false)
def sqS (l : List Int) : List Int × Bool := l.foldl sqStep ([], false)
def sqL (l : List Int) : List Int := (sqS l).1
theorem sqS_snoc (l : List Int) (p : Int) : sqS (l ++ [p]) = sqStep (sqS l) p := by unfold sqS; rw [List.foldl_append]; rfl
def fdStep (s : List (List Int) × List Int) (p : Int) : List (List Int) × List Int :=
  if isB p then (if s.2 = [] then s else (s.1 ++ [s.2], [])) else (s.1, s.2 ++ [p])
def fdS (l : List Int) : List (List Int) × List Int := l.foldl fdStep ([], [])
def fdEnd (s : List (List Int) × List Int) : List (List Int) := if s.2 = [] then s.1 else s.1 ++ [s.2]
def fdL (l : List Int) : List (List Int) := fdEnd (fdS l)
def joinI : List (List Int) → List Int
  | [] => []
  | [f] => f
  | f :: g :: r => f ++ 32 :: joinI (g :: r)
theorem joinI_snoc (g : List Int) : ∀ fs : List (List Int), fs ≠ [] → joinI (fs ++ [g]) = joinI fs ++ 32 :: g
  | [], h => absurd rfl h
  | [f], _ => rfl
  | f :: k :: r, _ => by
    have ih := joinI_snoc g (k :: r) (by simp)
    show f ++ 32 :: joinI ((k :: r) ++ [g]) = (f ++ 32 :: joinI (k :: r)) ++ 32 :: g
    rw [ih]; simp
theorem foldl_rel {σ τ α : Type} (R : σ → τ → Prop) (f : σ → α → σ) (g : τ → α → τ) (hstep : ∀ s t x, R s t → R (f s x) (g t x)) : ∀ (l : List α) (s : σ) (t : τ), R s t → R (l.foldl f s) (l.foldl g t)
  | [], _, _, h => h
  | x :: l, s, t, h => foldl_rel R f g hstep l (f s x) (g t x) (hstep s t x h)
theorem joinI_ne : ∀ fs : List (List Int), fs ≠ [] → (∀ f ∈ fs, f ≠ []) → 0 < (joinI fs).length
  | [], h, _ => absurd rfl h
  | [f], _, h => List.length_pos_iff.2 (h f (by simp))
  | f :: k :: r, _, h => by show 0 < (f ++ 32 :: joinI (k :: r)).length; rw [List.length_append, List.length_cons]; omega
/-- Squeezed code points are the fields with one blank between them. -/
theorem sq_fd (l : List Int) : sqL l = joinI (fdL l) := by
  have h := foldl_rel (fun (s : List Int × Bool) (t : List (List Int) × List Int) => s.1 = joinI (fdEnd t) ∧ (t.2 = [] → t.1 ≠ [] → s.2 = true) ∧ (t.2 ≠ [] → s.2 = false) ∧ (∀ f ∈ t.1, f ≠ []))
    sqStep fdStep ?_ l ([], false) ([], []) ⟨rfl, fun _ h => absurd rfl h, fun h => absurd rfl h, fun f hf => by simp at hf⟩
  · exact h.1
  · rintro ⟨s1, s2⟩ ⟨t1, t2⟩ p ⟨h1, h2, h3, h4⟩
    dsimp only at h1 h2 h3 h4
    unfold sqStep fdStep
    by_cases hb : isB p = true
    · rw [if_pos hb, if_pos hb]
      by_cases ht : t2 = []
      · rw [if_pos ht]
        exact ⟨h1, fun _ _ => rfl, fun h => absurd ht h, h4⟩
      · rw [if_neg ht]
        refine ⟨?_, fun _ _ => rfl, fun h => absurd rfl h, ?_⟩
        · rw [h1]; unfold fdEnd; rw [if_neg ht, if_pos rfl]
        · intro f hf
          rcases List.mem_append.1 hf with hf | hf
          · exact h4 f hf
          · rw [List.mem_singleton.1 hf]; exact ht
    · rw [if_neg hb, if_neg hb]
      refine ⟨?_, fun h => absurd h (by simp), fun _ => rfl, h4⟩
      have he : fdEnd (t1, t2 ++ [p]) = t1 ++ [t2 ++ [p]] := by unfold fdEnd; rw [if_neg (by simp)]
      rw [he]
      dsimp only
      by_cases ht : t2 = []
      · subst ht
        have h1' : s1 = joinI t1 := by rw [h1]; unfold fdEnd; rw [if_pos rfl]
        by_cases hn : t1 = []
        · subst hn
          subst h1'
          have : decide (0 < (joinI ([] : List (List Int))).length) = false := rfl
          rw [this, Bool.and_false]
          rfl
        · have hl := joinI_ne t1 hn h4
          rw [h2 rfl hn, h1', joinI_snoc _ t1 hn, decide_eq_true hl, Bool.and_true, if_pos rfl]
          simp
      · rw [h3 ht, Bool.false_and, if_neg (by decide)]
        have h1' : s1 = joinI (t1 ++ [t2]) := by rw [h1]; unfold fdEnd; rw [if_neg ht]
        rw [h1']
        by_cases hn : t1 = []
        · subst hn; rfl
        · rw [joinI_snoc _ t1 hn, joinI_snoc _ t1 hn]; simp
def good (fs : List (List Int)) : Prop := ∀ f ∈ fs, f ≠ [] ∧ ∀ p ∈ f, isB p = false
theorem fd_good (l : List Int) : good (fdL l) := by
  have h := foldl_rel (fun (s : List (List Int) × List Int) (_ : Unit) => good s.1 ∧ ∀ p ∈ s.2, isB p = false) fdStep (fun _ _ => ()) ?_ l ([], []) () ⟨fun f hf => by simp at hf, fun p hp => by simp at hp⟩
  · obtain ⟨h1, h2⟩ := h
    unfold fdL fdEnd
    split
    · exact h1
    · rename_i hn
      intro f hf
      rcases List.mem_append.1 hf with hf | hf
      · exact h1 f hf
      · rw [List.mem_singleton.1 hf]; exact ⟨hn, h2⟩
  · rintro ⟨t1, t2⟩ _ p ⟨h1, h2⟩
    dsimp only at h1 h2
    unfold fdStep
    by_cases hb : isB p = true
    · rw [if_pos hb]
      by_cases ht : t2 = []
      · rw [if_pos ht]; exact ⟨h1, h2⟩
      · rw [if_neg ht]
        refine ⟨?_, fun p hp => by simp at hp⟩
        intro f hf
        rcases List.mem_append.1 hf with hf | hf
        · exact h1 f hf
        · rw [List.mem_singleton.1 hf]; exact ⟨ht, h2⟩
    · rw [if_neg hb]
      refine ⟨h1, ?_⟩
      intro q hq
      rcases List.mem_append.1 hq with hq | hq
      · exact h2 q hq
      · rw [List.mem_singleton.1 hq]; simpa using hb
theorem fd_from (l : List Int) (acc : List (List Int)) (cur : List Int) : l.foldl fdStep (acc, cur) = (acc ++ (l.foldl fdStep ([], cur)).1, (l.foldl fdStep ([], cur)).2) := by
  have h := foldl_rel (fun (s t : List (List Int) × List Int) => s = (acc ++ t.1, t.2)) fdStep fdStep ?_ l (acc, cur) ([], cur) (by simp)
  · exact h
  · rintro s ⟨t1, t2⟩ p rfl
    unfold fdStep
    dsimp only
    by_cases hb : isB p = true
    · rw [if_pos hb, if_pos hb]
      by_cases ht : t2 = []
      · rw [if_pos ht, if_pos ht]
      · rw [if_neg ht, if_neg ht]; simp
    · rw [if_neg hb, if_neg hb]
theorem fd_end_app (acc : List (List Int)) (t : List (List Int) × List Int) : fdEnd (acc ++ t.1, t.2) = acc ++ fdEnd t := by
  unfold fdEnd; dsimp only
  by_cases ht : t.2 = []
  · rw [if_pos ht, if_pos ht]
  · rw [if_neg ht, if_neg ht, List.append_assoc]
theorem fd_blank (a b : List Int) : fdL (a ++ 32 :: b) = fdL a ++ fdL b := by
  have e : fdS (a ++ 32 :: b) = b.foldl fdStep (fdL a, []) := by
    unfold fdS
    rw [List.foldl_append, List.foldl_cons]
    congr 1
    show fdStep (fdS a) 32 = (fdL a, [])
    unfold fdStep fdL fdEnd
    rw [if_pos (show isB 32 = true from rfl)]
    by_cases ht : (fdS a).2 = []
    · rw [if_pos ht, if_pos ht, ← ht]
    · rw [if_neg ht, if_neg ht]
  show fdEnd (fdS (a ++ 32 :: b)) = _
  rw [e, fd_from, fd_end_app]
  rfl
theorem fd_none (f : List Int) : (∀ p ∈ f, isB p = false) → fdS f = ([], f) := by
  have : ∀ (f c : List Int), (∀ p ∈ f, isB p = false) → f.foldl fdStep ([], c) = ([], c ++ f) := by
    intro f
    induction f with
    | nil => intro c _; simp
    | cons p f ih =>
      intro c h
      rw [List.foldl_cons]
      have hs : fdStep ([], c) p = ([], c ++ [p]) := by unfold fdStep; rw [h p (by simp)]; rfl
      rw [hs, ih _ fun q hq => h q (by simp [hq])]
      simp
  intro h
  exact (this f [] h).trans (by simp)
theorem fd_one (f : List Int) (h : f ≠ []) (h2 : ∀ p ∈ f, isB p = false) : fdL f = [f] := by
  unfold fdL; rw [fd_none f h2]; unfold fdEnd; rw [if_neg h]; rfl
theorem fd_join : ∀ fs : List (List Int), good fs → fdL (joinI fs) = fs
  | [], _ => rfl
  | [f], h => fd_one f (h f (by simp)).1 (h f (by simp)).2
  | f :: g :: r, h => by
    have ih := fd_join (g :: r) fun k hk => h k (by simp at hk ⊢; exact .inr hk)
    show fdL (f ++ 32 :: joinI (g :: r)) = _
    rw [fd_blank, ih, fd_one f (h f (by simp)).1 (h f (by simp)).2]
    rfl
theorem fd_sq (l : List Int) : fdL (sqL l) = fdL l := by rw [sq_fd, fd_join _ (fd_good l)]
theorem sq_idem (l : List Int) : sqL (sqL l) = sqL l := by rw [sq_fd (sqL l), fd_sq, ← sq_fd]
theorem sq_join (a b : List Int) : sqL (sqL a ++ 32 :: sqL b) = sqL (a ++ 32 :: b) := by
  rw [sq_fd, sq_fd (a ++ 32 :: b), fd_blank, fd_blank, fd_sq, fd_sq]
theorem sq_mem (l : List Int) : ∀ p ∈ sqL l, p ∈ l ∨ p = 32 := by
  have : ∀ (l : List Int) (s : List Int × Bool), ∀ p ∈ (l.foldl sqStep s).1, p ∈ s.1 ∨ p ∈ l ∨ p = 32 := by
    intro l
    induction l with
    | nil => intro s p h; exact .inl h
    | cons x l ih =>
      intro s p h
      rcases ih _ p h with h | h | h
      · unfold sqStep at h
        split at h
        · exact .inl h
        · dsimp only at h
          rcases List.mem_append.1 h with h | h
          · split at h
            · rcases List.mem_append.1 h with h | h
              · exact .inl h
              · exact .inr (.inr (List.mem_singleton.1 h))
            · exact .inl h
          · rw [List.mem_singleton.1 h]; exact .inr (.inl (by simp))
      · exact .inr (.inl (by simp [h]))
      · exact .inr (.inr h)
  intro p h
  rcases this l ([], false) p h with h | h
  · simp at h
  · exact h
theorem sq_pts (l : List Int) (h : ∀ p ∈ l, isPt p = true) : ∀ p ∈ sqL l, isPt p = true := by
  intro p hp
  rcases sq_mem l p hp with h' | rfl
  · exact h p h'
  · decide
theorem sq_length (l : List Int) : (sqL l).length ≤ 2 * l.length := by
  have : ∀ (l : List Int) (s : List Int × Bool), (l.foldl sqStep s).1.length ≤ s.1.length + 2 * l.length := by
    intro l
    induction l with
    | nil => intro s; simp
    | cons x l ih =>
      intro s
      rw [List.foldl_cons]
      have h1 := ih (sqStep s x)
      have h2 : (sqStep s x).1.length ≤ s.1.length + 2 := by
        unfold sqStep
        split
        · simp
        · dsimp only; split <;> simp
      simp only [List.length_cons]; omega
  have := this l ([], false)
  rw [List.length_nil, Nat.zero_add] at this
  exact this
def squeezeL (l : List UInt8) : List UInt8 := textL (sqL (fixedL l))

/-! ### Cut -/
def cutP (n : Int) (l : List Int) : List Int := if n < 1 then [] else if n < l.length then l.take (n - 1).toNat ++ [8230] else l
def cutL (n : Int) (l : List UInt8) : List UInt8 := textL (cutP n (fixedL l))
theorem cut_pts (n : Int) (l : List Int) (h : ∀ p ∈ l, isPt p = true) : ∀ p ∈ cutP n l, isPt p = true := by
  intro p hp
  unfold cutP at hp
  split at hp
  · simp at hp
  · split at hp
    · rcases List.mem_append.1 hp with hp | hp
      · exact h p (List.mem_of_mem_take hp)
      · rw [List.mem_singleton.1 hp]; decide
    · exact h p hp
theorem cut_length (n : Int) (l : List Int) : ((cutP n l).length : Int) ≤ max n 0 := by
  unfold cutP
  split
  · show ((0 : Nat) : Int) ≤ _; omega
  · split
    · rw [List.length_append, List.length_take, List.length_singleton]; omega
    · omega
theorem cut_idem (n : Int) (l : List Int) : cutP n (cutP n l) = cutP n l := by
  have h := cut_length n l
  by_cases h1 : n < 1
  · have e : ∀ l, cutP n l = [] := fun l => by unfold cutP; rw [if_pos h1]
    rw [e, e]
  · generalize cutP n l = k at h
    unfold cutP
    rw [if_neg h1, if_neg (by omega)]
end Go.Proofs.YtpmndnijejnhnaaDoor
