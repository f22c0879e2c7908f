/-
  Links, plain: the document's way to take a link apart.
-/
import Derived.Test.YtcpkkaimingnlaaGreatDoorLkc
namespace Go.Proofs.YtcpkkaimingnlaaGreatDoor

/-- A digit of a base; none. -/
def digR (c : UInt8) (base : Nat) : Option Nat :=
  let n := if digB c = true then some (c.toNat - 48) else if decide (97 ≤ c.toNat) && decide (c.toNat ≤ 102) then some (c.toNat - 87) else if decide (65 ≤ c.toNat) && decide (c.toNat ≤ 70) then some (c.toNat - 55) else none
  n.bind fun d => if base ≤ d then none else some d
def numGo (base : Nat) : Nat → Bs → Nat → Nat → Nat × Nat
  | 0, _, n, k => (n, k)
  | _ + 1, [], n, k => (n, k)
  | m + 1, c :: r, n, k => match digR c base with
    | none => (n, k)
    | some d => numGo base m r (base * n + d) (k + 1)
def numR (base most : Nat) (s : Bs) : Nat × Nat := numGo base most s 0 0
def rightR : Bs → Bool
  | [] => true
  | c :: r => decide (33 ≤ c.toNat) && decide (c.toNat ≤ 126) && !marksB.contains c && (c != 37 || !decide ((numR 16 2 r).2 < 2)) && rightR r
def endR (sch host : Bs) (port : Nat) (t : Bs) : Option Link :=
  match t with
  | [] => some ⟨sch, host, port, [], [], [], false, false⟩
  | c :: r =>
    if c ≠ 47 ∧ c ≠ 63 ∧ c ≠ 35 then none
    else if rightR (c :: r) = false then none
    else if (tailR (c :: r)).2.2.1.contains 35 then none
    else some ⟨sch, host, port, (tailR (c :: r)).1, (tailR (c :: r)).2.1, (tailR (c :: r)).2.2.1, (tailR (c :: r)).2.2.2.1, (tailR (c :: r)).2.2.2.2⟩
def afterR (sch h t : Bs) : Option Link :=
  match t with
  | 58 :: u => if (numR 10 5 u).2 = 0 ∨ u.head? = some 48 ∨ 65535 < (numR 10 5 u).1 then none else endR sch h (numR 10 5 u).1 (u.drop (numR 10 5 u).2)
  | t => endR sch h 0 t
theorem afterR_no (sch h t : Bs) (ht : ∀ u, t ≠ 58 :: u) : afterR sch h t = endR sch h 0 t := by
  unfold afterR
  split
  · rename_i u; exact absurd rfl (ht u)
  · rfl
def hostR (sch rest : Bs) : Option Link :=
  let h := rest.takeWhile (out [58, 47, 63, 35])
  let t := rest.dropWhile (out [58, 47, 63, 35])
  if h.all hostB = false then none
  else if h.length < 1 ∨ 253 < h.length then none
  else afterR sch h t
def parseR (s : Bs) : Option Link :=
  if 2048 < s.length then none
  else if isHttp (small (s.takeWhile (ne 58))) = false ∨ s.length < (s.takeWhile (ne 58)).length + 3 ∨ (s.dropWhile (ne 58)).take 3 ≠ [58, 47, 47] then none
  else hostR (s.takeWhile (ne 58)) ((s.dropWhile (ne 58)).drop 3)

theorem digR_10 (c : UInt8) : digR c 10 = if digB c = true then some (c.toNat - 48) else none := by
  have := c.toNat_lt
  unfold digR
  dsimp only
  by_cases h : digB c = true
  · rw [if_pos h, if_pos h]
    unfold digB at h
    simp only [Bool.and_eq_true, decide_eq_true_eq] at h
    show (if 10 ≤ c.toNat - 48 then none else some _) = _
    rw [if_neg (by omega)]
  · rw [if_neg h, if_neg h]
    split
    · rename_i h2
      simp only [Bool.and_eq_true, decide_eq_true_eq] at h2
      show (if 10 ≤ c.toNat - 87 then none else some _) = _
      rw [if_pos (by omega)]
    · split
      · rename_i h2
        simp only [Bool.and_eq_true, decide_eq_true_eq] at h2
        show (if 10 ≤ c.toNat - 55 then none else some _) = _
        rw [if_pos (by omega)]
      · rfl
theorem digR_16 (c : UInt8) : digR c 16 = if hexB c = true then some (hexV c) else none := by
  have := c.toNat_lt
  unfold digR hexB hexV
  dsimp only
  by_cases h : digB c = true
  · rw [if_pos h, h]
    unfold digB at h
    simp only [Bool.and_eq_true, decide_eq_true_eq] at h
    show (if 16 ≤ c.toNat - 48 then none else some _) = _
    rw [if_neg (by omega), if_pos (by simp), if_pos (by omega)]
  · rw [if_neg h]
    have h' : digB c = false := by simpa using h
    rw [h', Bool.false_or]
    split
    · rename_i h2
      rw [h2]
      simp only [Bool.and_eq_true, decide_eq_true_eq] at h2
      show (if 16 ≤ c.toNat - 87 then none else some _) = _
      rw [if_neg (by omega), if_pos (by simp), if_neg (by omega), if_neg (by omega)]
    · rename_i h2
      have h2' : (decide (97 ≤ c.toNat) && decide (c.toNat ≤ 102)) = false := by simpa using h2
      rw [h2', Bool.false_or]
      split
      · rename_i h3
        simp only [Bool.and_eq_true, decide_eq_true_eq] at h3
        show (if 16 ≤ c.toNat - 55 then none else some _) = _
        rw [if_neg (by omega), if_neg (by omega), if_pos (by omega)]
      · rfl
theorem hex2_cons (a b : UInt8) (r : Bs) : hex2 (a :: b :: r) = (hexB a && hexB b) := rfl
theorem numR_hex (s : Bs) : decide ((numR 16 2 s).2 < 2) = !hex2 s ∧ (hex2 s = true → ∃ a b r, s = a :: b :: r ∧ (numR 16 2 s).1 = 16 * hexV a + hexV b ∧ (numR 16 2 s).2 = 2) := by
  match s with
  | [] => exact ⟨rfl, fun h => by cases h⟩
  | [a] =>
    refine ⟨?_, fun h => by cases h⟩
    unfold numR numGo
    rw [digR_16]
    split
    · rfl
    · rename_i h
      split at h
      · injection h with h; rfl
      · cases h
  | a :: b :: r =>
    rw [hex2_cons]
    unfold numR numGo
    rw [digR_16]
    by_cases ha : hexB a = true
    · rw [if_pos ha, ha]
      dsimp only
      unfold numGo
      rw [digR_16]
      by_cases hb : hexB b = true
      · rw [if_pos hb, hb]
        dsimp only
        unfold numGo
        exact ⟨rfl, fun _ => ⟨a, b, r, rfl, by omega, rfl⟩⟩
      · have hb : hexB b = false := by simpa using hb
        rw [if_neg (by rw [hb]; decide), hb]
        exact ⟨rfl, fun h => by cases h⟩
    · have ha : hexB a = false := by simpa using ha
      rw [if_neg (by rw [ha]; decide), ha]
      exact ⟨rfl, fun h => by cases h⟩
theorem rightR_eq : ∀ s : Bs, rightR s = rightL s
  | [] => rfl
  | c :: r => by
    unfold rightR rightL
    rw [rightR_eq r, (numR_hex r).1, Bool.not_not]
    rfl
/-- Digits at the beginning. -/
theorem numGo_10 : ∀ (m : Nat) (ds u : Bs) (n k : Nat), (∀ c ∈ ds, digB c = true) → (∀ y r, u = y :: r → digB y = false) →
    numGo 10 m (ds ++ u) n k = (((ds.take m).foldl (fun n c => 10 * n + (c.toNat - 48)) n), k + min m ds.length)
  | 0, ds, u, n, k, _, _ => by simp [numGo]
  | m + 1, [], [], n, k, _, _ => by simp [numGo]
  | m + 1, [], y :: u, n, k, _, hu => by
    have := hu y u rfl
    rw [List.nil_append]
    unfold numGo
    rw [digR_10, if_neg (by rw [this]; decide)]
    simp
  | m + 1, c :: ds, u, n, k, hd, hu => by
    have hc := hd c List.mem_cons_self
    rw [List.cons_append]
    unfold numGo
    rw [digR_10, if_pos hc]
    dsimp only
    rw [numGo_10 m ds u _ _ (fun x hx => hd x (List.mem_cons_of_mem _ hx)) hu, List.take_succ_cons, List.foldl_cons, List.length_cons]
    congr 1
    omega
theorem numR_10 (ds u : Bs) (hd : ∀ c ∈ ds, digB c = true) (hu : ∀ y r, u = y :: r → digB y = false) : numR 10 5 (ds ++ u) = (valD (ds.take 5), min 5 ds.length) := by
  unfold numR
  rw [numGo_10 5 ds u 0 0 hd hu, Nat.zero_add]; rfl
theorem contains_index (c : UInt8) (s : Bs) : s.contains c = true ↔ 0 ≤ Lib.index s [c] := by
  by_cases h : 0 ≤ Lib.index s [c]
  · refine ⟨fun _ => h, fun _ => ?_⟩
    cases hc : s.contains c with
    | true => rfl
    | false =>
      refine absurd h ((index_no c s).2 fun x hx e => ?_)
      subst e
      simp at hc
      exact hc hx
  · refine ⟨fun hc => ?_, fun h2 => absurd h2 h⟩
    have := (index_no c s).1 h
    simp at hc
    exact absurd rfl (this c hc)
theorem endR_eq (sch host : Bs) (port : Nat) (t : Bs) (ht : ∀ y r, t = y :: r → y = 47 ∨ y = 63 ∨ y = 35) :
    endR sch host port t = if rightL t = false then none else if 0 ≤ Lib.index (tailP t).2.2.1 [35] then none else some ⟨sch, host, port, (tailP t).1, (tailP t).2.1, (tailP t).2.2.1, (tailP t).2.2.2.1, (tailP t).2.2.2.2⟩ := by
  cases t with
  | nil => rfl
  | cons c r =>
    unfold endR
    dsimp only
    have := ht c r rfl
    rw [if_neg (by rintro ⟨h1, h2, h3⟩; rcases this with h | h | h <;> contradiction), rightR_eq, tailR_eq]
    by_cases h : rightL (c :: r) = false
    · rw [if_pos h, if_pos h]
    · rw [if_neg h, if_neg h]
      by_cases h2 : 0 ≤ Lib.index (tailP (c :: r)).2.2.1 [35]
      · rw [if_pos h2, if_pos ((contains_index _ _).2 h2)]
      · rw [if_neg h2, if_neg (fun h3 => h2 ((contains_index _ _).1 h3))]
theorem hostR_eq (sch rest : Bs) : hostR sch rest = restP sch rest := by
  have a1 := tw_dw (out [47, 63, 35]) rest
  have a2 := tw_mem (p := out [47, 63, 35]) rest
  have a3 := dw_head (p := out [47, 63, 35]) rest
  unfold restP
  dsimp only
  rw [take_stop, drop_stop]
  generalize rest.takeWhile (out [47, 63, 35]) = hp at *
  generalize rest.dropWhile (out [47, 63, 35]) = tail at *
  have b1 := tw_dw (ne 58) hp
  have b2 := tw_mem (p := ne 58) hp
  have b3 := dw_head (p := ne 58) hp
  rw [cut1]
  dsimp only
  generalize hp.takeWhile (ne 58) = name at *
  generalize hp.dropWhile (ne 58) = num at *
  have ht : ∀ y r, tail = y :: r → y = 47 ∨ y = 63 ∨ y = 35 := by
    intro y r h
    have := out_false.1 (a3 y r h)
    simpa only [List.mem_cons, List.not_mem_nil, or_false] using this
  have hnum : ∀ x ∈ num, x ≠ 47 ∧ x ≠ 63 ∧ x ≠ 35 := by
    intro x hx
    have := out_true.1 (a2 x (by rw [← b1]; exact List.mem_append_right _ hx))
    simp only [List.mem_cons, List.not_mem_nil, or_false] at this
    exact ⟨fun h => this (.inl h), fun h => this (.inr (.inl h)), fun h => this (.inr (.inr h))⟩
  have hname : ∀ x ∈ name, x ≠ 58 ∧ x ≠ 47 ∧ x ≠ 63 ∧ x ≠ 35 := by
    intro x hx
    have := out_true.1 (a2 x (by rw [← b1]; exact List.mem_append_left _ hx))
    simp only [List.mem_cons, List.not_mem_nil, or_false] at this
    exact ⟨ne_true.1 (b2 x hx), fun h => this (.inl h), fun h => this (.inr (.inl h)), fun h => this (.inr (.inr h))⟩
  have e : rest.takeWhile (out [58, 47, 63, 35]) = name ∧ rest.dropWhile (out [58, 47, 63, 35]) = num ++ tail := by
    rw [← a1, ← b1, List.append_assoc]
    refine tw_app ?_ ?_
    · intro x hx
      rw [out_true]
      simp only [List.mem_cons, List.not_mem_nil, or_false]
      have := hname x hx
      rintro (h | h | h | h)
      · exact this.1 h
      · exact this.2.1 h
      · exact this.2.2.1 h
      · exact this.2.2.2 h
    · intro y r hy
      rw [out_false]
      simp only [List.mem_cons, List.not_mem_nil, or_false]
      cases num with
      | nil => exact .inr (ht y r hy)
      | cons c u => injection hy with hy _; rw [← hy]; exact .inl (ne_false.1 (b3 c u rfl))
  unfold hostR
  dsimp only
  rw [e.1, e.2]
  by_cases c3 : name.all hostB = false
  · rw [if_pos c3, if_pos (.inr (.inr (.inl c3)))]
  · rw [if_neg c3]
    by_cases c1 : name.length < 1 ∨ 253 < name.length
    · rw [if_pos c1, if_pos (by rcases c1 with h | h; exact .inl h; exact .inr (.inl h))]
    · rw [if_neg c1]
      cases num with
      | nil =>
        rw [List.nil_append]
        have hc : ∀ u, tail ≠ 58 :: u := fun u hu => by have := ht 58 u hu; exact absurd this (by decide)
        rw [afterR_no _ _ _ hc, endR_eq _ _ _ _ ht]
        have hpz : (!List.isEmpty ([] : Bs)) = false := rfl
        simp only [hpz]
        by_cases c5 : rightL tail = false
        · rw [if_pos c5, if_pos (.inr (.inr (.inr (.inr c5))))]
        · have hneg : ¬ (name.length < 1 ∨ 253 < name.length ∨ name.all hostB = false ∨ (false = true ∧ portP (([] : Bs).drop 1) = 0) ∨ rightL tail = false) := by
            rintro (h | h | h | ⟨h, _⟩ | h)
            · exact c1 (.inl h)
            · exact c1 (.inr h)
            · exact c3 h
            · cases h
            · exact c5 h
          rw [if_neg c5, if_neg hneg]
          rfl
      | cons c u =>
        have hc58 := ne_false.1 (b3 c u rfl)
        subst hc58
        rw [List.cons_append]
        show (if (numR 10 5 (u ++ tail)).2 = 0 ∨ (u ++ tail).head? = some 48 ∨ 65535 < (numR 10 5 (u ++ tail)).1 then none else endR sch name (numR 10 5 (u ++ tail)).1 ((u ++ tail).drop (numR 10 5 (u ++ tail)).2)) = _
        have hz : (!List.isEmpty (58 :: u)) = true := rfl
        simp only [hz, List.drop_succ_cons, List.drop_zero, true_and, if_true]
        -- digits, and what follows them
        have d1 := tw_dw digB u
        have d2 := tw_mem (p := digB) u
        have d3 := dw_head (p := digB) u
        generalize u.takeWhile digB = ds at *
        generalize hw : u.dropWhile digB = w at *
        have hwt : ∀ y r, w ++ tail = y :: r → digB y = false := by
          intro y r h
          cases w with
          | nil =>
            rcases ht y r h with rfl | rfl | rfl <;> decide
          | cons a b => injection h with h _; rw [← h]; exact d3 a b rfl
        have hN := numR_10 ds (w ++ tail) d2 hwt
        rw [← List.append_assoc, d1] at hN
        have hN : numR 10 5 (u ++ tail) = (valD (ds.take 5), min 5 ds.length) := hN
        rw [hN]
        dsimp only
        have hhead : (u ++ tail).head? = some 48 → ds.head? = some 48 ∨ ds = [] := by
          intro h
          cases ds with
          | nil => exact .inr rfl
          | cons a b => rw [← d1, List.cons_append, List.cons_append] at h; exact .inl h
        by_cases hok : u ≠ [] ∧ u.all digB = true ∧ valD u ≤ 65535 ∧ u.head? ≠ some 48
        · obtain ⟨o1, o2, o3, o4⟩ := hok
          have hall : u.takeWhile digB = u ∧ u.dropWhile digB = [] := tw_all (List.all_eq_true.1 o2)
          have hw0 : w = [] := by rw [← hw]; exact hall.2
          subst hw0
          rw [List.append_nil] at d1
          subst d1
          obtain ⟨v1, v2⟩ := decT_val ds.length ds (Nat.le_refl _) o1 d2 o4
          have hlen : ds.length ≤ 5 := by
            have h5 := (decT_spec (valD ds)).2.2.2.2
            rw [v1] at h5
            refine Classical.byContradiction fun hc => ?_
            have h6 : 10 ^ 6 ≤ 10 ^ ds.length := Nat.pow_le_pow_right (by decide) (by omega)
            have : max (valD ds) 1 ≤ 65535 := by omega
            have : (10 : Nat) ^ 6 = 1000000 := by decide
            omega
          rw [List.take_of_length_le hlen, show min 5 ds.length = ds.length by omega]
          have hlp := List.length_pos_iff.2 o1
          rw [if_neg (by
            rintro (h | h | h)
            · omega
            · cases ds with
              | nil => exact o1 rfl
              | cons a b => exact o4 (by rw [List.cons_append] at h; exact h)
            · omega), List.drop_left, endR_eq _ _ _ _ ht]
          have hp : portP ds = valD ds := by unfold portP; rw [if_pos ⟨o1, o2, o3, o4⟩]
          rw [hp]
          by_cases c5 : rightL tail = false
          · rw [if_pos c5, if_pos (.inr (.inr (.inr (.inr c5))))]
          · have hneg : ¬ (name.length < 1 ∨ 253 < name.length ∨ name.all hostB = false ∨ valD ds = 0 ∨ rightL tail = false) := by
              rintro (h | h | h | h | h)
              · exact c1 (.inl h)
              · exact c1 (.inr h)
              · exact c3 h
              · omega
              · exact c5 h
            rw [if_neg c5, if_neg hneg]
        · have hp : portP u = 0 := by unfold portP; rw [if_neg hok]
          rw [if_pos (show name.length < 1 ∨ 253 < name.length ∨ name.all hostB = false ∨ portP u = 0 ∨ rightL tail = false from .inr (.inr (.inr (.inl hp))))]
          by_cases hbad : min 5 ds.length = 0 ∨ (u ++ tail).head? = some 48 ∨ 65535 < valD (ds.take 5)
          · rw [if_pos hbad]
          · rw [if_neg hbad]
            have h1 : ds ≠ [] := by
              intro h; apply hbad; left; rw [h]; rfl
            have h2 : ds.head? ≠ some 48 := by
              intro h; apply hbad; right; left
              cases ds with
              | nil => cases h
              | cons a b => rw [← d1]; exact h
            -- what is left begins with a byte that is no mark
            obtain ⟨y, r, hy⟩ : ∃ y r, (u ++ tail).drop (min 5 ds.length) = y :: r ∧ (y ≠ 47 ∧ y ≠ 63 ∧ y ≠ 35) := by
              by_cases h5 : ds.length ≤ 5
              · rw [show min 5 ds.length = ds.length by omega]
                rw [← d1, List.append_assoc, List.drop_left]
                cases w with
                | nil =>
                  exfalso
                  apply hok
                  rw [List.append_nil] at d1
                  subst d1
                  refine ⟨h1, List.all_eq_true.2 d2, ?_, h2⟩
                  refine Nat.le_of_not_lt fun h => hbad (.inr (.inr ?_))
                  rw [List.take_of_length_le h5]; exact h
                | cons a b => exact ⟨a, b ++ tail, rfl, hnum a (by rw [← d1]; simp)⟩
              · have h55 : min 5 ds.length = 5 := by omega
                rw [h55]
                cases hdd : ds.drop 5 with
                | nil => have := congrArg List.length hdd; rw [List.length_drop, List.length_nil] at this; omega
                | cons a b =>
                  refine ⟨a, b ++ w ++ tail, ?_, ?_⟩
                  · rw [← d1, List.append_assoc, List.drop_append_of_le_length (by omega), hdd]; simp
                  · have : a ∈ ds := List.mem_of_mem_drop (by rw [hdd]; exact List.mem_cons_self)
                    have := dig_not (d2 a this)
                    exact this.2
            rw [hy.1]
            unfold endR
            dsimp only
            rw [if_pos hy.2]
theorem parseR_eq (s : Bs) : parseR s = parseP s := by
  unfold parseR parseP
  by_cases h1 : 2048 < s.length
  · rw [if_pos h1, if_pos h1]
  · rw [if_neg h1, if_neg h1]
    have a1 := tw_dw (ne 58) s
    have a2 := tw_mem (p := ne 58) s
    by_cases h2 : isHttp (small (s.takeWhile (ne 58))) = false ∨ s.length < (s.takeWhile (ne 58)).length + 3 ∨ (s.dropWhile (ne 58)).take 3 ≠ [58, 47, 47]
    · rw [if_pos h2]
      by_cases h3 : (Lib.cut s [58, 47, 47]).2.2 = false ∨ isHttp (Lib.toLowerD (Lib.cut s [58, 47, 47]).1) = false
      · rw [if_pos h3]
      · exfalso
        have c1 : (Lib.cut s [58, 47, 47]).2.2 = true := by
          cases h : (Lib.cut s [58, 47, 47]).2.2 with
          | true => rfl
          | false => exact absurd (.inl h) h3
        have c2 : isHttp (Lib.toLowerD (Lib.cut s [58, 47, 47]).1) = true := by
          cases h : isHttp (Lib.toLowerD (Lib.cut s [58, 47, 47]).1) with
          | true => rfl
          | false => exact absurd (.inr h) h3
        rw [low_http] at c2
        have hs := cut_eq s _ c1
        generalize (Lib.cut s [58, 47, 47]).1 = sch at *
        generalize (Lib.cut s [58, 47, 47]).2.1 = rest at *
        have e : s.takeWhile (ne 58) = sch ∧ s.dropWhile (ne 58) = 58 :: 47 :: 47 :: rest := by
          rw [hs, List.append_assoc]
          refine tw_app (fun x hx => ne_true.2 (sch_not c2 x hx)) ?_
          intro y r hy
          injection hy with hy _
          rw [← hy]; exact ne_false.2 rfl
        rw [e.1, e.2] at h2
        rcases h2 with h | h | h
        · rw [c2] at h; cases h
        · rw [hs] at h; simp only [List.length_append, List.length_cons, List.length_nil] at h; omega
        · exact h rfl
    · rw [if_neg h2]
      have c1 : isHttp (small (s.takeWhile (ne 58))) = true := by
        cases h : isHttp (small (s.takeWhile (ne 58))) with
        | true => rfl
        | false => exact absurd (.inl h) h2
      have c3 : (s.dropWhile (ne 58)).take 3 = [58, 47, 47] := Classical.byContradiction fun h => h2 (.inr (.inr h))
      have hd : s.dropWhile (ne 58) = 58 :: 47 :: 47 :: (s.dropWhile (ne 58)).drop 3 := by
        conv => lhs; rw [← List.take_append_drop 3 (s.dropWhile (ne 58)), c3]
        rfl
      have hc := cut_sch s (s.takeWhile (ne 58)) ((s.dropWhile (ne 58)).drop 3) (sch_not c1) (by rw [← hd, a1])
      rw [hc]
      dsimp only
      rw [if_neg (by rw [low_http, c1]; simp)]
      exact hostR_eq _ _
end Go.Proofs.YtcpkkaimingnlaaGreatDoor
