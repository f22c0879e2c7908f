/-
  Texts of this seat, joined: Rpa, Rwo, Rwd. Each says what it proves, ahead of itself.
-/
import Derived.Test.YthilkpjdfjjikaaDoorDecM
import Derived.Test.YthilkpjdfjjikaaDoorTag
import Derived.Test.YthilkpjdfjjikaaDoorLayM
set_option linter.unusedVariables false
set_option linter.unusedSimpArgs false
section
/-
  The document's path.
-/
namespace Go.Proofs.YthilkpjdfjjikaaDoor
open Go.RowKit

/-- What the document's path answers. -/
def PathO (w : World) (B : Nat) (v : Value) (ok : Bool) : Option (List Bs) → Prop
  | none => ok = false
  | some l => ok = true ∧ w.ownsRow B 9 1 v l.length (strs l)
theorem splitL_le (c : UInt8) : ∀ s : Bs, ∀ x ∈ splitL c s, x.length ≤ s.length
  | [], x, h => by
    have : x = [] := by simpa [splitL] using h
    rw [this]; exact Nat.le_refl _
  | y :: r, x, h => by
    have ih := splitL_le c r
    unfold splitL at h
    rw [List.length_cons]
    split at h
    · rcases List.mem_cons.1 h with rfl | h
      · simp
      · have := ih x h; omega
    · cases hs : splitL c r with
      | nil => exact absurd hs (splitL_ne c r)
      | cons a t =>
        rw [hs] at h ih
        rcases List.mem_cons.1 h with rfl | h
        · have := ih a (List.mem_cons_self ..); simp; omega
        · have := ih x (List.mem_cons_of_mem _ h); omega
set_option maxHeartbeats 2000000 in
set_option maxRecDepth 100000 in
theorem pathR_any (s : Bs) (w : World) (hl : s.length ≤ 900000) :
    Calls Tryd.prog 58 #[.string (bs s)] w fun e w' => ∃ v ok, e = .returned (.tuple #[v, .bool ok]) ∧ PathO w' w.heap.size v ok (pathL s) ∧ Below w.heap.size w w' := by
  have H74 := Lib.hid (splitR_any s 46 w (by omega))
  have hle := splitL_le 46 s
  have hp : pathL s = if 5 < (splitL 46 s).length ∨ (splitL 46 s).any (fun x => !nameB x) = true then none else some (splitL 46 s) := by
    unfold pathL; rw [splitDot_eq]
  obtain ⟨L, hL⟩ : ∃ L, L = splitL 46 s := ⟨_, rfl⟩
  rw [← hL] at H74 hp hle
  clear hL
  obtain ⟨PL, hPL⟩ : ∃ PL, PL = pathL s := ⟨_, rfl⟩
  rw [← hPL] at hp ⊢
  have HP := Lib.hid hp
  have HLE := Lib.hid hle
  clear hPL hp hle
  obtain ⟨n, hn⟩ : ∃ n, n = L.length := ⟨_, rfl⟩
  rw [← hn] at H74 HP
  have Hn := Lib.hid hn; clear hn
  have H74 : Hid (Calls Tryd.prog 74 #[.string (bs s), .int .u8 46] w fun e w' => ∃ v, e = .returned v ∧ w'.ownsRow w.heap.size 9 1 v n (strs L) ∧ n ≤ s.length + 1 ∧ Below w.heap.size w w') := H74
  go_enter Tryd.func58, Tryd.ntmps58
  go_wp2_with fail
  refine H74.out.mono ?_
  rintro e w1 ⟨v, rfl, ho, hnb, hb1⟩
  obtain ⟨A, c, rfl, hc, _⟩ := own_form ho
  have hrd := Rd.of_own (show w1.ownsRow w.heap.size 9 1 (.slice A n c) n (strs L) from ho)
  have HO := Lib.hid ho; have HB := Lib.hid hb1; have HRD := Lib.hid hrd
  have hs1 := hb1.size
  clear ho hb1 H74 hrd
  go_wp2_with fail
  go_loopw [11] (fun i wr => ∃ j : Nat, i = .int .i64 (j : Int) ∧ j ≤ n ∧ (∀ k, k < j → nameB (L.getD k []) = true) ∧ Below w1.heap.size w1 wr) (fun i _ => n - (intOf i).toNat)
  case atStart => exact ⟨0, rfl, Nat.zero_le _, fun k hk => absurd hk (Nat.not_lt_zero k), Below.refl _ _⟩
  case round =>
    obtain ⟨j, rfl, hj, hno, hbr⟩ := hrel
    have HN := Lib.hid hno; have HBR := Lib.hid hbr
    have hrd := HRD.out.keep hbr
    have hbt := HB.out.trans (hbr.mono hs1)
    have HBT := Lib.hid hbt
    have hst := hbt.size
    clear hno hbr hbt
    by_cases hjn : j < n
    · have tj : decide ((j : Int) < (n : Int)) = true := by rw [decide_eq_true_eq]; omega
      obtain ⟨b, off, rfl, hb, hcell⟩ := hrd.at_ (by omega)
      have hcj := hcell j (by simpa using hjn)
      rw [strs_at L j (by rw [← Hn.out]; exact hjn)] at hcj
      have hlj : (L.getD j []).length ≤ 1000000 := by
        have := HLE.out (L.getD j []) (by rw [List.getD_eq_getElem?_getD, List.getElem?_eq_getElem (by rw [← Hn.out]; exact hjn)]; exact List.getElem_mem _)
        omega
      have H59 := Lib.hid (nameR_any (L.getD j []) wr hlj)
      have HNJ : Hid (nameB (L.getD j []) = nameB (L.getD j [])) := Lib.hid rfl
      obtain ⟨X, hX⟩ : ∃ X, X = bs (L.getD j []) := ⟨_, rfl⟩
      rw [← hX] at hcj H59
      clear hX hcell hrd hlj
      cases hnm : nameB (L.getD j []) with
      | true =>
        rw [hnm] at H59
        have HNM := Lib.hid hnm
        clear hnm
        go_wp2_with (go_at_call 59; refine H59.out.mono ?_; rintro e w2 ⟨rfl, hb2⟩)
        refine ⟨⟨j + 1, by go_num, by omega, ?_, HBR.out.trans (hb2.mono HBR.out.size)⟩, by simp [intOf]; omega⟩
        intro k hk
        by_cases h : k < j
        · exact HN.out k h
        · obtain rfl : k = j := by omega
          exact HNM.out
      | false =>
        rw [hnm] at H59
        have hPn : PL = none := by
          have ha : L.any (fun x => !nameB x) = true := List.any_eq_true.2 ⟨L.getD j [], by
            rw [List.getD_eq_getElem?_getD, List.getElem?_eq_getElem (by rw [← Hn.out]; exact hjn)]
            exact List.getElem_mem _, by rw [hnm]; rfl⟩
          rw [HP.out, if_pos (.inr ha)]
        have HPN := Lib.hid hPn
        clear hnm hPn
        go_wp2_with (go_at_call 59; refine H59.out.mono ?_; rintro e w2 ⟨rfl, hb2⟩)
        go_ret2
        exact ⟨_, _, rfl, by rw [HPN.out]; rfl, HBT.out.trans (hb2.mono hst)⟩
    · obtain rfl : j = n := by omega
      have tj : decide ((j : Int) < (j : Int)) = false := by rw [decide_eq_false_iff_not]; omega
      have hany : L.any (fun x => !nameB x) = false := by
        rw [List.any_eq_false]
        intro x hx
        obtain ⟨k, hk, e⟩ := List.mem_iff_getElem.1 hx
        have := HN.out k (by rw [Hn.out]; exact hk)
        rw [List.getD_eq_getElem?_getD, List.getElem?_eq_getElem hk] at this
        rw [← e]
        simp only [Option.getD_some] at this
        rw [this]; decide
      have ho2 := own_below HO.out HBR.out (fun k hk => (HO.out.lt k hk).2)
      by_cases h5 : j ≤ 5
      · have t5 : decide ((j : Int) ≤ 5) = true := by rw [decide_eq_true_eq]; omega
        have hPs : PL = some L := by rw [HP.out, if_neg (by rw [hany]; intro e; rcases e with e | e; omega; cases e)]
        have HPS := Lib.hid hPs; have HO2 := Lib.hid ho2
        clear hPs hany ho2 hrd
        go_wp2_with fail
        go_ret2
        refine ⟨_, _, rfl, ?_, HBT.out⟩
        rw [HPS.out]
        refine ⟨rfl, ?_⟩
        rw [← Hn.out]
        exact HO2.out
      · have t5 : decide ((j : Int) ≤ 5) = false := by rw [decide_eq_false_iff_not]; omega
        have hPn : PL = none := by rw [HP.out, if_pos (.inl (by omega))]
        have HPN := Lib.hid hPn
        clear hPn hany ho2 hrd
        go_wp2_with fail
        go_ret2
        exact ⟨_, _, rfl, by rw [HPN.out]; rfl, HBT.out⟩
end Go.Proofs.YthilkpjdfjjikaaDoor
end
section
/-
  The document's words of a tag are the program's.
-/
namespace Go.Proofs.YthilkpjdfjjikaaDoor
open Go.RowKit

def sepB (x : UInt8) : Bool := sepN x.toNat
def wGo : Bs → Bs → List Bs
  | cur, [] => if cur = [] then [] else [cur]
  | cur, x :: r => if sepB x = true then (if cur = [] then wGo [] r else cur :: wGo [] r) else wGo (cur ++ [x]) r
theorem wGo_app : ∀ (l cur r : Bs), (∀ y ∈ l, sepB y = false) → wGo cur (l ++ r) = wGo (cur ++ l) r
  | [], cur, r, _ => by rw [List.append_nil]; rfl
  | x :: l, cur, r, h => by
    show wGo cur (x :: (l ++ r)) = _
    rw [wGo, if_neg (by rw [h x (List.mem_cons_self ..)]; decide), wGo_app l _ r (fun y hy => h y (List.mem_cons_of_mem _ hy)), List.append_assoc]
    rfl
theorem oneL_big (p : Nat) (h : 128 ≤ p) (hp : p ≤ 1114111) : ∀ b ∈ oneL p, 128 ≤ b.toNat := by
  intro b hb
  unfold oneL at hb
  rw [if_neg (by omega)] at hb
  split at hb
  · simp only [List.mem_cons, List.not_mem_nil, or_false] at hb
    rcases hb with rfl | rfl <;> rw [tn _ (by omega)] <;> omega
  · split at hb
    · simp only [List.mem_cons, List.not_mem_nil, or_false] at hb
      rcases hb with rfl | rfl | rfl <;> rw [tn _ (by omega)] <;> omega
    · simp only [List.mem_cons, List.not_mem_nil, or_false] at hb
      rcases hb with rfl | rfl | rfl | rfl <;> rw [tn _ (by omega)] <;> omega
theorem sep_big {n : Nat} (h : 128 ≤ n) : sepN n = false := by
  unfold sepN
  simp only [Bool.or_eq_false_iff, beq_eq_false_iff_ne]
  omega
/-- A rune that is no ASCII: its bytes are no separators. -/
theorem rune_big (x : UInt8) (r : Bs) (h : 128 ≤ x.toNat) : ∀ y ∈ (x :: r).take (readL (x :: r)).2, sepB y = false := by
  intro y hy
  by_cases h0 : 0 ≤ (readL (x :: r)).1
  · have ho := one_read x r h0
    have hpt := readL_range x r
    rw [← ho] at hy
    refine sep_big (oneL_big _ ?_ (by omega) y hy)
    by_cases hp : 128 ≤ (readL (x :: r)).1.toNat
    · exact hp
    · exfalso
      have h1 : oneL (readL (x :: r)).1.toNat = [UInt8.ofNat (readL (x :: r)).1.toNat] := by unfold oneL; rw [if_pos (by omega)]
      have hle := readL_le x r
      rw [h1] at ho
      have h2 := congrArg (fun l => l.headD 0) ho
      have h3 : ((x :: r).take (readL (x :: r)).2).headD 0 = x := by
        obtain ⟨k, hk⟩ : ∃ k, (readL (x :: r)).2 = k + 1 := ⟨(readL (x :: r)).2 - 1, by omega⟩
        rw [hk]; rfl
      have h4 : UInt8.ofNat (readL (x :: r)).1.toNat = x := h2.trans h3
      have h5 := congrArg UInt8.toNat h4
      rw [tn _ (by omega)] at h5
      omega
  · have hn := readL_neg x r (by omega)
    rw [hn] at hy
    have : y = x := by simpa using hy
    rw [this]; exact sep_big h
def curOf (s : Bs) (pos : Nat) : Option Nat → Bs
  | none => []
  | some a => (s.take pos).drop a
theorem ext_cut (s : Bs) (a b : Nat) : ((bs s).extract a b).data.toList = (s.take b).drop a := by
  rw [ByteArray.data_extract]
  simp only [bs, Array.toList_extract, List.extract_eq_take_drop]
  rw [List.drop_take]
theorem take_drop_more (s : Bs) (a i k : Nat) (ha : a ≤ i) : (s.take (i + k)).drop a = (s.take i).drop a ++ (s.drop i).take k := by
  rw [List.take_add, List.drop_append]
  by_cases hi : i ≤ s.length
  · rw [show a - (s.take i).length = 0 from by rw [List.length_take]; omega]
    rfl
  · rw [List.drop_of_length_le (show s.length ≤ i by omega)]
    simp
theorem spans_words (s : Bs) : ∀ (F pos : Nat) (st : Option Nat) (acc : List (Nat × Nat)), s.length - pos ≤ F → pos ≤ s.length → (∀ a, st = some a → a < pos) →
    (Lib.closeSpans (bs s) (Lib.spansFromP sepN (bs s) F pos st acc)).map (fun x => ((bs s).extract x.1 x.2).data.toList) = acc.map (fun x => ((bs s).extract x.1 x.2).data.toList) ++ wGo (curOf s pos st) (s.drop pos)
  | F, pos, st, acc, hF, hp, hst => by
    by_cases hlt : pos < s.length
    · obtain ⟨F, rfl⟩ : ∃ F', F = F' + 1 := ⟨F - 1, by omega⟩
      obtain ⟨x, r, hxr⟩ : ∃ x r, s.drop pos = x :: r := by
        cases hd : s.drop pos with
        | nil => have := congrArg List.length hd; rw [List.length_drop] at this; simp at this; omega
        | cons x r => exact ⟨x, r, rfl⟩
      have hrl : r.length + 1 = s.length - pos := by have := congrArg List.length hxr; rw [List.length_drop] at this; simpa using this.symm
      have hle := readL_le x r
      have hdr : Utf8.decode (bs s) pos = ((fixP (readL (x :: r)).1).toNat, (readL (x :: r)).2) := decode_read s pos x r hxr
      have hdd : s.drop (pos + (readL (x :: r)).2) = (x :: r).drop (readL (x :: r)).2 := by rw [← List.drop_drop, hxr]
      unfold Lib.spansFromP
      rw [if_pos (by rw [bs_size]; exact hlt)]
      have hsplit : wGo (curOf s pos st) (s.drop pos) = wGo (curOf s pos st) ((x :: r).take (readL (x :: r)).2 ++ (x :: r).drop (readL (x :: r)).2) := by
        rw [List.take_append_drop, hxr]
      rcases dec_at s pos x r hxr with ⟨h128, hdec⟩ | ⟨h128, hbig⟩
      · have hk : (readL (x :: r)).2 = 1 := by rw [hdr] at hdec; exact congrArg Prod.snd hdec
        rw [hdec]
        dsimp only
        rw [hk] at hdd hle
        have hdd : s.drop (pos + 1) = r := hdd
        cases hsp : sepN x.toNat with
        | true =>
          rw [if_pos rfl]
          cases st with
          | none =>
            dsimp only
            rw [spans_words s F (pos + 1) none acc (by omega) (by omega) (fun a h => by cases h), hxr, hdd]
            show _ ++ wGo [] r = _ ++ wGo [] (x :: r)
            rw [wGo, if_pos (show sepB x = true from hsp), if_pos rfl]
          | some a =>
            dsimp only
            have ha := hst a rfl
            rw [spans_words s F (pos + 1) none (acc ++ [(a, pos)]) (by omega) (by omega) (fun a h => by cases h), hxr, hdd, List.map_append, List.append_assoc]
            congr 1
            show [((bs s).extract a pos).data.toList] ++ wGo [] r = wGo ((s.take pos).drop a) (x :: r)
            rw [wGo, if_pos (show sepB x = true from hsp), ext_cut, if_neg]
            · rfl
            · intro e
              have := congrArg List.length e
              rw [List.length_drop, List.length_take] at this
              simp at this
              omega
        | false =>
          rw [if_neg (by decide)]
          have hx1 : (s.take (pos + 1)) = s.take pos ++ [x] := by
            rw [List.take_add, hxr]; rfl
          cases st with
          | none =>
            dsimp only
            rw [spans_words s F (pos + 1) (some pos) acc (by omega) (by omega) (fun a h => by cases h; omega), hxr, hdd]
            show _ ++ wGo ((s.take (pos + 1)).drop pos) r = _ ++ wGo [] (x :: r)
            rw [wGo, if_neg (by rw [show sepB x = false from hsp]; decide), hx1, List.drop_append_of_le_length (by rw [List.length_take]; omega), List.drop_of_length_le (by rw [List.length_take]; omega)]
          | some a =>
            dsimp only
            have ha := hst a rfl
            rw [spans_words s F (pos + 1) (some a) acc (by omega) (by omega) (fun a' h => by cases h; omega), hxr, hdd]
            show _ ++ wGo ((s.take (pos + 1)).drop a) r = _ ++ wGo ((s.take pos).drop a) (x :: r)
            rw [wGo, if_neg (by rw [show sepB x = false from hsp]; decide), hx1, List.drop_append_of_le_length (by rw [List.length_take]; omega)]
      · rw [hsplit]
        have hno := rune_big x r h128
        rw [wGo_app _ _ _ hno, ← hdd]
        rw [sep_big hbig, if_neg (by decide), hdr]
        dsimp only
        have htk : (x :: r).take (readL (x :: r)).2 = (s.drop pos).take (readL (x :: r)).2 := by rw [hxr]
        cases st with
        | none =>
          dsimp only
          rw [spans_words s F (pos + (readL (x :: r)).2) (some pos) acc (by omega) (by omega) (fun a h => by cases h; omega), htk]
          show _ ++ wGo ((s.take (pos + _)).drop pos) _ = _ ++ wGo ([] ++ _) _
          rw [take_drop_more s pos pos _ (Nat.le_refl _), List.drop_of_length_le (show (s.take pos).length ≤ pos by rw [List.length_take]; omega)]
        | some a =>
          dsimp only
          have ha := hst a rfl
          rw [spans_words s F (pos + (readL (x :: r)).2) (some a) acc (by omega) (by omega) (fun a' h => by cases h; omega), htk]
          show _ ++ wGo ((s.take (pos + _)).drop a) _ = _ ++ wGo ((s.take pos).drop a ++ _) _
          rw [take_drop_more s a pos _ (by omega)]
    · obtain rfl : pos = s.length := by omega
      rw [Lib.spansFromP_end _ _ _ _ _ _ (by rw [bs_size]; omega), List.drop_length]
      cases st with
      | none => simp [Lib.closeSpans, curOf, wGo]
      | some a =>
        have ha := hst a rfl
        show (acc ++ [(a, (bs s).size)]).map _ = _ ++ wGo ((s.take s.length).drop a) []
        rw [wGo, List.map_append, List.map_cons, List.map_nil, ext_cut, bs_size, if_neg]
        intro e
        have := congrArg List.length e
        rw [List.length_drop, List.length_take] at this
        simp at this
        omega
theorem words_eq (s : Bs) : wordsL s = wGo [] s := by
  unfold wordsL Lib.goFieldsP Lib.spansOfP
  rw [List.map_map]
  have := spans_words s (bs s).size 0 none [] (by rw [bs_size]; omega) (Nat.zero_le _) (fun a h => by cases h)
  exact this
end Go.Proofs.YthilkpjdfjjikaaDoor
end
section
/-
  The document's words, walked.
-/
namespace Go.Proofs.YthilkpjdfjjikaaDoor
open Go.RowKit

theorem sep_one (x : UInt8) : ([32, 9, 10, 13] : Bs).contains x = sepB x := by
  unfold sepB sepN
  have h : ∀ k : UInt8, (x == k) = (x.toNat == k.toNat) := by
    intro k
    rw [Bool.eq_iff_iff, beq_iff_eq, beq_iff_eq]
    exact UInt8.toNat_inj.symm
  simp only [List.contains_cons, List.contains_nil, Bool.or_false]
  rw [h 32, h 9, h 10, h 13, ← Bool.or_assoc, ← Bool.or_assoc]
  rfl
theorem cur_ne (s : Bs) (a j : Nat) (h : a < j) (hj : j ≤ s.length) : (s.take j).drop a ≠ [] := by
  intro e
  have := congrArg List.length e
  rw [List.length_drop, List.length_take] at this
  simp at this
  omega
set_option maxHeartbeats 4000000 in
set_option maxRecDepth 100000 in
theorem wordsR_any (s : Bs) (w : World) (hl : s.length ≤ 900000) :
    Calls Tryd.prog 57 #[.string (bs s)] w fun e w' => ∃ v, e = .returned v ∧ w'.ownsRow w.heap.size 9 1 v (wordsL s).length (strs (wordsL s)) ∧ (wordsL s).length ≤ s.length + 1 ∧ Below w.heap.size w w' := by
  have hz : (bs s).size = s.length := bs_size s
  have HX := Lib.hid (fun i h w => str_byte s i h w)
  have HU := Lib.hid (fun a b h h' w => str_cut s a b h h' w)
  have H53 : Hid (∀ (c : UInt8) (w : World), Calls Tryd.prog 53 #[.int .u8 ((c.toNat : Nat) : Int), .string ⟨#[32, 9, 10, 13]⟩] w fun e w' => e = .returned (.bool (sepB c)) ∧ w' = w) := by
    intro c w
    rw [← sep_one]
    exact one_any c [32, 9, 10, 13] w (by decide)
  obtain ⟨R, hR⟩ : ∃ R, R = wordsL s := ⟨_, rfl⟩
  rw [← hR]
  rw [words_eq] at hR
  have HR := Lib.hid hR; clear hR
  obtain ⟨S, hS⟩ : ∃ S, S = bs s := ⟨_, rfl⟩
  rw [← hS] at hz HX HU ⊢
  clear hS
  obtain ⟨n, hn⟩ : ∃ n, n = s.length := ⟨_, rfl⟩
  rw [← hn] at hz hl HX HU ⊢
  have Hn := Lib.hid hn; clear hn
  go_enter Tryd.func57, Tryd.ntmps57
  go_wp2_with fail
  go_loopw [3, 4, 5] (fun v at_ i wr => ∃ (j : Nat) (out : List Bs) (cur : Bs), i = .int .i64 (j : Int) ∧ out.length ≤ j ∧ wr.ownsRow w.heap.size 9 1 v out.length (strs out) ∧ Below w.heap.size w wr ∧
      ((j ≤ n ∧ R = out ++ wGo cur (s.drop j)) ∨ (j = n + 1 ∧ R = out)) ∧ ((at_ = .int .i64 (-1) ∧ cur = []) ∨ (∃ a : Nat, at_ = .int .i64 (a : Int) ∧ a < j ∧ j ≤ n ∧ cur = (s.take j).drop a)))
    (fun _ _ i _ => n + 1 - (intOf i).toNat)
  case atStart =>
    exact ⟨0, [], [], rfl, Nat.le_refl _, World.ownsRow_nil _ _ _ _, Below.refl _ _, .inl ⟨Nat.zero_le _, HR.out⟩, .inl ⟨rfl, rfl⟩⟩
  case round =>
    obtain ⟨j, out, cur, rfl, hol, hown, hB, hcase, hat⟩ := hrel
    obtain ⟨A0, c0, rfl, hc0, _⟩ := own_form hown
    have HO := Lib.hid hown; have HB := Lib.hid hB
    have hsw := hB.size
    clear hown hB
    rcases hcase with ⟨hjn, hRe⟩ | ⟨rfl, hRe⟩
    · have tj : decide ((j : Int) ≤ (n : Int)) = true := by rw [decide_eq_true_eq]; omega
      have HRE := Lib.hid hRe; clear hRe
      by_cases hje : j = n
      · have te : ((j : Int) == (n : Int)) = true := by rw [hje]; exact beq_self_eq_true _
        have hdn : s.drop j = [] := List.drop_of_length_le (by rw [hje, Hn.out]; exact Nat.le_refl _)
        have HJ := Lib.hid hje
        rcases hat with ⟨rfl, rfl⟩ | ⟨a, rfl, haj, hjn2, rfl⟩
        · have hRf : R = out := by rw [HRE.out, hdn]; show out ++ [] = out; rw [List.append_nil]
          have HRF := Lib.hid hRf
          clear hRf hje hdn
          go_wp2_with fail
          exact ⟨⟨j + 1, out, [], by go_num, by omega, HO.out, HB.out, .inr ⟨by rw [HJ.out], HRF.out⟩, .inl ⟨rfl, rfl⟩⟩, by simp [intOf]; omega⟩
        · have tg : decide ((a : Int) ≥ 0) = true := by rw [decide_eq_true_eq]; omega
          have hcut := fun W => HU.out a j (by omega) hjn W
          have hne := cur_ne s a j haj (by rw [← Hn.out]; exact hjn)
          have hRf : R = out ++ [(s.take j).drop a] := by rw [HRE.out, hdn, wGo, if_neg hne]
          have HRF := Lib.hid hRf
          generalize hXg : bs ((s.take j).drop a) = X at hcut
          have HXg := Lib.hid hXg
          have hol2 : out.length ≤ 1000000 := by omega
          clear hRf hje hXg hdn hne
          go_wp2_with (at_builtin; refine wpList_pushG rfl (.tmp 24) (.tmp 29) 32 rfl w.heap.size 9 (.string ⟨#[]⟩) 1 16 Tryd.underlying32 (by kernel_rfl) rfl (by decide) (.slice A0 out.length c0) out.length _ rfl HO.out #[.string X] 1 (by decide) rfl rfl (by simp [Value.oneCell']) (by omega) (by omega) hsw ?_; intro g4 cap4 w4 hown4 hg4 hb4 hgr4; have HO4 := Lib.hid hown4; have HB4 := Lib.hid hb4; clear hown4 hb4 hgr4)
          refine ⟨⟨j + 1, out ++ [(s.take j).drop a], [], by go_num, by rw [List.length_append, List.length_singleton]; omega, ?_, HB.out.trans HB4.out, .inr ⟨by rw [HJ.out], HRF.out⟩, .inl ⟨rfl, rfl⟩⟩, by simp [intOf]; omega⟩
          rw [List.length_append, List.length_singleton, strs_snoc, HXg.out]
          exact HO4.out
      · have te : ((j : Int) == (n : Int)) = false := by rw [beq_eq_false_iff_ne]; omega
        have hjn' : j < n := by omega
        have hx := fun W => HX.out j hjn' W
        have hdr := drop_getD s j (by rw [← Hn.out]; exact hjn')
        have HC := Lib.hid (H53.out (s.getD j 0))
        have htd := fun a (h : a ≤ j) => take_drop_snoc s a j h (by rw [← Hn.out]; exact hjn')
        generalize s.getD j 0 = x at hx hdr HC htd
        cases hsp : sepB x with
        | true =>
          rw [hsp] at HC
          rcases hat with ⟨rfl, rfl⟩ | ⟨a, rfl, haj, hjn2, rfl⟩
          · have hRf : R = out ++ wGo [] (s.drop (j + 1)) := by rw [HRE.out, hdr, wGo, if_pos hsp, if_pos rfl]
            have HRF := Lib.hid hRf
            generalize x.toNat = y at hx HC
            clear hRf hdr htd hsp
            go_wp2_with (go_at_call 53; refine (HC.out _).mono ?_; rintro e w4 ⟨rfl, hw4⟩; replace hw4 := hw4.symm; subst hw4)
            exact ⟨⟨j + 1, out, [], by go_num, by omega, HO.out, HB.out, .inl ⟨by omega, HRF.out⟩, .inl ⟨rfl, rfl⟩⟩, by simp [intOf]; omega⟩
          · have tg : decide ((a : Int) ≥ 0) = true := by rw [decide_eq_true_eq]; omega
            have hcut := fun W => HU.out a j (by omega) hjn W
            have hne := cur_ne s a j haj (by rw [← Hn.out]; exact hjn)
            have hRf : R = (out ++ [(s.take j).drop a]) ++ wGo [] (s.drop (j + 1)) := by rw [HRE.out, hdr, wGo, if_pos hsp, if_neg hne, List.append_assoc]; rfl
            have HRF := Lib.hid hRf
            generalize x.toNat = y at hx HC
            generalize hXg : bs ((s.take j).drop a) = X at hcut
            have HXg := Lib.hid hXg
            have hol2 : out.length ≤ 1000000 := by omega
            clear hRf hdr htd hsp hXg hne
            go_wp2_with (first | (go_at_call 53; refine (HC.out _).mono ?_; rintro e w4 ⟨rfl, hw4⟩; replace hw4 := hw4.symm; subst hw4) | (at_builtin; refine wpList_pushG rfl (.tmp 24) (.tmp 29) 32 rfl w.heap.size 9 (.string ⟨#[]⟩) 1 16 Tryd.underlying32 (by kernel_rfl) rfl (by decide) (.slice A0 out.length c0) out.length _ rfl HO.out #[.string X] 1 (by decide) rfl rfl (by simp [Value.oneCell']) (by omega) (by omega) hsw ?_; intro g4 cap4 w4 hown4 hg4 hb4 hgr4; have HO4 := Lib.hid hown4; have HB4 := Lib.hid hb4; clear hown4 hb4 hgr4))
            refine ⟨⟨j + 1, out ++ [(s.take j).drop a], [], by go_num, by rw [List.length_append, List.length_singleton]; omega, ?_, HB.out.trans HB4.out, .inl ⟨by omega, HRF.out⟩, .inl ⟨rfl, rfl⟩⟩, by simp [intOf]; omega⟩
            rw [List.length_append, List.length_singleton, strs_snoc, HXg.out]
            exact HO4.out
        | false =>
          rw [hsp] at HC
          rcases hat with ⟨rfl, rfl⟩ | ⟨a, rfl, haj, hjn2, rfl⟩
          · have hRf : R = out ++ wGo ((s.take (j + 1)).drop j) (s.drop (j + 1)) := by
              rw [HRE.out, hdr, wGo, if_neg (by rw [hsp]; decide), htd j (Nat.le_refl _), show (s.take j).drop j = [] from List.drop_of_length_le (by rw [List.length_take]; omega)]
            have HRF := Lib.hid hRf
            generalize x.toNat = y at hx HC
            clear hRf hdr htd hsp
            go_wp2_with (go_at_call 53; refine (HC.out _).mono ?_; rintro e w4 ⟨rfl, hw4⟩; replace hw4 := hw4.symm; subst hw4)
            exact ⟨⟨j + 1, out, _, by go_num, by omega, HO.out, HB.out, .inl ⟨by omega, HRF.out⟩, .inr ⟨j, rfl, by omega, by omega, rfl⟩⟩, by simp [intOf]; omega⟩
          · have tg : decide ((a : Int) < 0) = false := by rw [decide_eq_false_iff_not]; omega
            have hRf : R = out ++ wGo ((s.take (j + 1)).drop a) (s.drop (j + 1)) := by
              rw [HRE.out, hdr, wGo, if_neg (by rw [hsp]; decide), htd a (by omega)]
            have HRF := Lib.hid hRf
            generalize x.toNat = y at hx HC
            clear hRf hdr htd hsp
            go_wp2_with (go_at_call 53; refine (HC.out _).mono ?_; rintro e w4 ⟨rfl, hw4⟩; replace hw4 := hw4.symm; subst hw4)
            exact ⟨⟨j + 1, out, _, by go_num, by omega, HO.out, HB.out, .inl ⟨by omega, HRF.out⟩, .inr ⟨a, rfl, by omega, by omega, rfl⟩⟩, by simp [intOf]; omega⟩
    · have tj : decide (((n + 1 : Nat) : Int) ≤ (n : Int)) = false := by rw [decide_eq_false_iff_not]; omega
      subst hRe
      clear hat
      go_wp2_with fail
      go_ret
      exact ⟨_, rfl, HO.out, hol, HB.out⟩
end Go.Proofs.YthilkpjdfjjikaaDoor
end
