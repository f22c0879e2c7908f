/-
  The document's words of a tag are the program's.
-/
import Derived.Test.YthilkpjdfjjikaaDoorRpa
import Derived.Test.YthilkpjdfjjikaaDoorTag
import Derived.Test.YthilkpjdfjjikaaDoorRea
namespace Go.Proofs.YthilkpjdfjjikaaDoor
open Go.RowKit

def sepB (x : UInt8) : Bool := sepN x.toNat
def wGo : Bs → Bs → List Bs
  | cur, [] => if cur = [] then [] else [cur]
  | cur, x :: r => if sepB x = true then (if cur = [] then wGo [] r else cur :: wGo [] r) else wGo (cur ++ [x]) r
theorem wGo_app : ∀ (l cur r : Bs), (∀ y ∈ l, sepB y = false) → wGo cur (l ++ r) = wGo (cur ++ l) r
  | [], cur, r, _ => by rw [List.append_nil]; rfl
  | x :: l, cur, r, h => by
    show wGo cur (x :: (l ++ r)) = _
    rw [wGo, if_neg (by rw [h x (List.mem_cons_self ..)]; decide), wGo_app l _ r (fun y hy => h y (List.mem_cons_of_mem _ hy)), List.append_assoc]
    rfl
theorem oneL_big (p : Nat) (h : 128 ≤ p) (hp : p ≤ 1114111) : ∀ b ∈ oneL p, 128 ≤ b.toNat := by
  intro b hb
  unfold oneL at hb
  rw [if_neg (by omega)] at hb
  split at hb
  · simp only [List.mem_cons, List.not_mem_nil, or_false] at hb
    rcases hb with rfl | rfl <;> rw [tn _ (by omega)] <;> omega
  · split at hb
    · simp only [List.mem_cons, List.not_mem_nil, or_false] at hb
      rcases hb with rfl | rfl | rfl <;> rw [tn _ (by omega)] <;> omega
    · simp only [List.mem_cons, List.not_mem_nil, or_false] at hb
      rcases hb with rfl | rfl | rfl | rfl <;> rw [tn _ (by omega)] <;> omega
theorem sep_big {n : Nat} (h : 128 ≤ n) : sepN n = false := by
  unfold sepN
  simp only [Bool.or_eq_false_iff, beq_eq_false_iff_ne]
  omega
/-- A rune that is no ASCII: its bytes are no separators. -/
theorem rune_big (x : UInt8) (r : Bs) (h : 128 ≤ x.toNat) : ∀ y ∈ (x :: r).take (readL (x :: r)).2, sepB y = false := by
  intro y hy
  by_cases h0 : 0 ≤ (readL (x :: r)).1
  · have ho := one_read x r h0
    have hpt := readL_range x r
    rw [← ho] at hy
    refine sep_big (oneL_big _ ?_ (by omega) y hy)
    by_cases hp : 128 ≤ (readL (x :: r)).1.toNat
    · exact hp
    · exfalso
      have h1 : oneL (readL (x :: r)).1.toNat = [UInt8.ofNat (readL (x :: r)).1.toNat] := by unfold oneL; rw [if_pos (by omega)]
      have hle := readL_le x r
      rw [h1] at ho
      have h2 := congrArg (fun l => l.headD 0) ho
      have h3 : ((x :: r).take (readL (x :: r)).2).headD 0 = x := by
        obtain ⟨k, hk⟩ : ∃ k, (readL (x :: r)).2 = k + 1 := ⟨(readL (x :: r)).2 - 1, by omega⟩
        rw [hk]; rfl
      have h4 : UInt8.ofNat (readL (x :: r)).1.toNat = x := h2.trans h3
      have h5 := congrArg UInt8.toNat h4
      rw [tn _ (by omega)] at h5
      omega
  · have hn := readL_neg x r (by omega)
    rw [hn] at hy
    have : y = x := by simpa using hy
    rw [this]; exact sep_big h
def curOf (s : Bs) (pos : Nat) : Option Nat → Bs
  | none => []
  | some a => (s.take pos).drop a
theorem ext_cut (s : Bs) (a b : Nat) : ((bs s).extract a b).data.toList = (s.take b).drop a := by
  rw [ByteArray.data_extract]
  simp only [bs, Array.toList_extract, List.extract_eq_take_drop]
  rw [List.drop_take]
theorem take_drop_more (s : Bs) (a i k : Nat) (ha : a ≤ i) : (s.take (i + k)).drop a = (s.take i).drop a ++ (s.drop i).take k := by
  rw [List.take_add, List.drop_append]
  by_cases hi : i ≤ s.length
  · rw [show a - (s.take i).length = 0 from by rw [List.length_take]; omega]
    rfl
  · rw [List.drop_of_length_le (show s.length ≤ i by omega)]
    simp
theorem spans_words (s : Bs) : ∀ (F pos : Nat) (st : Option Nat) (acc : List (Nat × Nat)), s.length - pos ≤ F → pos ≤ s.length → (∀ a, st = some a → a < pos) →
    (Lib.closeSpans (bs s) (Lib.spansFromP sepN (bs s) F pos st acc)).map (fun x => ((bs s).extract x.1 x.2).data.toList) = acc.map (fun x => ((bs s).extract x.1 x.2).data.toList) ++ wGo (curOf s pos st) (s.drop pos)
  | F, pos, st, acc, hF, hp, hst => by
    by_cases hlt : pos < s.length
    · obtain ⟨F, rfl⟩ : ∃ F', F = F' + 1 := ⟨F - 1, by omega⟩
      obtain ⟨x, r, hxr⟩ : ∃ x r, s.drop pos = x :: r := by
        cases hd : s.drop pos with
        | nil => have := congrArg List.length hd; rw [List.length_drop] at this; simp at this; omega
        | cons x r => exact ⟨x, r, rfl⟩
      have hrl : r.length + 1 = s.length - pos := by have := congrArg List.length hxr; rw [List.length_drop] at this; simpa using this.symm
      have hle := readL_le x r
      have hdr : Utf8.decode (bs s) pos = ((fixP (readL (x :: r)).1).toNat, (readL (x :: r)).2) := decode_read s pos x r hxr
      have hdd : s.drop (pos + (readL (x :: r)).2) = (x :: r).drop (readL (x :: r)).2 := by rw [← List.drop_drop, hxr]
      unfold Lib.spansFromP
      rw [if_pos (by rw [bs_size]; exact hlt)]
      have hsplit : wGo (curOf s pos st) (s.drop pos) = wGo (curOf s pos st) ((x :: r).take (readL (x :: r)).2 ++ (x :: r).drop (readL (x :: r)).2) := by
        rw [List.take_append_drop, hxr]
      rcases dec_at s pos x r hxr with ⟨h128, hdec⟩ | ⟨h128, hbig⟩
      · have hk : (readL (x :: r)).2 = 1 := by rw [hdr] at hdec; exact congrArg Prod.snd hdec
        rw [hdec]
        dsimp only
        rw [hk] at hdd hle
        have hdd : s.drop (pos + 1) = r := hdd
        cases hsp : sepN x.toNat with
        | true =>
          rw [if_pos rfl]
          cases st with
          | none =>
            dsimp only
            rw [spans_words s F (pos + 1) none acc (by omega) (by omega) (fun a h => by cases h), hxr, hdd]
            show _ ++ wGo [] r = _ ++ wGo [] (x :: r)
            rw [wGo, if_pos (show sepB x = true from hsp), if_pos rfl]
          | some a =>
            dsimp only
            have ha := hst a rfl
            rw [spans_words s F (pos + 1) none (acc ++ [(a, pos)]) (by omega) (by omega) (fun a h => by cases h), hxr, hdd, List.map_append, List.append_assoc]
            congr 1
            show [((bs s).extract a pos).data.toList] ++ wGo [] r = wGo ((s.take pos).drop a) (x :: r)
            rw [wGo, if_pos (show sepB x = true from hsp), ext_cut, if_neg]
            · rfl
            · intro e
              have := congrArg List.length e
              rw [List.length_drop, List.length_take] at this
              simp at this
              omega
        | false =>
          rw [if_neg (by decide)]
          have hx1 : (s.take (pos + 1)) = s.take pos ++ [x] := by
            rw [List.take_add, hxr]; rfl
          cases st with
          | none =>
            dsimp only
            rw [spans_words s F (pos + 1) (some pos) acc (by omega) (by omega) (fun a h => by cases h; omega), hxr, hdd]
            show _ ++ wGo ((s.take (pos + 1)).drop pos) r = _ ++ wGo [] (x :: r)
            rw [wGo, if_neg (by rw [show sepB x = false from hsp]; decide), hx1, List.drop_append_of_le_length (by rw [List.length_take]; omega), List.drop_of_length_le (by rw [List.length_take]; omega)]
          | some a =>
            dsimp only
            have ha := hst a rfl
            rw [spans_words s F (pos + 1) (some a) acc (by omega) (by omega) (fun a' h => by cases h; omega), hxr, hdd]
            show _ ++ wGo ((s.take (pos + 1)).drop a) r = _ ++ wGo ((s.take pos).drop a) (x :: r)
            rw [wGo, if_neg (by rw [show sepB x = false from hsp]; decide), hx1, List.drop_append_of_le_length (by rw [List.length_take]; omega)]
      · rw [hsplit]
        have hno := rune_big x r h128
        rw [wGo_app _ _ _ hno, ← hdd]
        rw [sep_big hbig, if_neg (by decide), hdr]
        dsimp only
        have htk : (x :: r).take (readL (x :: r)).2 = (s.drop pos).take (readL (x :: r)).2 := by rw [hxr]
        cases st with
        | none =>
          dsimp only
          rw [spans_words s F (pos + (readL (x :: r)).2) (some pos) acc (by omega) (by omega) (fun a h => by cases h; omega), htk]
          show _ ++ wGo ((s.take (pos + _)).drop pos) _ = _ ++ wGo ([] ++ _) _
          rw [take_drop_more s pos pos _ (Nat.le_refl _), List.drop_of_length_le (show (s.take pos).length ≤ pos by rw [List.length_take]; omega)]
        | some a =>
          dsimp only
          have ha := hst a rfl
          rw [spans_words s F (pos + (readL (x :: r)).2) (some a) acc (by omega) (by omega) (fun a' h => by cases h; omega), htk]
          show _ ++ wGo ((s.take (pos + _)).drop a) _ = _ ++ wGo ((s.take pos).drop a ++ _) _
          rw [take_drop_more s a pos _ (by omega)]
    · obtain rfl : pos = s.length := by omega
      rw [Lib.spansFromP_end _ _ _ _ _ _ (by rw [bs_size]; omega), List.drop_length]
      cases st with
      | none => simp [Lib.closeSpans, curOf, wGo]
      | some a =>
        have ha := hst a rfl
        show (acc ++ [(a, (bs s).size)]).map _ = _ ++ wGo ((s.take s.length).drop a) []
        rw [wGo, List.map_append, List.map_cons, List.map_nil, ext_cut, bs_size, if_neg]
        intro e
        have := congrArg List.length e
        rw [List.length_drop, List.length_take] at this
        simp at this
        omega
theorem words_eq (s : Bs) : wordsL s = wGo [] s := by
  unfold wordsL Lib.goFieldsP Lib.spansOfP
  rw [List.map_map]
  have := spans_words s (bs s).size 0 none [] (by rw [bs_size]; omega) (Nat.zero_le _) (fun a h => by cases h)
  exact this
end Go.Proofs.YthilkpjdfjjikaaDoor
