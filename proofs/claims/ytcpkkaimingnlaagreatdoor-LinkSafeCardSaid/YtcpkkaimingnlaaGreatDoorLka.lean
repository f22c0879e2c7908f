/-
  Links, plain: their grammar; what takes them apart, two ways.
-/
import Derived.Lib.MapLaws
import Derived.Lib.CaseU
import Derived.Lib.IndexMore
import Derived.Lib.IndexAny
namespace Go.Proofs.YtcpkkaimingnlaaGreatDoor

abbrev Bs := List UInt8
def digB (c : UInt8) : Bool := decide (48 ≤ c.toNat) && decide (c.toNat ≤ 57)
def alB (c : UInt8) : Bool := (decide (97 ≤ c.toNat) && decide (c.toNat ≤ 122)) || (decide (65 ≤ c.toNat) && decide (c.toNat ≤ 90)) || (decide (48 ≤ c.toNat) && decide (c.toNat ≤ 57))
def hostB (c : UInt8) : Bool := alB c || c == 45 || c == 46
def hexB (c : UInt8) : Bool := digB c || (decide (97 ≤ c.toNat) && decide (c.toNat ≤ 102)) || (decide (65 ≤ c.toNat) && decide (c.toNat ≤ 70))
def hexV (c : UInt8) : Nat := if c.toNat ≤ 57 then c.toNat - 48 else if c.toNat ≤ 70 then c.toNat - 55 else c.toNat - 87
def marksB : Bs := [34, 60, 62, 92, 94, 96, 123, 124, 125]
def okB (c : UInt8) : Bool := decide (33 ≤ c.toNat) && decide (c.toNat ≤ 126) && !marksB.contains c
def hex2 : Bs → Bool
  | a :: b :: _ => hexB a && hexB b
  | _ => false
def rightL : Bs → Bool
  | [] => true
  | c :: r => okB c && (c != 37 || hex2 r) && rightL r
def smallB (c : UInt8) : UInt8 := if decide (65 ≤ c.toNat) && decide (c.toNat ≤ 90) then c + 32 else c
def bHttp : Bs := [104, 116, 116, 112]
def bHttps : Bs := [104, 116, 116, 112, 115]
def isHttp (x : Bs) : Bool := x == bHttp || x == bHttps
structure Link where
  scheme : Bs
  host : Bs
  port : Nat
  path : Bs
  query : Bs
  frag : Bs
  hasQ : Bool
  hasF : Bool
def Link.zero : Link := ⟨[], [], 0, [], [], [], false, false⟩

/-! ### Up to a byte -/
theorem tw_app {p : UInt8 → Bool} : ∀ {a b : Bs}, (∀ x ∈ a, p x = true) → (∀ y r, b = y :: r → p y = false) → (a ++ b).takeWhile p = a ∧ (a ++ b).dropWhile p = b
  | [], [], _, _ => ⟨rfl, rfl⟩
  | [], y :: r, _, hb => by
    have h := hb y r rfl
    simp [List.takeWhile, List.dropWhile, h]
  | x :: a, b, ha, hb => by
    have h := ha x List.mem_cons_self
    have ih := tw_app (p := p) (a := a) (b := b) (fun y hy => ha y (List.mem_cons_of_mem _ hy)) hb
    simp [List.takeWhile, List.dropWhile, h, ih.1, ih.2]
theorem tw_all {p : UInt8 → Bool} {a : Bs} (ha : ∀ x ∈ a, p x = true) : a.takeWhile p = a ∧ a.dropWhile p = [] := by
  have := tw_app (b := []) ha (fun _ _ h => by cases h)
  rwa [List.append_nil] at this
theorem tw_mem {p : UInt8 → Bool} : ∀ (s : Bs), ∀ x ∈ s.takeWhile p, p x = true
  | [], x, h => by cases h
  | y :: s, x, h => by
    unfold List.takeWhile at h
    cases hp : p y with
    | true =>
      rw [hp] at h
      rcases List.mem_cons.1 h with rfl | h
      · exact hp
      · exact tw_mem s x h
    | false => rw [hp] at h; cases h
theorem dw_head {p : UInt8 → Bool} : ∀ (s : Bs) (y : UInt8) (r : Bs), s.dropWhile p = y :: r → p y = false
  | [], y, r, h => by cases h
  | x :: s, y, r, h => by
    unfold List.dropWhile at h
    cases hp : p x with
    | true => rw [hp] at h; exact dw_head s y r h
    | false => rw [hp] at h; injection h with h1 _; rw [← h1]; exact hp
theorem tw_dw (p : UInt8 → Bool) (s : Bs) : s.takeWhile p ++ s.dropWhile p = s := List.takeWhile_append_dropWhile
theorem take_tw (p : UInt8 → Bool) (s : Bs) : s.take (s.takeWhile p).length = s.takeWhile p := by
  conv => lhs; arg 2; rw [← tw_dw p s]
  rw [List.take_left]
theorem drop_tw (p : UInt8 → Bool) (s : Bs) : s.drop (s.takeWhile p).length = s.dropWhile p := by
  conv => lhs; arg 2; rw [← tw_dw p s]
  rw [List.drop_left]
def ne (c : UInt8) : UInt8 → Bool := fun x => x != c
def out (ch : Bs) : UInt8 → Bool := fun x => !ch.contains x
theorem ne_true {c x : UInt8} : ne c x = true ↔ x ≠ c := by unfold ne; exact bne_iff_ne
theorem ne_false {c x : UInt8} : ne c x = false ↔ x = c := by unfold ne; simp

/-! ### Go's search, by these -/
theorem index1 (c : UInt8) : ∀ s : Bs, Lib.index s [c] = if s.dropWhile (ne c) = [] then -1 else ((s.takeWhile (ne c)).length : Int)
  | [] => by rfl
  | x :: s => by
    have ih := index1 c s
    unfold Lib.index
    by_cases h : x = c
    · subst h
      have hn : ne x x = false := ne_false.2 rfl
      rw [if_pos (by simp [List.isPrefixOf])]
      simp [List.takeWhile, List.dropWhile, hn]
    · have hn : ne c x = true := ne_true.2 h
      have hc : (c == x) = false := by rw [beq_eq_false_iff_ne]; exact fun e => h e.symm
      rw [if_neg (by simp [List.isPrefixOf, hc])]
      simp only [List.takeWhile, List.dropWhile, hn]
      rw [ih]
      by_cases hd : s.dropWhile (ne c) = []
      · rw [if_pos hd, if_pos hd]; rfl
      · rw [if_neg hd, if_neg hd, if_neg (by simp), List.length_cons]
        rfl
theorem cut1 (c : UInt8) (s : Bs) : Lib.cut s [c] = (s.takeWhile (ne c), (s.dropWhile (ne c)).drop 1, !(s.dropWhile (ne c)).isEmpty) := by
  have hs := tw_dw (ne c) s
  unfold Lib.cut
  rw [index1]
  by_cases hd : s.dropWhile (ne c) = []
  · rw [if_pos hd, if_neg (by decide), hd]
    rw [hd, List.append_nil] at hs
    rw [hs]; rfl
  · rw [if_neg hd, if_pos (by omega), Int.toNat_natCast, take_tw, ← List.drop_drop, drop_tw]
    cases h : s.dropWhile (ne c) with
    | nil => exact absurd h hd
    | cons y r => rfl
theorem indexAny1 (ch : Bs) : ∀ s : Bs, Lib.indexAny s ch = if s.dropWhile (out ch) = [] then -1 else ((s.takeWhile (out ch)).length : Int)
  | [] => by rfl
  | x :: s => by
    have ih := indexAny1 ch s
    unfold Lib.indexAny
    by_cases h : ch.contains x = true
    · have hn : out ch x = false := by unfold out; rw [h]; rfl
      rw [if_pos h]
      simp [List.takeWhile, List.dropWhile, hn]
    · have hn : out ch x = true := by unfold out; simpa using h
      rw [if_neg h]
      simp only [List.takeWhile, List.dropWhile, hn]
      rw [ih]
      by_cases hd : s.dropWhile (out ch) = []
      · rw [if_pos hd, if_pos hd]; rfl
      · rw [if_neg hd, if_neg hd, if_neg (by simp), List.length_cons]
        rfl
/-- Where the first of some bytes is, or the end. -/
def stop (ch s : Bs) : Nat := (s.takeWhile (out ch)).length
theorem stop_any (ch s : Bs) : (if Lib.indexAny s ch < 0 then (s.length : Int) else Lib.indexAny s ch) = (stop ch s : Int) := by
  have hs := tw_dw (out ch) s
  rw [indexAny1]
  unfold stop
  by_cases hd : s.dropWhile (out ch) = []
  · rw [if_pos hd, if_pos (by decide)]
    rw [hd, List.append_nil] at hs
    rw [hs]
  · rw [if_neg hd, if_neg (by omega)]
theorem take_stop (ch s : Bs) : s.take (stop ch s) = s.takeWhile (out ch) := take_tw _ s
theorem drop_stop (ch s : Bs) : s.drop (stop ch s) = s.dropWhile (out ch) := drop_tw _ s
theorem out_true {ch : Bs} {x : UInt8} : out ch x = true ↔ x ∉ ch := by unfold out; simp
theorem out_false {ch : Bs} {x : UInt8} : out ch x = false ↔ x ∈ ch := by unfold out; simp

/-! ### Small letters, of any text -/
def small (s : Bs) : Bs := s.map smallB
theorem small_len (s : Bs) : (small s).length = s.length := List.length_map ..
/-- No letter of another script becomes one of these. -/
def noRow (x : Lib.CaseRow) : Bool := decide (x.2.1 ≤ 127) || (decide (128 ≤ x.1) && ([104, 112, 115, 116] : List Int).all fun c => if x.delta 1 > 1114111 then true else decide (¬ ((x.1 : Int) ≤ c - x.delta 1 ∧ c - x.delta 1 ≤ (x.2.1 : Int))))
theorem noRows : Lib.caseT.all noRow = true := by decide +kernel
end Go.Proofs.YtcpkkaimingnlaaGreatDoor
