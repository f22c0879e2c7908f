/-
  An argument that is a list of pieces, opened: it reads as pieces of this seat's form.
-/
import Derived.Deep.Slices
import Derived.Deep.Fields
import Derived.ChangeSame
import Derived.Carry
import Derived.Test.YthilkpjdfjjikaaDoorTrdM
set_option linter.unusedVariables false
set_option linter.unusedSimpArgs false
namespace Go.Proofs.YthilkpjdfjjikaaDoor
open Go.RowKit Go.ChangeShapes Go.WideShapes Go.Deep

instance : Inhabited Pc := ⟨⟨0, 0, [], [], [], 0⟩⟩
theorem add_at (b o n : Nat) : (⟨b, o, none⟩ : Addr).add n = ⟨b, o + n, none⟩ := by
  unfold Addr.add
  split
  · rename_i h; subst h; rfl
  · rfl
theorem cell_spot {w : World} {a : Addr} {v : Value} (h : w.cell? a = some v) : a.spot = none ∧ a.block < w.heap.size := by
  obtain ⟨b, o, s⟩ := a
  unfold World.cell? at h
  dsimp only at h
  split at h
  · rename_i c t f hc
    refine ⟨?_, (Array.getElem?_eq_some_iff.1 hc).1⟩
    cases s with
    | none => rfl
    | some x => simp at h
  · cases h
section
variable {H : Type} {enc : TypeId × Value → H} {w : World} {spare : Nat → Bool} {held : Bool}
def InW (w : World) (b : Nat) : Prop := b < w.heap.size
/-- What is read fits into the machine's reach. -/
def Fits (t : TypeId) (d : DataW H) : Prop := ∀ z ∈ d.weights Tryd.prog t, z ≤ reachBytes
theorem fits_all {t : TypeId} : ∀ {l : List (DataW H)}, (∀ z ∈ DataW.weightsAll Tryd.prog t l, z ≤ reachBytes) → ∀ d ∈ l, Fits t d
  | x :: r, h, d, hd => by
    rw [DataW.weightsAll] at h
    rcases List.mem_cons.1 hd with rfl | hd
    · exact fun z hz => h z (List.mem_append_left _ hz)
    · exact fits_all (fun z hz => h z (List.mem_append_right _ hz)) d hd
theorem fits_slice {t e : TypeId} {l r : List (DataW H)} (ht : Tryd.prog.underlying t = some (.slice e)) (h : Fits t (.slice l r)) : (l.length + r.length) * Tryd.prog.bytesOf e ≤ reachBytes ∧ ∀ d ∈ l, Fits e d := by
  unfold Fits at h
  rw [DataW.weights, ht] at h
  exact ⟨h _ List.mem_cons_self, fits_all fun z hz => h z (List.mem_cons_of_mem _ (List.mem_append_left _ hz))⟩
theorem fits_each : ∀ {ts : List TypeId} {l : List (DataW H)}, (∀ z ∈ DataW.weightsEach Tryd.prog ts l, z ≤ reachBytes) → ∀ (j : Nat) (t : TypeId) (d : DataW H), ts[j]? = some t → l[j]? = some d → Fits t d
  | t :: ts, x :: r, h, 0, t', d, h1, h2 => by
    rw [DataW.weightsEach] at h
    simp only [List.getElem?_cons_zero, Option.some.injEq] at h1 h2
    subst h1 h2
    exact fun z hz => h z (List.mem_append_left _ hz)
  | t :: ts, x :: r, h, j + 1, t', d, h1, h2 => by
    rw [DataW.weightsEach] at h
    exact fits_each (fun z hz => h z (List.mem_append_right _ hz)) j t' d (by simpa using h1) (by simpa using h2)
  | [], _, _, j, _, _, h1, _ => by simp at h1
  | _ :: _, [], _, j, _, _, _, h2 => by simp at h2
theorem fits_struct {t : TypeId} {fs : Array Field} {l : List (DataW H)} (ht : Tryd.prog.underlying t = some (.struct fs)) (h : Fits t (.agg l)) : ∀ (j : Nat) (t' : TypeId) (d : DataW H), (fs.toList.map (·.type))[j]? = some t' → l[j]? = some d → Fits t' d := by
  unfold Fits at h
  rw [DataW.weights, ht] at h
  exact fits_each h
theorem open_path {n : Nat} {v : Value} {x : DataW H × List MemPlace} (h : DataW.trod enc Tryd.prog w 0 spare held n 32 [v] = some x) : ∃ l, PathRd w (InW w) v l ∧ (Fits 32 x.1 → l.length ≤ 8796093022208) := by
  rcases open_slice1 Tryd.underlying32 (by kernel_rfl) h with ⟨h0, _⟩ | ⟨a, len, cap, m, n, V, D, Pl, h0, hb, hl, hm, hmm, hx, hi⟩
  · obtain rfl : v = .slice none 0 0 := by simpa using h0
    exact ⟨[], PathRd.nil, fun _ => Nat.zero_le _⟩
  · obtain rfl : v = .slice (some a) len cap := by simpa using h0
    have hle : len ≤ m := by rw [hmm]; split <;> omega
    have hs : ∀ i, i < len → ∃ s : Bs, w.cell? (a.add i) = some (.string (bs s)) := fun i h => by
      obtain ⟨h1, h2⟩ := hi i (by omega)
      obtain ⟨s, h3, _⟩ := DataW.trod_string Tryd.underlying9 h2
      refine ⟨s.data.toList, ?_⟩
      rw [h1]
      obtain h3 : V i = .string s := by simpa using h3
      rw [h3]; rfl
    obtain ⟨f, hf⟩ := choose_lt (α := Bs) (p := fun i s => w.cell? (a.add i) = some (.string (bs s))) hs
    refine ⟨(List.range len).map f, ⟨some a, cap, by rw [List.length_map, List.length_range], by rw [List.length_map, List.length_range]; exact hl, ?_⟩, fun hfit => ?_⟩
    rotate_left
    · rw [hx] at hfit
      have := (fits_slice Tryd.underlying32 hfit).1
      rw [List.length_map, List.length_range, List.length_map, List.length_range, show Tryd.prog.bytesOf 9 = 16 by kernel_rfl] at this
      unfold reachBytes at this
      rw [List.length_map, List.length_range]; omega
    by_cases h0 : len = 0
    · subst h0; exact .inl rfl
    · refine .inr ?_
      have h00 := hf 0 (by omega)
      obtain ⟨hsp, hbl⟩ := cell_spot h00
      have ha : a.add 0 = a := rfl
      rw [ha] at hsp hbl
      obtain ⟨b, o, s⟩ := a
      dsimp only at hsp
      subst hsp
      refine ⟨b, o, rfl, hbl, fun j hj => ?_⟩
      rw [List.length_map, List.length_range] at hj
      have := hf j hj
      rw [add_at] at this
      rw [this]
      unfold strs
      rw [List.getElem?_map, List.getElem?_map, List.getElem?_range hj]; rfl
set_option maxRecDepth 100000 in
theorem open_piece {n : Nat} {cs : List Value} {x : DataW H × List MemPlace} (h : DataW.trod enc Tryd.prog w 0 spare held n 35 cs = some x) :
    ∃ (p : Pc) (v : Value), cs = pcc p v ∧ PathRd w (InW w) v p.path ∧ (Fits 35 x.1 → p.path.length ≤ 8796093022208) := by
  obtain ⟨ys, n', hn, hx, hl, hyl, hf⟩ := DataW.trod_struct Tryd.underlying35 h
  rw [show Tryd.prog.cellsOf 35 = 6 by kernel_rfl] at hl
  match cs, hl with
  | [c0, c1, c2, c3, c4, c5], _ =>
    have c1' : ∀ t, t = 31 ∨ t = 3 ∨ t = 9 ∨ t = 32 ∨ t = 33 → Tryd.prog.cellsOf t = 1 := by
      rintro t (rfl | rfl | rfl | rfl | rfl) <;> kernel_rfl
    match ys, hyl with
    | [y0, y1, y2, y3, y4, y5], _ =>
      have f0 := hf 0 _ rfl
      have f1 := hf 1 _ rfl
      have f2 := hf 2 _ rfl
      have f3 := hf 3 _ rfl
      have f4 := hf 4 _ rfl
      have f5 := hf 5 _ rfl
      rw [c1' _ (by decide)] at f0 f1 f2 f3 f4 f5
      have f0 : DataW.trod enc Tryd.prog w 0 spare held n' 31 [c0] = some y0 := f0
      have f1 : DataW.trod enc Tryd.prog w 0 spare held n' 3 [c1] = some y1 := f1
      have f2 : DataW.trod enc Tryd.prog w 0 spare held n' 9 [c2] = some y2 := f2
      have f3 : DataW.trod enc Tryd.prog w 0 spare held n' 32 [c3] = some y3 := f3
      have f4 : DataW.trod enc Tryd.prog w 0 spare held n' 9 [c4] = some y4 := f4
      have f5 : DataW.trod enc Tryd.prog w 0 spare held n' 33 [c5] = some y5 := f5
      obtain ⟨k0, e0, _⟩ := DataW.trod_int Tryd.underlying31 f0
      obtain ⟨k1, e1, _⟩ := DataW.trod_int Tryd.underlying3 f1
      obtain ⟨s2, e2, _, hs2⟩ := DataW.trod_string Tryd.underlying9 f2
      obtain ⟨l, hl, hll⟩ := open_path f3
      obtain ⟨s4, e4, _⟩ := DataW.trod_string Tryd.underlying9 f4
      obtain ⟨k5, e5, _⟩ := DataW.trod_int Tryd.underlying33 f5
      refine ⟨⟨k0, k1, s2.data.toList, l, s4.data.toList, k5⟩, c3, ?_, hl, fun hfit => hll ?_⟩
      rotate_left
      · rw [hx] at hfit
        exact fits_struct Tryd.underlying35 hfit 3 32 y3.1 rfl rfl
      obtain rfl : c0 = .int .i64 k0 := by simpa using e0
      obtain rfl : c1 = .int .i64 k1 := by simpa using e1
      obtain rfl : c2 = .string s2 := by simpa using e2
      obtain rfl : c4 = .string s4 := by simpa using e4
      obtain rfl : c5 = .int .i64 k5 := by simpa using e5
      rfl
set_option maxRecDepth 100000 in
theorem open_pieces {v : Value} {d : DataW H} {pl : List MemPlace} {r : Reach} {b0 : Nat} (hval : Value.okWide Tryd.prog w r b0 23 v) (h : DataW.Trod enc Tryd.prog w 0 spare held 23 v d pl) :
    ∃ ps, PcsRd w (InW w) v ps ∧ (Fits 23 d → ∀ q ∈ ps, q.path.length ≤ 8796093022208) ∧ (Fits 23 d → ps.length ≤ 8796093022208) := by
  obtain ⟨a0, l0, c0, rfl⟩ := okWide_slice Tryd.underlying23 hval
  obtain ⟨fuel, hf⟩ := h
  rcases open_slice Tryd.underlying23 hf with ⟨h0, _⟩ | ⟨a, len, cap, m, n, D, Pl, h0, hb, hl, hm, hmm, hx, hi⟩
  · obtain ⟨rfl, rfl, rfl⟩ : a0 = none ∧ l0 = 0 ∧ c0 = 0 := by simpa [Value.cells] using h0
    exact ⟨[], PcsRd.nil, fun _ q hq => (by cases hq), fun _ => Nat.zero_le _⟩
  · obtain ⟨rfl, rfl, rfl⟩ : a0 = some a ∧ l0 = len ∧ c0 = cap := by simpa [Value.cells] using h0
    have hle : l0 ≤ m := by rw [hmm]; split <;> omega
    have c6 : Tryd.prog.cellsOf 35 = 6 := by kernel_rfl
    rw [c6] at hi
    have hs : ∀ i, i < l0 → ∃ p : Pc, (∃ v, (∀ k, k < 6 → w.cell? (a.add (i * 6 + k)) = (pcc p v)[k]?) ∧ PathRd w (InW w) v p.path) ∧ (Fits 35 (D i) → p.path.length ≤ 8796093022208) := fun i h => by
      obtain ⟨cs', h1, h2⟩ := hi i (by omega)
      obtain ⟨p, v, rfl, h3, h4⟩ := open_piece h2
      refine ⟨p, ⟨v, fun k hk => ?_, h3⟩, h4⟩
      rw [← (World.cells?_some h1).2.2 k hk, add_add]
    obtain ⟨f, hf⟩ := choose_lt (α := Pc) (p := fun i p => (∃ v, (∀ k, k < 6 → w.cell? (a.add (i * 6 + k)) = (pcc p v)[k]?) ∧ PathRd w (InW w) v p.path) ∧ (Fits 35 (D i) → p.path.length ≤ 8796093022208)) hs
    refine ⟨(List.range l0).map f, ⟨some a, c0, by rw [List.length_map, List.length_range], by rw [List.length_map, List.length_range]; exact hl, ?_⟩, fun hfit => ?_, fun hfit => ?_⟩
    · by_cases h0 : l0 = 0
      · subst h0; exact .inl rfl
      · refine .inr ?_
        obtain ⟨⟨v, h00, _⟩, _⟩ := hf 0 (by omega)
        obtain ⟨hsp, hbl⟩ := cell_spot (h00 0 (by decide))
        have ha : a.add (0 * 6 + 0) = a := rfl
        rw [ha] at hsp hbl
        obtain ⟨b, o, s⟩ := a
        dsimp only at hsp
        subst hsp
        refine ⟨b, o, rfl, hbl, fun i hi => ?_⟩
        rw [List.length_map, List.length_range] at hi
        obtain ⟨⟨v, h1, h2⟩, _⟩ := hf i hi
        have hpa : pcAt ((List.range l0).map f) i = f i := by
          unfold pcAt
          rw [List.getD_eq_getElem?_getD, List.getElem?_map, List.getElem?_range hi]; rfl
        rw [hpa]
        refine ⟨v, fun k hk => ?_, h2⟩
        have := h1 k hk
        rw [add_at, ← Nat.add_assoc] at this
        exact this
    · intro q hq
      obtain ⟨i, hi, rfl⟩ := List.mem_map.1 hq
      obtain ⟨hd, _⟩ := Prod.ext_iff.1 hx
      dsimp only at hd
      rw [hd] at hfit
      exact (hf i (List.mem_range.1 hi)).2 ((fits_slice Tryd.underlying23 hfit).2 _ (List.mem_map.2 ⟨i, hi, rfl⟩))
    · obtain ⟨rfl, _⟩ := Prod.ext_iff.1 hx
      have := (fits_slice Tryd.underlying23 hfit).1
      rw [List.length_map, List.length_range, List.length_map, List.length_range, show Tryd.prog.bytesOf 35 = 80 by kernel_rfl] at this
      unfold reachBytes at this
      rw [List.length_map, List.length_range]; omega
end
end Go.Proofs.YthilkpjdfjjikaaDoor
