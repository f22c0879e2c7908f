/-
  The document's Size of parts, plain; and how many pieces parts have.
-/
import Derived.Test.YthilkpjdfjjikaaDoorTrs
set_option linter.unusedVariables false
set_option linter.unusedSimpArgs false
namespace Go.Proofs.YthilkpjdfjjikaaDoor

def bigPc (p : Pc) : Prop := 10000 < p.text.length ∨ 10000 < p.path.length
instance (p : Pc) : Decidable (bigPc p) := inferInstanceAs (Decidable (_ ∨ _))
def sizeGo (f : List Part → Nat) : List Part → Nat → Nat
  | [], n => n
  | .mk p ks os :: r, n =>
    if 10000 < n ∨ bigPc p then 10001
    else if n + (1 + p.text.length + p.path.length + f ks) ≤ 10000 then sizeGo f r (n + (1 + p.text.length + p.path.length + f ks) + f os)
    else sizeGo f r (n + (1 + p.text.length + p.path.length + f ks))
def sizeL : Nat → List Part → Nat
  | 0, _ => 10001
  | d + 1, l => if 10000 < l.length then 10001 else sizeGo (sizeL d) l 0
theorem sizeGo_le (f : List Part → Nat) (B : Nat) (hf : ∀ l, f l ≤ B) : ∀ (l : List Part) (n : Nat), n ≤ 30001 + B → sizeGo f l n ≤ 30001 + B
  | [], n, h => h
  | .mk p ks os :: r, n, h => by
    have hk := hf ks
    have ho := hf os
    unfold sizeGo
    split
    · omega
    · rename_i hn
      have h2 : n ≤ 10000 ∧ p.text.length ≤ 10000 ∧ p.path.length ≤ 10000 := by
        unfold bigPc at hn; omega
      split
      · exact sizeGo_le f B hf r _ (by omega)
      · exact sizeGo_le f B hf r _ (by omega)
set_option maxRecDepth 100000 in
theorem sizeL_le : ∀ (d : Nat) (l : List Part), sizeL d l ≤ 30001 * d + 10001
  | 0, l => by unfold sizeL; omega
  | d + 1, l => by
    unfold sizeL
    split
    · omega
    · have := sizeGo_le (sizeL d) (30001 * d + 10001) (sizeL_le d) l 0 (by omega)
      omega
theorem sizeGo_ge (f : List Part → Nat) : ∀ (l : List Part) (n : Nat), sizeGo f l n ≤ 10000 → n ≤ sizeGo f l n
  | [], n, _ => Nat.le_refl _
  | .mk p ks os :: r, n, h => by
    unfold sizeGo at h ⊢
    split
    · rename_i hn; rw [if_pos hn] at h; omega
    · rename_i hn
      rw [if_neg hn] at h
      split
      · rename_i h2
        rw [if_pos h2] at h
        have := sizeGo_ge f r _ h
        omega
      · rename_i h2
        rw [if_neg h2] at h
        have := sizeGo_ge f r _ h
        omega
theorem sizeGo_sizes (f : List Part → Nat) (hf : ∀ l, f l ≤ 10000 → sizes l ≤ f l) : ∀ (l : List Part) (n : Nat), sizeGo f l n ≤ 10000 → n + sizes l ≤ sizeGo f l n
  | [], n, _ => Nat.le_refl _
  | .mk p ks os :: r, n, h => by
    unfold sizeGo at h ⊢
    simp only [sizes, Part.size]
    split
    · rename_i hn; rw [if_pos hn] at h; omega
    · rename_i hn
      rw [if_neg hn] at h
      split
      · rename_i h2
        rw [if_pos h2] at h
        have h3 := sizeGo_sizes f hf r _ h
        have h4 := hf ks (by omega)
        have h5 := hf os (by omega)
        omega
      · rename_i h2
        rw [if_neg h2] at h
        have := sizeGo_ge f r _ h
        omega
set_option maxRecDepth 100000 in
theorem sizeL_sizes : ∀ (d : Nat) (l : List Part), sizeL d l ≤ 10000 → sizes l ≤ sizeL d l
  | 0, l, h => by unfold sizeL at h; omega
  | d + 1, l, h => by
    unfold sizeL at h ⊢
    split
    · rename_i hl; rw [if_pos hl] at h; omega
    · rename_i hl
      rw [if_neg hl] at h
      have := sizeGo_sizes (sizeL d) (sizeL_sizes d) l 0 h
      omega
mutual
theorem flat_len : ∀ q : Part, q.flat.length ≤ 3 * q.size
  | .mk p ks os => by
    have h1 := flats_len ks
    have h2 := flats_len os
    unfold Part.flat
    simp only [Part.size]
    by_cases hK : blockK p.kind = true
    · rw [if_pos hK]
      by_cases ho : os = []
      · rw [if_pos ho]; simp only [List.length_cons, List.length_append, List.length_nil]; omega
      · rw [if_neg ho]
        simp only [List.length_cons, List.length_append, List.length_nil]; omega
    · rw [if_neg hK]; simp only [List.length_cons, List.length_nil]; omega
theorem flats_len : ∀ l : List Part, (flats l).length ≤ 3 * sizes l
  | [] => by simp [flats]
  | q :: r => by
    have h1 := flat_len q
    have h2 := flats_len r
    simp only [flats, sizes, List.length_append]; omega
end
mutual
theorem flat_path (B : Nat) : ∀ q : Part, q.size ≤ B → ∀ x ∈ q.flat, x.path.length ≤ B
  | .mk p ks os, h, x, hx => by
    simp only [Part.size] at h
    unfold Part.flat at hx
    rcases List.mem_cons.1 hx with rfl | hx
    · omega
    · by_cases hK : blockK p.kind = true
      · rw [if_pos hK] at hx
        rcases List.mem_append.1 hx with hx | hx
        · exact flats_path B ks (by omega) x hx
        · rcases List.mem_append.1 hx with hx | hx
          · by_cases ho : os = []
            · rw [if_pos ho] at hx; cases hx
            · rw [if_neg ho] at hx
              rcases List.mem_cons.1 hx with rfl | hx
              · exact Nat.zero_le _
              · exact flats_path B os (by omega) x hx
          · rw [List.mem_singleton.1 hx]; exact Nat.zero_le _
      · rw [if_neg hK] at hx; cases hx
theorem flats_path (B : Nat) : ∀ l : List Part, sizes l ≤ B → ∀ x ∈ flats l, x.path.length ≤ B
  | [], _, x, hx => by unfold flats at hx; cases hx
  | q :: r, h, x, hx => by
    simp only [sizes] at h
    unfold flats at hx
    rcases List.mem_append.1 hx with hx | hx
    · exact flat_path B q (by omega) x hx
    · exact flats_path B r (by omega) x hx
end
theorem flats_append : ∀ a b : List Part, flats (a ++ b) = flats a ++ flats b
  | [], b => by simp [flats]
  | q :: r, b => by rw [List.cons_append]; simp only [flats]; rw [flats_append r b, List.append_assoc]
theorem flats_snoc (l : List Part) (i : Nat) (q : Part) (h : l[i]? = some q) : flats (l.take (i + 1)) = flats (l.take i) ++ q.flat := by
  obtain ⟨hl, rfl⟩ := List.getElem?_eq_some_iff.1 h
  rw [List.take_succ_eq_append_getElem hl, flats_append]
  congr 1
  simp [flats]
end Go.Proofs.YthilkpjdfjjikaaDoor
