/-
  Rows of texts that are the call's own; Go's Split and Join over them.
-/
import Derived.Test.YtcpkkaimingnlaaGreatDoorLpa
namespace Go.Proofs.YtcpkkaimingnlaaGreatDoor
open Go.RowKit

def strs (l : List Bs) : List Value := l.map fun s => Value.string (bs s)
theorem strs_len (l : List Bs) : (strs l).length = l.length := by simp [strs]
theorem strs_one (l : List Bs) : ∀ u ∈ strs l, u.oneCell' = true := by
  intro u hu
  obtain ⟨s, _, rfl⟩ := List.mem_map.1 hu
  rfl
theorem strs_at (l : List Bs) (k : Nat) (h : k < l.length) : (strs l)[k]? = some (.string (bs (l.getD k []))) := by simp [strs, h]
theorem strs_snoc (l : List Bs) (t : Bs) : strs (l ++ [t]) = strs l ++ [.string (bs t)] := by simp [strs]
def SOwn (w : World) (B : Nat) (v : Value) (l : List Bs) : Prop := w.ownsRow B 9 1 v l.length (strs l)
theorem SOwn.nil {w : World} {B : Nat} : SOwn w B (.slice none 0 0) [] := World.ownsRow_nil _ _ _ _
theorem SOwn.keep {w w' : World} {B : Nat} {v : Value} {l : List Bs} (h : SOwn w B v l) (hb : Below w.heap.size w w') : SOwn w' B v l := own_keep h hb
theorem SOwn.form {w : World} {B : Nat} {v : Value} {l : List Bs} (h : SOwn w B v l) : ∃ A cap, v = .slice A l.length cap ∧ l.length ≤ cap ∧ cap ≤ 9223372036854775807 ∧ (A = none → l.length = 0 ∧ cap = 0) := by
  rcases h.2 with ⟨rfl, h0⟩ | ⟨g, cap, cur, rfl, _, _, hc, hm, _⟩
  · exact ⟨none, 0, by rw [h0], by omega, by omega, fun _ => ⟨h0, rfl⟩⟩
  · exact ⟨_, cap, rfl, hc, hm, fun h => by cases h⟩
theorem infoS : (Tryz.prog.info? 9).map (fun i => (i.zero, i.size, i.bytes)) = some (some (.string ⟨#[]⟩), 1, 16) := by kernel_rfl
/-- 'out = append(out, t)'. -/
theorem wpList_pushS {w : World} {ops : Array Oper} {rest : List Oper} {o : Oper} {a : Act} {Q : Exit → Act → World → Prop} (hgd : o.guard = none) (s x : Operand)
    (ho : o.op = .call { callee := .builtin .append, args := #[s, x], argTypes := #[38, 38] })
    (B : Nat) (hB : B ≤ w.heap.size) (out : List Bs) (v : Value) (hs : a.eval s = v) (hv : SOwn w B v out) (t : Bs) (hx : a.eval x = .slice (some ⟨w.heap.size, 0, none⟩) 1 1) (hn : out.length + 1 ≤ 8000000)
    (h : ∀ A c w', SOwn w' B (.slice A (out.length + 1) c) (out ++ [t]) → Below B w w' → wpList Tryz.prog ops Q rest (a.put o.dst (.slice A (out.length + 1) c)) w') : wpList Tryz.prog ops Q (o :: rest) a (w.alloc (.cells #[.string (bs t)] 9)) := by
  refine wpList_push hgd s x 38 ho B 9 _ 1 16 Tryz.underlying38 infoS rfl (by decide) v out.length _ hs hv _ 1 (by decide) hx rfl rfl (by omega) (by omega) hB ?_
  intro g cap w' hown _ hb
  refine h _ _ w' ?_ hb
  unfold SOwn
  rw [List.length_append, strs_snoc]
  exact hown
/-- All but the last. -/
theorem SOwn.drop {w : World} {B : Nat} {A : Option Addr} {n c : Nat} {l : List Bs} (h : SOwn w B (.slice A n c) l) : SOwn w B (.slice A (l.length - 1) c) l.dropLast := by
  unfold SOwn
  rw [List.length_dropLast]
  refine ⟨by simp [strs_len], ?_⟩
  rcases h.2 with ⟨e, h0⟩ | ⟨g, cap, cur, e, h1, h2, h3, h4, h5, h6⟩
  · cases e
    exact .inl ⟨by rw [h0], by omega⟩
  · cases e
    refine .inr ⟨g, c, cur, rfl, h1, h2, by omega, h4, h5, ?_⟩
    have : strs l.dropLast = (strs l).take (l.length - 1) := by
      unfold strs
      rw [List.dropLast_eq_take, List.map_take]
    rw [this, ← h6, List.take_take, Nat.mul_one, Nat.mul_one, Nat.min_eq_left (by omega)]
theorem below_alloc1 (w : World) (x : Obj) : Below w.heap.size w (w.alloc x) := below_one w x
/-- strings.Split at one byte. -/
theorem split_any (s : Bs) (c : UInt8) (hl : s.length ≤ 4000000) (w : World) (hT : Tabs w) :
    Calls Tryz.prog 58 #[.string (bs s), .string (bs [c])] w fun e w' => e = .returned (.slice (some ⟨w.heap.size, 0, none⟩) (splitC c s).length (splitC c s).length) ∧ w' = w.alloc (.cells (strs (splitC c s)).toArray 9) := by
  obtain ⟨m, hm⟩ := hT.len
  have hz := bs_size s
  have hd : (Lib.splitB (bs [c]) 0 (Lib.countB (bs s) (bs [c])) (bs s)).map (·.data.toList) = splitC c s := by
    rw [Lib.splitB_data, ← split_lib]
    have e1 : (bs s).data.toList = s := by simp [bs]
    have e2 : (bs [c]).data.toList = [c] := by simp [bs]
    rw [e1, e2]
    unfold Lib.split Lib.countB
    rw [e1, e2]
  have hcells : (Lib.splitB (bs [c]) 0 (Lib.countB (bs s) (bs [c])) (bs s)).map Value.string = strs (splitC c s) := by
    rw [← hd]
    unfold strs
    rw [List.map_map]
    rfl
  have hlen : Lib.countB (bs s) (bs [c]) + 1 = (splitC c s).length := by
    rw [← hd, List.length_map]
    exact (Lib.splitB_all (bs [c]) (Nat.le_refl 1) 0 _ (bs s) rfl).symm
  have := Tryz.strings_Split (bs s) (bs [c]) m w (by omega) hm (Nat.le_refl 1)
  rw [hcells, hlen] at this
  exact this
theorem join_texts (l : List Bs) (c : UInt8) : Lib.join ((l.map bs).map (·.data.toList)) [c] = joinC c l := by
  rw [List.map_map, ← join_lib]
  congr 1
  conv => rhs; rw [← List.map_id l]
  exact List.map_congr_left fun x _ => by simp [bs]
/-- strings.Join of a row of the call's own. -/
theorem join_any (l : List Bs) (c : UInt8) (v : Value) (B : Nat) (w : World) (hv : SOwn w B v l) (hn : l.length ≤ 8000000) (hl : (joinC c l).length ≤ 8000000) :
    Calls Tryz.prog 59 #[v, .string (bs [c])] w fun e w' => e = .returned (.string (bs (joinC c l))) ∧ Below w.heap.size w w' := by
  obtain ⟨A, cap, rfl, hc, _, _⟩ := hv.form
  by_cases h0 : l = []
  · subst h0
    refine (Tryz.strings_Join_none A cap (bs [c]) w).mono ?_
    rintro e w' ⟨rfl, rfl⟩
    exact ⟨rfl, Below.refl _ _⟩
  · obtain ⟨g, rfl, hb, hg⟩ := own_some hv (List.length_pos_iff.2 h0)
    have e2 : (bs [c]).data.toList = [c] := by simp [bs]
    have hj := Tryz.strings_Join g 0 cap (l.map bs) (bs [c]) w (fun j x hx => by
      have hj : j < l.length := by
        have := (List.getElem?_eq_some_iff.1 hx).1
        simpa using this
      rw [Nat.zero_add, hv.cellAt j (by omega), strs_at l j hj]
      have : x = bs (l.getD j []) := by
        have := hx
        simp [hj] at this
        simp [hj, this]
      rw [this]) hg (by simp; omega) (by simpa using hc) (by rw [e2, join_texts]; omega)
    rw [e2, join_texts, List.length_map] at hj
    exact hj
end Go.Proofs.YtcpkkaimingnlaaGreatDoor
