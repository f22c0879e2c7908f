/-
  Texts of this seat, joined: Fas, Ftk, Fnw, Fne, Fsm. Each says what it proves, ahead of itself.
-/
import Derived.Test.YtcpkkaimingnlaaGreatDoorFA
import Derived.Deep.MidRow
set_option linter.unusedVariables false
set_option linter.unusedSimpArgs false
section
namespace Go.Proofs.YtcpkkaimingnlaaGreatDoor
open Go.RowKit

structure Ask where
  src : Nat
  link : Bs
  etag : Bs
  mod : Bs
deriving DecidableEq
def akc (k : Ask) : List Value := [.int .i64 ((k.src : Nat) : Int), .string (bs k.link), .string (bs k.etag), .string (bs k.mod)]
theorem info69 : (Tryz.prog.info? 69).map (·.size) = some 4 := by kernel_rfl
theorem infoA : (Tryz.prog.info? 69).map (fun i => (i.zero, i.size, i.bytes)) = some (some (.agg #[.int .i64 0, .string ⟨#[]⟩, .string ⟨#[]⟩, .string ⟨#[]⟩]), 4, 56) := by kernel_rfl
def AOwn (w : World) (B : Nat) (v : Value) (l : List Ask) : Prop := w.ownsRow B 69 4 v l.length (l.flatMap akc)
theorem AOwn.nil {w : World} {B : Nat} : AOwn w B (.slice none 0 0) [] := World.ownsRow_nil _ _ _ _
theorem AOwn.keep {w w' : World} {B : Nat} {v : Value} {l : List Ask} (h : AOwn w B v l) (hb : Below w.heap.size w w') : AOwn w' B v l := own_keep h hb
theorem AOwn.form {w : World} {B : Nat} {v : Value} {l : List Ask} (h : AOwn w B v l) : ∃ A cap, v = .slice A l.length cap ∧ l.length ≤ cap ∧ cap ≤ 9223372036854775807 ∧ (A = none → l.length = 0 ∧ cap = 0) := by
  rcases h.2 with ⟨rfl, h0⟩ | ⟨g, cap, cur, rfl, _, _, hc, hm, _⟩
  · exact ⟨none, 0, by rw [h0], by omega, by omega, fun _ => ⟨h0, rfl⟩⟩
  · exact ⟨_, cap, rfl, hc, hm, fun h => by cases h⟩
theorem own_turned {w w' : World} {base size n g : Nat} {e : TypeId} {v : Value} {xs : List Value} (h : w.ownsRow base e size v n xs) (ht : Turned w w' g) (hg : ∀ k, v.ownBlock = some k → k ≠ g) : w'.ownsRow base e size v n xs := by
  refine ⟨h.1, ?_⟩
  rcases h.2 with hn | ⟨g1, cap, cur, rfl, h1, h2, r⟩
  · exact .inl hn
  · exact .inr ⟨g1, cap, cur, rfl, h1, by rw [ht.far g1 (hg g1 rfl)]; exact h2, r⟩
theorem AOwn.turned {w w' : World} {B g : Nat} {v : Value} {l : List Ask} (h : AOwn w B v l) (ht : Turned w w' g) (hg : g < B) : AOwn w' B v l :=
  own_turned h ht (fun k hk e => by have := own_size h k hk; omega)
theorem AOwn.only {lo hi : Nat} {w w' : World} {B : Nat} {v : Value} {l : List Ask} (h : AOwn w B v l) (ho : Only lo hi w w') (hB : hi ≤ B) : AOwn w' B v l := by
  refine ⟨h.1, ?_⟩
  rcases h.2 with hn | ⟨g1, cap, cur, rfl, h1, h2, r⟩
  · exact .inl hn
  · exact .inr ⟨g1, cap, cur, rfl, h1, by rw [ho.block g1 (by have := (h.lt g1 rfl).2; exact this) (by omega)]; exact h2, r⟩
theorem akc_snoc (l : List Ask) (k : Ask) : (l ++ [k]).flatMap akc = l.flatMap akc ++ akc k := by simp
/-- 'out = append(out, a)'. -/
theorem wpList_pushA {w : World} {ops : Array Oper} {rest : List Oper} {o : Oper} {a : Act} {Q : Exit → Act → World → Prop} (hgd : o.guard = none) (s x : Operand)
    (ho : o.op = .call { callee := .builtin .append, args := #[s, x], argTypes := #[53, 53] })
    (B : Nat) (hB : B ≤ w.heap.size) (out : List Ask) (v : Value) (hs : a.eval s = v) (hv : AOwn w B v out) (k : Ask) (hx : a.eval x = .slice (some ⟨w.heap.size, 0, none⟩) 1 1) (hn : out.length + 1 ≤ 1000000)
    (h : ∀ A c' w', AOwn w' B (.slice A (out.length + 1) c') (out ++ [k]) → Below B w w' → wpList Tryz.prog ops Q rest (a.put o.dst (.slice A (out.length + 1) c')) w') : wpList Tryz.prog ops Q (o :: rest) a (w.alloc (.cells (akc k).toArray 69)) := by
  refine wpList_push hgd s x 53 ho B 69 _ 4 56 Tryz.underlying53 infoA rfl (by decide) v out.length _ hs hv _ 1 (by decide) hx rfl rfl (by omega) (by omega) hB ?_
  intro g cap w' hown _ hb
  refine h _ _ w' ?_ hb
  unfold AOwn
  rw [List.length_append, akc_snoc]
  exact hown
/-! ### Equal asks -/
theorem fields69 : (Tryz.prog.fieldsOf 69).toList.map (fun f => (f.name, f.type, f.offset)) = [("Source", 3, 0), ("Link", 9, 1), ("Etag", 9, 2), ("Modified", 9, 3)] := by kernel_rfl
theorem under69 : Tryz.prog.underlying 69 = some (.struct (Tryz.prog.fieldsOf 69)) := by kernel_rfl
theorem held69 : Tryz.prog.stoodInHeld 69 = false := by kernel_rfl
theorem guard69 : Tryz.prog.eqGuardType Tryz.prog.depth 69 = false := by kernel_rfl
def askEq (l m : Ask) : Bool := ((l.src : Nat) : Int) == ((m.src : Nat) : Int) && (bs l.link).toList == (bs m.link).toList && (bs l.etag).toList == (bs m.etag).toList && (bs l.mod).toList == (bs m.mod).toList
theorem askEq_eq (l m : Ask) : askEq l m = decide (l = m) := by
  rw [Bool.eq_iff_iff, decide_eq_true_eq]
  unfold askEq
  simp only [bs_toList, Bool.and_eq_true, beq_iff_eq]
  constructor
  · rintro ⟨⟨⟨h1, h2⟩, h3⟩, h4⟩
    obtain ⟨a, b, c, d⟩ := l
    obtain ⟨a', b', c', d'⟩ := m
    simp only at h1 h2 h3 h4
    have h1 : a = a' := by omega
    rw [h1, h2, h3, h4]
  · rintro rfl
    exact ⟨⟨⟨rfl, rfl⟩, rfl⟩, rfl⟩
theorem eq_allA (l m : Ask) (w : World) : (Op.eqFields 9999 (akc l).toArray (akc m).toArray (Tryz.prog.fieldsOf 69).toList).run Tryz.prog w = .ok (askEq l m) w := by
  have hf := fields69
  generalize (Tryz.prog.fieldsOf 69).toList = fs at hf
  rcases fs with _ | ⟨f0, fs⟩; · simp at hf
  rcases fs with _ | ⟨f1, fs⟩; · simp at hf
  rcases fs with _ | ⟨f2, fs⟩; · simp at hf
  rcases fs with _ | ⟨f3, fs⟩; · simp at hf
  rcases fs with _ | ⟨f4, fs⟩
  · simp only [List.map_cons, List.map_nil, List.cons.injEq, Prod.mk.injEq, and_true] at hf
    obtain ⟨⟨a0, b0, c0⟩, ⟨a1, b1, c1⟩, ⟨a2, b2, c2⟩, ⟨a3, b3, c3⟩⟩ := hf
    have p9 := part_cell 9 _ Tryz.underlying9 rfl
    have p3 := part_cell 3 _ Tryz.underlying3 rfl
    have h3 := eq_step 9999 f3 [] (akc l).toArray (akc m).toArray (by rw [a3]; decide) _ _ _ w (by rw [b3, c3]; exact p9 _ _ _ rfl w) (by rw [b3, c3]; exact p9 _ _ _ rfl w) (by rw [b3]; exact run_equalIn_string w 9998 9 (bs l.mod) (bs m.mod) Tryz.underlying9) true rfl
    have h2 := eq_step 9999 f2 _ (akc l).toArray (akc m).toArray (by rw [a2]; decide) _ _ _ w (by rw [b2, c2]; exact p9 _ _ _ rfl w) (by rw [b2, c2]; exact p9 _ _ _ rfl w) (by rw [b2]; exact run_equalIn_string w 9998 9 (bs l.etag) (bs m.etag) Tryz.underlying9) _ h3
    have h1 := eq_step 9999 f1 _ (akc l).toArray (akc m).toArray (by rw [a1]; decide) _ _ _ w (by rw [b1, c1]; exact p9 _ _ _ rfl w) (by rw [b1, c1]; exact p9 _ _ _ rfl w) (by rw [b1]; exact run_equalIn_string w 9998 9 (bs l.link) (bs m.link) Tryz.underlying9) _ h2
    have h0 := eq_step 9999 f0 _ (akc l).toArray (akc m).toArray (by rw [a0]; decide) _ _ _ w (by rw [b0, c0]; exact p3 _ _ _ rfl w) (by rw [b0, c0]; exact p3 _ _ _ rfl w) (by rw [b0]; exact run_equalIn_int w 9998 3 .i64 _ ((l.src : Nat) : Int) ((m.src : Nat) : Int) Tryz.underlying3) _ h1
    rw [h0]
    unfold askEq
    simp only [Bool.and_assoc, Bool.and_true]
  · simp at hf
theorem run_eqA (l m : Ask) (w : World) : (binOp .eql 69 (.agg (akc l).toArray) (.agg (akc m).toArray)).run Tryz.prog w = .ok (.bool (decide (l = m))) w := by
  rw [run_eql_struct, run_equalIn_struct w 9999 69 _ _ under69 held69, eq_allA, askEq_eq]; rfl
theorem run_neA (l m : Ask) (w : World) : (binOp .neq 69 (.agg (akc l).toArray) (.agg (akc m).toArray)).run Tryz.prog w = .ok (.bool (!decide (l = m))) w := by
  rw [run_neq_struct, run_equalIn_struct w 9999 69 _ _ under69 held69, eq_allA, askEq_eq]; rfl
theorem run_neKA {o : Oper} {a : Act} {W : World} (x y : Operand) (ty : TypeId) (ho : o.op = .binOp .neq 69 x y ty) (l m : Ask) (hx : a.eval x = .agg (akc l).toArray) (hy : a.eval y = .agg (akc m).toArray) :
    (execOp a.eval o).run Tryz.prog W = .ok (.value (.bool (!decide (l = m)))) W := by
  unfold execOp
  simp only [ho, hx, hy, Sem.run_bind, run_eqGuard_agg W .neq 69 x y _ _ guard69, run_neA, Sem.run_pure, Result.andThen_ok]
theorem wpList_eqA {ops : Array Oper} {rest : List Oper} {o : Oper} {a : Act} {w : World} {Q : Exit → Act → World → Prop} (hw : Region.wanted o (yielded ops a.tmps) = true) (x y : Operand) (ty : TypeId) (ho : o.op = .binOp .eql 69 x y ty) (l m : Ask) (hx : a.eval x = .agg (akc l).toArray) (hy : a.eval y = .agg (akc m).toArray) (b : Bool) (hq : decide (l = m) = b)
    (h : wpList Tryz.prog ops Q rest (a.put o.dst (.bool b)) w) : wpList Tryz.prog ops Q (o :: rest) a w := by
  subst hq
  refine wpList_want hw fun K hK => ?_
  unfold Oper.wp execOp
  simp only [ho, hx, hy, Sem.run_bind, run_eqGuard_agg w .eql 69 x y _ _ guard69, run_eqA, Sem.run_pure, Result.andThen_ok]
  exact hK _ _ h
/-! ### An element of a list of asks -/
theorem flat_get : ∀ (l : List Ask) (j i : Nat) (k : Ask), l[j]? = some k → i < 4 → (l.flatMap akc)[4 * j + i]? = (akc k)[i]?
  | [], j, i, k, h, _ => by simp at h
  | q :: qs, 0, i, k, h, hi => by
    have : q = k := by simpa using h
    subst this
    rw [List.flatMap_cons, List.getElem?_append_left (by simpa [akc] using hi)]
    simp
  | q :: qs, j + 1, i, k, h, hi => by
    rw [List.flatMap_cons, List.getElem?_append_right (by simp [akc]; omega)]
    have e : 4 * (j + 1) + i - (akc q).length = 4 * j + i := by simp [akc]; omega
    rw [e]
    exact flat_get qs j i k (by simpa using h) hi
/-- Where the elements lie. -/
theorem AOwn.at_ {w : World} {B : Nat} {A : Option Addr} {n cap : Nat} {l : List Ask} (h : AOwn w B (.slice A n cap) l) (j : Nat) (k : Ask) (hk : l[j]? = some k) : n = l.length ∧ ∃ g, A = some ⟨g, 0, none⟩ ∧ B ≤ g ∧ g < w.heap.size ∧ w.rangeAt g (4 * j) (akc k) := by
  have hj : j < l.length := by
    rcases Nat.lt_or_ge j l.length with h | h
    · exact h
    · rw [List.getElem?_eq_none h] at hk; cases hk
  obtain ⟨A2, c2, e, _⟩ := own_form h
  injection e with e1 e2 e3
  subst e2 e1 e3
  refine ⟨rfl, ?_⟩
  obtain ⟨g, hg, h1, h2⟩ := own_some h (by omega)
  subst hg
  refine ⟨g, rfl, h1, h2, fun i v hv => ?_⟩
  have hr := Rd.of_own h
  obtain ⟨b, off, hb, _, hc⟩ := hr.at_ (by omega)
  injection hb with hb
  injection hb with hb1 hb2
  subst hb1 hb2
  have hi : i < 4 := by
    rcases Nat.lt_or_ge i 4 with h | h
    · exact h
    · rw [List.getElem?_eq_none (by simpa [akc] using h)] at hv; cases hv
  have := hc (4 * j + i) (by omega)
  rw [Nat.zero_add] at this
  rw [this, flat_get l j i k hk hi, hv]
end Go.Proofs.YtcpkkaimingnlaaGreatDoor
end
section
namespace Go.Proofs.YtcpkkaimingnlaaGreatDoor
open Go.RowKit

def dueP (t : Int) (s : Src) : Bool := !s.out && decide (s.due ≤ t)
def askP (i : Nat) (s : Src) : Ask := if 0 < s.hops then ⟨i, s.beside, [], []⟩ else ⟨i, s.own, s.etag, s.mod⟩
/-- Who is asked at a time. -/
def asksP (t : Int) : Nat → List Src → List Ask
  | _, [] => []
  | i, s :: ss => (if dueP t s = true then [askP i s] else []) ++ asksP t (i + 1) ss
def tickP (t : Int) (s : Src) : Src := if dueP t s = true then { s with out := true } else s
theorem asks_snoc (t : Int) (s : Src) : ∀ (l : List Src) (i : Nat), asksP t i (l ++ [s]) = asksP t i l ++ (if dueP t s = true then [askP (i + l.length) s] else [])
  | [], i => by simp [asksP]
  | x :: l, i => by
    rw [List.cons_append, asksP, asks_snoc t s l (i + 1), asksP, List.append_assoc, List.length_cons, Nat.add_assoc, Nat.add_comm 1 l.length]
theorem asks_len (t : Int) : ∀ (l : List Src) (i : Nat), (asksP t i l).length ≤ l.length
  | [], i => Nat.le_refl _
  | x :: l, i => by
    have := asks_len t l (i + 1)
    rw [asksP, List.length_append, List.length_cons]
    split <;> simp <;> omega
/-- The sources, of which those ahead of number j are ticked. -/
def midP (t : Int) (ss : List Src) (j : Nat) : List Src := (ss.take j).map (tickP t) ++ ss.drop j
theorem mid_end (t : Int) (ss : List Src) {j : Nat} (h : j = ss.length) : midP t ss j = ss.map (tickP t) := by subst h; simp [midP]
theorem mid_get (t : Int) (ss : List Src) {j : Nat} (h : j < ss.length) : (midP t ss j).getD j default = ss.getD j default := by
  unfold midP
  rw [List.getD_eq_getElem?_getD, List.getElem?_append_right (by simp; omega)]
  simp [Nat.min_eq_left (Nat.le_of_lt h)]
theorem mid_len (t : Int) (ss : List Src) (j : Nat) : (midP t ss j).length = ss.length := by simp [midP]; omega
theorem mid_set (t : Int) (ss : List Src) {j : Nat} (h : j < ss.length) : (midP t ss j).set j (tickP t (ss.getD j default)) = midP t ss (j + 1) := by
  unfold midP
  rw [List.set_append_right _ _ (by simp; omega)]
  have e : j - ((ss.take j).map (tickP t)).length = 0 := by simp; omega
  rw [e, List.drop_eq_getElem_cons h, List.set_cons_zero, List.take_succ_eq_append_getElem h, List.map_append, List.append_assoc]
  simp [h]
theorem mid_same (t : Int) (ss : List Src) {j : Nat} (h : j < ss.length) (hn : dueP t (ss.getD j default) = false) : midP t ss (j + 1) = midP t ss j := by
  rw [← mid_set t ss h]
  have e : tickP t (ss.getD j default) = (midP t ss j).getD j default := by rw [mid_get t ss h]; unfold tickP; rw [hn]; rfl
  rw [e]
  have hl : j < (midP t ss j).length := by rw [mid_len]; exact h
  rw [List.getD_eq_getElem?_getD, List.getElem?_eq_getElem hl, Option.getD_some, List.set_getElem_self]
theorem asks_step (t : Int) (ss : List Src) {j : Nat} (h : j < ss.length) : asksP t 0 (ss.take (j + 1)) = asksP t 0 (ss.take j) ++ (if dueP t (ss.getD j default) = true then [askP j (ss.getD j default)] else []) := by
  rw [List.take_succ_eq_append_getElem h, asks_snoc]
  have e : (0 + (ss.take j).length) = j := by simp; omega
  rw [e]
  simp [h]
/-- What Tick's walk knows of memory. -/
structure TKI (w W : World) (lo hi g : Nat) (A : Option Addr) (cap : Nat) (gs : List Nat) (per now : Int) (ss : List Src) (v : Value) (l : List Ask) : Prop where
  own : AOwn W w.heap.size v l
  pol : Pol W lo hi g A cap gs per now ss
  only : Only lo hi w W
  le : hi ≤ w.heap.size
section
variable {w W W1 : World} {lo hi g : Nat} {A : Option Addr} {cap : Nat} {gs : List Nat} {per now : Int} {ss : List Src} {v : Value} {l : List Ask}
theorem TKI.call (h : TKI w W lo hi g A cap gs per now ss v l) (hb : Below W.heap.size W W1) : TKI w W1 lo hi g A cap gs per now ss v l := ⟨h.own.keep hb, h.pol.call hb, h.only.call hb, h.le⟩
theorem TKI.drew (h : TKI w W lo hi g A cap gs per now ss v l) : TKI w W.drew lo hi g A cap gs per now ss v l := ⟨own_drew h.own, h.pol.drew, h.only.drew, h.le⟩
theorem TKI.drewN (h : TKI w W lo hi g A cap gs per now ss v l) (n : Nat) : TKI w (W.drewN n) lo hi g A cap gs per now ss v l := ⟨own_drewN h.own n, h.pol.drewN n, h.only.drewN n, h.le⟩
theorem TKI.set (h : TKI w W lo hi g A cap gs per now ss v l) (i : Nat) (hi' : i < gs.length) (s' : Src) (hb : Blk W1 (gs.getD i 0) 90 (scs s')) (ht : Turned W W1 (gs.getD i 0)) : TKI w W1 lo hi g A cap gs per now (ss.set i s') v l :=
  have hs := h.pol.slo _ (mem_getD hi')
  ⟨h.own.turned ht (Nat.lt_of_lt_of_le hs.2 h.le), h.pol.set i hi' s' hb ht, h.only.turn ht hs.1 hs.2, h.le⟩
theorem Only.base {B : Nat} (h : Only lo hi w W) (hB : B = w.heap.size) (hb : Below B W W1) : Only lo hi w W1 := by
  subst hB
  exact ⟨hb.os.trans h.os, hb.tape.trans h.tape, hb.output.trans h.output, Nat.le_trans h.size hb.size, fun k hk hn => (hb.block k hk).trans (h.block k hk hn)⟩
theorem Pol.base {B : Nat} (h : Pol W lo hi g A cap gs per now ss) (hB : hi ≤ B) (hb : Below B W W1) : Pol W1 lo hi g A cap gs per now ss :=
  h.keep (lo2 := B) (hi2 := W.heap.size) ⟨hb.os, hb.tape, hb.output, hb.size, fun k hk hn => hb.block k (by omega)⟩ (.inl hB)
theorem TKI.push (h : TKI w W lo hi g A cap gs per now ss v l) {v' : Value} {l' : List Ask} (ho : AOwn W1 w.heap.size v' l') (hb : Below w.heap.size W W1) : TKI w W1 lo hi g A cap gs per now ss v' l' :=
  ⟨ho, h.pol.base h.le hb, h.only.base rfl hb, h.le⟩
theorem TKI.to (h : TKI w W lo hi g A cap gs per now ss v l) {ss' : List Src} {l' : List Ask} (h1 : ss = ss') (h2 : l = l') : TKI w W lo hi g A cap gs per now ss' v l' := by subst h1 h2; exact h
end
section
variable {w : World} {lo hi g : Nat} {A : Option Addr} {cap : Nat} {gs : List Nat} {per now : Int} {ss : List Src}
set_option maxHeartbeats 16000000 in
set_option maxRecDepth 100000 in
theorem tick_any (h : Pol w lo hi g A cap gs per now ss) (hnow : 0 ≤ now ∧ now ≤ 1000000000) (hn : gs.length ≤ 1000) :
    Calls Tryz.prog 30 #[ptr g] w fun e w' => (∃ v, e = .returned v ∧ AOwn w' w.heap.size v (asksP (now + 1) 0 ss)) ∧ Pol w' lo hi g A cap gs per (now + 1) (ss.map (tickP (now + 1))) ∧ Only lo hi w w' := by
  obtain ⟨t, ht⟩ : ∃ t, t = now + 1 := ⟨_, rfl⟩
  have hv1 : IntKind.i64.wrap (now + 1) = t := by rw [ht]; exact IntWalk.i64_in _ (by omega)
  rw [← ht]
  have HPo := Lib.hid h
  have g1 := h.now_
  have hcap := h.hcap
  have hlen := h.len
  have hhd := h.head
  clear h
  unfold ptr
  clear ht
  go_enter Tryz.func30, Tryz.ntmps30
  go_upto_region 5 with (first | ((with_reducible refine atS 15 13 ?_); refine wpList_storeC rfl 3 (.tmp 15) (.tmp 13) rfl g 1 (.int .i64 t) (by rfl) (by rfl) rfl info3 87 _ hhd (by exact Nat.le_of_ble_eq_true rfl) ?_; intro W1 hb1 ht1; have H0 := Lib.hid (show TKI w W1 lo hi g A cap gs per t ss (.slice none 0 0) [] from ⟨AOwn.nil, HPo.out.tick t hb1 ht1, Only.of_turned ht1 HPo.out.glo.1 HPo.out.glo.2, HPo.out.hB⟩); clear hb1 ht1))
  clear g1 hhd HPo
  have r2 := H0.out.pol.row_
  obtain ⟨n, hnn⟩ : ∃ n, n = gs.length := ⟨_, rfl⟩
  rw [← hnn] at hn hcap hlen r2
  have HN := Lib.hid hnn
  have HLn := Lib.hid hlen
  clear hnn hlen hv1 hnow
  go_upto_block 1 with fail
  go_loopw [3, 21] (fun v i wr => ∃ j : Nat, i = .int .i64 (j : Int) ∧ j ≤ n ∧ Hid (TKI w wr lo hi g A cap gs per t (midP t ss j) v (asksP t 0 (ss.take j)))) (fun _ i _ => n - (intOf i).toNat)
  case atStart => exact ⟨0, rfl, Nat.zero_le _, H0⟩
  case round =>
    obtain ⟨j, rfl, hj, H⟩ := hrel
    clear H0 r2
    obtain ⟨Av, cv, hv, hcv, hcm, hAn⟩ := H.out.own.form
    have hol := asks_len t (ss.take j) 0
    have hol2 : (asksP t 0 (ss.take j)).length ≤ 1000 := by rw [List.length_take] at hol; omega
    clear hol hAn
    obtain ⟨L, hL⟩ : ∃ L, L = asksP t 0 (ss.take j) := ⟨_, rfl⟩
    rw [← hL] at H hv hcv hol2
    have HL := Lib.hid hL
    clear hL
    subst hv
    by_cases hjn : j < n
    · have tj : decide ((j : Int) < (n : Int)) = true := by rw [decide_eq_true_eq]; omega
      have hjs : j < ss.length := by rw [← HLn.out]; exact hjn
      have hjg : j < gs.length := by rw [← HN.out]; exact hjn
      have HM := Lib.hid (mid_set t ss hjs)
      have HMS := Lib.hid (fun hh => mid_same t ss hjs hh)
      have HA := Lib.hid (asks_step t ss hjs)
      have eg := mid_get t ss hjs
      have EG0 := Lib.hid eg
      obtain ⟨gr, hA, _, _, hc⟩ := H.out.pol.row j hjg
      subst hA
      have hb := H.out.pol.each j hjg
      rw [eg] at hb
      have HB0 := Lib.hid hb
      have gn := H.out.pol.now_
      have HJ := Lib.hid hjg
      obtain ⟨s, hs⟩ : ∃ s, s = ss.getD j default := ⟨_, rfl⟩
      rw [← hs] at HB0 HM HMS HA EG0
      have EG := EG0
      clear EG0
      obtain ⟨gi, hgi⟩ : ∃ gi, gi = gs.getD j 0 := ⟨_, rfl⟩
      rw [← hgi] at HB0 hc
      have HGI := Lib.hid hgi
      have k6 := (blk_cell HB0.out 6).trans (show (scs s)[6]? = some (.bool s.out) from rfl)
      have k2 := (blk_cell HB0.out 2).trans (show (scs s)[2]? = some (.int .i64 s.due) from rfl)
      rw [← HL.out] at HA
      unfold ptr at hc
      clear hs hgi hb eg hjs hjg hj
      obtain ⟨D, hD⟩ : ∃ D, D = dueP t s := ⟨_, rfl⟩
      rw [← hD] at HA HMS
      have HD := Lib.hid hD
      clear hD
      go_upto_region 8 with fail
      go_cut [40] (fun v wx => v = .bool (!D) ∧ Hid (TKI w wx lo hi g (some ⟨gr, 0, none⟩) cap gs per t (midP t ss j) (.slice Av L.length cv) L))
      case first =>
        as_aux_lemma =>
          have hd := HD.out
          unfold dueP at hd
          clear HM HMS HA HD HB0
          cases hso : s.out with
          | true =>
            rw [hso] at k6 hd
            have HD2 := Lib.hid hd
            clear hd hso
            go_quiet (fail)
            go_wp2_with fail
            go_meet
            exact ⟨by rw [HD2.out]; rfl, Lib.hid (H.out.drewN _)⟩
          | false =>
            rw [hso] at k6 hd
            have t1 : decide (s.due > t) = !D := by rw [hd]; by_cases h : s.due ≤ t <;> simp [h] <;> omega
            clear hd hso
            go_quiet (fail)
            go_wp2_with fail
            go_meet
            exact ⟨rfl, Lib.hid (H.out.drewN _)⟩
      case rest =>
        as_aux_lemma =>
          obtain ⟨rfl, H2⟩ := hcut
          clear H k6 k2 HB0 gn
          cases D with
          | false =>
            have H3 := Lib.hid (H2.out.to (HMS.out rfl).symm (show L = asksP t 0 (ss.take (j + 1)) by rw [HA.out]; simp))
            clear HMS HM HA H2
            go_wp2_with fail
            exact ⟨⟨j + 1, by go_num, by omega, H3⟩, by simp [intOf]; omega⟩
          | true =>
            have hB1 := H2.out.pol.each j HJ.out
            rw [EG.out, ← HGI.out] at hB1
            have HBw := Lib.hid hB1
            have e1 := HM.out
            rw [show tickP t s = { s with out := true } from by unfold tickP; rw [← HD.out]; rfl] at e1
            have HM1 := Lib.hid e1
            have e2 := HA.out
            rw [if_pos rfl] at e2
            have HA1 := Lib.hid e2
            clear hB1 e1 e2 HM HA HMS HD
            go_upto_region 10 with ((with_reducible refine atC 43 ?_); refine wpList_storeC rfl 4 (.tmp 43) (.const (.bool true)) rfl gi 6 (.bool true) (by rfl) (by rfl) rfl info4 90 _ HBw.out (by exact Nat.le_of_ble_eq_true rfl) ?_; intro X1 hb1 ht1; have HB1 := Lib.hid (show Blk X1 gi 90 (scs { s with out := true }) from hb1); have H3 := Lib.hid ((H2.out.set j HJ.out { s with out := true } (by rw [← HGI.out]; exact hb1) (by rw [← HGI.out]; exact ht1)).to HM1.out rfl); clear hb1 ht1)
            clear H2 HBw HM1
            refine wp_region_noPanic ?_
            refine wp_region_held_drew (S := (fun W => W.cell? ⟨gi, 0, none⟩ = some (.string (bs s.own)) ∧ W.cell? ⟨gi, 4, none⟩ = some (.string (bs s.etag)) ∧ W.cell? ⟨gi, 5, none⟩ = some (.string (bs s.mod)))) (by kernel_rfl) (by exact ⟨(blk_cell (blk_drew HB1.out) 0).trans rfl, (blk_cell (blk_drew HB1.out) 4).trans rfl, (blk_cell (blk_drew HB1.out) 5).trans rfl⟩) (fun hHeld => ?_)
            refine wpAnyH_take (i := 0) (v := ?v1) rfl (by kernel_rfl) (by kernel_rfl) (by kernel_rfl) (fun _ _ _ h => h) (Or.inl ⟨by kernel_rfl, ?y1⟩) (by assumption) ?t1
            case y1 => (intro w hSw; (try dsimp only at hSw); go_simp; try with_reducible rfl)
            try simp only [Act.put, List.getElem_toArray, List.getElem_cons_succ, List.getElem_cons_zero, List.setIfInBounds_toArray, List.set_cons_zero, List.set_cons_succ]
            refine wpAnyH_take (i := 1) (v := ?v2) rfl (by kernel_rfl) (by kernel_rfl) (by kernel_rfl) (fun _ _ _ h => h) (Or.inl ⟨by kernel_rfl, ?y2⟩) (by assumption) ?t2
            case y2 => (intro w hSw; (try dsimp only at hSw); go_simp; try with_reducible rfl)
            try simp only [Act.put, List.getElem_toArray, List.getElem_cons_succ, List.getElem_cons_zero, List.setIfInBounds_toArray, List.set_cons_zero, List.set_cons_succ]
            refine wpAnyH_take (i := 2) (v := ?v3) rfl (by kernel_rfl) (by kernel_rfl) (by kernel_rfl) (fun _ _ _ h => h) (Or.inl ⟨by kernel_rfl, ?y3⟩) (by assumption) ?t3
            case y3 => (intro w hSw; (try dsimp only at hSw); go_simp; try with_reducible rfl)
            try simp only [Act.put, List.getElem_toArray, List.getElem_cons_succ, List.getElem_cons_zero, List.setIfInBounds_toArray, List.set_cons_zero, List.set_cons_succ]
            refine wpAnyH_take (i := 3) (v := ?v4) rfl (by kernel_rfl) (by kernel_rfl) (by kernel_rfl) (fun _ _ _ h => h) (Or.inl ⟨by kernel_rfl, ?y4⟩) (by assumption) ?t4
            case y4 => (intro w hSw; (try dsimp only at hSw); go_simp; try with_reducible rfl)
            try simp only [Act.put, List.getElem_toArray, List.getElem_cons_succ, List.getElem_cons_zero, List.setIfInBounds_toArray, List.set_cons_zero, List.set_cons_succ]
            refine wpAnyH_take (i := 4) (v := ?v5) rfl (by kernel_rfl) (by kernel_rfl) (by kernel_rfl) (fun _ _ _ h => h) (Or.inl ⟨by kernel_rfl, ?y5⟩) (by assumption) ?t5
            case y5 => (intro w hSw; (try dsimp only at hSw); go_simp; try with_reducible rfl)
            try simp only [Act.put, List.getElem_toArray, List.getElem_cons_succ, List.getElem_cons_zero, List.setIfInBounds_toArray, List.set_cons_zero, List.set_cons_succ]
            refine wpAnyH_take (i := 5) (v := ?v6) rfl (by kernel_rfl) (by kernel_rfl) (by kernel_rfl) (fun _ _ _ h => h) (Or.inl ⟨by kernel_rfl, ?y6⟩) (by assumption) ?t6
            case y6 => (intro w hSw; (try dsimp only at hSw); go_simp; try with_reducible rfl)
            try simp only [Act.put, List.getElem_toArray, List.getElem_cons_succ, List.getElem_cons_zero, List.setIfInBounds_toArray, List.set_cons_zero, List.set_cons_succ]
            refine wpAnyH_take (i := 6) (v := ?v7) rfl (by kernel_rfl) (by kernel_rfl) (by kernel_rfl) (fun _ _ _ h => h) (Or.inl ⟨by kernel_rfl, ?y7⟩) (by assumption) ?t7
            case y7 => (intro w hSw; (try dsimp only at hSw); go_simp; try with_reducible rfl)
            try simp only [Act.put, List.getElem_toArray, List.getElem_cons_succ, List.getElem_cons_zero, List.setIfInBounds_toArray, List.set_cons_zero, List.set_cons_succ]
            refine wpAnyH_take (i := 7) (v := ?v8) rfl (by kernel_rfl) (by kernel_rfl) (by kernel_rfl) (fun _ _ _ h => h) (Or.inl ⟨by kernel_rfl, ?y8⟩) (by assumption) ?t8
            case y8 => (intro w hSw; (try dsimp only at hSw); go_simp; try with_reducible rfl)
            try simp only [Act.put, List.getElem_toArray, List.getElem_cons_succ, List.getElem_cons_zero, List.setIfInBounds_toArray, List.set_cons_zero, List.set_cons_succ]
            refine wpAnyH_take (i := 8) (v := ?v9) rfl (by kernel_rfl) (by kernel_rfl) (by kernel_rfl) (fun _ _ _ h => h) (Or.inl ⟨by kernel_rfl, ?y9⟩) (by assumption) ?t9
            case y9 => (intro w hSw; (try dsimp only at hSw); go_simp; try with_reducible rfl)
            try simp only [Act.put, List.getElem_toArray, List.getElem_cons_succ, List.getElem_cons_zero, List.setIfInBounds_toArray, List.set_cons_zero, List.set_cons_succ]
            refine wpAnyH_take (i := 9) (v := ?v10) rfl (by kernel_rfl) (by kernel_rfl) (by kernel_rfl) (fun _ _ _ h => h) (Or.inl ⟨by kernel_rfl, ?y10⟩) (by assumption) ?t10
            case y10 => (intro w hSw; (try dsimp only at hSw); go_simp; try with_reducible rfl)
            try simp only [Act.put, List.getElem_toArray, List.getElem_cons_succ, List.getElem_cons_zero, List.setIfInBounds_toArray, List.set_cons_zero, List.set_cons_succ]
            refine wpAnyH_take (i := 10) (v := ?v11) rfl (by kernel_rfl) (by kernel_rfl) (by kernel_rfl) (fun _ _ _ h => h) (Or.inl ⟨by kernel_rfl, ?y11⟩) (by assumption) ?t11
            case y11 => (intro w hSw; (try dsimp only at hSw); go_simp; try with_reducible rfl)
            try simp only [Act.put, List.getElem_toArray, List.getElem_cons_succ, List.getElem_cons_zero, List.setIfInBounds_toArray, List.set_cons_zero, List.set_cons_succ]
            refine wpAnyH_take (i := 11) (v := ?v12) rfl (by kernel_rfl) (by kernel_rfl) (by kernel_rfl) (fun _ _ _ h => h) (Or.inl ⟨by kernel_rfl, ?y12⟩) (by assumption) ?t12
            case y12 => (intro w hSw; (try dsimp only at hSw); go_simp; try with_reducible rfl)
            try simp only [Act.put, List.getElem_toArray, List.getElem_cons_succ, List.getElem_cons_zero, List.setIfInBounds_toArray, List.set_cons_zero, List.set_cons_succ]
            refine wpAnyH_take (i := 12) (v := ?v13) rfl (by kernel_rfl) (by kernel_rfl) (by kernel_rfl) (fun _ _ _ h => h) (Or.inl ⟨by kernel_rfl, ?y13⟩) (by assumption) ?t13
            case y13 => (intro w hSw; (try dsimp only at hSw); go_simp; try with_reducible rfl)
            try simp only [Act.put, List.getElem_toArray, List.getElem_cons_succ, List.getElem_cons_zero, List.setIfInBounds_toArray, List.set_cons_zero, List.set_cons_succ]
            refine wpAnyH_take (i := 13) (v := .agg (akc ⟨j, s.own, s.etag, s.mod⟩).toArray) rfl (by kernel_rfl) (by kernel_rfl) (by kernel_rfl) (fun _ _ _ h => h) (Or.inl ⟨by kernel_rfl, ?y14⟩) (by assumption) ?_
            case y14 => (intro w hSw; (try dsimp only at hSw); go_simp; try rfl)
            try simp only [Act.put, List.getElem_toArray, List.getElem_cons_succ, List.getElem_cons_zero, List.setIfInBounds_toArray, List.set_cons_zero, List.set_cons_succ]
            refine wpAnyH_ready (rs := [14]) (by kernel_rfl) (by simp) ?_
            refine AllReadyH.cons rfl (fun KX hKX => ?_) AllReadyH.nil
            go_simp
            refine hKX.out _ _ (by exact ⟨(blk_cell (blk_alloc (blk_drew HB1.out) _) 0).trans rfl, (blk_cell (blk_alloc (blk_drew HB1.out) _) 4).trans rfl, (blk_cell (blk_alloc (blk_drew HB1.out) _) 5).trans rfl⟩) (fun hHeld => ?_)
            clear hKX KX
            try simp only [Act.put, List.getElem_toArray, List.getElem_cons_succ, List.getElem_cons_zero, List.setIfInBounds_toArray, List.set_cons_zero, List.set_cons_succ]
            refine wpAnyH_storeR 15 rfl (by kernel_rfl) (by kernel_rfl) 69 (.tmp 6) (.tmp 57) rfl X1.heap.size (akc ⟨j, s.own, s.etag, s.mod⟩).toArray (by rfl) (by rfl) 69 _ (blk_new X1.drew 69 _) info69 rfl (by rw [← Array.all_toList]; rfl) ?_
            intro X2 hb1 ht1
            have HK := Lib.hid (show Blk X2 X1.heap.size 69 (akc ⟨j, s.own, s.etag, s.mod⟩) from hb1)
            have HBe := Lib.hid (show Below X1.heap.size X1 X2 from ht1.below X1.heap.size X1 (Nat.le_refl _) ((Below.refl _ X1).drew.trans (below_one X1.drew _)))
            have HB2 := Lib.hid (blk_below HB1.out HBe.out (blk_lt HB1.out))
            clear hb1 ht1
            refine ⟨(by exact ⟨(blk_cell HB2.out 0).trans rfl, (blk_cell HB2.out 4).trans rfl, (blk_cell HB2.out 5).trans rfl⟩), fun hHeld => ?_⟩
            try simp only [Act.put, List.getElem_toArray, List.getElem_cons_succ, List.getElem_cons_zero, List.setIfInBounds_toArray, List.set_cons_zero, List.set_cons_succ]
            refine wpAnyH_done (by kernel_rfl) ?_ _
            refine NoPanic.normal ?_
            try simp only [Act.put, List.getElem_toArray, List.getElem_cons_succ, List.getElem_cons_zero, List.setIfInBounds_toArray, List.set_cons_zero, List.set_cons_succ]
            clear hHeld HB1
            have k7 := (blk_cell HB2.out 7).trans (show (scs { s with out := true })[7]? = some (.int .i64 ((s.hops : Nat) : Int)) from rfl)
            have k1 := (blk_cell HB2.out 1).trans (show (scs { s with out := true })[1]? = some (.string (bs s.beside)) from rfl)
            obtain ⟨bh, hbh⟩ : ∃ bh, bh = decide (0 < s.hops) := ⟨_, rfl⟩
            have t1 : decide (((s.hops : Nat) : Int) > 0) = bh := by rw [hbh, Bool.eq_iff_iff, decide_eq_true_eq, decide_eq_true_eq]; omega
            have t2 : decide (0 < s.hops) = bh := hbh.symm
            have HBH := Lib.hid hbh
            clear hbh
            go_upto_if 62 with fail
            clear t1 t2
            go_cut [6] (fun v wx => v = .pointer (some ⟨X1.heap.size, 0, none⟩) ∧ Hid (Below X1.heap.size X1 wx) ∧ Hid (Blk wx X1.heap.size 69 (akc (askP j s))))
            case first =>
              as_aux_lemma =>
                cases bh with
                | true =>
                  have h0 : 0 < s.hops := of_decide_eq_true HBH.out.symm
                  have e := Lib.hid (show askP j s = ⟨j, s.beside, [], []⟩ by unfold askP; rw [if_pos h0])
                  clear h0
                  go_wp2_with (first | ((with_reducible refine atD 68 ?_); refine wpList_val rfl (.agg (akc ⟨j, s.beside, [], []⟩).toArray) (by go_simp; rfl) ?_) | ((with_reducible refine atS 6 68 ?_); refine wpList_storeR rfl 69 (.tmp 6) (.tmp 68) rfl X1.heap.size (akc ⟨j, s.beside, [], []⟩).toArray (by rfl) (by rfl) 69 _ HK.out info69 rfl (by rw [← Array.all_toList]; rfl) ?_; intro X3 hb1 ht1; have HK2 := Lib.hid hb1; have HBe2 := Lib.hid (ht1.below X1.heap.size X1 (Nat.le_refl _) HBe.out); clear hb1 ht1))
                  go_meet
                  exact ⟨rfl, HBe2, by rw [e.out]; exact HK2⟩
                | false =>
                  have h0 : ¬ 0 < s.hops := of_decide_eq_false HBH.out.symm
                  have e := Lib.hid (show askP j s = ⟨j, s.own, s.etag, s.mod⟩ by unfold askP; rw [if_neg h0])
                  clear h0
                  go_wp2_with fail
                  go_meet
                  exact ⟨rfl, HBe, by rw [e.out]; exact HK⟩
            case rest =>
              as_aux_lemma =>
                obtain ⟨rfl, HBe2, HK2⟩ := hcut
                have H4 := Lib.hid (H3.out.call HBe2.out)
                have hsz := H4.out.only.size
                have hA4 : (akc (askP j s)).length = 4 := rfl
                clear k7 k1 HK HBe HB2 H3
                go_wp2_with (first | ((with_reducible refine atD 70 ?_); refine wpList_loadR rfl 69 (.tmp 6) rfl X1.heap.size (by rfl) 69 (akc (askP j s)) _ HK2.out Tryz.underlying69 rfl info69 ?_) | (at_builtin; change wpList _ _ _ _ _ (wc.alloc (.cells (akc (askP j s)).toArray 69)); refine wpList_pushA rfl (.tmp 69) (.tmp 71) rfl w.heap.size hsz L _ (by rfl) H4.out.own (askP j s) (by rfl) (by omega) ?_; intro A5 c5 w5 ho5 hb5; have H5 := Lib.hid ((H4.out.push ho5 hb5).to rfl HA1.out.symm); clear ho5 hb5))
                exact ⟨⟨j + 1, by go_num, by omega, H5⟩, by simp [intOf]; omega⟩
    · have tj : decide ((j : Int) < (n : Int)) = false := by rw [decide_eq_false_iff_not]; omega
      have hjs : j = ss.length := by rw [← HLn.out]; omega
      have H3 := Lib.hid (H.out.to (mid_end t ss hjs) (show L = asksP t 0 ss by rw [HL.out, hjs, List.take_length]))
      clear H HL hjs
      go_wp2_with fail
      go_ret
      exact ⟨⟨_, rfl, H3.out.own⟩, H3.out.pol, H3.out.only⟩
end
end Go.Proofs.YtcpkkaimingnlaaGreatDoor
end
section
namespace Go.Proofs.YtcpkkaimingnlaaGreatDoor
open Go.RowKit

def newS (s : Bs) : Src := ⟨s, [], 0, 0, [], [], false, 0, false⟩
def okNew (per : Int) (links : List Bs) : Bool := decide (1 ≤ per) && decide (per ≤ 1048576) && decide (links.length ≤ 32) && links.all fun s => (parseP s).isSome
theorem own_block {w : World} {B size n : Nat} {e : TypeId} {v : Value} {xs : List Value} (h : w.ownsRow B e size v n xs) {g : Nat} (hg : v.ownBlock = some g) : ∃ cur, w.heap[g]? = some (.cells cur e (0, 0)) := by
  rcases h.2 with ⟨rfl, _⟩ | ⟨g', cap, cur, rfl, _, hgg, _⟩
  · simp [Value.ownBlock] at hg
  · have : g' = g := by simpa [Value.ownBlock] using hg
    subst this
    exact ⟨cur, hgg⟩
theorem blk_grown {w w' : World} {g : Nat} {t : TypeId} {cs : List Value} (h : Blk w g t cs) {row : Option Nat} (hg : w.grownBy w' row) (hr : ∀ g', row = some g' → ∃ cur t' fr, w.heap[g']? = some (.cells cur t' fr) ∧ t' ≠ t) : Blk w' g t cs := by
  refine (hg.block g (blk_lt h) ?_).trans h
  intro e
  obtain ⟨cur, t', fr, h1, h2⟩ := hr g e.symm
  unfold Blk at h
  rw [h] at h1
  injection h1 with h1
  injection h1 with _ h1 _
  exact h2 h1.symm
/-- What New's walk knows of memory. -/
structure NW (w W : World) (g : Nat) (A : Option Addr) (cap : Nat) (gs : List Nat) (per : Int) (ss : List Src) : Prop where
  head : Blk W g 87 [.int .i64 per, .int .i64 0, .slice A gs.length cap]
  row : W.ownsRow w.heap.size 88 1 (.slice A gs.length cap) gs.length (gs.map ptr)
  each : ∀ i, i < gs.length → Blk W (gs.getD i 0) 90 (scs (ss.getD i default))
  len : gs.length = ss.length
  ndp : gs.Nodup
  ng : g ∉ gs
  glo : w.heap.size ≤ g
  slo : ∀ x ∈ gs, w.heap.size ≤ x
  bel : Below w.heap.size w W
section
variable {w W W1 : World} {g : Nat} {A : Option Addr} {cap : Nat} {gs : List Nat} {per : Int} {ss : List Src}
theorem NW.call (h : NW w W g A cap gs per ss) (hb : Below W.heap.size W W1) : NW w W1 g A cap gs per ss :=
  ⟨blk_below h.head hb (blk_lt h.head), own_keep h.row hb, fun i hi => blk_below (h.each i hi) hb (blk_lt (h.each i hi)), h.len, h.ndp, h.ng, h.glo, h.slo, h.bel.trans (hb.mono h.bel.size)⟩
theorem NW.cap63 (h : NW w W g A cap gs per ss) : cap ≤ 9223372036854775807 := by
  rcases h.row.2 with ⟨e, h0⟩ | ⟨g, cap, cur, e, _, _, hc, hm, _⟩
  · injection e with _ _ e; omega
  · injection e with _ _ e; unfold maxLen at hm; omega
theorem NW.pol (h : NW w W g A cap gs per ss) : Pol W w.heap.size W.heap.size g A cap gs per 0 ss := by
  have hap : ∀ gr, A = some ⟨gr, 0, none⟩ → ∃ cur, W.heap[gr]? = some (.cells cur 88 (0, 0)) := fun gr hA => own_block h.row (by subst hA; rfl)
  refine ⟨h.head, fun i hi => ?_, fun gr hA => ?_, h.each, h.len, h.ndp, h.ng, ⟨h.glo, blk_lt h.head⟩, fun x hx => ⟨h.slo x hx, ?_⟩, Nat.le_refl _, ?_, h.cap63⟩
  · obtain ⟨gr, hA, h1, h2⟩ := own_some h.row (by omega)
    refine ⟨gr, hA, h1, h2, ?_⟩
    subst hA
    obtain ⟨b, off, hb, _, hcell⟩ := (Rd.of_own h.row).at_ (by omega)
    injection hb with hb
    injection hb with hb1 hb2
    subst hb1 hb2
    have := hcell i (by omega)
    rw [Nat.zero_add] at this
    rw [this]
    simp [hi]
  · obtain ⟨cur, hc1⟩ := hap gr hA
    refine ⟨fun e => ?_, fun hm => ?_⟩
    · have := h.head
      unfold Blk at this
      rw [← e, hc1] at this
      injection this with this
      injection this with _ this _
      exact absurd this (by decide)
    · obtain ⟨i, hi, e⟩ := List.getElem_of_mem hm
      have := h.each i hi
      unfold Blk at this
      rw [show gs.getD i 0 = gr by simp [hi, e], hc1] at this
      injection this with this
      injection this with _ this _
      exact absurd this (by decide)
  · obtain ⟨i, hi, e⟩ := List.getElem_of_mem hx
    have := blk_lt (h.each i hi)
    rw [show gs.getD i 0 = x by simp [hi, e]] at this
    exact this
  · obtain ⟨A2, c2, e, h1, _⟩ := own_form h.row
    injection e with _ _ e
    omega
theorem NW.head3 (h : NW w W g A cap gs per ss) (s : Src) {W2 W3 : World}
    (hW2 : W2 = W.alloc (.cells (scs s).toArray 90)) (hgr : (W2.alloc (.cells #[ptr W.heap.size] 88)).grownBy W3 (Value.slice A gs.length cap).ownBlock) : Blk W3 g 87 [.int .i64 per, .int .i64 0, .slice A gs.length cap] := by
  have h2 : W2.ownsRow w.heap.size 88 1 (.slice A gs.length cap) gs.length (gs.map ptr) := by rw [hW2]; exact h.row.alloc _
  refine blk_grown (blk_alloc (by rw [hW2]; exact blk_alloc h.head _) _) hgr (fun g1 hg1 => ?_)
  obtain ⟨cur, hc⟩ := own_block (h2.alloc _) hg1
  exact ⟨cur, 88, (0, 0), hc, by decide⟩
theorem NW.start (w : World) (per : Int) : NW w (w.alloc (.cells #[.int .i64 per, .int .i64 0, .slice none 0 0] 87)) w.heap.size none 0 [] per [] :=
  ⟨blk_new w 87 _, World.ownsRow_nil _ _ _ _, fun i hi => absurd hi (by simp), rfl, List.nodup_nil, by simp, Nat.le_refl _, fun x hx => by simp at hx, below_one w _⟩
/-- A source more: its box, the longer list, the head. -/
theorem NW.push (h : NW w W g A cap gs per ss) (s : Src) {W2 W3 W4 : World} {g' cap' : Nat} {n : Nat} (hn : n = gs.length + 1)
    (hW2 : W2 = W.alloc (.cells (scs s).toArray 90)) (hown : W3.ownsRow w.heap.size 88 1 (.slice (some ⟨g', 0, none⟩) n cap') n (gs.map ptr ++ [ptr W.heap.size])) (hbel : Below w.heap.size W2 W3)
    (hgr : (W2.alloc (.cells #[ptr W.heap.size] 88)).grownBy W3 (Value.slice A gs.length cap).ownBlock)
    (hb4 : Blk W4 g 87 [.int .i64 per, .int .i64 0, .slice (some ⟨g', 0, none⟩) n cap']) (ht4 : Turned W3 W4 g) : NW w W4 g (some ⟨g', 0, none⟩) cap' (gs ++ [W.heap.size]) per (ss ++ [s]) := by
  subst hn
  have hrow : ∀ g1, (Value.slice A gs.length cap).ownBlock = some g1 → ∃ cur t' fr, (W2.alloc (.cells #[ptr W.heap.size] 88)).heap[g1]? = some (.cells cur t' fr) ∧ t' = 88 := by
    intro g1 hg1
    have h2 : W2.ownsRow w.heap.size 88 1 (.slice A gs.length cap) gs.length (gs.map ptr) := by rw [hW2]; exact h.row.alloc _
    obtain ⟨cur, hc⟩ := own_block (h2.alloc _) hg1
    exact ⟨cur, 88, (0, 0), hc, rfl⟩
  have hkeep : ∀ {k : Nat} {t : TypeId} {cs : List Value}, Blk W2 k t cs → t ≠ 88 → Blk W3 k t cs := by
    intro k t cs hk ht
    refine blk_grown (blk_alloc hk _) hgr (fun g1 hg1 => ?_)
    obtain ⟨cur, t', fr, h1, h2⟩ := hrow g1 hg1
    exact ⟨cur, t', fr, h1, by rw [h2]; exact fun e => ht e.symm⟩
  have hnew : Blk W3 W.heap.size 90 (scs s) := hkeep (by rw [hW2]; have := blk_new W 90 (scs s).toArray; simpa using this) (by decide)
  have hgne : g ≠ W.heap.size := Nat.ne_of_lt (blk_lt h.head)
  have hlt : ∀ x ∈ gs, x < W.heap.size := fun x hx => by
    obtain ⟨i, hi, e⟩ := List.getElem_of_mem hx
    have := blk_lt (h.each i hi)
    rw [show gs.getD i 0 = x by simp [hi, e]] at this
    exact this
  have hsz : w.heap.size ≤ W.heap.size := h.bel.size
  have hcur3 : ∃ cur, W3.heap[g']? = some (.cells cur 88 (0, 0)) := own_block hown rfl
  have hg3 : Blk W3 g 87 [.int .i64 per, .int .i64 0, .slice A gs.length cap] := hkeep (by rw [hW2]; exact blk_alloc h.head _) (by decide)
  have hne' : g' ≠ g := by
    rintro rfl
    obtain ⟨cur, hc⟩ := hcur3
    unfold Blk at hg3
    rw [hc] at hg3
    injection hg3 with hg3
    injection hg3 with _ hg3 _
    exact absurd hg3 (by decide)
  refine ⟨by rw [List.length_append]; exact hb4, ?_, fun i hi => ?_, by simp [h.len], ?_, ?_, h.glo, ?_, ?_⟩
  · have := own_turned hown ht4 (fun k hk => by injection hk with hk; rw [← hk]; exact hne')
    rw [List.length_append, List.map_append]
    exact this
  · have hl := h.len
    rw [List.length_append] at hi
    rcases Nat.lt_or_ge i gs.length with hi' | hi'
    · have e1 : (gs ++ [W.heap.size]).getD i 0 = gs.getD i 0 := by simp [List.getElem?_append_left hi']
      have e2 : (ss ++ [s]).getD i default = ss.getD i default := by simp [List.getElem?_append_left (show i < ss.length by omega)]
      rw [e1, e2]
      have hb := hkeep (by rw [hW2]; exact blk_alloc (h.each i hi') _) (by decide)
      exact ht4.blk hb (fun e => h.ng (by rw [← e]; exact mem_getD hi'))
    · obtain rfl : i = gs.length := by simp at hi; omega
      have e1 : (gs ++ [W.heap.size]).getD gs.length 0 = W.heap.size := by simp
      have e2 : (ss ++ [s]).getD gs.length default = s := by rw [hl]; simp
      rw [e1, e2]
      exact ht4.blk hnew (Ne.symm hgne)
  · rw [List.nodup_append]
    exact ⟨h.ndp, by simp, fun x hx y hy => by rw [List.mem_singleton.1 hy]; exact Nat.ne_of_lt (hlt x hx)⟩
  · intro hm
    rcases List.mem_append.1 hm with hm | hm
    · exact h.ng hm
    · exact hgne (List.mem_singleton.1 hm)
  · intro x hx
    rcases List.mem_append.1 hx with hx | hx
    · exact h.slo x hx
    · rw [List.mem_singleton.1 hx]; exact hsz
  · have h1 : Below w.heap.size w W2 := by rw [hW2]; exact h.bel.alloc hsz _
    exact ht4.below _ _ h.glo (h1.trans hbel)
end
theorem infoP88 : (Tryz.prog.info? 88).map (fun i => (i.zero, i.size, i.bytes)) = some (some (.pointer none), 1, 8) := by kernel_rfl
theorem info85 : (Tryz.prog.info? 85).map (·.size) = some 1 := by kernel_rfl
end Go.Proofs.YtcpkkaimingnlaaGreatDoor
end
section
namespace Go.Proofs.YtcpkkaimingnlaaGreatDoor
open Go.RowKit

def NewP (per : Int) (links : List Bs) (w : World) (e : Ending) (w' : World) : Prop :=
  (okNew per links = false → e = .returned (.tuple #[.pointer none, .int .i64 2])) ∧
  (okNew per links = true → ∃ g A cap gs, e = .returned (.tuple #[ptr g, .int .i64 0]) ∧ Pol w' w.heap.size w'.heap.size g A cap gs per 0 (links.map newS)) ∧ Below w.heap.size w w'
theorem all_step {p : Bs → Bool} {l : List Bs} {j : Nat} (h : j < l.length) : (l.take (j + 1)).all p = ((l.take j).all p && p (l.getD j [])) := by
  rw [List.take_succ_eq_append_getElem h, List.all_append]
  simp [h]
theorem map_step {α : Type} (f : Bs → α) {l : List Bs} {j : Nat} (h : j < l.length) : (l.take (j + 1)).map f = (l.take j).map f ++ [f (l.getD j [])] := by
  rw [List.take_succ_eq_append_getElem h, List.map_append]
  simp [h]
theorem all_false {p : Bs → Bool} {l : List Bs} {j : Nat} (h : j < l.length) (hp : p (l.getD j []) = false) : l.all p = false := by
  rw [List.all_eq_false]
  exact ⟨l.getD j [], by simp [h], by rw [hp]; decide⟩
set_option maxHeartbeats 16000000 in
set_option maxRecDepth 100000 in
theorem new_any (per : Int) (links : List Bs) (A : Option Addr) (cl : Nat) (w : World) (hT : Tabs w) (hcl : links.length ≤ cl ∧ cl ≤ 9223372036854775807)
    (hr : Rd w w.heap.size 1 A links.length (strs links)) (hs : ∀ s ∈ links, s.length ≤ 9223372036854775807) :
    Calls Tryz.prog 26 #[.int .i64 per, .slice A links.length cl] w (NewP per links w) := by
  by_cases h1 : 1 ≤ per ∧ per ≤ 1048576 ∧ links.length ≤ 32
  case neg =>
    have hk : okNew per links = false := by
      cases hq : okNew per links with
      | false => rfl
      | true =>
        unfold okNew at hq
        simp only [Bool.and_eq_true, decide_eq_true_eq] at hq
        exact absurd ⟨hq.1.1.1, hq.1.1.2, hq.1.2⟩ h1
    suffices key : Calls Tryz.prog 26 #[.int .i64 per, .slice A links.length cl] w fun e w' => e = .returned (.tuple #[.pointer none, .int .i64 2]) ∧ Below w.heap.size w w' from
      key.mono fun e w' h => ⟨fun _ => h.1, fun h2 => (by rw [hk] at h2; cases h2), h.2⟩
    clear hk hT hr hs
    obtain ⟨n, hn⟩ : ∃ n, n = links.length := ⟨_, rfl⟩
    rw [← hn] at h1 hcl ⊢
    clear hn
    by_cases a : per < 1
    · have t1 : decide (per < 1) = true := decide_eq_true a
      clear h1 a
      go_enter Tryz.func26, Tryz.ntmps26
      go_wp2_with fail
      go_ret2
      exact ⟨rfl, Below.refl _ _⟩
    · have t1 : decide (per < 1) = false := decide_eq_false a
      by_cases b : per > 1048576
      · have t2 : decide (per > 1048576) = true := decide_eq_true b
        clear h1 a b
        go_enter Tryz.func26, Tryz.ntmps26
        go_wp2_with fail
        go_ret2
        exact ⟨rfl, Below.refl _ _⟩
      · have t2 : decide (per > 1048576) = false := decide_eq_false b
        have t3 : decide ((n : Int) > 32) = true := decide_eq_true (by omega)
        have t4 : decide (32 < n) = true := decide_eq_true (by omega)
        clear h1 a b
        go_enter Tryz.func26, Tryz.ntmps26
        go_wp2_with fail
        go_ret2
        exact ⟨rfl, Below.refl _ _⟩
  case pos =>
    have t1 : decide (per < 1) = false := decide_eq_false (by omega)
    have t2 : decide (per > 1048576) = false := decide_eq_false (by omega)
    have t3 : decide ((links.length : Int) > 32) = false := decide_eq_false (by omega)
    have t4 : decide (32 < links.length) = false := decide_eq_false (by omega)
    have hk : okNew per links = links.all fun s => (parseP s).isSome := by
      unfold okNew
      rw [decide_eq_true h1.1, decide_eq_true h1.2.1, decide_eq_true h1.2.2]; rfl
    unfold NewP
    rw [hk]
    have hn32 := h1.2.2
    have HRd := Lib.hid hr
    have hpa := Lib.hid (fun (j : Nat) (hj : j < links.length) W (h : Below w.heap.size w W) => parse_val (links.getD j []) W (hT.below h) (hs _ (by simp [hj])))
    have HA := Lib.hid (fun (j : Nat) (h : j < links.length) => all_step (p := fun s => (parseP s).isSome) h)
    have HM := Lib.hid (fun (j : Nat) (h : j < links.length) => map_step newS h)
    have HF := Lib.hid (fun (j : Nat) (h : j < links.length) => all_false (p := fun s => (parseP s).isSome) h)
    have HX := Lib.hid (fun (j : Nat) (h : j < links.length) => (show (strs links)[j]? = some (.string (bs (links.getD j []))) by unfold strs; simp [h]))
    have HE := Lib.hid (show (links.take links.length).all (fun s => (parseP s).isSome) = links.all (fun s => (parseP s).isSome) ∧ (links.take links.length).map newS = links.map newS by rw [List.take_length]; exact ⟨rfl, rfl⟩)
    clear hk h1 hr hs hT
    obtain ⟨XS, hXS⟩ : ∃ XS, XS = strs links := ⟨_, rfl⟩
    rw [← hXS] at HRd HX
    clear hXS
    obtain ⟨n, hn⟩ : ∃ n, n = links.length := ⟨_, rfl⟩
    rw [← hn] at t3 t4 hn32 HRd hpa HA HM HF HX HE hcl ⊢
    have HN := Lib.hid hn
    clear hn
    obtain ⟨gp, hgp⟩ : ∃ gp, gp = w.heap.size := ⟨_, rfl⟩
    have HGP := Lib.hid hgp
    clear hgp
    go_enter Tryz.func26, Tryz.ntmps26
    go_upto_region 4 with fail
    have H0 := Lib.hid (NW.start w per)
    go_upto_block 1 with fail
    go_loopw [27] (fun i wr => ∃ (j : Nat) (A' : Option Addr) (cap' : Nat) (gs : List Nat), i = .int .i64 (j : Int) ∧ j ≤ n ∧ gs.length = j ∧ Hid (NW w wr w.heap.size A' cap' gs per ((links.take j).map newS)) ∧ Hid ((links.take j).all (fun s => (parseP s).isSome) = true)) (fun i _ => n - (intOf i).toNat)
    case atStart => exact ⟨0, none, 0, [], rfl, Nat.zero_le _, rfl, H0, Lib.hid rfl⟩
    case round =>
      obtain ⟨j, A', cap', gs, rfl, hj, hgl, H, HAll⟩ := hrel
      have HGL := Lib.hid hgl
      have hgn : gs.length ≤ 32 := by omega
      clear H0 hgl
      by_cases hjn : j < n
      · have tj : decide ((j : Int) < (n : Int)) = true := by rw [decide_eq_true_eq]; omega
        obtain ⟨b, off, hA, _, hc⟩ := (HRd.out.keep H.out.bel).at_ (by omega)
        subst hA
        have hcj := (hc j (by omega)).trans (HX.out j hjn)
        have hp := Lib.hid (hpa.out j hjn wr H.out.bel)
        have HA1 := Lib.hid (HA.out j hjn)
        have HM1 := Lib.hid (HM.out j hjn)
        have HF1 := Lib.hid (HF.out j hjn)
        clear hc
        generalize links.getD j [] = s at *
        obtain ⟨E, hE⟩ : ∃ E, E = errI (parseP s) := ⟨_, rfl⟩
        rw [← hE] at hp
        have HEr := Lib.hid hE
        clear hE
        obtain ⟨X, hX⟩ : ∃ X, X = (parseP s).getD Link.zero := ⟨_, rfl⟩
        rw [← hX] at hp
        clear hX
        go_upto_region 8 with (first | (go_at_call 14; refine hp.out.mono ?_; rintro e W1 ⟨rfl, hb1⟩; have H1 := Lib.hid (H.out.call hb1); clear hb1) | ((with_reducible refine atS 9 34 ?_); refine wpList_storeL rfl (.tmp 9) (.tmp 34) rfl W1.heap.size (lcs X).toArray (by rfl) (by rfl) zcs (new_zcs W1) rfl rfl rfl ?_; intro X1 hb1 ht1; have H2 := Lib.hid (H1.out.call (ht1.below W1.heap.size W1 (Nat.le_refl _) (below_one W1 _))); clear hb1 ht1))
        clear hcj H H1 hp
        cases hps : parseP s with
        | none =>
          have hEv : E = 40 := by rw [HEr.out, hps] <;> rfl
          subst hEv
          have HF2 := Lib.hid (HF1.out (by simp [hps]))
          clear hps HA1 HM1 HF1
          go_wp2_with fail
          go_ret2
          exact ⟨fun _ => rfl, fun h => (by rw [HF2.out] at h; cases h), H2.out.bel⟩
        | some l =>
          have hEv : E = 0 := by rw [HEr.out, hps] <;> rfl
          subst hEv
          have HA2 := Lib.hid (HA1.out.trans (show _ = true by rw [HAll.out, hps] <;> rfl))
          clear hps HA1 HF1
          have k2 := (blk_cell H2.out.head 2).trans (show _ = some (.slice A' gs.length cap') from rfl)
          have hbs := H2.out.bel.size
          have hc63 := H2.out.cap63
          go_wp2_with (first | ((with_reducible refine atD 44 ?_); refine wpList_val rfl (.agg (scs (newS s)).toArray) (by go_simp; rfl) ?_) | (at_builtin; refine wpList_pushG rfl (.tmp 42) (.tmp 46) 85 rfl w.heap.size 88 _ 1 8 Tryz.underlying85 infoP88 rfl (by decide) (.slice A' gs.length cap') gs.length (gs.map ptr) (by rfl) (H2.out.row.alloc _) #[ptr X1.heap.size] 1 (by decide) (by first | rfl | (show Value.slice _ _ _ = _; simp)) rfl rfl (by omega) (by omega) (by simp only [World.size_alloc]; omega) ?_; intro g3 cap3 W3 hown3 hg3 hb3 hgr3; have HH := Lib.hid (H2.out.head3 (newS s) rfl hgr3); have HO3 := Lib.hid hown3; have HB3 := Lib.hid hb3; have HG3 := Lib.hid hgr3; clear hown3 hg3 hb3 hgr3) | ((with_reducible refine atS 49 47 ?_); refine wpList_storeC rfl 85 (.tmp 49) (.tmp 47) rfl w.heap.size 2 (.slice (some ⟨g3, 0, none⟩) (gs.length + 1) cap3) (by rfl) (by rfl) rfl info85 87 _ HH.out (by exact Nat.le_of_ble_eq_true rfl) ?_; intro W4 hb1 ht1; have H5 := Lib.hid (H2.out.push (newS s) rfl rfl HO3.out HB3.out HG3.out hb1 ht1); rw [← HM1.out] at H5; clear hb1 ht1))
          exact ⟨⟨j + 1, _, _, _, by go_num, by omega, (by have := HGL.out; simp; omega), H5, HA2⟩, by simp [intOf]; omega⟩
      · have tj : decide ((j : Int) < (n : Int)) = false := by rw [decide_eq_false_iff_not]; omega
        obtain rfl : j = n := by omega
        have HAl := Lib.hid (HE.out.1.symm.trans HAll.out)
        have H5 := H
        rw [HE.out.2] at H5
        go_wp2_with fail
        go_ret2
        exact ⟨fun h => (by rw [HAl.out] at h; cases h), fun _ => ⟨_, _, _, _, rfl, H5.out.pol⟩, H5.out.bel⟩
end Go.Proofs.YtcpkkaimingnlaaGreatDoor
end
section
namespace Go.Proofs.YtcpkkaimingnlaaGreatDoor
open Go.RowKit

theorem run_loadMA {o : Oper} {a : Act} {W : World} {g off : Nat} {k : Ask} (x : Operand) (ho : o.op = .load 69 x) (hx : a.eval x = .pointer (some ⟨g, off, none⟩)) (hr : W.rangeAt g off (akc k)) :
    (execOp a.eval o).run Tryz.prog W = .ok (.value (.agg (akc k).toArray)) W := by
  unfold execOp
  simp only [ho, hx, Sem.run_bind, Sem.run_pure, Result.andThen_ok, run_loadAt_mid (P := Tryz.prog) W g off 69 (akc k) _ hr Tryz.underlying69 rfl info69]
theorem take_eq {l m : List Ask} {j : Nat} {x y : Ask} (hl : l[j]? = some x) (hm : m[j]? = some y) (h : l.take j = m.take j) : (l.take (j + 1) = m.take (j + 1)) ↔ x = y := by
  rw [List.take_add_one, List.take_add_one, hl, hm, h]
  simp
set_option maxHeartbeats 8000000 in
set_option maxRecDepth 100000 in
theorem same_any (l m : List Ask) (B1 B2 : Nat) (v1 v2 : Value) (w : World) (h1 : AOwn w B1 v1 l) (h2 : AOwn w B2 v2 m) (hl : l.length ≤ 1000000) (hm : m.length ≤ 1000000) :
    Calls Tryz.prog 29 #[v1, v2] w fun e w' => e = .returned (.bool (decide (l = m))) ∧ Below w.heap.size w w' := by
  obtain ⟨A1, c1, e1, hc1, hcm1, _⟩ := h1.form
  obtain ⟨A2, c2, e2, hc2, hcm2, _⟩ := h2.form
  subst e1 e2
  have H1 := Lib.hid h1
  have H2 := Lib.hid h2
  clear h1 h2
  by_cases hlm : l.length = m.length
  case neg =>
    have e : decide (l = m) = false := decide_eq_false (fun e => hlm (by rw [e]))
    rw [e]
    have t1 : ((((l.length : Nat) : Int)) != ((m.length : Nat) : Int)) = true := by rw [bne_iff_ne]; omega
    clear e hlm H1 H2
    generalize l.length = n1 at *
    generalize m.length = n2 at *
    go_enter Tryz.func29, Tryz.ntmps29
    go_wp2_with fail
    go_ret
    exact ⟨rfl, Below.refl _ _⟩
  case pos =>
    obtain ⟨D, hD⟩ : ∃ D, D = decide (l = m) := ⟨_, rfl⟩
    rw [← hD]
    have HD := Lib.hid hD
    have HL : Hid (l.length = m.length) := Lib.hid hlm
    rw [← hlm] at hc2 ⊢
    obtain ⟨n, hn⟩ : ∃ n, n = l.length := ⟨_, rfl⟩
    rw [← hn] at hc1 hc2 hl ⊢
    have HN := Lib.hid hn
    clear hD hlm hn hm
    go_enter Tryz.func29, Tryz.ntmps29
    go_upto_block 1 with fail
    go_loopw [13] (fun i wr => ∃ j : Nat, i = .int .i64 (j : Int) ∧ j ≤ n ∧ Hid (l.take j = m.take j) ∧ Hid (Below w.heap.size w wr)) (fun i _ => n - (intOf i).toNat)
    case atStart => exact ⟨0, rfl, Nat.zero_le _, Lib.hid rfl, Lib.hid (Below.refl _ _)⟩
    case round =>
      obtain ⟨j, rfl, hj, HE, HB⟩ := hrel
      by_cases hjn : j < n
      · have tj : decide ((j : Int) < (n : Int)) = true := by rw [decide_eq_true_eq]; omega
        obtain ⟨x, hx⟩ : ∃ x, l[j]? = some x := ⟨l[j]'(by have := HN.out; omega), List.getElem?_eq_getElem _⟩
        obtain ⟨y, hy⟩ : ∃ y, m[j]? = some y := ⟨m[j]'(by have := HN.out; have := HL.out; omega), List.getElem?_eq_getElem _⟩
        obtain ⟨_, g1, hA1, _, _, hr1⟩ := (H1.out.keep HB.out).at_ j x hx
        obtain ⟨_, g2, hA2, _, _, hr2⟩ := (H2.out.keep HB.out).at_ j y hy
        subst hA1 hA2
        have HX := Lib.hid (show wr.drew.rangeAt g1 (4 * j) (akc x) from hr1)
        have HY := Lib.hid (show wr.drew.rangeAt g2 (4 * j) (akc y) from hr2)
        have HQ := Lib.hid (take_eq hx hy HE.out)
        have HNE := Lib.hid (fun (h : l = m) => (show x = y by rw [h, hy] at hx; injection hx with hx; exact hx.symm))
        clear hr1 hr2 hx hy HE
        obtain ⟨bq, hbq⟩ : ∃ bq, bq = decide (x = y) := ⟨_, rfl⟩
        have HBq := Lib.hid hbq
        clear hbq
        go_upto_region 6 with fail
        refine wp_region_noPanic ?_
        refine wp_region_held_drew (S := (fun W => W.rangeAt g1 (4 * j) (akc x) ∧ W.rangeAt g2 (4 * j) (akc y))) (by kernel_rfl) (by exact ⟨HX.out, HY.out⟩) (fun hHeld => ?_)
        refine wpAnyH_take (i := 0) (v := ?v1) rfl (by kernel_rfl) (by kernel_rfl) (by kernel_rfl) (fun _ _ _ h => h) (Or.inl ⟨by kernel_rfl, ?y1⟩) (by assumption) ?t1
        case y1 => (intro w hSw; (try dsimp only at hSw); go_simp; try with_reducible rfl)
        try simp only [Act.put, List.getElem_toArray, List.getElem_cons_succ, List.getElem_cons_zero, List.setIfInBounds_toArray, List.set_cons_zero, List.set_cons_succ]
        refine wpAnyH_take (i := 1) (v := ?v2) rfl (by kernel_rfl) (by kernel_rfl) (by kernel_rfl) (fun _ _ _ h => h) (Or.inl ⟨by kernel_rfl, ?y2⟩) (by assumption) ?t2
        case y2 => (intro w hSw; (try dsimp only at hSw); go_simp; try with_reducible rfl)
        try simp only [Act.put, List.getElem_toArray, List.getElem_cons_succ, List.getElem_cons_zero, List.setIfInBounds_toArray, List.set_cons_zero, List.set_cons_succ]
        refine wpAnyH_take (i := 2) (v := .pointer (some ⟨g1, 4 * j, none⟩)) rfl (by kernel_rfl) (by kernel_rfl) (by kernel_rfl) (fun _ _ _ h => h) (Or.inl ⟨by kernel_rfl, ?y3⟩) (by assumption) ?_
        case y3 => (intro w hSw; (try dsimp only at hSw); go_simp; try with_reducible rfl)
        try simp only [Act.put, List.getElem_toArray, List.getElem_cons_succ, List.getElem_cons_zero, List.setIfInBounds_toArray, List.set_cons_zero, List.set_cons_succ]
        refine wpAnyH_take (i := 3) (v := .agg (akc x).toArray) rfl (by kernel_rfl) (by kernel_rfl) (by kernel_rfl) (fun _ _ _ h => h) (Or.inl ⟨by kernel_rfl, ?z3⟩) (by assumption) ?_
        case z3 => (intro w hSw; exact run_loadMA (.tmp 18) rfl rfl hSw.1)
        try simp only [Act.put, List.getElem_toArray, List.getElem_cons_succ, List.getElem_cons_zero, List.setIfInBounds_toArray, List.set_cons_zero, List.set_cons_succ]
        refine wpAnyH_take (i := 4) (v := ?v4) rfl (by kernel_rfl) (by kernel_rfl) (by kernel_rfl) (fun _ _ _ h => h) (Or.inl ⟨by kernel_rfl, ?y4⟩) (by assumption) ?t4
        case y4 => (intro w hSw; (try dsimp only at hSw); go_simp; try with_reducible rfl)
        try simp only [Act.put, List.getElem_toArray, List.getElem_cons_succ, List.getElem_cons_zero, List.setIfInBounds_toArray, List.set_cons_zero, List.set_cons_succ]
        refine wpAnyH_take (i := 5) (v := ?v5) rfl (by kernel_rfl) (by kernel_rfl) (by kernel_rfl) (fun _ _ _ h => h) (Or.inl ⟨by kernel_rfl, ?y5⟩) (by assumption) ?t5
        case y5 => (intro w hSw; (try dsimp only at hSw); go_simp; try with_reducible rfl)
        try simp only [Act.put, List.getElem_toArray, List.getElem_cons_succ, List.getElem_cons_zero, List.setIfInBounds_toArray, List.set_cons_zero, List.set_cons_succ]
        refine wpAnyH_take (i := 6) (v := .pointer (some ⟨g2, 4 * j, none⟩)) rfl (by kernel_rfl) (by kernel_rfl) (by kernel_rfl) (fun _ _ _ h => h) (Or.inl ⟨by kernel_rfl, ?y6⟩) (by assumption) ?_
        case y6 => (intro w hSw; (try dsimp only at hSw); go_simp; try with_reducible rfl)
        try simp only [Act.put, List.getElem_toArray, List.getElem_cons_succ, List.getElem_cons_zero, List.setIfInBounds_toArray, List.set_cons_zero, List.set_cons_succ]
        refine wpAnyH_take (i := 7) (v := .agg (akc y).toArray) rfl (by kernel_rfl) (by kernel_rfl) (by kernel_rfl) (fun _ _ _ h => h) (Or.inl ⟨by kernel_rfl, ?z7⟩) (by assumption) ?_
        case z7 => (intro w hSw; exact run_loadMA (.tmp 22) rfl rfl hSw.2)
        try simp only [Act.put, List.getElem_toArray, List.getElem_cons_succ, List.getElem_cons_zero, List.setIfInBounds_toArray, List.set_cons_zero, List.set_cons_succ]
        refine wpAnyH_take (i := 8) (v := .bool (!bq)) rfl (by kernel_rfl) (by kernel_rfl) (by kernel_rfl) (fun _ _ _ h => h) (Or.inl ⟨by kernel_rfl, ?z8⟩) (by assumption) ?_
        case z8 => (intro w hSw; exact (by rw [HBq.out]; exact run_neKA (.tmp 19) (.tmp 23) _ rfl x y rfl rfl))
        try simp only [Act.put, List.getElem_toArray, List.getElem_cons_succ, List.getElem_cons_zero, List.setIfInBounds_toArray, List.set_cons_zero, List.set_cons_succ]
        refine wpAnyH_done (by kernel_rfl) ?_ _
        refine NoPanic.normal ?_
        try simp only [Act.put, List.getElem_toArray, List.getElem_cons_succ, List.getElem_cons_zero, List.setIfInBounds_toArray, List.set_cons_zero, List.set_cons_succ]
        cases bq with
        | true =>
          have hxy : x = y := of_decide_eq_true HBq.out.symm
          have HE2 := Lib.hid (HQ.out.2 hxy)
          have HB2 := Lib.hid HB.out.drew
          clear hxy HQ HNE hHeld HX HY
          go_wp2_with fail
          exact ⟨⟨j + 1, by go_num, by omega, HE2, HB2⟩, by simp [intOf]; omega⟩
        | false =>
          have hxy : ¬ x = y := of_decide_eq_false HBq.out.symm
          have e : D = false := by rw [HD.out]; exact decide_eq_false (fun h => hxy (HNE.out h))
          subst e
          have HB2 := Lib.hid HB.out.drew
          clear hxy HQ HNE hHeld HX HY
          go_wp2_with fail
          go_ret
          exact ⟨rfl, HB2.out⟩
      · have tj : decide ((j : Int) < (n : Int)) = false := by rw [decide_eq_false_iff_not]; omega
        have e : D = true := by
          rw [HD.out]
          refine decide_eq_true ?_
          have h := HE.out
          have e1 := HN.out
          have e2 := HL.out
          rw [List.take_of_length_le (by omega), List.take_of_length_le (by omega)] at h
          exact h
        subst e
        go_wp2_with fail
        go_ret
        exact ⟨rfl, HB.out⟩
end Go.Proofs.YtcpkkaimingnlaaGreatDoor
end
