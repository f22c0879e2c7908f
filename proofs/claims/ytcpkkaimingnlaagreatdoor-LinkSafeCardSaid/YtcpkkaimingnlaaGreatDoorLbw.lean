/-
  A Builder of the call's own: the check ahead of each write, a byte, a text written, read at the end.
-/
import Derived.Test.YtcpkkaimingnlaaGreatDoorLrs
import Derived.Lib.AppendStr
namespace Go.Proofs.YtcpkkaimingnlaaGreatDoor
open Go.RowKit

theorem info98 : ∃ j, Tryz.prog.info? 98 = some j ∧ j.size = 2 := by
  have h : (Tryz.prog.info? 98).map (·.size) = some 2 := by kernel_rfl
  obtain ⟨j, h1, h2⟩ := Option.map_eq_some_iff.1 h
  exact ⟨j, h1, h2⟩
set_option maxHeartbeats 1000000 in
set_option maxRecDepth 100000 in
theorem check_used (b : Nat) (w : World) (h0 : w.cell? ⟨b, 0, none⟩ = some (.pointer (some ⟨b, 0, none⟩))) :
    Calls Tryz.prog 99 #[.pointer (some ⟨b, 0, none⟩)] w fun e w' => e = .returned (.tuple #[]) ∧ w' = w := by
  obtain ⟨j, hj, _⟩ := info98
  have hne := Lib.run_neq_ptr_same (P := Tryz.prog) w (⟨b, 0, none⟩ : Addr) Tryz.underlying96 hj
  go_enter Tryz.func99, Tryz.ntmps99
  go_wp2_with fail
  go_end0
  exact ⟨rfl, rfl⟩
set_option maxHeartbeats 1000000 in
set_option maxRecDepth 100000 in
theorem check_fresh (b : Nat) (w : World) (h0 : w.cell? ⟨b, 0, none⟩ = some (.pointer none)) (hsh : w.shape? b = some (98, 2)) (hfz : w.frozen? ⟨b, 0, none⟩ = false) :
    Calls Tryz.prog 99 #[.pointer (some ⟨b, 0, none⟩)] w fun e w' => e = .returned (.tuple #[]) ∧ w' = w.setCell ⟨b, 0, none⟩ (.pointer (some ⟨b, 0, none⟩)) := by
  obtain ⟨j, hj, hjs⟩ := info98
  have hto := Lib.run_to_unsafe (P := Tryz.prog) w (⟨b, 0, none⟩ : Addr) Tryz.underlying96 Tryz.underlying133 hj (by rw [hjs]; decide) hsh (Nat.zero_lt_succ 1)
  have hfrom := Lib.run_from_unsafe (P := Tryz.prog) w (⟨b, 0, none⟩ : Addr) Tryz.underlying133 Tryz.underlying96 hj hsh (by kernel_rfl)
  have hesc : (callFunc 120 #[.pointer (some ⟨b, 0, none⟩)]).run Tryz.prog w = .ok (.value (.pointer (some ⟨b, 0, none⟩))) w := by
    rw [run_callFunc_extern Tryz.func120 (by kernel_rfl) (by kernel_rfl) (by kernel_rfl) (e := Extern.AbiNoEscape.same) (by kernel_rfl)]
    rw [Lib.run_noEscape]
    rfl
  go_enter Tryz.func99, Tryz.ntmps99
  go_wp2_with fail
  go_end0
  exact ⟨rfl, rfl⟩
def Bld (w : World) (B b : Nat) (l : Bs) : Prop := Lib.IsBuilder 98 5 B b (Lib.byteCells l) w
theorem bytes_len (l : Bs) : (Lib.byteCells l).length = l.length := by simp [Lib.byteCells]
theorem check_any (B b : Nat) (l : Bs) (w : World) (h : Bld w B b l) :
    Calls Tryz.prog 99 #[.pointer (some ⟨b, 0, none⟩)] w fun e w' => e = .returned (.tuple #[]) ∧ Lib.BuilderAt 98 5 B b (.pointer (some ⟨b, 0, none⟩)) (Lib.byteCells l) w' ∧ Below B w w' := by
  rcases h with h | h
  · refine (check_fresh b w h.cell0 h.shape h.frozen0).mono ?_
    rintro e w' ⟨rfl, rfl⟩
    exact ⟨rfl, h.used _, (Below.refl B w).setCell (p := ⟨b, 0, none⟩) h.1 _⟩
  · refine (check_used b w h.cell0).mono ?_
    rintro e w' ⟨rfl, rfl⟩
    exact ⟨rfl, h, Below.refl B _⟩
theorem wpList_pushG {P : Program} {w : World} {ops : Array Oper} {rest : List Oper} {o : Oper} {a : Act} {Q : Exit → Act → World → Prop} (hgd : o.guard = none) (s x : Operand) (t : TypeId)
    (ho : o.op = .call { callee := .builtin .append, args := #[s, x], argTypes := #[t, t] })
    (base : Nat) (e : TypeId) (z : Value) (size bytes : Nat) (ht : P.underlying t = some (.slice e)) (hinfo : (P.info? e).map (fun i => (i.zero, i.size, i.bytes)) = some (some z, size, bytes))
    (hzs : z.cells.size = size) (hsz : 0 < size)
    (v : Value) (n : Nat) (xs : List Value) (hs : a.eval s = v) (hown : w.ownsRow base e size v n xs)
    (cs : Array Value) (m : Nat) (hm : 0 < m) (hx : a.eval x = .slice (some ⟨w.heap.size, 0, none⟩) m m) (hcs : cs.size = m * size) (h1 : cs.toList.all Value.oneCell' = true)
    (h63 : n + m ≤ 9223372036854775807) (hbytes : (n + m) * bytes ≤ 140737488355328) (hbase : base ≤ w.heap.size)
    (h : ∀ g cap w', w'.ownsRow base e size (.slice (some ⟨g, 0, none⟩) (n + m) cap) (n + m) (xs ++ cs.toList) → base ≤ g → Below base w w' → (w.alloc (.cells cs e)).grownBy w' v.ownBlock →
      wpList P ops Q rest (a.put o.dst (.slice (some ⟨g, 0, none⟩) (n + m) cap)) w') : wpList P ops Q (o :: rest) a (w.alloc (.cells cs e)) := by
  obtain ⟨i0, hi, hz0, hz1, hz2⟩ := info_parts hinfo
  refine wpList_append_own _ hgd s x t ho base e i0 z size bytes ht hi hz0 hz1 hz2 hzs hsz v n xs hs (hown.alloc _) ⟨w.heap.size, 0, none⟩ m m cs.toList hx (by simpa using hcs) (cells_new w cs e) (List.all_eq_true.1 h1) (by unfold maxLen; omega) hbytes (by simp; omega) ?_
  intro v' w' hown' hg _
  obtain ⟨g, cap, rfl, hb, _⟩ := hown'.form (by omega)
  refine h g cap w' hown' hb ?_ hg
  exact ((Below.refl base w).alloc hbase _).grown hg (by simp; omega) (fun k hk => own_size hown k hk)
theorem strC_len (S : ByteArray) : (Lib.strCells S).length = S.size := by
  unfold Lib.strCells
  rw [List.length_map]
  rfl
theorem infoB : (Tryz.prog.info? 5).map (fun i => (i.zero, i.size, i.bytes)) = some (some (.int .u8 0), 1, 1) := by kernel_rfl
set_option maxHeartbeats 2000000 in
set_option maxRecDepth 100000 in
theorem writeByte_any (B b : Nat) (l : Bs) (c : UInt8) (w : World) (h : Bld w B b l) (hlen : l.length + 1 ≤ 9000000) (hBw : B ≤ w.heap.size) :
    Calls Tryz.prog 75 #[.pointer (some ⟨b, 0, none⟩), .int .u8 ((c.toNat : Nat) : Int)] w fun e w' => (∃ v, e = .returned v) ∧ Bld w' B b (l ++ [c]) ∧ Below B w w' := by
  have HC := Lib.hid (check_any B b l w h)
  have HL := Lib.hid (bytes_len l)
  have hbc : Lib.byteCells (l ++ [c]) = Lib.byteCells l ++ [.int .u8 ((c.toNat : Nat) : Int)] := by simp [Lib.byteCells]
  have HBC := Lib.hid hbc
  clear hbc h
  generalize ((c.toNat : Nat) : Int) = y at *
  go_enter Tryz.func75, Tryz.ntmps75
  go_upto_region 2 with (go_at_call 99; refine HC.out.mono ?_; rintro e w1 ⟨rfl, ⟨hB, v, hbk, hown, hne⟩, hb1⟩)
  have hs1 := hb1.size
  have hlt : b < w1.heap.size := (Array.getElem?_eq_some_iff.1 hbk).1
  obtain ⟨ao, cap, rfl⟩ : ∃ ao cap, v = .slice ao l.length cap := by
    rcases hown.2 with ⟨hv, h0⟩ | ⟨g, cap, cur, hv, _⟩
    · exact ⟨none, 0, by rw [hv, ← HL.out, h0]⟩
    · exact ⟨_, _, by rw [hv, HL.out]⟩
  have c1 : w1.cell? ⟨b, 1, none⟩ = some (.slice ao l.length cap) := by rw [Lib.cell_of_heap hbk]; rfl
  rw [HL.out] at hown
  have Hown := Lib.hid hown; have Hbk := Lib.hid hbk; have Hne := Lib.hid hne; have Hb1 := Lib.hid hb1
  clear hown hbk hne hb1 HC
  have hB2 : B ≤ w1.heap.size := by omega
  go_wp2_with (first | (at_builtin; (refine wpList_pushG rfl (.tmp 11) (.tmp 13) 46 rfl B 5 _ 1 1 Tryz.underlying46 infoB rfl (by decide) (.slice ao l.length cap) l.length _ (by rfl) Hown.out #[.int .u8 y] 1 (by decide) (by rfl) rfl rfl (by omega) (by omega) hB2 ?_; intro g cap' w2 hown' hgb hb2 hgrow; have Hown' := Lib.hid hown'; have Hb2 := Lib.hid hb2; have Hg := Lib.hid hgrow; have hb3 : w2.heap[b]? = some (.cells #[.pointer (some ⟨b, 0, none⟩), .slice ao l.length cap] 98 (0, 0)) := (hgrow.block b (Nat.lt_of_lt_of_le hlt (by simp)) (fun e => Hne.out e.symm)).trans ((Lib.alloc_old w1 _ b hlt).trans Hbk.out); have Hb3 := Lib.hid hb3; have d1 : w2.cell? ⟨b, 1, none⟩ = some (.slice ao l.length cap) := (Lib.cell_of_heap hb3 1).trans rfl; have f1 : w2.frozen? ⟨b, 1, none⟩ = false := Lib.frozen_of_heap hb3 1; clear hown' hb2 hgrow hb3)))
  go_ret
  refine ⟨⟨_, rfl⟩, .inr ?_, (Hb1.out.trans Hb2.out).setCell (p := ⟨b, 1, none⟩) hB _⟩
  refine Lib.BuilderAt.put (T := 98) (e := 5) hB Hb3.out ?_ (by decide)
  rw [HBC.out, List.length_append, HL.out]
  exact Hown'.out
set_option maxHeartbeats 2000000 in
set_option maxRecDepth 100000 in
theorem writeStr_any (B b : Nat) (l t : Bs) (w : World) (h : Bld w B b l) (hlen : l.length + t.length ≤ 9000000) (hBw : B ≤ w.heap.size) :
    Calls Tryz.prog 74 #[.pointer (some ⟨b, 0, none⟩), .string (bs t)] w fun e w' => (∃ v, e = .returned v) ∧ Bld w' B b (l ++ t) ∧ Below B w w' := by
  have HC := Lib.hid (check_any B b l w h)
  have HL := Lib.hid (bytes_len l)
  have hbc : Lib.byteCells (l ++ t) = Lib.byteCells l ++ Lib.strCells (bs t) := by
    have : Lib.strCells (bs t) = Lib.byteCells t := rfl
    rw [this]; simp [Lib.byteCells]
  have HBC := Lib.hid hbc
  have hz := bs_size t
  obtain ⟨i0, hi, hz0, hz1, hz2⟩ := info_parts infoB
  have HI := Lib.hid hi
  clear hbc h hi
  generalize bs t = S at *
  go_enter Tryz.func74, Tryz.ntmps74
  go_upto_region 2 with (go_at_call 99; refine HC.out.mono ?_; rintro e w1 ⟨rfl, ⟨hB, v, hbk, hown, hne⟩, hb1⟩)
  have hs1 := hb1.size
  have hlt : b < w1.heap.size := (Array.getElem?_eq_some_iff.1 hbk).1
  obtain ⟨ao, cap, rfl⟩ : ∃ ao cap, v = .slice ao l.length cap := by
    rcases hown.2 with ⟨hv, h0⟩ | ⟨g, cap, cur, hv, _⟩
    · exact ⟨none, 0, by rw [hv, ← HL.out, h0]⟩
    · exact ⟨_, _, by rw [hv, HL.out]⟩
  have c1 : w1.cell? ⟨b, 1, none⟩ = some (.slice ao l.length cap) := by rw [Lib.cell_of_heap hbk]; rfl
  rw [HL.out] at hown
  have Hown := Lib.hid hown; have Hbk := Lib.hid hbk; have Hne := Lib.hid hne; have Hb1 := Lib.hid hb1
  clear hown hbk hne hb1 HC
  have hB2 : B ≤ w1.heap.size := by omega
  have hn1 : l.length + S.size ≤ maxLen := by unfold maxLen; omega
  have hn2 : l.length + S.size ≤ 140737488355328 := by omega
  have HN1 := Lib.hid hn1; have HN2 := Lib.hid hn2; have HZ0 := Lib.hid hz0; have HZ1 := Lib.hid hz1; have HZ2 := Lib.hid hz2; have HZ := Lib.hid hz
  clear hn1 hn2 hz0 hz1 hz2 hz
  go_wp2_with (first | (at_builtin; (refine Lib.wpList_append_own_string _ rfl (.tmp 12) (.tmp 13) 46 9 rfl B 5 i0 Tryz.underlying46 Tryz.underlying9 HI.out HZ0.out HZ1.out HZ2.out (.slice ao l.length cap) l.length _ (by rfl) Hown.out S (by rfl) HN1.out HN2.out hB2 ?_; intro v' w2 hown' hgrow _; have Hown' := Lib.hid hown'; have hb2 : Below B w1 w2 := (Below.refl B w1).grown hgrow hB2 (fun k hk => own_size Hown.out k hk); have Hb2 := Lib.hid hb2; have hb3 : w2.heap[b]? = some (.cells #[.pointer (some ⟨b, 0, none⟩), .slice ao l.length cap] 98 (0, 0)) := (hgrow.block b hlt (fun e => Hne.out e.symm)).trans Hbk.out; have Hb3 := Lib.hid hb3; have d1 : w2.cell? ⟨b, 1, none⟩ = some (.slice ao l.length cap) := (Lib.cell_of_heap hb3 1).trans rfl; have f1 : w2.frozen? ⟨b, 1, none⟩ = false := Lib.frozen_of_heap hb3 1; obtain ⟨A', c', rfl, _⟩ := own_form Hown'.out; clear hown' hb2 hgrow hb3)))
  go_ret2
  refine ⟨⟨_, rfl⟩, .inr ?_, (Hb1.out.trans Hb2.out).setCell (p := ⟨b, 1, none⟩) hB _⟩
  refine Lib.BuilderAt.put (T := 98) (e := 5) hB Hb3.out ?_ (by decide)
  rw [HBC.out, List.length_append, HL.out, strC_len]
  exact Hown'.out
theorem bld_new (w : World) : Bld (w.alloc (.cells #[.pointer none, .slice none 0 0] 98)) w.heap.size w.heap.size [] :=
  .inl ⟨Nat.le_refl _, .slice none 0 0, heap_alloc_new w _, World.ownsRow_nil _ _ _ _, by simp [Value.ownBlock]⟩
theorem bldString_any (B b : Nat) (l : Bs) (w : World) (h : Bld w B b l) (hBw : B ≤ w.heap.size) :
    Calls Tryz.prog 76 #[.pointer (some ⟨b, 0, none⟩)] w fun e w' => e = .returned (.string (bs l)) ∧ Below B w w' :=
  (Tryz.Builder_String_any_f B b l w (Lib.IsBuilderF.of h) hBw).mono fun _ _ ⟨h1, _, h2⟩ => ⟨h1, h2⟩
theorem Bld.keep {w w' : World} {B b : Nat} {l : Bs} (h : Bld w B b l) (hb : Below w.heap.size w w') : Bld w' B b l := by
  have key : ∀ {p : Value}, Lib.BuilderAt 98 5 B b p (Lib.byteCells l) w → Lib.BuilderAt 98 5 B b p (Lib.byteCells l) w' := by
    intro p hp
    have hlt := hp.lt
    obtain ⟨hB, v, hbk, hown, hne⟩ := hp
    exact ⟨hB, v, (hb.block b hlt).trans hbk, own_keep hown hb, hne⟩
  exact h.elim (fun h => .inl (key h)) (fun h => .inr (key h))
end Go.Proofs.YtcpkkaimingnlaaGreatDoor
