/-
  Texts of this seat, joined: Lbw, Lno, Lcn, Lfi. Each says what it proves, ahead of itself.
-/
import Derived.Test.YtcpkkaimingnlaaGreatDoorMF
import Derived.Lib.AppendStr
set_option linter.unusedVariables false
set_option linter.unusedSimpArgs false
section
/-
  A Builder of the call's own: the check ahead of each write, a byte, a text written, read at the end.
-/
namespace Go.Proofs.YtcpkkaimingnlaaGreatDoor
open Go.RowKit

theorem info98 : ∃ j, Tryz.prog.info? 98 = some j ∧ j.size = 2 := by
  have h : (Tryz.prog.info? 98).map (·.size) = some 2 := by kernel_rfl
  obtain ⟨j, h1, h2⟩ := Option.map_eq_some_iff.1 h
  exact ⟨j, h1, h2⟩
set_option maxHeartbeats 1000000 in
set_option maxRecDepth 100000 in
theorem check_used (b : Nat) (w : World) (h0 : w.cell? ⟨b, 0, none⟩ = some (.pointer (some ⟨b, 0, none⟩))) :
    Calls Tryz.prog 99 #[.pointer (some ⟨b, 0, none⟩)] w fun e w' => e = .returned (.tuple #[]) ∧ w' = w := by
  obtain ⟨j, hj, _⟩ := info98
  have hne := Lib.run_neq_ptr_same (P := Tryz.prog) w (⟨b, 0, none⟩ : Addr) Tryz.underlying96 hj
  go_enter Tryz.func99, Tryz.ntmps99
  go_wp2_with fail
  go_end0
  exact ⟨rfl, rfl⟩
set_option maxHeartbeats 1000000 in
set_option maxRecDepth 100000 in
theorem check_fresh (b : Nat) (w : World) (h0 : w.cell? ⟨b, 0, none⟩ = some (.pointer none)) (hsh : w.shape? b = some (98, 2)) (hfz : w.frozen? ⟨b, 0, none⟩ = false) :
    Calls Tryz.prog 99 #[.pointer (some ⟨b, 0, none⟩)] w fun e w' => e = .returned (.tuple #[]) ∧ w' = w.setCell ⟨b, 0, none⟩ (.pointer (some ⟨b, 0, none⟩)) := by
  obtain ⟨j, hj, hjs⟩ := info98
  have hto := Lib.run_to_unsafe (P := Tryz.prog) w (⟨b, 0, none⟩ : Addr) Tryz.underlying96 Tryz.underlying133 hj (by rw [hjs]; decide) hsh (Nat.zero_lt_succ 1)
  have hfrom := Lib.run_from_unsafe (P := Tryz.prog) w (⟨b, 0, none⟩ : Addr) Tryz.underlying133 Tryz.underlying96 hj hsh (by kernel_rfl)
  have hesc : (callFunc 120 #[.pointer (some ⟨b, 0, none⟩)]).run Tryz.prog w = .ok (.value (.pointer (some ⟨b, 0, none⟩))) w := by
    rw [run_callFunc_extern Tryz.func120 (by kernel_rfl) (by kernel_rfl) (by kernel_rfl) (e := Extern.AbiNoEscape.same) (by kernel_rfl)]
    rw [Lib.run_noEscape]
    rfl
  go_enter Tryz.func99, Tryz.ntmps99
  go_wp2_with fail
  go_end0
  exact ⟨rfl, rfl⟩
def Bld (w : World) (B b : Nat) (l : Bs) : Prop := Lib.IsBuilder 98 5 B b (Lib.byteCells l) w
theorem bytes_len (l : Bs) : (Lib.byteCells l).length = l.length := by simp [Lib.byteCells]
theorem check_any (B b : Nat) (l : Bs) (w : World) (h : Bld w B b l) :
    Calls Tryz.prog 99 #[.pointer (some ⟨b, 0, none⟩)] w fun e w' => e = .returned (.tuple #[]) ∧ Lib.BuilderAt 98 5 B b (.pointer (some ⟨b, 0, none⟩)) (Lib.byteCells l) w' ∧ Below B w w' := by
  rcases h with h | h
  · refine (check_fresh b w h.cell0 h.shape h.frozen0).mono ?_
    rintro e w' ⟨rfl, rfl⟩
    exact ⟨rfl, h.used _, (Below.refl B w).setCell (p := ⟨b, 0, none⟩) h.1 _⟩
  · refine (check_used b w h.cell0).mono ?_
    rintro e w' ⟨rfl, rfl⟩
    exact ⟨rfl, h, Below.refl B _⟩
theorem wpList_pushG {P : Program} {w : World} {ops : Array Oper} {rest : List Oper} {o : Oper} {a : Act} {Q : Exit → Act → World → Prop} (hgd : o.guard = none) (s x : Operand) (t : TypeId)
    (ho : o.op = .call { callee := .builtin .append, args := #[s, x], argTypes := #[t, t] })
    (base : Nat) (e : TypeId) (z : Value) (size bytes : Nat) (ht : P.underlying t = some (.slice e)) (hinfo : (P.info? e).map (fun i => (i.zero, i.size, i.bytes)) = some (some z, size, bytes))
    (hzs : z.cells.size = size) (hsz : 0 < size)
    (v : Value) (n : Nat) (xs : List Value) (hs : a.eval s = v) (hown : w.ownsRow base e size v n xs)
    (cs : Array Value) (m : Nat) (hm : 0 < m) (hx : a.eval x = .slice (some ⟨w.heap.size, 0, none⟩) m m) (hcs : cs.size = m * size) (h1 : cs.toList.all Value.oneCell' = true)
    (h63 : n + m ≤ 9223372036854775807) (hbytes : (n + m) * bytes ≤ 140737488355328) (hbase : base ≤ w.heap.size)
    (h : ∀ g cap w', w'.ownsRow base e size (.slice (some ⟨g, 0, none⟩) (n + m) cap) (n + m) (xs ++ cs.toList) → base ≤ g → Below base w w' → (w.alloc (.cells cs e)).grownBy w' v.ownBlock →
      wpList P ops Q rest (a.put o.dst (.slice (some ⟨g, 0, none⟩) (n + m) cap)) w') : wpList P ops Q (o :: rest) a (w.alloc (.cells cs e)) := by
  obtain ⟨i0, hi, hz0, hz1, hz2⟩ := info_parts hinfo
  refine wpList_append_own _ hgd s x t ho base e i0 z size bytes ht hi hz0 hz1 hz2 hzs hsz v n xs hs (hown.alloc _) ⟨w.heap.size, 0, none⟩ m m cs.toList hx (by simpa using hcs) (cells_new w cs e) (List.all_eq_true.1 h1) (by unfold maxLen; omega) hbytes (by simp; omega) ?_
  intro v' w' hown' hg _
  obtain ⟨g, cap, rfl, hb, _⟩ := hown'.form (by omega)
  refine h g cap w' hown' hb ?_ hg
  exact ((Below.refl base w).alloc hbase _).grown hg (by simp; omega) (fun k hk => own_size hown k hk)
theorem strC_len (S : ByteArray) : (Lib.strCells S).length = S.size := by
  unfold Lib.strCells
  rw [List.length_map]
  rfl
theorem infoB : (Tryz.prog.info? 5).map (fun i => (i.zero, i.size, i.bytes)) = some (some (.int .u8 0), 1, 1) := by kernel_rfl
set_option maxHeartbeats 2000000 in
set_option maxRecDepth 100000 in
theorem writeByte_any (B b : Nat) (l : Bs) (c : UInt8) (w : World) (h : Bld w B b l) (hlen : l.length + 1 ≤ 9000000) (hBw : B ≤ w.heap.size) :
    Calls Tryz.prog 75 #[.pointer (some ⟨b, 0, none⟩), .int .u8 ((c.toNat : Nat) : Int)] w fun e w' => (∃ v, e = .returned v) ∧ Bld w' B b (l ++ [c]) ∧ Below B w w' := by
  have HC := Lib.hid (check_any B b l w h)
  have HL := Lib.hid (bytes_len l)
  have hbc : Lib.byteCells (l ++ [c]) = Lib.byteCells l ++ [.int .u8 ((c.toNat : Nat) : Int)] := by simp [Lib.byteCells]
  have HBC := Lib.hid hbc
  clear hbc h
  generalize ((c.toNat : Nat) : Int) = y at *
  go_enter Tryz.func75, Tryz.ntmps75
  go_upto_region 2 with (go_at_call 99; refine HC.out.mono ?_; rintro e w1 ⟨rfl, ⟨hB, v, hbk, hown, hne⟩, hb1⟩)
  have hs1 := hb1.size
  have hlt : b < w1.heap.size := (Array.getElem?_eq_some_iff.1 hbk).1
  obtain ⟨ao, cap, rfl⟩ : ∃ ao cap, v = .slice ao l.length cap := by
    rcases hown.2 with ⟨hv, h0⟩ | ⟨g, cap, cur, hv, _⟩
    · exact ⟨none, 0, by rw [hv, ← HL.out, h0]⟩
    · exact ⟨_, _, by rw [hv, HL.out]⟩
  have c1 : w1.cell? ⟨b, 1, none⟩ = some (.slice ao l.length cap) := by rw [Lib.cell_of_heap hbk]; rfl
  rw [HL.out] at hown
  have Hown := Lib.hid hown; have Hbk := Lib.hid hbk; have Hne := Lib.hid hne; have Hb1 := Lib.hid hb1
  clear hown hbk hne hb1 HC
  have hB2 : B ≤ w1.heap.size := by omega
  go_wp2_with (first | (at_builtin; (refine wpList_pushG rfl (.tmp 11) (.tmp 13) 46 rfl B 5 _ 1 1 Tryz.underlying46 infoB rfl (by decide) (.slice ao l.length cap) l.length _ (by rfl) Hown.out #[.int .u8 y] 1 (by decide) (by rfl) rfl rfl (by omega) (by omega) hB2 ?_; intro g cap' w2 hown' hgb hb2 hgrow; have Hown' := Lib.hid hown'; have Hb2 := Lib.hid hb2; have Hg := Lib.hid hgrow; have hb3 : w2.heap[b]? = some (.cells #[.pointer (some ⟨b, 0, none⟩), .slice ao l.length cap] 98 (0, 0)) := (hgrow.block b (Nat.lt_of_lt_of_le hlt (by simp)) (fun e => Hne.out e.symm)).trans ((Lib.alloc_old w1 _ b hlt).trans Hbk.out); have Hb3 := Lib.hid hb3; have d1 : w2.cell? ⟨b, 1, none⟩ = some (.slice ao l.length cap) := (Lib.cell_of_heap hb3 1).trans rfl; have f1 : w2.frozen? ⟨b, 1, none⟩ = false := Lib.frozen_of_heap hb3 1; clear hown' hb2 hgrow hb3)))
  go_ret
  refine ⟨⟨_, rfl⟩, .inr ?_, (Hb1.out.trans Hb2.out).setCell (p := ⟨b, 1, none⟩) hB _⟩
  refine Lib.BuilderAt.put (T := 98) (e := 5) hB Hb3.out ?_ (by decide)
  rw [HBC.out, List.length_append, HL.out]
  exact Hown'.out
set_option maxHeartbeats 2000000 in
set_option maxRecDepth 100000 in
theorem writeStr_any (B b : Nat) (l t : Bs) (w : World) (h : Bld w B b l) (hlen : l.length + t.length ≤ 9000000) (hBw : B ≤ w.heap.size) :
    Calls Tryz.prog 74 #[.pointer (some ⟨b, 0, none⟩), .string (bs t)] w fun e w' => (∃ v, e = .returned v) ∧ Bld w' B b (l ++ t) ∧ Below B w w' := by
  have HC := Lib.hid (check_any B b l w h)
  have HL := Lib.hid (bytes_len l)
  have hbc : Lib.byteCells (l ++ t) = Lib.byteCells l ++ Lib.strCells (bs t) := by
    have : Lib.strCells (bs t) = Lib.byteCells t := rfl
    rw [this]; simp [Lib.byteCells]
  have HBC := Lib.hid hbc
  have hz := bs_size t
  obtain ⟨i0, hi, hz0, hz1, hz2⟩ := info_parts infoB
  have HI := Lib.hid hi
  clear hbc h hi
  generalize bs t = S at *
  go_enter Tryz.func74, Tryz.ntmps74
  go_upto_region 2 with (go_at_call 99; refine HC.out.mono ?_; rintro e w1 ⟨rfl, ⟨hB, v, hbk, hown, hne⟩, hb1⟩)
  have hs1 := hb1.size
  have hlt : b < w1.heap.size := (Array.getElem?_eq_some_iff.1 hbk).1
  obtain ⟨ao, cap, rfl⟩ : ∃ ao cap, v = .slice ao l.length cap := by
    rcases hown.2 with ⟨hv, h0⟩ | ⟨g, cap, cur, hv, _⟩
    · exact ⟨none, 0, by rw [hv, ← HL.out, h0]⟩
    · exact ⟨_, _, by rw [hv, HL.out]⟩
  have c1 : w1.cell? ⟨b, 1, none⟩ = some (.slice ao l.length cap) := by rw [Lib.cell_of_heap hbk]; rfl
  rw [HL.out] at hown
  have Hown := Lib.hid hown; have Hbk := Lib.hid hbk; have Hne := Lib.hid hne; have Hb1 := Lib.hid hb1
  clear hown hbk hne hb1 HC
  have hB2 : B ≤ w1.heap.size := by omega
  have hn1 : l.length + S.size ≤ maxLen := by unfold maxLen; omega
  have hn2 : l.length + S.size ≤ 140737488355328 := by omega
  have HN1 := Lib.hid hn1; have HN2 := Lib.hid hn2; have HZ0 := Lib.hid hz0; have HZ1 := Lib.hid hz1; have HZ2 := Lib.hid hz2; have HZ := Lib.hid hz
  clear hn1 hn2 hz0 hz1 hz2 hz
  go_wp2_with (first | (at_builtin; (refine Lib.wpList_append_own_string _ rfl (.tmp 12) (.tmp 13) 46 9 rfl B 5 i0 Tryz.underlying46 Tryz.underlying9 HI.out HZ0.out HZ1.out HZ2.out (.slice ao l.length cap) l.length _ (by rfl) Hown.out S (by rfl) HN1.out HN2.out hB2 ?_; intro v' w2 hown' hgrow _; have Hown' := Lib.hid hown'; have hb2 : Below B w1 w2 := (Below.refl B w1).grown hgrow hB2 (fun k hk => own_size Hown.out k hk); have Hb2 := Lib.hid hb2; have hb3 : w2.heap[b]? = some (.cells #[.pointer (some ⟨b, 0, none⟩), .slice ao l.length cap] 98 (0, 0)) := (hgrow.block b hlt (fun e => Hne.out e.symm)).trans Hbk.out; have Hb3 := Lib.hid hb3; have d1 : w2.cell? ⟨b, 1, none⟩ = some (.slice ao l.length cap) := (Lib.cell_of_heap hb3 1).trans rfl; have f1 : w2.frozen? ⟨b, 1, none⟩ = false := Lib.frozen_of_heap hb3 1; obtain ⟨A', c', rfl, _⟩ := own_form Hown'.out; clear hown' hb2 hgrow hb3)))
  go_ret2
  refine ⟨⟨_, rfl⟩, .inr ?_, (Hb1.out.trans Hb2.out).setCell (p := ⟨b, 1, none⟩) hB _⟩
  refine Lib.BuilderAt.put (T := 98) (e := 5) hB Hb3.out ?_ (by decide)
  rw [HBC.out, List.length_append, HL.out, strC_len]
  exact Hown'.out
theorem bld_new (w : World) : Bld (w.alloc (.cells #[.pointer none, .slice none 0 0] 98)) w.heap.size w.heap.size [] :=
  .inl ⟨Nat.le_refl _, .slice none 0 0, heap_alloc_new w _, World.ownsRow_nil _ _ _ _, by simp [Value.ownBlock]⟩
theorem bldString_any (B b : Nat) (l : Bs) (w : World) (h : Bld w B b l) (hBw : B ≤ w.heap.size) :
    Calls Tryz.prog 76 #[.pointer (some ⟨b, 0, none⟩)] w fun e w' => e = .returned (.string (bs l)) ∧ Below B w w' :=
  (Tryz.Builder_String_any_f B b l w (Lib.IsBuilderF.of h) hBw).mono fun _ _ ⟨h1, _, h2⟩ => ⟨h1, h2⟩
theorem Bld.keep {w w' : World} {B b : Nat} {l : Bs} (h : Bld w B b l) (hb : Below w.heap.size w w') : Bld w' B b l := by
  have key : ∀ {p : Value}, Lib.BuilderAt 98 5 B b p (Lib.byteCells l) w → Lib.BuilderAt 98 5 B b p (Lib.byteCells l) w' := by
    intro p hp
    have hlt := hp.lt
    obtain ⟨hB, v, hbk, hown, hne⟩ := hp
    exact ⟨hB, v, (hb.block b hlt).trans hbk, own_keep hown hb, hne⟩
  exact h.elim (fun h => .inl (key h)) (fun h => .inr (key h))
end Go.Proofs.YtcpkkaimingnlaaGreatDoor
end
section
/-
  link.normal.
-/
namespace Go.Proofs.YtcpkkaimingnlaaGreatDoor
open Go.RowKit

theorem upperB_up (c : UInt8) : Lib.upperB c = upB c := by
  unfold Lib.upperB Lib.isLowerB upB
  simp [UInt8.le_iff_toNat_le]
theorem hexB_ascii {c : UInt8} (h : hexB c = true) : c.toNat < 128 := by rw [hexB_iff] at h; omega
theorem upper_hex (a b : UInt8) (ha : hexB a = true) (hb : hexB b = true) (w : World) :
    Calls Tryz.prog 92 #[.string (bs [37, a, b])] w fun e w' => e = .returned (.string (bs [37, upB a, upB b])) ∧ Below w.heap.size w w' := by
  have e1 : (bs [37, a, b]).data.toList = [37, a, b] := by simp [bs]
  have := Tryz.strings_ToUpper_ascii (bs [37, a, b]) w (by rw [bs_size]; simp) (by
    intro j x hx
    rw [e1] at hx
    have := hexB_ascii ha
    have := hexB_ascii hb
    match j, hx with
    | 0, hx => cases hx; decide
    | 1, hx => cases hx; assumption
    | 2, hx => cases hx; assumption)
  rw [e1] at this
  have e2 : Lib.toUpperA [37, a, b] = [37, upB a, upB b] := by
    unfold Lib.toUpperA
    simp only [List.map_cons, List.map_nil, upperB_up]
    rfl
  rw [e2] at this
  exact this
def unres4 : Bs := [45, 46, 95, 126]
theorem unres_idx (c : UInt8) : unresB c = (alB c || decide (0 ≤ Lib.indexByte unres4 c)) := by
  rw [← Lib.contains_iff_indexByte]
  unfold unresB unres4
  simp only [List.contains_cons, List.contains_nil, Bool.or_false, Bool.or_assoc]
theorem hex2_form {r : Bs} (h : hex2 r = true) : ∃ a b t, r = a :: b :: t ∧ hexB a = true ∧ hexB b = true := by
  match r, h with
  | a :: b :: t, h =>
    rw [hex2_cons, Bool.and_eq_true] at h
    exact ⟨a, b, t, rfl, h.1, h.2⟩
theorem hexZ_yes {a b : UInt8} (t : Bs) (ha : hexB a = true) (hb : hexB b = true) : hexZ (a :: b :: t) = (((pctN a b).toNat : Nat) : Int) := by
  rw [pct_nat ha hb]
  show (if (hexB a && hexB b) = true then ((16 * hexV a + hexV b : Nat) : Int) else -1) = _
  rw [if_pos (by rw [ha, hb]; rfl)]
theorem hexZ_no {r : Bs} (h : hex2 r = false) : hexZ r = -1 := by
  match r, h with
  | [], _ => rfl
  | [a], _ => rfl
  | a :: b :: t, h =>
    rw [hex2_cons] at h
    show (if (hexB a && hexB b) = true then ((16 * hexV a + hexV b : Nat) : Int) else -1) = _
    rw [if_neg (by rw [h]; decide)]
set_option maxHeartbeats 8000000 in
set_option maxRecDepth 100000 in
theorem normal_any (s : Bs) (w : World) (hl : s.length ≤ 900000) :
    Calls Tryz.prog 61 #[.string (bs s)] w fun e w' => e = .returned (.string (bs (normP s))) ∧ Below w.heap.size w w' := by
  have hz : (bs s).size = s.length := bs_size s
  have HX := Lib.hid (fun (i : Nat) (h : i < s.length) (w : World) => str_byte s i h w)
  have HF := Lib.hid (fun (i : Nat) (h : i ≤ s.length) (w : World) => str_from s i h w)
  have HC := Lib.hid (fun (a b : Nat) (h : a ≤ b) (hb : b ≤ s.length) (w : World) => str_cut s a b h hb w)
  have H84 := Lib.hid (fun (i : Nat) (W : World) => hex_any (s.drop i) W (by rw [List.length_drop]; omega))
  obtain ⟨N, hN⟩ : ∃ N, N = normP s := ⟨_, rfl⟩
  rw [← hN]
  obtain ⟨S, hS⟩ : ∃ S, S = bs s := ⟨_, rfl⟩
  rw [← hS] at hz ⊢
  simp only [← hS] at HX HF HC
  obtain ⟨n, hn⟩ : ∃ n, n = s.length := ⟨_, rfl⟩
  rw [← hn] at hz hl
  have HN := Lib.hid hN; have Hn := Lib.hid hn
  clear hN hS hn
  have hB0 := Lib.hid (bld_new w)
  have hA := Lib.hid (below_one w (.cells #[.pointer none, .slice none 0 0] 98))
  go_enter Tryz.func61, Tryz.ntmps61
  go_wp2_with fail
  go_loopw [4] (fun i wr => ∃ (j : Nat) (O : Bs), i = .int .i64 (j : Int) ∧ j ≤ n ∧ O.length ≤ j ∧ Hid (N = O ++ normP (s.drop j)) ∧ Hid (Bld wr w.heap.size w.heap.size O) ∧ Hid (Below w.heap.size w wr)) (fun i _ => n - (intOf i).toNat)
  case atStart => exact ⟨0, [], rfl, Nat.zero_le _, Nat.le_refl _, Lib.hid HN.out, hB0, hA⟩
  case round =>
    obtain ⟨j, O, rfl, hj, hO, HNj, HBld, HB⟩ := hrel
    have hsz := HB.out.size
    by_cases hjn : j < n
    · have tj : decide ((j : Int) < (n : Int)) = true := by rw [decide_eq_true_eq]; omega
      have hjl : j < s.length := by rw [← Hn.out]; exact hjn
      have hx := fun W => HX.out j hjl W
      have hd : s.drop j = s.getD j 0 :: s.drop (j + 1) := by rw [List.drop_eq_getElem_cons hjl]; simp [hjl]
      obtain ⟨c, hc⟩ : ∃ c, c = s.getD j 0 := ⟨_, rfl⟩
      rw [← hc] at hd
      simp only [← hc] at hx
      have hmiss : ¬ (c = 37 ∧ hex2 (s.drop (j + 1)) = true) → N = (O ++ [c]) ++ normP (s.drop (j + 1)) := by
        intro h
        rw [HNj.out, hd, normP_miss c _ h]; simp
      have hwb := Lib.hid (fun W (h : Bld W w.heap.size w.heap.size O) (hs : w.heap.size ≤ W.heap.size) => writeByte_any w.heap.size w.heap.size O c W h (by omega) hs)
      by_cases h37 : c = 37
      · have t37 : (((c.toNat : Nat) : Int) == 37) = true := by rw [h37]; rfl
        cases hh : hex2 (s.drop (j + 1)) with
        | false =>
          have hN2 := Lib.hid (hmiss (by rw [hh]; simp))
          have hf := fun W => HF.out (j + 1) hjl W
          have h84 := Lib.hid (fun W => H84.out (j + 1) W)
          rw [hexZ_no hh] at h84
          generalize bs (s.drop (j + 1)) = T at *
          have hf : ∀ W, (Instr.slice 9 (.string S) (some (.int .i64 ((j : Int) + 1))) none none).run Tryz.prog W = .ok (.string T) W := hf
          obtain ⟨y, hy⟩ : ∃ y : Int, y = ((c.toNat : Nat) : Int) := ⟨_, rfl⟩
          rw [← hy] at t37
          simp only [← hy] at hx hwb
          clear hh h37 hc hd hmiss hjl hy
          go_wp2_with (first | (go_at_call 84; refine (h84.out _).mono ?_; rintro e w1 ⟨rfl, hb1⟩; have HB1 := Lib.hid (HBld.out.keep hb1); have HB2 := Lib.hid (HB.out.trans (hb1.mono hsz)); clear hb1) | (go_at_call 75; refine (hwb.out _ HB1.out HB2.out.size).mono ?_; rintro e w2 ⟨⟨v, rfl⟩, hb3, hb4⟩; have HB3 := Lib.hid hb3; have HB4 := Lib.hid (HB2.out.trans hb4); clear hb3 hb4))
          exact ⟨⟨j + 1, O ++ [c], by go_num, by omega, by simp; omega, hN2, HB3, HB4⟩, by simp [intOf]; omega⟩
        | true =>
          obtain ⟨a, b, t, hr, ha, hb⟩ := hex2_form hh
          have hlt3 : j + 3 ≤ n := by
            have := congrArg List.length hr
            rw [List.length_drop, ← Hn.out] at this
            simp only [List.length_cons] at this
            omega
          have htd : t = s.drop (j + 3) := by
            have := congrArg (List.drop 2) hr
            rw [List.drop_drop] at this
            rw [show j + 3 = j + 1 + 2 from rfl, this]; rfl
          have hN2 : N = (O ++ pctT a b) ++ normP (s.drop (j + 3)) := by
            rw [HNj.out, hd, hr, normP_cons, if_pos ⟨h37, by rw [← hr]; exact hh⟩, htd, List.append_assoc]
          have hcut : (s.take (j + 3)).drop j = [37, a, b] := by
            rw [List.drop_take, hd, hr, h37, show j + 3 - j = 3 by omega]; rfl
          have hf := fun W => HF.out (j + 1) hjl W
          have h84 := Lib.hid (fun W => H84.out (j + 1) W)
          have hct := fun W => HC.out j (j + 3) (by omega) (by rw [← Hn.out]; exact hlt3) W
          rw [hcut] at hct
          rw [hr, hexZ_yes t ha hb] at h84
          rw [hr] at hf
          have hun := unres_idx (pctN a b)
          have hlet := Lib.hid (fun W => letter_any (pctN a b) W)
          have h64 := fun W => Tryz.strings_IndexByte (bs unres4) (((pctN a b).toNat : Nat) : Int) W
          have e0 : (((pctN a b).toNat : Nat) : Int).toNat.toUInt8 = pctN a b := by simp
          have e9 : (bs unres4).data.toList = unres4 := by simp [bs]
          rw [e0, e9] at h64
          have hup := Lib.hid (fun W => upper_hex a b ha hb W)
          have hpt : pctT a b = if unresB (pctN a b) = true then [pctN a b] else [37, upB a, upB b] := rfl
          have hm8 := (pctN a b).toNat_lt
          generalize bs (a :: b :: t) = T at *
          have hf : ∀ W, (Instr.slice 9 (.string S) (some (.int .i64 ((j : Int) + 1))) none none).run Tryz.prog W = .ok (.string T) W := hf
          have hct : ∀ W, (Instr.slice 9 (.string S) (some (.int .i64 (j : Int))) (some (.int .i64 ((j : Int) + 3))) none).run Tryz.prog W = .ok (.string (bs [37, a, b])) W := hct
          have hwm := Lib.hid (fun W (h : Bld W w.heap.size w.heap.size O) (hs : w.heap.size ≤ W.heap.size) => writeByte_any w.heap.size w.heap.size O (pctN a b) W h (by omega) hs)
          have hws := Lib.hid (fun W (h : Bld W w.heap.size w.heap.size O) (hs : w.heap.size ≤ W.heap.size) => writeStr_any w.heap.size w.heap.size O [37, upB a, upB b] W h (by simp; omega) hs)
          generalize bs [37, a, b] = T3 at *
          generalize bs [37, upB a, upB b] = T4 at *
          generalize pctN a b = m at *
          obtain ⟨y, hy⟩ : ∃ y : Int, y = ((c.toNat : Nat) : Int) := ⟨_, rfl⟩
          rw [← hy] at t37
          simp only [← hy] at hx
          unfold u8v at hlet
          obtain ⟨z, hz2⟩ : ∃ z : Int, z = ((m.toNat : Nat) : Int) := ⟨_, rfl⟩
          have z0 : 0 ≤ z := by omega
          have z1 : z < 256 := by omega
          simp only [← hz2] at hlet h64 hwm h84
          have zn : decide (z < 0) = false := decide_eq_false (by omega)
          generalize Lib.indexByte unres4 m = I at *
          have HU := Lib.hid hun; have HPT := Lib.hid hpt; have H64 := Lib.hid h64; have HN2 := Lib.hid hN2
          clear hh h37 hc hd hmiss hjl hy hr htd hcut e0 e9 hun hpt hm8 hz2 h64 hN2 ha hb hwb
          generalize hxi : decide (0 ≤ I) = xi at *
          generalize alB m = xl at *
          cases xl with
          | true =>
            have hp : pctT a b = [m] := by rw [HPT.out, HU.out]; rfl
            have HP := Lib.hid hp
            clear hp hxi
            go_wp2_with (first | (go_at_call 84; refine (h84.out _).mono ?_; rintro e w1 ⟨rfl, hb1⟩; have HB1 := Lib.hid (HBld.out.keep hb1); have HB2 := Lib.hid (HB.out.trans (hb1.mono hsz)); clear hb1) | (go_at_call 44; refine (hlet.out _).mono ?_; rintro e w' ⟨rfl, rfl⟩) | (go_at_call 75; refine (hwm.out _ HB1.out HB2.out.size).mono ?_; rintro e w2 ⟨⟨v, rfl⟩, hb3, hb4⟩; have HB3 := Lib.hid hb3; have HB4 := Lib.hid (HB2.out.trans hb4); clear hb3 hb4))
            exact ⟨⟨j + 3, O ++ [m], by go_num, by omega, by simp; omega, Lib.hid (by rw [HN2.out, HP.out]), HB3, HB4⟩, by simp [intOf]; omega⟩
          | false =>
            cases xi with
            | true =>
              have hp : pctT a b = [m] := by rw [HPT.out, HU.out]; rfl
              have HP := Lib.hid hp
              clear hp
              go_wp2_with (first | (go_at_call 84; refine (h84.out _).mono ?_; rintro e w1 ⟨rfl, hb1⟩; have HB1 := Lib.hid (HBld.out.keep hb1); have HB2 := Lib.hid (HB.out.trans (hb1.mono hsz)); clear hb1) | (go_at_call 44; refine (hlet.out _).mono ?_; rintro e w' ⟨rfl, rfl⟩) | (go_at_call 64; refine (H64.out _).mono ?_; rintro e w' ⟨rfl, rfl⟩) | (go_at_call 75; refine (hwm.out _ HB1.out HB2.out.size).mono ?_; rintro e w2 ⟨⟨v, rfl⟩, hb3, hb4⟩; have HB3 := Lib.hid hb3; have HB4 := Lib.hid (HB2.out.trans hb4); clear hb3 hb4))
              exact ⟨⟨j + 3, O ++ [m], by go_num, by omega, by simp; omega, Lib.hid (by rw [HN2.out, HP.out]), HB3, HB4⟩, by simp [intOf]; omega⟩
            | false =>
              have hp : pctT a b = [37, upB a, upB b] := by rw [HPT.out, HU.out]; rfl
              have HP := Lib.hid hp
              clear hp
              go_wp2_with (first | (go_at_call 84; refine (h84.out _).mono ?_; rintro e w1 ⟨rfl, hb1⟩; have HB1 := Lib.hid (HBld.out.keep hb1); have HB2 := Lib.hid (HB.out.trans (hb1.mono hsz)); clear hb1) | (go_at_call 44; refine (hlet.out _).mono ?_; rintro e w' ⟨rfl, rfl⟩) | (go_at_call 64; refine (H64.out _).mono ?_; rintro e w' ⟨rfl, rfl⟩) | (go_at_call 92; refine (hup.out _).mono ?_; rintro e w2 ⟨rfl, hb1⟩; have HB3 := Lib.hid (HB1.out.keep hb1); have HB4 := Lib.hid (HB2.out.trans (hb1.mono HB2.out.size)); clear hb1) | (go_at_call 74; refine (hws.out _ HB3.out HB4.out.size).mono ?_; rintro e w3 ⟨⟨v, rfl⟩, hb3, hb4⟩; have HB5 := Lib.hid hb3; have HB6 := Lib.hid (HB4.out.trans hb4); clear hb3 hb4))
              exact ⟨⟨j + 3, O ++ [37, upB a, upB b], by go_num, by omega, by simp; omega, Lib.hid (by rw [HN2.out, HP.out]), HB5, HB6⟩, by simp [intOf]; omega⟩
      · have t37 : (((c.toNat : Nat) : Int) == 37) = false := (u8_beq c 37 37 rfl).trans (by simpa using h37)
        have hN2 := Lib.hid (hmiss (fun h => h37 h.1))
        obtain ⟨y, hy⟩ : ∃ y : Int, y = ((c.toNat : Nat) : Int) := ⟨_, rfl⟩
        rw [← hy] at t37
        simp only [← hy] at hx hwb
        clear h37 hc hd hmiss hjl hy
        go_wp2_with (go_at_call 75; refine (hwb.out _ HBld.out hsz).mono ?_; rintro e w2 ⟨⟨v, rfl⟩, hb3, hb4⟩; have HB3 := Lib.hid hb3; have HB4 := Lib.hid (HB.out.trans hb4); clear hb3 hb4)
        exact ⟨⟨j + 1, O ++ [c], by go_num, by omega, by simp; omega, hN2, HB3, HB4⟩, by simp [intOf]; omega⟩
    · obtain rfl : j = n := by omega
      have tj : decide ((j : Int) < (j : Int)) = false := by rw [decide_eq_false_iff_not]; omega
      have hNO : N = O := by rw [HNj.out, List.drop_of_length_le (by rw [← Hn.out]; exact Nat.le_refl _)]; simp [normP]
      have hst := Lib.hid (bldString_any w.heap.size w.heap.size O wr HBld.out hsz)
      subst hNO
      clear hjn
      go_wp2_with (go_at_call 76; refine hst.out.mono ?_; rintro e w9 ⟨rfl, hb9⟩; have HB9 := Lib.hid (HB.out.trans hb9); clear hb9)
      go_ret
      exact ⟨rfl, HB9.out⟩
end Go.Proofs.YtcpkkaimingnlaaGreatDoor
end
section
/-
  link.Canon.
-/
namespace Go.Proofs.YtcpkkaimingnlaaGreatDoor
open Go.RowKit

theorem PG.setCell {w W : World} {g2 g i : Nat} {c2 c : List Value} (h : PG w W g2 g c2 c) (v : Value) : PG w (W.setCell ⟨g, i, none⟩ v) g2 g c2 (c.set i v) :=
  ⟨blk_far h.b2 (p := ⟨g, i, none⟩) h.ne v, blk_set h.b i v, h.bel.setCell (p := ⟨g, i, none⟩) h.h1 v, h.ne, h.h2, h.h1⟩
theorem PG.facts {w W : World} {g2 g i : Nat} {c2 c : List Value} {v : Value} (h : PG w W g2 g c2 c) (hv : c[i]? = some v) : W.cell? ⟨g, i, none⟩ = some v ∧ W.frozen? ⟨g, i, none⟩ = false :=
  ⟨(blk_cell h.b i).trans hv, blk_frozen h.b i⟩
theorem norm_len : ∀ (n : Nat) (s : Bs), s.length ≤ n → (normP s).length ≤ s.length
  | _, [], _ => Nat.le_refl _
  | 0, c :: r, h => by simp at h
  | n + 1, c :: r, h => by
    rw [List.length_cons] at h
    by_cases hc : c = 37 ∧ hex2 r = true
    · obtain ⟨a, b, t, rfl, ha, hb⟩ := hex2_form hc.2
      rw [normP_cons, if_pos hc, List.length_append]
      have ih := norm_len n t (by simp only [List.length_cons] at h; omega)
      have hp : (pctT a b).length ≤ 3 := by
        rcases pctT_cases ha hb with ⟨_, e⟩ | ⟨_, e, _⟩
        · rw [e]; simp
        · rw [e]; simp
      simp only [List.length_cons]
      omega
    · rw [normP_miss c r hc, List.length_cons, List.length_cons]
      have ih := norm_len n r (by omega)
      omega
theorem query_len (q : Bs) : (queryP q).length ≤ q.length := by
  unfold queryP
  by_cases h : keptP q = []
  · rw [h]; exact Nat.zero_le _
  · have h1 := join_len_sub 38 (keptP q) h
    have h2 := join_len_sub 38 (splitC 38 (normP q)) (splitC_ne 38 _)
    rw [join_split] at h2
    have h3 := sum_le_of (f := fun p => p.length + 1) (keptP q) (splitC 38 (normP q)) (List.filter_sublist ..)
    have h4 := norm_len q.length q (Nat.le_refl _)
    omega
theorem bs_empty (l : Bs) : ((bs l).toList == []) = l.isEmpty ∧ (bs l).toList.isEmpty = l.isEmpty := by
  rw [bs_toList]; cases l <;> exact ⟨rfl, rfl⟩
set_option maxHeartbeats 16000000 in
set_option maxRecDepth 100000 in
theorem canon_any (b : Link) (w : World) (hT : Tabs w) (hB : sB b) :
    Calls Tryz.prog 21 #[.agg (lcs b).toArray] w fun e w' => e = .returned (.agg (lcs (canonP b)).toArray) ∧ Below w.heap.size w w' := by
  have hp0 := Lib.hid (rs_start w (lcs b))
  have HT := Lib.hid hT
  have hl0 := Lib.hid (fun W (h : PG w W (w.heap.size + 1) w.heap.size zcs (lcs b)) => lower_text b.scheme (by have := hB.1; omega) W (hT.below h.bel))
  have hl1 := Lib.hid (fun W (h : PG w W (w.heap.size + 1) w.heap.size zcs (lcs b)) => lower_text b.host (by have := hB.2.1; omega) W (hT.below h.bel))
  have hpl := hB.2.2.2.1
  have hql := hB.2.2.2.2.1
  have hpt := hB.2.2.1
  have e0 : (lcs b)[0]? = some (.string (bs b.scheme)) := rfl
  have e1 : (lcs b)[1]? = some (.string (bs b.host)) := rfl
  obtain ⟨C, hC⟩ : ∃ C, C = canonP b := ⟨_, rfl⟩
  rw [← hC]
  have HC := Lib.hid hC
  obtain ⟨x1, hx1⟩ : ∃ x : Link, x = { b with scheme := Lib.toLowerD b.scheme, host := Lib.toLowerD b.host } := ⟨_, rfl⟩
  have hs1 : ((lcs b).set 0 (.string (bs (Lib.toLowerD b.scheme)))).set 1 (.string (bs (Lib.toLowerD b.host))) = lcs x1 := by rw [hx1]; rfl
  obtain ⟨V, hV⟩ : ∃ V, V = lcs b := ⟨_, rfl⟩
  rw [← hV] at hp0 e0 e1 hl0 hl1 hs1 ⊢
  have E0 := Lib.hid e0; have E1 := Lib.hid e1; have HS1 := Lib.hid hs1; have HX1 := Lib.hid hx1
  have hx1p : x1.path = b.path ∧ x1.query = b.query ∧ x1.port = b.port ∧ x1.hasQ = b.hasQ := by rw [hx1]; exact ⟨rfl, rfl, rfl, rfl⟩
  rw [← hx1p.1] at hpl
  rw [← hx1p.2.1] at hql
  clear e0 e1 hV hT hB hs1 hx1 hC hpt
  have HX1p := Lib.hid hx1p
  clear hx1p
  generalize bs b.scheme = S0 at *
  generalize bs b.host = S1 at *
  generalize bs (Lib.toLowerD b.scheme) = L0 at *
  generalize bs (Lib.toLowerD b.host) = L1 at *
  go_enter Tryz.func21, Tryz.ntmps21
  go_upto_region 1 with fail
  obtain ⟨W0, hW0⟩ : ∃ W0, W0 = (w.alloc (.cells V.toArray 24)).alloc (.cells #[.string ⟨#[]⟩, .string ⟨#[]⟩, .int .i64 0, .string ⟨#[]⟩, .string ⟨#[]⟩, .string ⟨#[]⟩, .bool false, .bool false] 24) := ⟨_, rfl⟩
  rw [← hW0] at hp0
  try rw [← hW0]
  clear hW0
  go_cut [] (fun wx => PG w wx (w.heap.size + 1) w.heap.size zcs ((V.set 0 (.string L0)).set 1 (.string L1)))
  case first =>
    have hpd := hp0.out.drew
    obtain ⟨c0, f0⟩ := hpd.facts E0.out
    obtain ⟨c1, f1⟩ := hpd.facts E1.out
    go_region_with ((first | (go_at_call_of 39 (Value.string S0); refine (hl0.out _ ?_).mono ?_; assumption; rintro e w3 ⟨rfl, hb1⟩; have hp3 := PG.call (c2 := zcs) (c := V) (by assumption) hb1; obtain ⟨c03, f03⟩ := hp3.facts E0.out; obtain ⟨c13, f13⟩ := hp3.facts E1.out; clear hb1) | (go_at_call_of 39 (Value.string S1); refine (hl1.out _ ?_).mono ?_; assumption; rintro e w4 ⟨rfl, hb1⟩; have hp4 := PG.call (c2 := zcs) (c := V) (by assumption) hb1; obtain ⟨c04, f04⟩ := hp4.facts E0.out; obtain ⟨c14, f14⟩ := hp4.facts E1.out; clear hb1)))
    all_goals go_wp2_with fail
    all_goals go_meet
    all_goals exact PG.setCell (PG.setCell (by assumption) _) _
  case rest =>
    rw [HS1.out] at hcut
    have HP := Lib.hid hcut
    clear hcut hp0 hl0 hl1
    obtain ⟨c0, _⟩ := HP.out.facts (i := 0) (v := .string (bs x1.scheme)) rfl
    obtain ⟨c2, _⟩ := HP.out.facts (i := 2) (v := .int .i64 ((x1.port : Nat) : Int)) rfl
    obtain ⟨a1, ha1⟩ : ∃ a, a = (x1.scheme == bHttp) := ⟨_, rfl⟩
    obtain ⟨a2, ha2⟩ : ∃ a, a = (x1.scheme == bHttps) := ⟨_, rfl⟩
    obtain ⟨a3, ha3⟩ : ∃ a, a = decide (x1.port = 80) := ⟨_, rfl⟩
    obtain ⟨a4, ha4⟩ : ∃ a, a = decide (x1.port = 443) := ⟨_, rfl⟩
    have q1 : ((bs x1.scheme).toList == [104, 116, 116, 112]) = a1 := by rw [ha1]; exact eq_bs _ _
    have q2 : ((bs x1.scheme).toList == [104, 116, 116, 112, 115]) = a2 := by rw [ha2]; exact eq_bs _ _
    have q3 : (((x1.port : Nat) : Int) == 80) = a3 := by rw [ha3, Bool.eq_iff_iff, beq_iff_eq, decide_eq_true_eq]; omega
    have q4 : (((x1.port : Nat) : Int) == 443) = a4 := by rw [ha4, Bool.eq_iff_iff, beq_iff_eq, decide_eq_true_eq]; omega
    obtain ⟨x2, hx2⟩ : ∃ x : Link, x = { x1 with port := if ((a1 && a3) || (a2 && a4)) = true then 0 else x1.port } := ⟨_, rfl⟩
    have HA1 := Lib.hid ha1; have HA2 := Lib.hid ha2; have HA3 := Lib.hid ha3; have HA4 := Lib.hid ha4; have HX2 := Lib.hid hx2
    have hx2p : x2.path = x1.path ∧ x2.query = x1.query ∧ x2.hasQ = x1.hasQ := by rw [hx2]; exact ⟨rfl, rfl, rfl⟩
    rw [← hx2p.1] at hpl
    rw [← hx2p.2.1] at hql
    have HX2p := Lib.hid hx2p
    clear ha1 ha2 ha3 ha4 hx2 hx2p
    obtain ⟨BB, hBB⟩ : ∃ BB, BB = ((a1 && a3) || (a2 && a4)) := ⟨_, rfl⟩
    have HBB := Lib.hid hBB
    clear hBB
    go_upto_region 2 with fail
    go_cut [31] (fun v wx => v = .bool BB ∧ wx = wc)
    case first =>
      cases a1 <;> cases a3 <;> cases a2 <;> cases a4
      all_goals go_wp2_with fail
      all_goals go_meet
      all_goals exact ⟨by rw [HBB.out]; rfl, rfl⟩
    case rest =>
      obtain ⟨rfl, rfl⟩ := hcut
      clear c0 c2 q1 q2 q3 q4
      go_upto_if 31 with fail
      go_cut [] (fun wx => PG w wx (w.heap.size + 1) w.heap.size zcs (lcs x2))
      case first =>
        cases BB with
        | true =>
          have hl : (lcs x1).set 2 (.int .i64 0) = lcs x2 := by rw [HX2.out, ← HBB.out]; rfl
          have HL := Lib.hid hl
          clear hl
          go_wp2_with (refine wpList_storeC rfl 3 (.tmp 32) (.const (.int .i64 0)) rfl w.heap.size 2 (.int .i64 0) (by rfl) (by rfl) rfl info3 24 _ HP.out.b (by exact Nat.le_of_ble_eq_true rfl) ?_; intro X1 hb1 ht1; have HP2 := Lib.hid (HP.out.set hb1 ht1); clear hb1 ht1)
          go_meet
          rw [← HL.out]; exact HP2.out
        | false =>
          have hl : lcs x1 = lcs x2 := by rw [HX2.out, ← HBB.out]; rfl
          have HL := Lib.hid hl
          clear hl
          go_wp2_with fail
          go_meet
          rw [← HL.out]; exact HP.out
      case rest =>
        have HP2 := Lib.hid hcut
        clear hcut HP
        obtain ⟨c3, _⟩ := HP2.out.facts (i := 3) (v := .string (bs x2.path)) rfl
        have hnl := norm_len _ x2.path (Nat.le_refl _)
        have hnorm := Lib.hid (fun W (h : Below w.heap.size w W) => normal_any x2.path W (by omega))
        have hdot := Lib.hid (fun W (h : Below w.heap.size w W) => dots_any (normP x2.path) W (HT.out.below h) (by omega))
        obtain ⟨p3, hp3⟩ : ∃ p, p = dotsP (normP x2.path) := ⟨_, rfl⟩
        rw [← hp3] at hdot
        obtain ⟨x3, hx3⟩ : ∃ x : Link, x = { x2 with path := p3 } := ⟨_, rfl⟩
        have hs3 : (lcs x2).set 3 (.string (bs p3)) = lcs x3 := by rw [hx3]; rfl
        obtain ⟨x4, hx4⟩ : ∃ x : Link, x = { x2 with path := if p3 = [] then [47] else p3 } := ⟨_, rfl⟩
        have hx4p : x4.query = x2.query ∧ x4.hasQ = x2.hasQ := by rw [hx4]; exact ⟨rfl, rfl⟩
        rw [← hx4p.1] at hql
        have hx3p : x3.path = p3 := by rw [hx3]
        have HP3 := Lib.hid hp3; have HX3 := Lib.hid hx3; have HS3 := Lib.hid hs3; have HX4 := Lib.hid hx4; have HX4p := Lib.hid hx4p; have HX3p := Lib.hid hx3p
        clear hp3 hx3 hs3 hx4 hx4p hx3p hnl hpl
        go_upto_region 5 with (first | (go_at_call 61; refine (hnorm.out _ HP2.out.bel).mono ?_; rintro e w61 ⟨rfl, hb1⟩; have HPa := Lib.hid (HP2.out.call hb1); clear hb1) | (go_at_call 19; refine (hdot.out _ HPa.out.bel).mono ?_; rintro e w19 ⟨rfl, hb1⟩; have HPb := Lib.hid (HPa.out.call hb1); clear hb1) | (refine wpList_storeC rfl 9 (.tmp 37) (.tmp 36) rfl w.heap.size 3 (.string (bs p3)) (by rfl) (by rfl) rfl info9 24 _ HPb.out.b (by exact Nat.le_of_ble_eq_true rfl) ?_; intro X2 hb1 ht1; have HPc := Lib.hid (HPb.out.set hb1 ht1); clear hb1 ht1))
        have hpc := HPc.out
        rw [HS3.out] at hpc
        have HPd := Lib.hid hpc
        clear hpc HPa HPb HPc HP2 c3 hnorm hdot
        obtain ⟨c3, _⟩ := HPd.out.facts (i := 3) (v := .string (bs x3.path)) rfl
        obtain ⟨ub, hub⟩ : ∃ ub, ub = x3.path.isEmpty := ⟨_, rfl⟩
        have t1 := (bs_empty x3.path).1
        have t2 := (bs_empty x3.path).2
        rw [← hub] at t1 t2
        have HUB := Lib.hid hub
        clear hub
        go_upto_if 40 with fail
        clear t1 t2 c3
        go_cut [] (fun wx => PG w wx (w.heap.size + 1) w.heap.size zcs (lcs x4))
        case first =>
          cases ub with
          | true =>
            have hl : (lcs x3).set 3 (.string ⟨#[47]⟩) = lcs x4 := by
              have := List.isEmpty_iff.1 HUB.out.symm
              rw [HX3p.out] at this
              rw [HX4.out, HX3.out, if_pos this]; rfl
            have HL := Lib.hid hl
            clear hl
            go_wp2_with (refine wpList_storeC rfl 9 (.tmp 41) (.const (.string ⟨#[47]⟩)) rfl w.heap.size 3 (.string ⟨#[47]⟩) (by rfl) (by rfl) rfl info9 24 _ HPd.out.b (by exact Nat.le_of_ble_eq_true rfl) ?_; intro X3 hb1 ht1; have HPe := Lib.hid (HPd.out.set hb1 ht1); clear hb1 ht1)
            go_meet
            rw [← HL.out]; exact HPe.out
          | false =>
            have hl : lcs x3 = lcs x4 := by
              have hne : ¬ p3 = [] := fun e => by have := HUB.out; rw [HX3p.out, e] at this; cases this
              rw [HX4.out, HX3.out, if_neg hne]
            have HL := Lib.hid hl
            clear hl
            go_wp2_with fail
            go_meet
            rw [← HL.out]; exact HPd.out
        case rest =>
          have HP4 := Lib.hid hcut
          clear hcut HPd
          obtain ⟨c4, _⟩ := HP4.out.facts (i := 4) (v := .string (bs x4.query)) rfl
          have hnl := norm_len _ x4.query (Nat.le_refl _)
          have hnorm := Lib.hid (fun W (h : Below w.heap.size w W) => normal_any x4.query W (by omega))
          have hsp := Lib.hid (fun W (h : Below w.heap.size w W) => split_any (normP x4.query) 38 (by omega) W (HT.out.below h))
          have hql2 := query_len x4.query
          have hsl := split_len 38 (normP x4.query)
          have hk : keptP x4.query = (splitC 38 (normP x4.query)).filter (fun p => !Lib.hasPrefix p bUtm) := rfl
          have hj : queryP x4.query = joinC 38 (keptP x4.query) := rfl
          obtain ⟨q5, hq5⟩ : ∃ q, q = queryP x4.query := ⟨_, rfl⟩
          rw [← hq5] at hql2 hj
          have HQ5 := Lib.hid hq5
          obtain ⟨KK, hKK⟩ : ∃ K, K = keptP x4.query := ⟨_, rfl⟩
          rw [← hKK] at hk hj
          generalize splitC 38 (normP x4.query) = P at *
          obtain ⟨n, hn⟩ : ∃ n, n = P.length := ⟨_, rfl⟩
          rw [← hn] at hsp hsl
          have Hn := Lib.hid hn; have HK := Lib.hid hk; have HJ := Lib.hid hj
          clear hn hk hj hKK hq5
          go_upto_region 9 with (first | (go_at_call 61; refine (hnorm.out _ HP4.out.bel).mono ?_; rintro e w61 ⟨rfl, hb1⟩; have HPa := Lib.hid (HP4.out.call hb1); clear hb1) | (go_at_call 58; refine (hsp.out _ HPa.out.bel).mono ?_; rintro e w58 ⟨rfl, hw1⟩; have HW1 := Lib.hid hw1; clear hw1))
          have hb58 : Below w61.heap.size w61 w58 := by rw [HW1.out]; exact below_one _ _
          have hcel : Blk w58 w61.heap.size 9 (strs P) := by rw [HW1.out]; have := blk_new w61 9 (strs P).toArray; simpa using this
          have HPb := Lib.hid (HPa.out.call hb58)
          have HC58 := Lib.hid hcel
          have hlt58 : w61.heap.size < w58.heap.size := blk_lt hcel
          have hnb : n ≤ 100001 := by omega
          have hqb : q5.length ≤ 100000 := by omega
          clear hb58 hcel HW1 HPa HP4 c4 hnorm hsp hnl hql hql2 hsl
          go_loopw [3, 47] (fun v i wr => ∃ (j : Nat) (O : List Bs), i = .int .i64 (j : Int) ∧ j ≤ n ∧ O.length ≤ j ∧ Hid (KK = O ++ (P.drop j).filter (fun p => !Lib.hasPrefix p bUtm)) ∧ Hid (SOwn wr w58.heap.size v O) ∧ Hid (Below w58.heap.size w58 wr)) (fun _ i _ => n - (intOf i).toNat)
          case atStart => exact ⟨0, [], rfl, Nat.zero_le _, Nat.le_refl _, Lib.hid HK.out, Lib.hid SOwn.nil, Lib.hid (Below.refl _ _)⟩
          case round =>
            obtain ⟨j, O, rfl, hj, hO, HKj, HO, HB⟩ := hrel
            have hBs := HB.out.size
            by_cases hjn : j < n
            · have tj : decide ((j : Int) < (n : Int)) = true := by rw [decide_eq_true_eq]; omega
              have hjl : j < P.length := by rw [← Hn.out]; exact hjn
              have hdr : P.drop j = P.getD j [] :: P.drop (j + 1) := by rw [List.drop_eq_getElem_cons hjl]; simp [hjl]
              have hcell : wr.cell? ⟨w61.heap.size, j, none⟩ = some (.string (bs (P.getD j []))) := by
                rw [HB.out.cell (p := ⟨w61.heap.size, j, none⟩) hlt58, blk_cell HC58.out j, strs_at P j hjl]
              have hpre := Lib.hid (fun W => hasPrefix_any (P.getD j []) bUtm W)
              have hfil : KK = O ++ (if (!Lib.hasPrefix (P.getD j []) bUtm) = true then P.getD j [] :: (P.drop (j + 1)).filter (fun p => !Lib.hasPrefix p bUtm) else (P.drop (j + 1)).filter (fun p => !Lib.hasPrefix p bUtm)) := by
                rw [HKj.out, hdr, List.filter_cons]
              generalize P.getD j [] = x at *
              generalize Lib.hasPrefix x bUtm = hp at *
              have HFIL := Lib.hid hfil
              clear hfil hdr hjl
              obtain ⟨A, c, hv, hc, hcm, hAn⟩ := HO.out.form
              subst hv
              cases hp with
              | true =>
                have hk2 := Lib.hid (HFIL.out.trans (by rw [if_neg (by decide)]))
                go_wp2_with (go_at_call 53; refine (hpre.out _).mono ?_; rintro e w' ⟨rfl, rfl⟩)
                exact ⟨⟨j + 1, O, by go_num, by omega, by omega, hk2, HO, HB⟩, by simp [intOf]; omega⟩
              | false =>
                have hk2 : KK = (O ++ [x]) ++ (P.drop (j + 1)).filter (fun p => !Lib.hasPrefix p bUtm) := by rw [HFIL.out, if_pos (by decide), List.append_assoc]; rfl
                have HK2 := Lib.hid hk2
                clear hk2
                go_wp2_with (first | (go_at_call 53; refine (hpre.out _).mono ?_; rintro e w' ⟨rfl, rfl⟩) | (at_builtin; refine wpList_pushS rfl (.tmp 54) (.tmp 56) rfl w58.heap.size hBs O _ (by rfl) HO.out x (by rfl) (by omega) ?_; intro A2 c2 w2 ho2 hb2; have HO2 := Lib.hid ho2; have HB2 := Lib.hid (HB.out.trans hb2); clear ho2 hb2))
                exact ⟨⟨j + 1, O ++ [x], by go_num, by omega, by rw [List.length_append]; exact Nat.succ_le_succ hO, HK2, HO2, HB2⟩, by simp [intOf]; omega⟩
            · obtain rfl : j = n := by omega
              have tj : decide ((j : Int) < (j : Int)) = false := by rw [decide_eq_false_iff_not]; omega
              have hKO : KK = O := by rw [HKj.out, List.drop_of_length_le (by rw [← Hn.out]; exact Nat.le_refl _)]; simp
              subst hKO
              have HPc := Lib.hid (HPb.out.call HB.out)
              have hjo := Lib.hid (join_any KK 38 _ w58.heap.size wr HO.out (by omega) (by rw [← HJ.out]; omega))
              rw [← HJ.out] at hjo
              obtain ⟨x5, hx5⟩ : ∃ x : Link, x = { x4 with query := q5 } := ⟨_, rfl⟩
              have hs5 : (lcs x4).set 4 (.string (bs q5)) = lcs x5 := by rw [hx5]; rfl
              have HX5 := Lib.hid hx5; have HS5 := Lib.hid hs5
              have hx5p : x5.query = q5 ∧ x5.hasQ = x4.hasQ := by rw [hx5]; exact ⟨rfl, rfl⟩
              have HX5p := Lib.hid hx5p
              clear hjn hx5 hs5 hx5p HPb HKj
              go_upto_region 15 with (first | (go_at_call 59; refine hjo.out.mono ?_; rintro e w59 ⟨rfl, hb1⟩; have HPd := Lib.hid (HPc.out.call hb1); clear hb1) | (refine wpList_storeC rfl 9 (.tmp 61) (.tmp 60) rfl w.heap.size 4 (.string (bs q5)) (by rfl) (by rfl) rfl info9 24 _ HPd.out.b (by exact Nat.le_of_ble_eq_true rfl) ?_; intro X4 hb1 ht1; have HPe := Lib.hid (HPd.out.set hb1 ht1); clear hb1 ht1))
              have hpe := HPe.out
              rw [HS5.out] at hpe
              have HP5 := Lib.hid hpe
              clear hpe HPc HPd HPe hjo HO HB
              obtain ⟨c6, _⟩ := HP5.out.facts (i := 6) (v := .bool x5.hasQ) rfl
              obtain ⟨c4, _⟩ := HP5.out.facts (i := 4) (v := .string (bs x5.query)) rfl
              obtain ⟨ub, hub⟩ : ∃ ub, ub = x5.query.isEmpty := ⟨_, rfl⟩
              have t1 := (bs_empty x5.query).1
              have t2 := (bs_empty x5.query).2
              rw [← hub] at t1 t2
              have t3 : ((bs x5.query).toList != []) = !ub := by rw [bne, t1]
              obtain ⟨hq, hhq⟩ : ∃ hq, hq = x5.hasQ := ⟨_, rfl⟩
              rw [← hhq] at c6
              obtain ⟨x6, hx6⟩ : ∃ x : Link, x = { x5 with hasQ := hq && !ub } := ⟨_, rfl⟩
              have hs6 : (lcs x5).set 6 (.bool (hq && !ub)) = lcs x6 := by rw [hx6]; rfl
              obtain ⟨x7, hx7⟩ : ∃ x : Link, x = { x6 with query := if (hq && !ub) = true then x6.query else [] } := ⟨_, rfl⟩
              obtain ⟨x8, hx8⟩ : ∃ x : Link, x = { x7 with frag := [], hasF := false } := ⟨_, rfl⟩
              have hs8 : ((lcs x7).set 5 (.string ⟨#[]⟩)).set 7 (.bool false) = lcs x8 := by rw [hx8]; rfl
              obtain ⟨HH, hHH⟩ : ∃ HH, HH = (hq && !ub) := ⟨_, rfl⟩
              rw [← hHH] at hs6
              have HUB := Lib.hid hub; have HHQ := Lib.hid hhq; have HX6 := Lib.hid hx6; have HS6 := Lib.hid hs6; have HX7 := Lib.hid hx7; have HX8 := Lib.hid hx8; have HS8 := Lib.hid hs8; have HHH := Lib.hid hHH
              have hfin : x8 = C := by
                rw [HC.out, HX8.out, HX7.out, HX6.out]
                simp only [HHQ.out, HUB.out, HX5.out, HX4.out, HP3.out, HX2.out, HA1.out, HA2.out, HA3.out, HA4.out, HQ5.out, HX1.out]
                unfold canonP
                simp only [Bool.or_eq_true, Bool.and_eq_true, beq_iff_eq, decide_eq_true_eq]
              have HFIN := Lib.hid hfin
              clear hub hhq hx6 hs6 hx7 hx8 hs8 hHH hfin
              have hx6p : x6.hasQ = HH := by rw [HX6.out, HHH.out]
              have hx7e : x7 = { x6 with query := if HH = true then x6.query else [] } := by rw [HX7.out, HHH.out]
              have HX6p := Lib.hid hx6p; have HX7e := Lib.hid hx7e
              clear hx6p hx7e
              simp only [Act.put]
              go_cut [] (fun wx => PG w wx (w.heap.size + 1) w.heap.size zcs (lcs x6))
              case first =>
                cases hq with
                | false =>
                  have hl := Lib.hid ((show (lcs x5).set 6 (.bool false) = (lcs x5).set 6 (.bool HH) by rw [HHH.out]; rfl).trans HS6.out)
                  go_wp2_with (refine wpList_storeC rfl 4 (.tmp 69) (.tmp 68) rfl w.heap.size 6 (.bool false) (by rfl) (by rfl) rfl info4 24 _ HP5.out.b (by exact Nat.le_of_ble_eq_true rfl) ?_; intro X5 hb1 ht1; have HPf := Lib.hid (HP5.out.set hb1 ht1); clear hb1 ht1)
                  go_meet
                  rw [← hl.out]; exact HPf.out
                | true =>
                  cases ub with
                  | true =>
                    have hl := Lib.hid ((show (lcs x5).set 6 (.bool false) = (lcs x5).set 6 (.bool HH) by rw [HHH.out]; rfl).trans HS6.out)
                    go_wp2_with (refine wpList_storeC rfl 4 (.tmp 69) (.tmp 68) rfl w.heap.size 6 (.bool false) (by rfl) (by rfl) rfl info4 24 _ HP5.out.b (by exact Nat.le_of_ble_eq_true rfl) ?_; intro X5 hb1 ht1; have HPf := Lib.hid (HP5.out.set hb1 ht1); clear hb1 ht1)
                    go_meet
                    rw [← hl.out]; exact HPf.out
                  | false =>
                    have hl := Lib.hid ((show (lcs x5).set 6 (.bool true) = (lcs x5).set 6 (.bool HH) by rw [HHH.out]; rfl).trans HS6.out)
                    go_wp2_with (refine wpList_storeC rfl 4 (.tmp 69) (.tmp 68) rfl w.heap.size 6 (.bool true) (by rfl) (by rfl) rfl info4 24 _ HP5.out.b (by exact Nat.le_of_ble_eq_true rfl) ?_; intro X5 hb1 ht1; have HPf := Lib.hid (HP5.out.set hb1 ht1); clear hb1 ht1)
                    go_meet
                    rw [← hl.out]; exact HPf.out
              case rest =>
                have HP6 := Lib.hid hcut
                clear hcut c6 c4 t1 t2 t3 HP5
                obtain ⟨c6, _⟩ := HP6.out.facts (i := 6) (v := .bool x6.hasQ) rfl
                rw [HX6p.out] at c6
                go_upto_if 72 with fail
                clear c6
                go_cut [] (fun wx => PG w wx (w.heap.size + 1) w.heap.size zcs (lcs x7))
                case first =>
                  cases HH with
                  | true =>
                    have hl : lcs x6 = lcs x7 := by rw [HX7e.out, if_pos rfl]
                    have HL := Lib.hid hl
                    clear hl
                    go_wp2_with fail
                    go_meet
                    rw [← HL.out]; exact HP6.out
                  | false =>
                    have hl : (lcs x6).set 4 (.string ⟨#[]⟩) = lcs x7 := by rw [HX7e.out, if_neg (by decide)]; rfl
                    have HL := Lib.hid hl
                    clear hl
                    go_wp2_with (refine wpList_storeC rfl 9 (.tmp 73) (.const (.string ⟨#[]⟩)) rfl w.heap.size 4 (.string ⟨#[]⟩) (by rfl) (by rfl) rfl info9 24 _ HP6.out.b (by exact Nat.le_of_ble_eq_true rfl) ?_; intro X6 hb1 ht1; have HPg := Lib.hid (HP6.out.set hb1 ht1); clear hb1 ht1)
                    go_meet
                    rw [← HL.out]; exact HPg.out
                case rest =>
                  have HP7 := Lib.hid hcut
                  clear hcut HP6
                  have hlen : (((lcs x7).set 5 (.string ⟨#[]⟩)).set 7 (.bool false)).length = 8 := rfl
                  have hone : ((((lcs x7).set 5 (.string ⟨#[]⟩)).set 7 (.bool false)).toArray.toList.all (·.oneCell') = true) := rfl
                  have HLN := Lib.hid hlen; have HON := Lib.hid hone
                  clear hlen hone
                  go_upto_region 19 with (first | (refine wpList_storeC rfl 9 (.tmp 74) (.const (.string ⟨#[]⟩)) rfl w.heap.size 5 (.string ⟨#[]⟩) (by rfl) (by rfl) rfl info9 24 _ HP7.out.b (by exact Nat.le_of_ble_eq_true rfl) ?_; intro X7 hb1 ht1; have HPh := Lib.hid (HP7.out.set hb1 ht1); clear hb1 ht1) | (refine wpList_storeC rfl 4 (.tmp 75) (.const (.bool false)) rfl w.heap.size 7 (.bool false) (by rfl) (by rfl) rfl info4 24 _ HPh.out.b (by exact Nat.le_of_ble_eq_true rfl) ?_; intro X8 hb1 ht1; have HPi := Lib.hid (HPh.out.set hb1 ht1); clear hb1 ht1))
                  have hpi := HPi.out
                  rw [HS8.out] at hpi HLN HON
                  rw [HFIN.out] at hpi HLN HON
                  have HPj := Lib.hid hpi
                  clear hpi HPi HPh HP7
                  go_wp2_with (first | (refine wpList_loadL rfl (.tmp 1) rfl w.heap.size (by rfl) _ HPj.out.b HLN.out ?_) | (refine wpList_storeL rfl (.tmp 2) (.tmp 76) rfl (w.heap.size + 1) (lcs C).toArray (by rfl) (by rfl) _ HPj.out.b2 (by rw [List.size_toArray]; exact HLN.out) rfl HON.out ?_; intro W9 hb9 ht9))
                  refine bodyPost_ret (v := _) (results_link1 Tryz.results21 _ _ (w.heap.size + 1) _ rfl hb9 HLN.out) rfl ?_
                  exact ⟨rfl, ht9.below _ _ (Nat.le_succ _) HPj.out.bel⟩
end Go.Proofs.YtcpkkaimingnlaaGreatDoor
end
section
/-
  The laws' first lines: what must be answered ahead of everything else.
-/
namespace Go.Proofs.YtcpkkaimingnlaaGreatDoor
open Go.RowKit

def fU : Bs := [72, 84, 84, 80, 58, 47, 47, 69, 120, 46, 67, 79, 77, 58, 56, 48, 47, 97, 47, 46, 47, 98, 47, 46, 46, 47, 37, 55, 101, 99, 63, 117, 116, 109, 95, 120, 61, 49, 38, 121, 61, 50, 35, 122]
def fL : Link := ⟨[72, 84, 84, 80], [69, 120, 46, 67, 79, 77], 80, [47, 97, 47, 46, 47, 98, 47, 46, 46, 47, 37, 55, 101, 99], [117, 116, 109, 95, 120, 61, 49, 38, 121, 61, 50], [122], true, true⟩
def fB : Bs := [104, 116, 116, 112, 58, 47, 47, 104, 47, 97, 47, 98]
def fBL : Link := ⟨[104, 116, 116, 112], [104], 0, [47, 97, 47, 98], [], [], false, false⟩
def fR : Link := ⟨[104, 116, 116, 112], [104], 0, [47, 99], [], [], false, false⟩
def fF : Bs := [102, 116, 112, 58, 47, 47, 104, 47]
theorem f_u : parseP fU = some fL := by kernel_rfl
theorem f_c : printL (canonP fL) = [104, 116, 116, 112, 58, 47, 47, 101, 120, 46, 99, 111, 109, 47, 97, 47, 126, 99, 63, 121, 61, 50] := by kernel_rfl
theorem f_b : parseP fB = some fBL := by kernel_rfl
theorem f_r : resolveP fBL [46, 46, 47, 99] = some fR := by kernel_rfl
theorem f_p : printL fR = [104, 116, 116, 112, 58, 47, 47, 104, 47, 99] := by kernel_rfl
theorem f_f : parseP fF = none := by kernel_rfl
theorem f_d : dotsP [47, 97, 47, 46, 46, 47, 98, 47, 46] = [47, 98, 47] := by kernel_rfl
def fC : Bs := [104, 116, 116, 112, 58, 47, 47, 101, 120, 46, 99, 111, 109, 47, 97, 47, 126, 99, 63, 121, 61, 50]
def fRT : Bs := [104, 116, 116, 112, 58, 47, 47, 104, 47, 99]
def fD : Bs := [47, 98, 47]
theorem bs_same (l : Bs) : ((bs l).toList == l) = true := by rw [bs_toList]; exact beq_self_eq_true l
theorem sB_fL : sB (canonP fL) ∧ sB fL ∧ sB fBL ∧ sB fR := by unfold sB; decide +kernel
set_option maxHeartbeats 4000000 in
set_option maxRecDepth 100000 in
theorem first_any (w : World) (hT : Tabs w) :
    Calls Tryz.prog 13 #[] w fun e w' => e = .returned (.bool true) ∧ Below w.heap.size w w' := by
  have HT := Lib.hid hT
  clear hT
  have hu := Lib.hid (fun W (h : Below w.heap.size w W) => parse_val fU W (HT.out.below h) (by decide))
  have hb := Lib.hid (fun W (h : Below w.heap.size w W) => parse_val fB W (HT.out.below h) (by decide))
  have hf := Lib.hid (fun W (h : Below w.heap.size w W) => parse_val fF W (HT.out.below h) (by decide))
  have hr := Lib.hid (fun W (h : Below w.heap.size w W) => resolve_any fBL [46, 46, 47, 99] W (HT.out.below h) sB_fL.2.2.1 (by decide))
  have hc := Lib.hid (fun W (h : Below w.heap.size w W) => canon_any fL W (HT.out.below h) sB_fL.2.1)
  have hp := Lib.hid (fun W (h : Below w.heap.size w W) => print_val (canonP fL) sB_fL.1 W (HT.out.below h))
  have hq := Lib.hid (fun W (h : Below w.heap.size w W) => print_val fR sB_fL.2.2.2 W (HT.out.below h))
  have hd := Lib.hid (fun W (h : Below w.heap.size w W) => dots_any [47, 97, 47, 46, 46, 47, 98, 47, 46] W (HT.out.below h) (by decide))
  have eC : printL (canonP fL) = fC := f_c
  have eR : printL fR = fRT := f_p
  have eD : dotsP [47, 97, 47, 46, 46, 47, 98, 47, 46] = fD := f_d
  rw [f_u] at hu
  rw [f_b] at hb
  rw [f_f] at hf
  rw [f_r] at hr
  rw [eC] at hp
  rw [eR] at hq
  rw [eD] at hd
  have q1 : ((bs fC).toList == [104, 116, 116, 112, 58, 47, 47, 101, 120, 46, 99, 111, 109, 47, 97, 47, 126, 99, 63, 121, 61, 50]) = true := bs_same fC
  have q2 : ((bs fRT).toList == [104, 116, 116, 112, 58, 47, 47, 104, 47, 99]) = true := bs_same fRT
  have q3 : ((bs fD).toList == [47, 98, 47]) = true := bs_same fD
  generalize bs fC = SC at *
  generalize bs fRT = SR at *
  generalize bs fD = SD at *
  have hu : Hid (∀ W, Below w.heap.size w W → Calls Tryz.prog 14 #[.string ⟨#[72, 84, 84, 80, 58, 47, 47, 69, 120, 46, 67, 79, 77, 58, 56, 48, 47, 97, 47, 46, 47, 98, 47, 46, 46, 47, 37, 55, 101, 99, 63, 117, 116, 109, 95, 120, 61, 49, 38, 121, 61, 50, 35, 122]⟩] W fun e w' => e = .returned (.tuple #[.agg (lcs fL).toArray, .int .i64 0]) ∧ Below W.heap.size W w') := hu
  have hb : Hid (∀ W, Below w.heap.size w W → Calls Tryz.prog 14 #[.string ⟨#[104, 116, 116, 112, 58, 47, 47, 104, 47, 97, 47, 98]⟩] W fun e w' => e = .returned (.tuple #[.agg (lcs fBL).toArray, .int .i64 0]) ∧ Below W.heap.size W w') := hb
  have hf : Hid (∀ W, Below w.heap.size w W → Calls Tryz.prog 14 #[.string ⟨#[102, 116, 112, 58, 47, 47, 104, 47]⟩] W fun e w' => e = .returned (.tuple #[.agg (lcs Link.zero).toArray, .int .i64 40]) ∧ Below W.heap.size W w') := hf
  have hr : Hid (∀ W, Below w.heap.size w W → Calls Tryz.prog 17 #[.agg (lcs fBL).toArray, .string ⟨#[46, 46, 47, 99]⟩] W fun e w' => e = .returned (.tuple #[.agg (lcs fR).toArray, .int .i64 0]) ∧ Below W.heap.size W w') := hr
  have hd : Hid (∀ W, Below w.heap.size w W → Calls Tryz.prog 19 #[.string ⟨#[47, 97, 47, 46, 46, 47, 98, 47, 46]⟩] W fun e w' => e = .returned (.string SD) ∧ Below W.heap.size W w') := hd
  have H0 := Lib.hid (LK.start w)
  go_enter Tryz.func13, Tryz.ntmps13
  go_upto_region 2 with (first | (go_at_call 14; refine (hu.out _ H0.out.bel).mono ?_; rintro e w1 ⟨rfl, hb1⟩; have H1 := Lib.hid (H0.out.call hb1); clear hb1) | (refine wpList_storeL rfl (.tmp 1) (.tmp 11) rfl w1.heap.size (lcs fL).toArray (by rfl) (by rfl) zcs (new_zcs w1) rfl rfl rfl ?_; intro X1 hb1 ht1; have HB1 := Lib.hid (H1.out.box fL rfl hb1 ht1); clear hb1 ht1))
  go_upto_region 3 with (first | (go_at_call 14; refine (hb.out _ HB1.out.bel).mono ?_; rintro e w2 ⟨rfl, hb1⟩; have H2 := Lib.hid (HB1.out.call hb1); clear hb1) | (refine wpList_storeL rfl (.tmp 3) (.tmp 15) rfl w2.heap.size (lcs fBL).toArray (by rfl) (by rfl) zcs (new_zcs w2) rfl rfl rfl ?_; intro X2 hb1 ht1; have HB2 := Lib.hid (H2.out.box fBL rfl hb1 ht1); clear hb1 ht1))
  go_upto_region 4 with (first | (refine wpList_loadW (by rfl) (.tmp 3) rfl w2.heap.size (by rfl) fBL (HB2.out.at_ (.head _)) ?_) | (go_at_call 17; refine (hr.out _ HB2.out.bel).mono ?_; rintro e w3 ⟨rfl, hb1⟩; have H3 := Lib.hid (HB2.out.call hb1); clear hb1) | (refine wpList_storeL rfl (.tmp 5) (.tmp 20) rfl w3.heap.size (lcs fR).toArray (by rfl) (by rfl) zcs (new_zcs w3) rfl rfl rfl ?_; intro X3 hb1 ht1; have HB3 := Lib.hid (H3.out.box fR rfl hb1 ht1); clear hb1 ht1))
  go_upto_region 5 with (first | (go_at_call 14; refine (hf.out _ HB3.out.bel).mono ?_; rintro e w4 ⟨rfl, hb1⟩; have H4 := Lib.hid (HB3.out.call hb1); clear hb1) | (refine wpList_storeL rfl (.tmp 7) (.tmp 24) rfl w4.heap.size (lcs Link.zero).toArray (by rfl) (by rfl) zcs (new_zcs w4) rfl rfl rfl ?_; intro X4 hb1 ht1; have HB4 := Lib.hid (H4.out.box Link.zero rfl hb1 ht1); clear hb1 ht1))
  go_wp2_with (first | (refine wpList_loadW (by rfl) (.tmp 1) rfl w1.heap.size (by rfl) fL (HB4.out.at_ (.tail _ (.tail _ (.tail _ (.head _))))) ?_) | (go_at_call 21; refine (hc.out _ HB4.out.bel).mono ?_; rintro e w5 ⟨rfl, hb1⟩; have H5 := Lib.hid (HB4.out.call hb1); clear hb1) | (go_at_call_of 16 (Value.agg (lcs (canonP fL)).toArray); refine (hp.out _ H5.out.bel).mono ?_; rintro e w6 ⟨rfl, hb1⟩; have H6 := Lib.hid (H5.out.call hb1); clear hb1) | (refine wpList_loadW (by rfl) (.tmp 5) rfl w3.heap.size (by rfl) fR (H6.out.at_ (.tail _ (.head _))) ?_) | (go_at_call 16; refine (hq.out _ H6.out.bel).mono ?_; rintro e w7 ⟨rfl, hb1⟩; have H7 := Lib.hid (H6.out.call hb1); clear hb1) | (go_at_call 19; refine (hd.out _ H7.out.bel).mono ?_; rintro e w8 ⟨rfl, hb1⟩; have H8 := Lib.hid (H7.out.call hb1); clear hb1))
  go_ret
  exact ⟨rfl, H8.out.bel⟩
end Go.Proofs.YtcpkkaimingnlaaGreatDoor
end
