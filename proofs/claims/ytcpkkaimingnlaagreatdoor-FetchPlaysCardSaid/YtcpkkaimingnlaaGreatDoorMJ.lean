/-
  Texts of this seat, joined: RwB, RwC. Each says what it proves, ahead of itself.
-/
import Derived.Test.YtcpkkaimingnlaaGreatDoorRows
import Derived.Test.YtcpkkaimingnlaaGreatDoorMB
import Derived.Lib.LaidIn
import Derived.Lib.LaidU8T
import Derived.Lib.LaidTab
import Derived.Lib.LaidCaseMet
import Derived.ChangeSame
import Derived.ChangeVars
import Derived.JoinedOf
import Derived.RowKit
import Derived.RowKitTokens
import Derived.LaidLaws
import Derived.LaidHandle
import Derived.Stop.Joined
import Derived.Deep.DeepHandedRow
import Derived.ProofKit
import Derived.OpenShut
import Derived.ShutString
import Derived.ChangeOld
import Derived.Below
import Derived.Stop.LaidErr
set_option linter.unusedVariables false
set_option linter.unusedSimpArgs false
section
namespace Go.Proofs.YtcpkkaimingnlaaGreatDoor
open Go.ChangeShapes Go.WideShapes Go.ChangeAt Go.RowKit Go.Shelf
open Go.ChangeMaps (open_string shut_string)

theorem ownB : ownKnob Tryz.prog.godebug = Option.none := by kernel_rfl
theorem laidOutAll : laidOutB Tryz.prog = true := by kernel_rfl
def laidL : List (String × DataW Unit) := [("math/bits.deBruijn32tab", Rows.laid_math_bits_deBruijn32tab), ("math/bits.deBruijn64tab", Rows.laid_math_bits_deBruijn64tab), ("internal/strconv.uint64pow10", Rows.laid_internal_strconv_uint64pow10), ("unicode/utf8.acceptRanges", Rows.laid_unicode_utf8_acceptRanges), ("strconv.ErrRange", Rows.laid_strconv_ErrRange), ("strconv.ErrSyntax", Rows.laid_strconv_ErrSyntax), ("unicode.CaseRanges", Rows.laid_unicode_CaseRanges), ("unicode/utf8.first", Rows.laid_unicode_utf8_first)]
theorem first_eq : Rows.laid_unicode_utf8_first = Lib.firstData := by kernel_rfl
theorem accept_eq : (Rows.laid_unicode_utf8_acceptRanges : DataW Unit) = Lib.acceptData := by kernel_rfl
theorem case_eq : Rows.laid_unicode_CaseRanges = Lib.caseData := by kernel_rfl
theorem pow_eq : (Rows.laid_internal_strconv_uint64pow10 : DataW Unit) = Lib.tabData .u64 Lib.pow10Tab := by kernel_rfl
theorem laidL_eq : laidL = [("math/bits.deBruijn32tab", Rows.laid_math_bits_deBruijn32tab), ("math/bits.deBruijn64tab", Rows.laid_math_bits_deBruijn64tab), ("internal/strconv.uint64pow10", Lib.tabData .u64 Lib.pow10Tab), ("unicode/utf8.acceptRanges", Lib.acceptData), ("strconv.ErrRange", Rows.laid_strconv_ErrRange), ("strconv.ErrSyntax", Rows.laid_strconv_ErrSyntax), ("unicode.CaseRanges", Lib.caseData), ("unicode/utf8.first", Lib.firstData)] := by
  unfold laidL; rw [first_eq, accept_eq, case_eq, pow_eq]
/-- A listed table of integers as cells. -/
def cellsOfData : DataW Unit → Array Value
  | .agg l => (l.map fun | .lit (.int k z) => Value.int k z | _ => Value.int .u8 0).toArray
  | _ => #[]
def outOfRangeB : Bs := [118, 97, 108, 117, 101, 32, 111, 117, 116, 32, 111, 102, 32, 114, 97, 110, 103, 101]
def invalidSyntaxB : Bs := [105, 110, 118, 97, 108, 105, 100, 32, 115, 121, 110, 116, 97, 120]
/-- The witness: the settled world with three blocks more (the case ranges, the two errors' structs), the variables holding what their initialisers lay. -/
noncomputable def laidWorld (os : Os) : World :=
  let N := (World.settled Tryz.prog os).heap.size
  let w0 := World.holding Tryz.prog os ⟨#[.cells Go.Lib.caseCells5 167, .cells #[.string ⟨outOfRangeB.toArray⟩] 170, .cells #[.string ⟨invalidSyntaxB.toArray⟩] 170], #[], []⟩
  let put (h : Array Obj) (g : Nat) (cs : Array Value) : Array Obj := h.modify g fun
    | .cells _ t frozen => .cells cs t frozen
    | o => o
  let h1 := put w0.heap 2 (Lib.firstTab.map fun z => Value.int .u8 z).toArray
  let h2 := put h1 3 ((List.range 16).flatMap fun i => [Value.int .u8 (Lib.accLo i), Value.int .u8 (Lib.accHi i)]).toArray
  let h3 := put h2 5 #[.iface 168 (.pointer (some ⟨N + 1, 0, Option.none⟩))]
  let h4 := put h3 4 #[.iface 168 (.pointer (some ⟨N + 2, 0, Option.none⟩))]
  let h5 := put h4 1 #[.slice (some ⟨N, 0, Option.none⟩) Lib.caseA.size Lib.caseA.size]
  let h6 := put h5 6 (Lib.pow10Tab.map fun z => Value.int .u64 z).toArray
  let h7 := put h6 7 (cellsOfData Rows.laid_math_bits_deBruijn32tab)
  let h8 := put h7 8 (cellsOfData Rows.laid_math_bits_deBruijn64tab)
  { w0 with heap := h8 }
noncomputable def N0 : Nat := (World.settled Tryz.prog default).heap.size
theorem piece0 (os : Os) (args : Array Value) : LaidIn Tryz.prog ((laidWorld os).forCall (fun _ _ => 0) ⟨#[], args, []⟩).memory [("math/bits.deBruijn32tab", Rows.laid_math_bits_deBruijn32tab), ("math/bits.deBruijn64tab", Rows.laid_math_bits_deBruijn64tab), ("internal/strconv.uint64pow10", Lib.tabData .u64 Lib.pow10Tab), ("unicode/utf8.acceptRanges", Lib.acceptData), ("strconv.ErrRange", Rows.laid_strconv_ErrRange), ("strconv.ErrSyntax", Rows.laid_strconv_ErrSyntax)] [7, 8, 6, 3, 5, N0 + 1, 4, N0 + 2] :=
  LaidIn.of_run [7, 8, 6, 3, 5, N0 + 1, 4, N0 + 2] 10 (by kernel_rfl) (by kernel_rfl) (by kernel_rfl) (by kernel_rfl)
theorem piece7 (os : Os) (args : Array Value) : LaidIn Tryz.prog ((laidWorld os).forCall (fun _ _ => 0) ⟨#[], args, []⟩).memory [("unicode/utf8.first", Lib.firstData)] [2] :=
  LaidIn.of_run [2] 10 (by kernel_rfl) (by kernel_rfl) (by kernel_rfl) (by kernel_rfl)
end Go.Proofs.YtcpkkaimingnlaaGreatDoor
end
section
namespace Go.Proofs.YtcpkkaimingnlaaGreatDoor
open Go.ChangeShapes Go.WideShapes Go.ChangeAt Go.RowKit Go.Shelf Go.Lib

def caseRen : Go.Shelf.Ren := ⟨Tryz.lays274_ren.f, Tryz.lays274_ren.t, fun | 13 => 1 | n => n⟩
theorem lc274 : Go.Proofs.Lays.n274 Tryz.prog caseRen := { Tryz.lays274 with }
theorem lc206 : Tryz.prog.underlying (caseRen.t 206) = some (.array 3 (caseRen.t 21)) := Tryz.underlying165
theorem lcX : CaseExtra Tryz.prog caseRen := ⟨by kernel_rfl, by kernel_rfl, by kernel_rfl, by kernel_rfl, by kernel_rfl, by kernel_rfl⟩
set_option maxRecDepth 100000 in
theorem w_var (os : Os) (args : Array Value) : ((laidWorld os).forCall (fun _ _ => 0) ⟨#[], args, []⟩).memory.heap[1]? = some (.cells #[.slice (some ⟨N0, 0, Option.none⟩) Lib.caseA.size Lib.caseA.size] 139 (0, 0)) := by kernel_rfl
set_option maxRecDepth 100000 in
theorem w_blk (os : Os) (args : Array Value) : ((laidWorld os).forCall (fun _ _ => 0) ⟨#[], args, []⟩).memory.heap[N0]? = some (.cells Go.Lib.caseCells5 167 (0, 0)) := by kernel_rfl
theorem n0_ne : (1 : Nat) ≠ N0 := of_decide_eq_true (by kernel_rfl)
set_option maxRecDepth 100000 in
theorem piece6 (os : Os) (args : Array Value) : LaidIn Tryz.prog ((laidWorld os).forCall (fun _ _ => 0) ⟨#[], args, []⟩).memory [("unicode.CaseRanges", Lib.caseData)] [1, N0] := by
  have hvar := w_var os args
  have hblk := w_blk os args
  generalize ((laidWorld os).forCall (fun _ _ => 0) ⟨#[], args, []⟩).memory = w at *
  have hgR := n0_ne
  generalize N0 = R at *
  have hT := caseTab_of_block hblk
  have hread := case_slice_reads lc274 lc206 lcX hT caseA_wf (by rw [caseA_size]; unfold maxLen; omega) 0
  rw [case_rows_data] at hread
  have hv : w.var? Tryz.prog "unicode.CaseRanges" = some #[.slice (some ⟨R, 0, Option.none⟩) caseA.size caseA.size] := by
    have := lcX.n13
    simp [World.var?, this, show caseRen.g 13 = 1 from rfl, hvar]
  refine LaidIn.one (g := 1) (t := 139) (p := MemPlace.row ⟨R, 0, Option.none⟩ (caseA.size * 5)) [1, R] lcX.n13 lcX.y13 hv hread ?_ ?_ ?_
  · refine List.nodup_append.2 ⟨rowP_nodup _ _, rowP_nodup _ _, ?_⟩
    intro a ha b hb e
    obtain ⟨i, _, rfl⟩ := MemPlace.mem_row.1 ha
    obtain ⟨j, _, rfl⟩ := MemPlace.mem_row.1 hb
    simp at e
    exact hgR e.1
  · intro b off hp
    rcases List.mem_append.1 hp with hp | hp
    · obtain ⟨i, hi, e⟩ := MemPlace.mem_row.1 hp
      cases e
      refine ⟨⟨_, _, hvar⟩, fun u v hc => ?_⟩
      have hi : i < 1 := hi
      obtain rfl : i = 0 := by omega
      rw [Lib.cell_of_heap hvar] at hc
      simp at hc
    · obtain ⟨i, hi, e⟩ := MemPlace.mem_row.1 hp
      cases e
      refine ⟨⟨_, _, hblk⟩, fun u v hc => ?_⟩
      obtain ⟨c0, c1, c2, c3, c4⟩ := hT (i / 5) (by omega)
      have hi5 : 0 + i = 0 + i / 5 * 5 + i % 5 := by omega
      simp only at hc
      rw [hi5] at hc
      have hm : i % 5 < 5 := Nat.mod_lt _ (by omega)
      match hk : i % 5, hm with
      | 0, _ => rw [hk, Nat.add_zero, c0] at hc; cases hc
      | 1, _ => rw [hk, c1] at hc; cases hc
      | 2, _ => rw [hk, c2] at hc; cases hc
      | 3, _ => rw [hk, c3] at hc; cases hc
      | 4, _ => rw [hk, c4] at hc; cases hc
  · intro x hx
    rcases List.mem_append.1 hx with hx | hx
    · obtain ⟨i, _, rfl⟩ := MemPlace.mem_row.1 hx
      exact .head _
    · obtain ⟨i, _, rfl⟩ := MemPlace.mem_row.1 hx
      exact .tail _ (.head _)
theorem laid_met (os : Os) (args : Array Value) : laidMetH Tryz.prog laidL ((laidWorld os).forCall (fun _ _ => 0) ⟨#[], args, []⟩).memory := by
  rw [laidL_eq]
  exact (((piece0 os args).append (piece6 os args) (by kernel_rfl)).append (piece7 os args) (by kernel_rfl)).met
theorem err_of_reads {W : World} {n nm : String} {d : DataW Unit} {g : Nat} (hg : Tryz.prog.globalNamed n = some g) (ht : (Tryz.prog.globals[g]?).map (·.type) = some 101) (h : Lib.VarReads Tryz.prog W n (.iface nm d)) : ∃ tp p, W.cell? ⟨g, 0, Option.none⟩ = some (.iface tp p) := by
  obtain ⟨g', t, cs, fuel, p, h1, h2, h3, h4⟩ := h
  obtain rfl : g = g' := Option.some.inj (hg.symm.trans h1)
  obtain rfl : 101 = t := Option.some.inj (ht.symm.trans h2)
  obtain ⟨_, u, v, hcs, _⟩ := iface_of_trod Tryz.underlying101 h4
  refine ⟨u, v, ?_⟩
  have := World.var?_cell hg h3 0
  rw [this]
  rw [← Array.getElem?_toList, hcs]; rfl
/-- What the conditions give a walk. -/
theorem tabs_of {W : World} (hL : laidMetH Tryz.prog laidL W) (hs : W.ShapedOpen Tryz.prog) : Tabs W := by
  rw [laidL_eq] at hL
  have r2 := Lib.laidMet.reads hL (.tail _ (.tail _ (.head _)))
  have r3 := Lib.laidMet.reads hL (.tail _ (.tail _ (.tail _ (.head _))))
  have r4 := Lib.laidMet.reads hL (.tail _ (.tail _ (.tail _ (.tail _ (.head _)))))
  have r5 := Lib.laidMet.reads hL (.tail _ (.tail _ (.tail _ (.tail _ (.tail _ (.head _))))))
  have r6 := Lib.laidMet.reads hL (.tail _ (.tail _ (.tail _ (.tail _ (.tail _ (.tail _ (.head _)))))))
  have r7 := Lib.laidMet.reads hL (.tail _ (.tail _ (.tail _ (.tail _ (.tail _ (.tail _ (.tail _ (.head _))))))))
  refine ⟨utf8Tabs_of_readsT (U8Types.of260 Tryz.lays260) ⟨by kernel_rfl, by kernel_rfl, by kernel_rfl, by kernel_rfl, by kernel_rfl, by kernel_rfl, by kernel_rfl⟩ r7 r3, ?_, ?_, ?_, ?_, ?_⟩
  · exact caseVar_of_reads lc274 lc206 lcX r6
  · obtain ⟨g, t, cs, fuel, q, h1, h2, h3, h4⟩ := r2
    obtain rfl : g = 6 := Option.some.inj (h1.symm.trans powG)
    obtain rfl : t = 172 := Option.some.inj (h2.symm.trans (show (Tryz.prog.globals[6]?).map (·.type) = some 172 by kernel_rfl))
    unfold Lib.TabIs
    rw [h3, ← Lib.cells_of_tab (n := 20) (e := 114) Tryz.underlying172 Tryz.underlying114 (by kernel_rfl) (by kernel_rfl) h4]
  · exact err_of_reads (g := 4) (by kernel_rfl) (by kernel_rfl) r5
  · exact err_of_reads (g := 5) (by kernel_rfl) (by kernel_rfl) r4
  · exact Go.Proofs.cell_of_shapedOpen_int (zero := #[.int .i64 0]) (t := 3) hs (of_decide_eq_true (by kernel_rfl)) (by kernel_rfl) rfl (by kernel_rfl) (by kernel_rfl) Tryz.underlying3
end Go.Proofs.YtcpkkaimingnlaaGreatDoor
end
