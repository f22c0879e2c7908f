/-
  The case ranges in the witness; what the rows' condition gives a walk.
-/
import Derived.Test.YtcpkkaimingnlaaGreatDoorRwB
import Derived.Stop.LaidErr
namespace Go.Proofs.YtcpkkaimingnlaaGreatDoor
open Go.ChangeShapes Go.WideShapes Go.ChangeAt Go.RowKit Go.Shelf Go.Lib

def caseRen : Go.Shelf.Ren := ⟨Tryz.lays274_ren.f, Tryz.lays274_ren.t, fun | 13 => 1 | n => n⟩
theorem lc274 : Go.Proofs.Lays.n274 Tryz.prog caseRen := { Tryz.lays274 with }
theorem lc206 : Tryz.prog.underlying (caseRen.t 206) = some (.array 3 (caseRen.t 21)) := Tryz.underlying165
theorem lcX : CaseExtra Tryz.prog caseRen := ⟨by kernel_rfl, by kernel_rfl, by kernel_rfl, by kernel_rfl, by kernel_rfl, by kernel_rfl⟩
set_option maxRecDepth 100000 in
theorem w_var (os : Os) (args : Array Value) : ((laidWorld os).forCall (fun _ _ => 0) ⟨#[], args, []⟩).memory.heap[1]? = some (.cells #[.slice (some ⟨N0, 0, Option.none⟩) Lib.caseA.size Lib.caseA.size] 139 (0, 0)) := by kernel_rfl
set_option maxRecDepth 100000 in
theorem w_blk (os : Os) (args : Array Value) : ((laidWorld os).forCall (fun _ _ => 0) ⟨#[], args, []⟩).memory.heap[N0]? = some (.cells Go.Lib.caseCells5 167 (0, 0)) := by kernel_rfl
theorem n0_ne : (1 : Nat) ≠ N0 := of_decide_eq_true (by kernel_rfl)
set_option maxRecDepth 100000 in
theorem piece6 (os : Os) (args : Array Value) : LaidIn Tryz.prog ((laidWorld os).forCall (fun _ _ => 0) ⟨#[], args, []⟩).memory [("unicode.CaseRanges", Lib.caseData)] [1, N0] := by
  have hvar := w_var os args
  have hblk := w_blk os args
  generalize ((laidWorld os).forCall (fun _ _ => 0) ⟨#[], args, []⟩).memory = w at *
  have hgR := n0_ne
  generalize N0 = R at *
  have hT := caseTab_of_block hblk
  have hread := case_slice_reads lc274 lc206 lcX hT caseA_wf (by rw [caseA_size]; unfold maxLen; omega) 0
  rw [case_rows_data] at hread
  have hv : w.var? Tryz.prog "unicode.CaseRanges" = some #[.slice (some ⟨R, 0, Option.none⟩) caseA.size caseA.size] := by
    have := lcX.n13
    simp [World.var?, this, show caseRen.g 13 = 1 from rfl, hvar]
  refine LaidIn.one (g := 1) (t := 139) (p := MemPlace.row ⟨R, 0, Option.none⟩ (caseA.size * 5)) [1, R] lcX.n13 lcX.y13 hv hread ?_ ?_ ?_
  · refine List.nodup_append.2 ⟨rowP_nodup _ _, rowP_nodup _ _, ?_⟩
    intro a ha b hb e
    obtain ⟨i, _, rfl⟩ := MemPlace.mem_row.1 ha
    obtain ⟨j, _, rfl⟩ := MemPlace.mem_row.1 hb
    simp at e
    exact hgR e.1
  · intro b off hp
    rcases List.mem_append.1 hp with hp | hp
    · obtain ⟨i, hi, e⟩ := MemPlace.mem_row.1 hp
      cases e
      refine ⟨⟨_, _, hvar⟩, fun u v hc => ?_⟩
      have hi : i < 1 := hi
      obtain rfl : i = 0 := by omega
      rw [Lib.cell_of_heap hvar] at hc
      simp at hc
    · obtain ⟨i, hi, e⟩ := MemPlace.mem_row.1 hp
      cases e
      refine ⟨⟨_, _, hblk⟩, fun u v hc => ?_⟩
      obtain ⟨c0, c1, c2, c3, c4⟩ := hT (i / 5) (by omega)
      have hi5 : 0 + i = 0 + i / 5 * 5 + i % 5 := by omega
      simp only at hc
      rw [hi5] at hc
      have hm : i % 5 < 5 := Nat.mod_lt _ (by omega)
      match hk : i % 5, hm with
      | 0, _ => rw [hk, Nat.add_zero, c0] at hc; cases hc
      | 1, _ => rw [hk, c1] at hc; cases hc
      | 2, _ => rw [hk, c2] at hc; cases hc
      | 3, _ => rw [hk, c3] at hc; cases hc
      | 4, _ => rw [hk, c4] at hc; cases hc
  · intro x hx
    rcases List.mem_append.1 hx with hx | hx
    · obtain ⟨i, _, rfl⟩ := MemPlace.mem_row.1 hx
      exact .head _
    · obtain ⟨i, _, rfl⟩ := MemPlace.mem_row.1 hx
      exact .tail _ (.head _)
theorem laid_met (os : Os) (args : Array Value) : laidMetH Tryz.prog laidL ((laidWorld os).forCall (fun _ _ => 0) ⟨#[], args, []⟩).memory := by
  rw [laidL_eq]
  exact (((piece0 os args).append (piece6 os args) (by kernel_rfl)).append (piece7 os args) (by kernel_rfl)).met
theorem err_of_reads {W : World} {n nm : String} {d : DataW Unit} {g : Nat} (hg : Tryz.prog.globalNamed n = some g) (ht : (Tryz.prog.globals[g]?).map (·.type) = some 101) (h : Lib.VarReads Tryz.prog W n (.iface nm d)) : ∃ tp p, W.cell? ⟨g, 0, Option.none⟩ = some (.iface tp p) := by
  obtain ⟨g', t, cs, fuel, p, h1, h2, h3, h4⟩ := h
  obtain rfl : g = g' := Option.some.inj (hg.symm.trans h1)
  obtain rfl : 101 = t := Option.some.inj (ht.symm.trans h2)
  obtain ⟨_, u, v, hcs, _⟩ := iface_of_trod Tryz.underlying101 h4
  refine ⟨u, v, ?_⟩
  have := World.var?_cell hg h3 0
  rw [this]
  rw [← Array.getElem?_toList, hcs]; rfl
/-- What the conditions give a walk. -/
theorem tabs_of {W : World} (hL : laidMetH Tryz.prog laidL W) (hs : W.ShapedOpen Tryz.prog) : Tabs W := by
  rw [laidL_eq] at hL
  have r2 := Lib.laidMet.reads hL (.tail _ (.tail _ (.head _)))
  have r3 := Lib.laidMet.reads hL (.tail _ (.tail _ (.tail _ (.head _))))
  have r4 := Lib.laidMet.reads hL (.tail _ (.tail _ (.tail _ (.tail _ (.head _)))))
  have r5 := Lib.laidMet.reads hL (.tail _ (.tail _ (.tail _ (.tail _ (.tail _ (.head _))))))
  have r6 := Lib.laidMet.reads hL (.tail _ (.tail _ (.tail _ (.tail _ (.tail _ (.tail _ (.head _)))))))
  have r7 := Lib.laidMet.reads hL (.tail _ (.tail _ (.tail _ (.tail _ (.tail _ (.tail _ (.tail _ (.head _))))))))
  refine ⟨utf8Tabs_of_readsT (U8Types.of260 Tryz.lays260) ⟨by kernel_rfl, by kernel_rfl, by kernel_rfl, by kernel_rfl, by kernel_rfl, by kernel_rfl, by kernel_rfl⟩ r7 r3, ?_, ?_, ?_, ?_, ?_⟩
  · exact caseVar_of_reads lc274 lc206 lcX r6
  · obtain ⟨g, t, cs, fuel, q, h1, h2, h3, h4⟩ := r2
    obtain rfl : g = 6 := Option.some.inj (h1.symm.trans powG)
    obtain rfl : t = 172 := Option.some.inj (h2.symm.trans (show (Tryz.prog.globals[6]?).map (·.type) = some 172 by kernel_rfl))
    unfold Lib.TabIs
    rw [h3, ← Lib.cells_of_tab (n := 20) (e := 114) Tryz.underlying172 Tryz.underlying114 (by kernel_rfl) (by kernel_rfl) h4]
  · exact err_of_reads (g := 4) (by kernel_rfl) (by kernel_rfl) r5
  · exact err_of_reads (g := 5) (by kernel_rfl) (by kernel_rfl) r4
  · exact Go.Proofs.cell_of_shapedOpen_int (zero := #[.int .i64 0]) (t := 3) hs (of_decide_eq_true (by kernel_rfl)) (by kernel_rfl) rfl (by kernel_rfl) (by kernel_rfl) Tryz.underlying3
end Go.Proofs.YtcpkkaimingnlaaGreatDoor
