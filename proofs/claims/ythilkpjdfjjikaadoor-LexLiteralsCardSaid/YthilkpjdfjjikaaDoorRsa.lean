/-
  The document's machine: what a step shares.
-/
import Derived.Test.YthilkpjdfjjikaaDoorRlo
import Derived.Test.YthilkpjdfjjikaaDoorTag
namespace Go.Proofs.YthilkpjdfjjikaaDoor
open Go.RowKit

/-- The states' names. -/
def stS : Nat → ByteArray
  | 0 => ⟨#[84, 101, 120, 116]⟩
  | 1 => ⟨#[79, 112, 101, 110]⟩
  | 2 => ⟨#[67, 108, 111, 115, 101]⟩
  | 3 => ⟨#[78, 97, 109, 101]⟩
  | 4 => ⟨#[69, 110, 100, 78, 97, 109, 101]⟩
  | 5 => ⟨#[84, 97, 103]⟩
  | 6 => ⟨#[65, 116, 116, 114]⟩
  | 7 => ⟨#[65, 102, 116, 101, 114]⟩
  | 8 => ⟨#[66, 101, 102, 111, 114, 101]⟩
  | 9 => ⟨#[86, 97, 108, 117, 101]⟩
  | 10 => ⟨#[66, 97, 114, 101]⟩
  | 11 => ⟨#[66, 97, 110, 103]⟩
  | _ => ⟨#[82, 97, 119]⟩
def wcells (w : Walk) : List Value := [.string (stS w.st), .string (bs w.el), .string (bs w.attr), .string (bs w.seen), u8v w.quote, .bool w.filled]
def walkV (w : Walk) : Value := .agg (wcells w).toArray
theorem results_c {fn : Func} {p : Tmp} {ty : TypeId} (h : fn.results = #[.cell p ty]) (tmps : Array Value) (P : Program) (w : World) (a : Addr) (v : Value) (hp : tmps.getD p undef = .pointer (some a)) (hl : (loadVar ty a).run P w = .ok v w) :
    (results fn tmps).run P w = .ok v w := by
  have hp' : tmps[p]?.getD undef = .pointer (some a) := by rw [← hp]; simp
  simp only [results, h]
  simp [Sem.run_bind, hp', asAddr, hl]
theorem load_walk (w : World) (g : Nat) (cs : Array Value) (hs : cs.size = 6) (hg : ∃ old : Array Value, w.heap[g]? = some (.cells old 69 (0, 0))) : (loadVar 69 ⟨g, 0, none⟩).run Tryd.prog (w.setRow g cs) = .ok (.agg cs) (w.setRow g cs) := by
  obtain ⟨old, h⟩ := hg
  exact run_loadVar_row _ g 69 69 cs (0, 0) _ (setRow_heap w g old cs 69 (0, 0) h) Tryd.underlying69 rfl (by rw [hs]; kernel_rfl)
/-- The byte's set: what is asked of it first. -/
theorem blank_one (c : UInt8) (w : World) : Calls Tryd.prog 53 #[u8v c, .string ⟨#[32, 9, 10, 12, 13]⟩] w fun e w' => e = .returned (.bool (blankB c)) ∧ w' = w := by
  rw [blank_contains]
  exact one_any c [32, 9, 10, 12, 13] w (by decide)
theorem conv_two (w : World) (A B : Obj) (c : UInt8) : (convert 92 9 (.slice (some ⟨w.heap.size + 1 + 1, 0, none⟩) 1 1)).run Tryd.prog (((w.alloc A).alloc B).alloc (.cells #[.int .u8 ((c.toNat : Nat) : Int)] 5)) = .ok (.string (bs [c])) (((w.alloc A).alloc B).alloc (.cells #[.int .u8 ((c.toNat : Nat) : Int)] 5)) := by
  have h := conv_one ((w.alloc A).alloc B) c.toNat c rfl
  rw [show ((w.alloc A).alloc B).heap.size = w.heap.size + 1 + 1 from by simp] at h
  exact h
/-- The two blocks of a step, behind what was laid and called. -/
theorem two_blocks {w w2 : World} (cs ds : Array Value) (o : Obj) (hb : Below (((w.alloc (.cells cs 69)).alloc (.cells ds 69)).alloc o).heap.size (((w.alloc (.cells cs 69)).alloc (.cells ds 69)).alloc o) w2) :
    Blk w2 w.heap.size 69 cs.toList ∧ Blk w2 (w.heap.size + 1) 69 ds.toList ∧ Below w.heap.size w w2 := by
  have h1 := hb.block w.heap.size (by simp; omega)
  have h2 := hb.block (w.heap.size + 1) (by simp)
  have e1 : (((w.alloc (.cells cs 69)).alloc (.cells ds 69)).alloc o).heap[w.heap.size]? = some (.cells cs 69 (0, 0)) := by
    rw [Below.heap_alloc _ o _ (by simp; omega), Below.heap_alloc _ _ _ (by simp)]
    exact heap_alloc_new w _
  have e2 : (((w.alloc (.cells cs 69)).alloc (.cells ds 69)).alloc o).heap[w.heap.size + 1]? = some (.cells ds 69 (0, 0)) := by
    rw [Below.heap_alloc _ o _ (by simp)]
    have := heap_alloc_new (w.alloc (.cells cs 69)) (.cells ds 69)
    rw [show (w.alloc (.cells cs 69)).heap.size = w.heap.size + 1 from by simp] at this
    exact this
  refine ⟨h1.trans e1, h2.trans e2, ?_⟩
  exact ((((Below.refl _ w).alloc (Nat.le_refl _) _).alloc (by simp) _).alloc (by simp; omega) _).trans (hb.mono (by simp; omega))
theorem far1 {w : World} {g : Nat} {t : TypeId} {cs : List Value} {p1 : Addr} {u1 : Value} (h : Blk w g t cs) (h1 : g ≠ p1.block) : (w.setCell p1 u1).heap[g]? = some (.cells cs.toArray t (0, 0)) := blk_far h h1 u1
theorem far2 {w : World} {g : Nat} {t : TypeId} {cs : List Value} {p1 p2 : Addr} {u1 u2 : Value} (h : Blk w g t cs) (h1 : g ≠ p1.block) (h2 : g ≠ p2.block) : ((w.setCell p1 u1).setCell p2 u2).heap[g]? = some (.cells cs.toArray t (0, 0)) := blk_far (blk_far h h1 u1) h2 u2
theorem far3 {w : World} {g : Nat} {t : TypeId} {cs : List Value} {p1 p2 p3 : Addr} {u1 u2 u3 : Value} (h : Blk w g t cs) (h1 : g ≠ p1.block) (h2 : g ≠ p2.block) (h3 : g ≠ p3.block) : (((w.setCell p1 u1).setCell p2 u2).setCell p3 u3).heap[g]? = some (.cells cs.toArray t (0, 0)) := blk_far (blk_far (blk_far h h1 u1) h2 u2) h3 u3
theorem b47 : blankB 47 = false := by decide
theorem b61 : blankB 61 = false := by decide
theorem l47 : letterB 47 = false := by decide
theorem l33 : letterB 33 = false := by decide
def zeroW : List Value := [.string ⟨#[]⟩, .string ⟨#[]⟩, .string ⟨#[]⟩, .string ⟨#[]⟩, .int .u8 0, .bool false]
end Go.Proofs.YthilkpjdfjjikaaDoor
