/-
  sha.Key: the digits of the digest of parts with their lengths.
-/
import Derived.Test.YtknoonkjkdjkbaaFst
namespace Go.Proofs.Ytknoonkjkdjkbaa
open Go.RowKit Go.Shelf

/-- 'out = append(out, ..)' as 'wpList_push', and which blocks lie as they lay. -/
theorem wpList_pushG {P : Program} {w : World} {ops : Array Oper} {rest : List Oper} {o : Oper} {a : Act} {Q : Exit → Act → World → Prop} (hgd : o.guard = none) (s x : Operand) (t : TypeId)
    (ho : o.op = .call { callee := .builtin .append, args := #[s, x], argTypes := #[t, t] })
    (base : Nat) (e : TypeId) (z : Value) (size bytes : Nat) (ht : P.underlying t = some (.slice e)) (hinfo : (P.info? e).map (fun i => (i.zero, i.size, i.bytes)) = some (some z, size, bytes))
    (hzs : z.cells.size = size) (hsz : 0 < size)
    (v : Value) (n : Nat) (xs : List Value) (hs : a.eval s = v) (hown : w.ownsRow base e size v n xs)
    (cs : Array Value) (m : Nat) (hm : 0 < m) (hx : a.eval x = .slice (some ⟨w.heap.size, 0, none⟩) m m) (hcs : cs.size = m * size) (h1 : cs.toList.all Value.oneCell' = true)
    (h63 : n + m ≤ 9223372036854775807) (hbytes : (n + m) * bytes ≤ 140737488355328) (hbase : base ≤ w.heap.size)
    (h : ∀ g cap w', w'.ownsRow base e size (.slice (some ⟨g, 0, none⟩) (n + m) cap) (n + m) (xs ++ cs.toList) → base ≤ g → Below base w w' → (∀ b, b < w.heap.size → v.ownBlock ≠ some b → w'.heap[b]? = w.heap[b]?) →
      wpList P ops Q rest (a.put o.dst (.slice (some ⟨g, 0, none⟩) (n + m) cap)) w') : wpList P ops Q (o :: rest) a (w.alloc (.cells cs e)) := by
  obtain ⟨i0, hi, hz0, hz1, hz2⟩ := info_parts hinfo
  refine wpList_append_own _ hgd s x t ho base e i0 z size bytes ht hi hz0 hz1 hz2 hzs hsz v n xs hs (hown.alloc _) ⟨w.heap.size, 0, none⟩ m m cs.toList hx (by simpa using hcs) (cells_new w cs e) (List.all_eq_true.1 h1) (by unfold maxLen; omega) hbytes (by simp; omega) ?_
  intro v' w' hown' hg _
  obtain ⟨g, cap, rfl, hb, _⟩ := hown'.form (by omega)
  refine h g cap w' hown' hb ?_ ?_
  · exact ((Below.refl base w).alloc hbase _).grown hg (by simp; omega) (fun k hk => own_size hown k hk)
  · intro b hb hne
    exact (hg.block b (by simp; omega) (fun e => hne e.symm)).trans (Below.heap_alloc _ _ _ hb)

/-- A part that lies in a block of bytes. -/
def PRow (w : World) (p : Part) : Prop := p.bytes.length ≤ p.cap ∧ ∃ g cur fr, p.at_ = some ⟨g, 0, none⟩ ∧ w.heap[g]? = some (.cells cur 5 fr) ∧ cur.toList.take p.bytes.length = b8s p.bytes
theorem PRow.ok {w : World} {p : Part} (h : PRow w p) : p.ok w w.heap.size := by
  obtain ⟨hc, g, cur, fr, ha, hg, ht⟩ := h
  refine ⟨⟨by simp [b8s], fun hn => ⟨g, 0, ha, (Array.getElem?_eq_some_iff.1 hg).1, fun j hj => ?_⟩⟩, hc⟩
  rw [Nat.zero_add, cell_of_row w g j cur 5 fr hg, ← ht]
  simp only [Nat.mul_one] at hj
  simp [hj]
theorem PRow.keep {w w' : World} {p : Part} (h : PRow w p) (hk : ∀ (g : Nat) (cur : Array Value) (fr : Nat × Nat), w.heap[g]? = some (Obj.cells cur 5 fr) → w'.heap[g]? = some (Obj.cells cur 5 fr)) : PRow w' p := by
  obtain ⟨hc, g, cur, fr, ha, hg, ht⟩ := h
  exact ⟨hc, g, cur, fr, ha, hk _ _ _ hg, ht⟩
theorem PRow.below {w w' : World} {p : Part} (h : PRow w p) (hb : Below w.heap.size w w') : PRow w' p :=
  h.keep fun g _ _ hg => (hb.block g (Array.getElem?_eq_some_iff.1 hg).1).trans hg
theorem PRow.of_own {w : World} {base cap : Nat} {A : Option Addr} {l : List UInt8} (h : w.ownsRow base 5 1 (.slice A l.length cap) l.length (b8s l)) (hn : 0 < l.length) : PRow w ⟨A, cap, l⟩ := by
  obtain ⟨g, rfl, _, _⟩ := own_some h hn
  obtain ⟨cs, hb, hl, ht⟩ := own_blk h
  obtain ⟨_, _, e, hc, _⟩ := own_form h
  refine ⟨by injection e; show l.length ≤ cap; omega, g, cs.toArray, (0, 0), rfl, hb, ?_⟩
  simpa using ht
theorem str_bytes (W : World) (s : List UInt8) : ∃ cap W', (convert 9 22 (.string ⟨s.toArray⟩)).run Try.prog W = .ok (.slice (some ⟨W.heap.size, 0, none⟩) s.length cap) W' ∧ Below W.heap.size W W' ∧ W'.heap.size = W.heap.size + 1 ∧ PRow W' ⟨some ⟨W.heap.size, 0, none⟩, cap, s⟩ := by
  have hr := run_bytes_of_string (P := Try.prog) W 9 22 5 ⟨s.toArray⟩ Try.underlying9 Try.underlying22 Try.underlying5
  have hsz : (⟨s.toArray⟩ : ByteArray).size = s.length := by simp [ByteArray.size]
  rw [hsz] at hr
  have hge := grownCap_ge W s.length 0 5
  refine ⟨_, _, hr, (Below.refl _ W).drew.alloc (Nat.le_refl _) _, (World.size_alloc W.drew _).trans rfl, hge, W.heap.size, _, _, rfl, World.alloc_heap_new W.drew _, ?_⟩
  show (bytesRow _ _).toList.take s.length = b8s s
  simp [bytesRow, b8s]

def keyBytes (ss : List (List UInt8)) : List UInt8 := ss.flatMap fun s => be8 s.length ++ s
theorem keyBytes_snoc (ss : List (List UInt8)) (k : Nat) (h : k < ss.length) : keyBytes (ss.take (k + 1)) = keyBytes (ss.take k) ++ (be8 (ss.getD k []).length ++ ss.getD k []) := by
  rw [List.take_succ_eq_append_getElem h, keyBytes, List.flatMap_append]
  simp [keyBytes, h]
theorem keyBytes_le (ss : List (List UInt8)) (k : Nat) : (keyBytes (ss.take k)).length ≤ (keyBytes ss).length := by
  have : keyBytes ss = keyBytes (ss.take k) ++ keyBytes (ss.drop k) := by rw [keyBytes, keyBytes, keyBytes, ← List.flatMap_append, List.take_append_drop]
  rw [this, List.length_append]; omega
def strV (s : List UInt8) : Value := .string ⟨s.toArray⟩

set_option maxHeartbeats 2000000 in
theorem key_any (ss : List (List UInt8)) (A : Option Addr) (cap B : Nat) (w : World) (hp : Rd w B 1 A ss.length (ss.map strV)) (hB0 : B ≤ w.heap.size) (hcap : ss.length ≤ cap) (hn : ss.length ≤ 100) (hl : (keyBytes ss).length ≤ 5000) :
    Calls Try.prog 12 #[.slice A ss.length cap] w fun e w' => e = .returned (.string ⟨(hexOf (digest (keyBytes ss))).toArray⟩) ∧ Below w.heap.size w w' := by
  obtain ⟨n, hN⟩ : ∃ n, n = ss.length := ⟨_, rfl⟩
  have Hp := Lib.hid hp; clear hp
  rw [← hN] at hcap hn Hp ⊢
  have HN := Lib.hid hN; clear hN
  go_enter Try.func12, Try.ntmps12
  go_wp2_with fail
  go_loopw [3, 8] (fun v i wr => ∃ (k : Nat) (ps : List Part), k ≤ n ∧ i = .int .i64 k ∧ wr.ownsRow w.heap.size 22 1 v (2 * k) (ps.map Part.val) ∧ (∀ p ∈ ps, PRow wr p) ∧ allBytes ps = keyBytes (ss.take k) ∧ Below w.heap.size w wr)
    (fun _ i _ => n - (intOf i).toNat)
  case atStart => exact ⟨0, [], by omega, rfl, World.ownsRow_nil _ _ _ _, fun _ h => by simp at h, rfl, Below.refl _ _⟩
  case round =>
    obtain ⟨k, ps, hk, rfl, hown, hps, hall, hB⟩ := hrel
    obtain ⟨A2, c2, rfl, hc2, _⟩ := own_form hown
    have hbs := hB.size
    by_cases hk8 : k < n
    · obtain ⟨b, off, rfl, hb, hcell⟩ := Hp.out.at_ (by omega)
      have hkl : k < ss.length := by rw [← HN.out]; exact hk8
      have hck : wr.cell? ⟨b, off + k, none⟩ = some (strV (ss.getD k [])) := by
        rw [hB.cell (p := ⟨b, off + k, none⟩) (by show b < w.heap.size; omega), hcell k (by omega)]
        simp [hkl]
      have hsn := keyBytes_snoc ss k hkl
      have hle : (keyBytes (ss.take (k + 1))).length ≤ 5000 := Nat.le_trans (keyBytes_le ss _) hl
      have hslen : (ss.getD k []).length ≤ 5000 := by rw [hsn, List.length_append, List.length_append] at hle; omega
      obtain ⟨s, hs⟩ : ∃ s, s = ss.getD k [] := ⟨_, rfl⟩
      rw [← hs] at hck hsn hslen
      have Hsn := Lib.hid hsn; have Hps := Lib.hid hps; have Hall := Lib.hid hall; have Hown := Lib.hid hown
      clear hcell hsn hle hs hps hall hown hkl
      have hck' : wr.cell? ⟨b, off + k, none⟩ = some (.string ⟨s.toArray⟩) := hck
      clear hck
      have hsz : (⟨s.toArray⟩ : ByteArray).size = s.length := by simp [ByteArray.size]
      go_wp2_with fail
      refine (eight_any s.length wr (by omega)).mono ?_
      rintro e w1 ⟨v1, rfl, o1, b1⟩
      rw [Owns8, be8_length] at o1
      obtain ⟨A1, c1, rfl, _, _⟩ := own_form o1
      have hp1 : PRow w1 ⟨A1, c1, be8 s.length⟩ := PRow.of_own (by rw [be8_length]; exact o1) (by rw [be8_length]; decide)
      obtain ⟨c3, w3, hcv, b3, hs3, hp3⟩ := str_bytes w1 s
      have Hs3 := Lib.hid hs3; have Hs1 := Lib.hid b1.size
      have Hown3 := Lib.hid (own_keep (own_keep Hown.out b1) b3)
      have Hps3 : Hid (∀ p ∈ ps ++ [⟨A1, c1, be8 s.length⟩, ⟨some ⟨w1.heap.size, 0, none⟩, c3, s⟩], PRow w3 p) := by
        intro p hp
        simp only [List.mem_append, List.mem_cons, List.not_mem_nil, or_false] at hp
        rcases hp with hp | rfl | rfl
        · exact ((Hps.out p hp).below b1).below b3
        · exact hp1.below b3
        · exact hp3
      have hB3 : Below w.heap.size w w3 := (hB.trans (b1.mono hbs)).trans (b3.mono (by have := Hs1.out; omega))
      have hbs3 : w.heap.size ≤ w3.heap.size := hB3.size
      clear o1 hp1 hp3 b1 b3 Hown Hps hs3
      go_wp2_with (at_builtin; refine wpList_pushG rfl (.tmp 12) (.tmp 19) 39 rfl w.heap.size 22 (.slice none 0 0) 1 24 Try.underlying39 (by kernel_rfl) rfl (by decide) _ _ _ rfl Hown3.out _ 2 (by decide) rfl rfl rfl (by omega) (by omega) (by omega) ?_; intro g4 cap4 w4 hown4 hg4 hb4 hk4; have Hown4 := Lib.hid hown4; clear hown4)
      have Hps4 : Hid (∀ p ∈ ps ++ [⟨A1, c1, be8 s.length⟩, ⟨some ⟨w1.heap.size, 0, none⟩, c3, s⟩], PRow w4 p) := by
        intro p hp
        refine (Hps3.out p hp).keep fun g cur fr hg => (hk4 g (Array.getElem?_eq_some_iff.1 hg).1 (fun e => ?_)).trans hg
        rcases Hown3.out.2 with ⟨hv, _⟩ | ⟨g', cap', cur', hv, _, hh, _⟩
        · injection hv with h1 _ _
          rw [h1] at e; cases e
        · injection hv with h1 _ _
          rw [h1] at e
          injection e with e
          subst e
          rw [hg] at hh
          injection hh with hh
          injection hh with _ h5
          cases h5
      have Hown5 : Hid (w4.ownsRow w.heap.size 22 1 (.slice (some ⟨g4, 0, none⟩) (2 * (k + 1)) cap4) (2 * (k + 1)) ((ps ++ [(⟨A1, c1, be8 s.length⟩ : Part), (⟨some ⟨w1.heap.size, 0, none⟩, c3, s⟩ : Part)]).map Part.val)) := by
        rw [Hid, List.map_append]
        have := Hown4.out
        simp only [List.map_cons, List.map_nil, Part.val, be8_length]
        exact this
      have hall5 : allBytes (ps ++ [(⟨A1, c1, be8 s.length⟩ : Part), (⟨some ⟨w1.heap.size, 0, none⟩, c3, s⟩ : Part)]) = keyBytes (ss.take (k + 1)) := by
        rw [Hsn.out, ← Hall.out]; simp [allBytes]
      have Hall5 := Lib.hid hall5
      clear hall5 Hown4 hk4 Hps3 Hown3 Hall Hsn
      go_roundw
      case rel => exact ⟨k + 1, _, by omega, by go_num, Hown5.out, Hps4.out, Hall5.out, hB3.trans hb4⟩
      case measure => simp [intOf]; omega
    · obtain rfl : k = n := by omega
      have Hps := Lib.hid hps; have Hall := Lib.hid hall; have Hown := Lib.hid hown
      clear hps hall hown
      go_wp2_with fail
      have hlen : ps.length = 2 * k := by
        have := Hown.out.1; simpa using this
      have hpa : partsAt wr wr.heap.size A2 ps := by
        refine ⟨?_, fun p hp => (Hps.out p hp).ok⟩
        rw [hlen]
        exact Rd.of_own Hown.out
      have hfin : allBytes ps = keyBytes ss := by
        rw [Hall.out, List.take_of_length_le (by rw [← HN.out]; exact Nat.le_refl _)]
      have HX := hex_any ps A2 c2 _ wr hpa (Nat.le_refl _) (by omega) (by omega) (by rw [hfin]; exact hl)
      rw [hlen, hfin] at HX
      refine HX.mono ?_
      rintro e w6 ⟨rfl, b6⟩
      go_wp2_with fail
      go_ret
      exact ⟨rfl, hB.trans (b6.mono hbs)⟩
end Go.Proofs.Ytknoonkjkdjkbaa
