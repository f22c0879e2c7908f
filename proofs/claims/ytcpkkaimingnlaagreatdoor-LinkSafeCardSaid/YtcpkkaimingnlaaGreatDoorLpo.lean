/-
  What all walks of links lean on (the listed variables); link.port.
-/
import Derived.Test.YtcpkkaimingnlaaGreatDoorLri
import Derived.Lib.ParseIntB
namespace Go.Proofs.YtcpkkaimingnlaaGreatDoor
open Go.RowKit

/-- The listed variables, and what any world of this program holds. -/
structure Tabs (w : World) : Prop where
  utf : Lib.Utf8Tabs 2 3 w
  case : Lib.CaseVar 1 Lib.caseA w
  pow : Lib.TabIs Tryz.prog w "internal/strconv.uint64pow10" .u64 Lib.pow10Tab
  syn : ∃ tp p, w.cell? ⟨4, 0, none⟩ = some (.iface tp p)
  rng : ∃ tp p, w.cell? ⟨5, 0, none⟩ = some (.iface tp p)
  len : ∃ m, w.cell? ⟨0, 0, none⟩ = some (.int .i64 m)
def foldD (acc : Nat) (l : Bs) : Nat := l.foldl (fun n c => 10 * n + (c.toNat - 48)) acc
theorem foldD_cons (acc : Nat) (c : UInt8) (r : Bs) : foldD acc (c :: r) = foldD (10 * acc + (c.toNat - 48)) r := by unfold foldD; rw [List.foldl_cons]
theorem foldD_ge : ∀ (l : Bs) (acc : Nat), acc ≤ foldD acc l
  | [], acc => Nat.le_refl _
  | c :: r, acc => by
    rw [foldD_cons]
    have := foldD_ge r (10 * acc + (c.toNat - 48))
    omega
theorem digB_iff (c : UInt8) : digB c = true ↔ 48 ≤ c.toNat ∧ c.toNat ≤ 57 := by
  unfold digB; rw [Bool.and_eq_true, decide_eq_true_eq, decide_eq_true_eq]
theorem parseM_ok : ∀ (l : Bs) (acc u : Nat), Lib.parseUintM 65535 acc l = .ok u → acc ≤ 65535 → (∀ c ∈ l, digB c = true) ∧ u = foldD acc l ∧ u ≤ 65535
  | [], acc, u, h, ha => by
    simp only [Lib.parseUintM] at h
    injection h with h
    subst h
    exact ⟨(fun _ h => by cases h), rfl, ha⟩
  | c :: r, acc, u, h, ha => by
    simp only [Lib.parseUintM] at h
    split at h
    · rename_i hd
      split at h
      · cases h
      · split at h
        · cases h
        · rename_i hM
          obtain ⟨h1, h2, h3⟩ := parseM_ok r _ u h (by omega)
          refine ⟨fun x hx => ?_, ?_, h3⟩
          · rcases List.mem_cons.1 hx with rfl | hx
            · exact (digB_iff _).2 hd
            · exact h1 x hx
          · rw [h2, foldD_cons, Nat.mul_comm]
    · cases h
theorem parseM_of : ∀ (l : Bs) (acc : Nat), (∀ c ∈ l, digB c = true) → foldD acc l ≤ 65535 → Lib.parseUintM 65535 acc l = .ok (foldD acc l)
  | [], acc, _, _ => by simp only [Lib.parseUintM]; rfl
  | c :: r, acc, h, hf => by
    have hd := (digB_iff c).1 (h c List.mem_cons_self)
    have h1 := foldD_ge (c :: r) acc
    rw [foldD_cons] at hf
    have h2 := foldD_ge r (10 * acc + (c.toNat - 48))
    have e : acc * 10 + (c.toNat - 48) = 10 * acc + (c.toNat - 48) := by omega
    simp only [Lib.parseUintM]
    rw [if_pos hd, e, if_neg (by omega), if_neg (by omega), parseM_of r _ (fun x hx => h x (List.mem_cons_of_mem _ hx)) hf, foldD_cons]
theorem port_ok (s : Bs) (u : Nat) (h : Lib.parseUintB 16 s = .ok u) : s ≠ [] ∧ s.all digB = true ∧ u = valD s ∧ u ≤ 65535 := by
  unfold Lib.parseUintB at h
  by_cases hs : s = []
  · rw [if_pos hs] at h; cases h
  · rw [if_neg hs] at h
    obtain ⟨h1, h2, h3⟩ := parseM_ok s 0 u h (by omega)
    exact ⟨hs, List.all_eq_true.2 h1, h2, h3⟩
theorem port_no (s : Bs) (h : ∀ u, Lib.parseUintB 16 s ≠ .ok u) : portP s = 0 := by
  unfold portP
  by_cases hc : s ≠ [] ∧ s.all digB = true ∧ valD s ≤ 65535 ∧ s.head? ≠ some 48
  · exfalso
    refine h (valD s) ?_
    unfold Lib.parseUintB
    rw [if_neg hc.1]
    exact parseM_of s 0 (List.all_eq_true.1 hc.2.1) hc.2.2.1
  · rw [if_neg hc]
theorem powG : Tryz.prog.globalNamed "internal/strconv.uint64pow10" = some 6 := by kernel_rfl
theorem Tabs.below {w w' : World} (h : Tabs w) (hb : Below w.heap.size w w') : Tabs w' := by
  have hc : ∀ {a : Addr} {v : Value}, w.cell? a = some v → w'.cell? a = some v := by
    intro a v ha
    have hl : a.block < w.heap.size := by
      rcases Nat.lt_or_ge a.block w.heap.size with h' | h'
      · exact h'
      · simp [World.cell?, h'] at ha
    rw [hb.cell hl]; exact ha
  obtain ⟨h1, h2, h3, ⟨t1, p1, h4⟩, ⟨t2, p2, h5⟩, ⟨m, h6⟩⟩ := h
  exact ⟨Utf8Tabs_below h1 hb, Lib.CaseVar_below h2 hb, Go.Joins.tab_stays powG h3 hb (Nat.le_refl _), ⟨t1, p1, hc h4⟩, ⟨t2, p2, hc h5⟩, ⟨m, hc h6⟩⟩
/-- strconv.ParseUint(s, 10, 16) where the text is no row of digits. -/
theorem pu_other (s : ByteArray) (hlim : s.size ≤ 281474976710656) (h1 : ∀ u, Lib.parseUintB 16 s.data.toList ≠ .ok u) (h2 : Lib.parseUintB 16 s.data.toList ≠ .range) (ev : Value) (w : World) (hv : w.cell? ⟨4, 0, none⟩ = some ev) (hev : ev = .nilIface ∨ ∃ te pe, ev = .iface te pe) :
    Calls Tryz.prog 83 #[.string s, .int .i64 10, .int .i64 16] w fun e w' => ∃ N, e = .returned (.tuple #[.int .u64 0, .iface 142 (.pointer (some ⟨N, 0, none⟩))]) ∧ w.heap.size ≤ N ∧ w'.heap[N]? = some (.cells #[.string ⟨#[80, 97, 114, 115, 101, 85, 105, 110, 116]⟩, .string s, ev] 157 (0, 0)) ∧ Below w.heap.size w w' := by
  cases hx : Lib.parseUintB 16 s.data.toList
  · exact absurd hx (h1 _)
  · exact Any.strconv_ParseUint_10_at16_syntax Tryz.laysPu14 s hlim hx ev w hv hev
  · exact absurd hx h2
set_option maxHeartbeats 2000000 in
theorem port_any (s : Bs) (w : World) (hT : Tabs w) (hl : s.length ≤ 1000000) :
    Calls Tryz.prog 41 #[.string (bs s)] w fun e w' => e = .returned (.int .i64 ((portP s : Nat) : Int)) ∧ Below w.heap.size w w' := by
  have hz : (bs s).size = s.length := bs_size s
  by_cases hok : ∃ u, Lib.parseUintB 16 s = .ok u
  · obtain ⟨u, hp⟩ := hok
    obtain ⟨h1, h2, h3, h4⟩ := port_ok s u hp
    have hc := Lib.hid (Tryz.strconv_ParseUint_10_at16_ok (bs s) (by rw [hz]; omega) u hp w)
    match s, h1 with
    | c :: r, _ =>
      have hx := str_byte (c :: r) 0 (by simp)
      have hx : ∀ W, (Instr.index 9 (.string (bs (c :: r))) (.int .i64 0)).run Tryz.prog W = .ok (.int .u8 ((c.toNat : Nat) : Int)) W := hx
      have hd : digB c = true := List.all_eq_true.1 h2 c List.mem_cons_self
      have hd2 := (digB_iff c).1 hd
      have hP : portP (c :: r) = if c = 48 then 0 else u := by
        unfold portP
        by_cases h48 : c = 48
        · rw [if_pos h48, if_neg (fun h => h.2.2.2 (by rw [h48]; rfl))]
        · rw [if_neg h48, if_pos ⟨by simp, h2, by omega, by simpa using h48⟩, h3]
      have e1 : ((c.toNat : Int) == 48) = (c == 48) := u8_beq c 48 48 rfl
      rw [hP]
      obtain ⟨n, hn⟩ : ∃ n, n = (c :: r).length := ⟨_, rfl⟩
      rw [← hn] at hz hl
      have hnp : 0 < n := by rw [hn]; simp
      generalize bs (c :: r) = S at *
      clear hP hd h2 h3 hp hn
      have hB : ∀ w', (w' = w ∨ w' = Lib.bytesWorld w 5 S) → Below w.heap.size w w' := by
        rintro w' (rfl | rfl)
        · exact Below.refl _ _
        · exact Go.Joins.below_bytesWorld _ w 5 S (Nat.le_refl _)
      have HB := Lib.hid hB
      clear hB
      by_cases h48 : c = 48
      · rw [if_pos h48]
        subst h48
        clear e1 hd2
        go_enter Tryz.func41, Tryz.ntmps41
        go_wp2_with (go_at_call 83; refine hc.out.mono ?_; rintro e w' ⟨rfl, hw⟩; have HW := Lib.hid (HB.out w' hw); clear hw)
        go_ret
        exact ⟨rfl, HW.out⟩
      · rw [if_neg h48]
        have e2 : (c == 48) = false := by rw [beq_eq_false_iff_ne]; exact h48
        rw [e2] at e1
        obtain ⟨y, hy⟩ : ∃ y : Int, y = ((c.toNat : Nat) : Int) := ⟨_, rfl⟩
        rw [← hy] at e1
        simp only [← hy] at hx
        have e3 : (y == 43) = false := by rw [beq_eq_false_iff_ne]; omega
        clear hd2 hy h48 e2
        go_enter Tryz.func41, Tryz.ntmps41
        go_wp2_with (go_at_call 83; refine hc.out.mono ?_; rintro e w' ⟨rfl, hw⟩; have HW := Lib.hid (HB.out w' hw); clear hw)
        go_ret
        exact ⟨rfl, HW.out⟩
  by_cases hp : Lib.parseUintB 16 s = .range
  · obtain ⟨tp, p, hv⟩ := hT.rng
    have hP := port_no s (fun u h => by rw [hp] at h; cases h)
    have hc := Lib.hid (Tryz.strconv_ParseUint_10_at16_range (bs s) (by rw [hz]; omega) hp (.iface tp p) w hv (.inr ⟨tp, p, rfl⟩))
    rw [hP]
    generalize bs s = S at *
    clear hT hP hp hv hok
    go_enter Tryz.func41, Tryz.ntmps41
    go_wp2_with (go_at_call 83; refine hc.out.mono ?_; rintro e w' ⟨N, rfl, _, _, hb⟩)
    go_ret
    exact ⟨rfl, hb⟩
  · obtain ⟨tp, p, hv⟩ := hT.syn
    have hP := port_no s (fun u h => hok ⟨u, h⟩)
    have hc := Lib.hid (pu_other (bs s) (by rw [hz]; omega) (fun u h => hok ⟨u, h⟩) hp (.iface tp p) w hv (.inr ⟨tp, p, rfl⟩))
    rw [hP]
    generalize bs s = S at *
    clear hT hP hp hv hok
    go_enter Tryz.func41, Tryz.ntmps41
    go_wp2_with (go_at_call 83; refine hc.out.mono ?_; rintro e w' ⟨N, rfl, _, _, hb⟩)
    go_ret
    exact ⟨rfl, hb⟩
end Go.Proofs.YtcpkkaimingnlaaGreatDoor
