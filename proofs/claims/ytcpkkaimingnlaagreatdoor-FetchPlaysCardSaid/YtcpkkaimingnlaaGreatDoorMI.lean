/-
  Texts of this seat, joined: Lun, Lby. Each says what it proves, ahead of itself.
-/
import Derived.Test.YtcpkkaimingnlaaGreatDoorMB
import Derived.Lib.BufferRead
import Derived.Test.YtcpkkaimingnlaaGreatDoorMG
set_option linter.unusedVariables false
set_option linter.unusedSimpArgs false
section
namespace Go.Proofs.YtcpkkaimingnlaaGreatDoor
open Go.RowKit

set_option maxHeartbeats 1000000 in
theorem rletter_any (c : UInt8) (w : World) : Calls Tryz.prog 49 #[u8v c] w fun e w' => e = .returned (.bool (alB c)) ∧ w' = w := by
  have hl := c.toNat_lt
  unfold u8v
  obtain ⟨n, hn⟩ : ∃ n, n = c.toNat := ⟨_, rfl⟩
  have hb : alB c = (decide (97 ≤ n) && decide (n ≤ 122) || decide (65 ≤ n) && decide (n ≤ 90) || decide (48 ≤ n) && decide (n ≤ 57)) := by unfold alB; rw [hn]
  rw [hb, ← hn]
  clear hb hn
  go_enter Tryz.func49, Tryz.ntmps49
  go_wp2_with fail
  all_goals go_ret
  all_goals refine ⟨congrArg (fun b => Ending.returned (Value.bool b)) ?_, rfl⟩
  all_goals rw [Bool.eq_iff_iff]
  all_goals simp
  all_goals omega

theorem stop_at (ch s : Bs) (j : Nat) (hj : j < s.length) (h1 : ∀ x ∈ s.take j, out ch x = true) (h2 : out ch (s.getD j 0) = false) : stop ch s = j := by
  have h := tw_app (p := out ch) (a := s.take j) (b := s.drop j) h1 (fun y r hy => by
    rw [List.drop_eq_getElem_cons hj] at hy
    injection hy with hy _
    rw [← hy]
    simpa [hj] using h2)
  rw [List.take_append_drop] at h
  unfold stop
  rw [h.1, List.length_take]
  omega
theorem stop_full (ch s : Bs) (h1 : ∀ x ∈ s, out ch x = true) : stop ch s = s.length := by
  unfold stop
  rw [(tw_all h1).1]
theorem out_has {ch : Bs} {x : UInt8} (k : Nat) (hk : k < ch.length) (h : x = ch.getD k 0) : out ch x = false := by
  unfold out
  have hm : x ∈ ch := by
    rw [h, List.getD_eq_getElem?_getD, List.getElem?_eq_getElem hk]
    exact List.getElem_mem hk
  simp [hm]
theorem out_not {ch : Bs} {x : UInt8} (h : ∀ y ∈ ch.take ch.length, y ≠ x) : out ch x = true := by
  unfold out
  rw [List.take_length] at h
  simp
  exact fun hm => h x hm rfl
theorem all_succ {p : UInt8 → Prop} {s : Bs} {j : Nat} (hj : j < s.length) (h : ∀ x ∈ s.take j, p x) (h2 : p (s.getD j 0)) : ∀ x ∈ s.take (j + 1), p x := by
  intro x hx
  rw [List.take_succ_eq_append_getElem hj] at hx
  rcases List.mem_append.1 hx with hx | hx
  · exact h x hx
  · rw [List.mem_singleton.1 hx]
    simpa [hj] using h2
set_option maxHeartbeats 8000000 in
set_option maxRecDepth 100000 in
theorem until_any (s ch : Bs) (w : World) (hl : s.length ≤ 1000000) (hc : ch.length ≤ 1000000) :
    Calls Tryz.prog 47 #[.string (bs s), .string (bs ch)] w fun e w' => e = .returned (.int .i64 ((stop ch s : Nat) : Int)) ∧ Below w.heap.size w w' := by
  have hz : (bs s).size = s.length := bs_size s
  have hzc : (bs ch).size = ch.length := bs_size ch
  have HX := Lib.hid (fun (i : Nat) (h : i < s.length) (w : World) => str_byte s i h w)
  have HY := Lib.hid (fun (i : Nat) (h : i < ch.length) (w : World) => str_byte ch i h w)
  obtain ⟨R, hR⟩ : ∃ R, R = stop ch s := ⟨_, rfl⟩
  rw [← hR]
  obtain ⟨S, hS⟩ : ∃ S, S = bs s := ⟨_, rfl⟩
  obtain ⟨C, hC⟩ : ∃ C, C = bs ch := ⟨_, rfl⟩
  rw [← hS] at hz ⊢
  rw [← hC] at hzc ⊢
  simp only [← hS] at HX
  simp only [← hC] at HY
  obtain ⟨n, hn⟩ : ∃ n, n = s.length := ⟨_, rfl⟩
  obtain ⟨m, hm⟩ : ∃ m, m = ch.length := ⟨_, rfl⟩
  rw [← hn] at hz hl
  rw [← hm] at hzc hc
  have HR := Lib.hid hR; have Hn := Lib.hid hn; have Hm := Lib.hid hm
  clear hS hC hn hm hR
  go_enter Tryz.func47, Tryz.ntmps47
  go_wp2_with fail
  go_loopw [5] (fun i wr => ∃ j : Nat, i = .int .i64 (j : Int) ∧ j ≤ n ∧ Hid (∀ x ∈ s.take j, out ch x = true) ∧ Hid (Below w.heap.size w wr)) (fun i _ => n - (intOf i).toNat)
  case atStart => exact ⟨0, rfl, Nat.zero_le _, Lib.hid (by simp), Lib.hid (Below.refl _ _)⟩
  case round =>
    obtain ⟨j, rfl, hj, HO, HB⟩ := hrel
    by_cases hjn : j < n
    · have tj : decide ((j : Int) < (n : Int)) = true := by rw [decide_eq_true_eq]; omega
      have hjl : j < s.length := by rw [← Hn.out]; omega
      have hx := fun W => HX.out j hjl W
      have Hjl := Lib.hid hjl
      clear hjl
      obtain ⟨y, hy⟩ : ∃ y, y = s.getD j 0 := ⟨_, rfl⟩
      rw [← hy] at hx
      have Hy := Lib.hid hy
      clear hy
      obtain ⟨yn, hyn⟩ : ∃ yn : Int, yn = ((y.toNat : Nat) : Int) := ⟨_, rfl⟩
      rw [← hyn] at hx
      have Hyn := Lib.hid hyn
      clear hyn
      go_wp2_with fail
      go_loopw [6] (fun i wr => ∃ k : Nat, i = .int .i64 (k : Int) ∧ k ≤ m ∧ Hid (∀ x ∈ ch.take k, x ≠ y) ∧ Hid (Below w.heap.size w wr)) (fun i _ => m - (intOf i).toNat)
      case atStart => exact ⟨0, rfl, Nat.zero_le _, Lib.hid (by simp), HB⟩
      case round =>
        obtain ⟨k, rfl, hk, HK, HB2⟩ := hrel
        by_cases hkm : k < m
        · have tk : decide ((k : Int) < (m : Int)) = true := by rw [decide_eq_true_eq]; omega
          have hkl : k < ch.length := by rw [← Hm.out]; omega
          have hxk := fun W => HY.out k hkl W
          by_cases he : y = ch.getD k 0
          · have te : (yn == (((ch.getD k 0).toNat : Nat) : Int)) = true := by rw [beq_iff_eq, Hyn.out, he]
            generalize (((ch.getD k 0).toNat : Nat) : Int) = zn at *
            have HE := Lib.hid he
            have Hkl := Lib.hid hkl
            clear he hkl
            go_wp2_with fail
            go_quiet (fail)
            go_wp2_with fail
            go_ret
            exact ⟨by rw [HR.out, stop_at ch s j Hjl.out HO.out (by rw [← Hy.out]; exact out_has k Hkl.out HE.out)]; rfl, below_drewN HB2.out _⟩
          · have te : (yn == (((ch.getD k 0).toNat : Nat) : Int)) = false := by
              rw [beq_eq_false_iff_ne, Hyn.out]
              intro h
              apply he
              rw [← UInt8.toNat_inj]
              omega
            have HK2 := Lib.hid (all_succ (p := fun x => x ≠ y) hkl HK.out (fun h => he h.symm))
            generalize (((ch.getD k 0).toNat : Nat) : Int) = zn at *
            clear he hkl
            go_wp2_with fail
            go_quiet (fail)
            go_wp2_with fail
            exact ⟨⟨k + 1, by go_num, by omega, HK2, Lib.hid (below_drewN HB2.out _)⟩, by simp [intOf]; omega⟩
        · have tk : decide ((k : Int) < (m : Int)) = false := by rw [decide_eq_false_iff_not]; omega
          have hkm' : k = m := by omega
          have HO2 := Lib.hid (all_succ (p := fun x => out ch x = true) Hjl.out HO.out (by rw [← Hy.out]; exact out_not (by rw [← Hm.out, ← hkm']; exact HK.out)))
          clear hkm'
          go_wp2_with fail
          exact ⟨⟨j + 1, by go_num, by omega, HO2, HB2⟩, by simp [intOf]; omega⟩
    · have tj : decide ((j : Int) < (n : Int)) = false := by rw [decide_eq_false_iff_not]; omega
      have hjn' : j = s.length := by rw [← Hn.out]; omega
      have hf := HO.out
      rw [hjn', List.take_length] at hf
      have hRR : R = s.length := by rw [HR.out, stop_full ch s hf]
      rw [← Hn.out] at hRR
      have HRR := Lib.hid hRR
      clear hRR hf hjn'
      go_wp2_with fail
      go_ret
      exact ⟨by rw [HRR.out]; rfl, HB.out⟩
end Go.Proofs.YtcpkkaimingnlaaGreatDoor
end
section
namespace Go.Proofs.YtcpkkaimingnlaaGreatDoor
open Go.RowKit

def BOwn (w : World) (B : Nat) (v : Value) (l : Bs) : Prop := w.ownsRow B 5 1 v l.length (Lib.byteCells l)
theorem BOwn.nil {w : World} {B : Nat} : BOwn w B (.slice none 0 0) [] := World.ownsRow_nil _ _ _ _
theorem BOwn.keep {w w' : World} {B : Nat} {v : Value} {l : Bs} (h : BOwn w B v l) (hb : Below w.heap.size w w') : BOwn w' B v l := own_keep h hb
theorem BOwn.form {w : World} {B : Nat} {v : Value} {l : Bs} (h : BOwn w B v l) : ∃ A cap, v = .slice A l.length cap ∧ l.length ≤ cap ∧ cap ≤ 9223372036854775807 ∧ (A = none → l.length = 0 ∧ cap = 0) := by
  rcases h.2 with ⟨rfl, h0⟩ | ⟨g, cap, cur, rfl, _, _, hc, hm, _⟩
  · exact ⟨none, 0, by rw [h0], by omega, by omega, fun _ => ⟨h0, rfl⟩⟩
  · exact ⟨_, cap, rfl, hc, hm, fun h => by cases h⟩
theorem bytes_snoc (l : Bs) (c : UInt8) : Lib.byteCells (l ++ [c]) = Lib.byteCells l ++ [.int .u8 ((c.toNat : Nat) : Int)] := by simp [Lib.byteCells]
/-- 'out = append(out, c)'. -/
theorem wpList_pushB {w : World} {ops : Array Oper} {rest : List Oper} {o : Oper} {a : Act} {Q : Exit → Act → World → Prop} (hgd : o.guard = none) (s x : Operand)
    (ho : o.op = .call { callee := .builtin .append, args := #[s, x], argTypes := #[46, 46] })
    (B : Nat) (hB : B ≤ w.heap.size) (out : Bs) (v : Value) (hs : a.eval s = v) (hv : BOwn w B v out) (c : UInt8) (y : Int) (hy : y = ((c.toNat : Nat) : Int)) (hx : a.eval x = .slice (some ⟨w.heap.size, 0, none⟩) 1 1) (hn : out.length + 1 ≤ 8000000)
    (h : ∀ A c' w', BOwn w' B (.slice A (out.length + 1) c') (out ++ [c]) → Below B w w' → wpList Tryz.prog ops Q rest (a.put o.dst (.slice A (out.length + 1) c')) w') : wpList Tryz.prog ops Q (o :: rest) a (w.alloc (.cells #[.int .u8 y] 5)) := by
  subst hy
  refine wpList_push hgd s x 46 ho B 5 _ 1 1 Tryz.underlying46 infoB rfl (by decide) v out.length _ hs hv _ 1 (by decide) hx rfl rfl (by omega) (by omega) hB ?_
  intro g cap w' hown _ hb
  refine h _ _ w' ?_ hb
  unfold BOwn
  rw [List.length_append, bytes_snoc]
  exact hown
/-- 'string(out)'. -/
theorem own_text {w : World} {B : Nat} {A : Option Addr} {cap : Nat} (l : Bs) (h : BOwn w B (.slice A l.length cap) l) : (convert 46 9 (.slice A l.length cap)).run Tryz.prog w = .ok (.string (bs l)) w := by
  have h := Rd.of_own h
  by_cases hl : 0 < l.length
  · obtain ⟨b, off, rfl, _, hc⟩ := h.at_ hl
    refine run_convert_bytes_back w 46 9 5 ⟨b, off, none⟩ cap l Tryz.underlying46 Tryz.underlying5 Tryz.underlying9 ?_
    intro j hj
    have := hc j (by omega)
    rw [add_eq, this]
    simp [Lib.byteCells, hj]
  · obtain rfl : l = [] := by cases l with | nil => rfl | cons x l => simp at hl
    cases A with
    | none => exact Lib.run_convert_nil_bytes w 46 9 5 cap Tryz.underlying46 Tryz.underlying5 Tryz.underlying9
    | some a => exact run_convert_bytes_back w 46 9 5 a cap [] Tryz.underlying46 Tryz.underlying5 Tryz.underlying9 (fun j hj => by simp at hj)
theorem small_snoc (s : Bs) (j : Nat) (hj : j < s.length) : small (s.take (j + 1)) = small (s.take j) ++ [smallB (s.getD j 0)] := by
  unfold small
  rw [List.take_succ_eq_append_getElem hj, List.map_append]
  simp [hj]
theorem u8_small {c : UInt8} (h1 : 65 ≤ c.toNat) (h2 : c.toNat ≤ 90) : (((smallB c).toNat : Nat) : Int) = IntKind.u8.wrap (((c.toNat : Nat) : Int) + 32) := by
  unfold smallB
  rw [if_pos (by simp [h1, h2]), UInt8.toNat_add]
  have e : (32 : UInt8).toNat = 32 := rfl
  rw [e, Nat.mod_eq_of_lt (by omega), IntKind.wrap_u8]
  omega
set_option maxHeartbeats 8000000 in
set_option maxRecDepth 100000 in
theorem small_any (s : Bs) (w : World) (hl : s.length ≤ 1000000) :
    Calls Tryz.prog 48 #[.string (bs s)] w fun e w' => e = .returned (.string (bs (small s))) ∧ Below w.heap.size w w' := by
  have hz : (bs s).size = s.length := bs_size s
  have HX := Lib.hid (fun (i : Nat) (h : i < s.length) (w : World) => str_byte s i h w)
  obtain ⟨R, hR⟩ : ∃ R, R = small s := ⟨_, rfl⟩
  rw [← hR]
  obtain ⟨S, hS⟩ : ∃ S, S = bs s := ⟨_, rfl⟩
  rw [← hS] at hz ⊢
  simp only [← hS] at HX
  obtain ⟨n, hn⟩ : ∃ n, n = s.length := ⟨_, rfl⟩
  rw [← hn] at hz hl
  have HR := Lib.hid hR; have Hn := Lib.hid hn
  clear hS hn hR
  go_enter Tryz.func48, Tryz.ntmps48
  go_wp2_with fail
  go_loopw [3, 4] (fun v i wr => ∃ (j : Nat) (O : Bs), i = .int .i64 (j : Int) ∧ j ≤ n ∧ O.length = j ∧ Hid (O = small (s.take j)) ∧ Hid (BOwn wr w.heap.size v O) ∧ Hid (Below w.heap.size w wr)) (fun _ i _ => n - (intOf i).toNat)
  case atStart => exact ⟨0, [], rfl, Nat.zero_le _, rfl, Lib.hid rfl, Lib.hid BOwn.nil, Lib.hid (Below.refl _ _)⟩
  case round =>
    obtain ⟨j, O, rfl, hj, hO, HS, HO, HB⟩ := hrel
    have hBs := HB.out.size
    obtain ⟨A, cp, hv, hc, hcm, hAn⟩ := HO.out.form
    subst hv
    have HOn := Lib.hid hO
    clear hO hAn
    by_cases hjn : j < n
    · have tj : decide ((j : Int) < (n : Int)) = true := by rw [decide_eq_true_eq]; omega
      have hjl : j < s.length := by rw [← Hn.out]; omega
      have hx := fun W => HX.out j hjl W
      have HS2 : Hid (O ++ [smallB (s.getD j 0)] = small (s.take (j + 1))) := by rw [small_snoc s j hjl, ← HS.out]; exact Lib.hid rfl
      clear hjl
      generalize s.getD j 0 = c at *
      have hct := c.toNat_lt
      by_cases hb : 65 ≤ c.toNat ∧ c.toNat ≤ 90
      · have t1 : decide ((((c.toNat : Nat) : Int)) ≥ 65) = true := by rw [decide_eq_true_eq]; omega
        have t2 : decide ((((c.toNat : Nat) : Int)) ≤ 90) = true := by rw [decide_eq_true_eq]; omega
        have e := u8_small hb.1 hb.2
        have HE := Lib.hid e
        clear e hb hct
        generalize ((c.toNat : Nat) : Int) = y at *
        go_wp2_with (at_builtin; refine wpList_pushB rfl (.tmp 23) (.tmp 25) rfl w.heap.size hBs O _ (by rfl) HO.out (smallB c) _ HE.out.symm (by rfl) (by have := HOn.out; omega) ?_; intro A2 c2 w2 ho2 hb2; have HO2 := Lib.hid ho2; have HB2 := Lib.hid (HB.out.trans hb2); clear ho2 hb2)
        exact ⟨⟨j + 1, _, by go_num, by omega, by rw [List.length_append]; exact congrArg (· + 1) HOn.out, HS2, HO2, HB2⟩, by simp [intOf]; omega⟩
      · have e : (((smallB c).toNat : Nat) : Int) = ((c.toNat : Nat) : Int) := by
          unfold smallB
          rw [if_neg (by simpa using hb)]
        have HE := Lib.hid e
        by_cases h1 : 65 ≤ c.toNat
        · have t1 : decide ((((c.toNat : Nat) : Int)) ≥ 65) = true := by rw [decide_eq_true_eq]; omega
          have t2 : decide ((((c.toNat : Nat) : Int)) ≤ 90) = false := by rw [decide_eq_false_iff_not]; omega
          clear e hb hct h1
          generalize ((c.toNat : Nat) : Int) = y at *
          go_wp2_with (at_builtin; refine wpList_pushB rfl (.tmp 23) (.tmp 25) rfl w.heap.size hBs O _ (by rfl) HO.out (smallB c) _ HE.out.symm (by rfl) (by have := HOn.out; omega) ?_; intro A2 c2 w2 ho2 hb2; have HO2 := Lib.hid ho2; have HB2 := Lib.hid (HB.out.trans hb2); clear ho2 hb2)
          exact ⟨⟨j + 1, _, by go_num, by omega, by rw [List.length_append]; exact congrArg (· + 1) HOn.out, HS2, HO2, HB2⟩, by simp [intOf]; omega⟩
        · have t1 : decide ((((c.toNat : Nat) : Int)) ≥ 65) = false := by rw [decide_eq_false_iff_not]; omega
          clear e hb hct h1
          generalize ((c.toNat : Nat) : Int) = y at *
          go_wp2_with (at_builtin; refine wpList_pushB rfl (.tmp 23) (.tmp 25) rfl w.heap.size hBs O _ (by rfl) HO.out (smallB c) _ HE.out.symm (by rfl) (by have := HOn.out; omega) ?_; intro A2 c2 w2 ho2 hb2; have HO2 := Lib.hid ho2; have HB2 := Lib.hid (HB.out.trans hb2); clear ho2 hb2)
          exact ⟨⟨j + 1, _, by go_num, by omega, by rw [List.length_append]; exact congrArg (· + 1) HOn.out, HS2, HO2, HB2⟩, by simp [intOf]; omega⟩
    · have tj : decide ((j : Int) < (n : Int)) = false := by rw [decide_eq_false_iff_not]; omega
      have hjn' : j = s.length := by rw [← Hn.out]; omega
      have hRO : R = O := by
        have := HS.out
        rw [hjn', List.take_length] at this
        rw [this, HR.out]
      subst hRO
      have hcv := own_text R HO.out
      clear hjn'
      go_wp2_with fail
      go_ret
      exact ⟨rfl, HB.out⟩
end Go.Proofs.YtcpkkaimingnlaaGreatDoor
end
