/-
  The document's Right and New of pollers.
-/
import Derived.Test.YtcpkkaimingnlaaGreatDoorFB
import Derived.Test.YtcpkkaimingnlaaGreatDoorLlp
import Derived.Test.YtcpkkaimingnlaaGreatDoorRps
set_option linter.unusedVariables false
set_option linter.unusedSimpArgs false
namespace Go.Proofs.YtcpkkaimingnlaaGreatDoor
open Go.RowKit

theorem below_and {w W W1 : World} (h : Below w.heap.size w W) (hb : Below W.heap.size W W1) : Below w.heap.size w W1 := h.trans (hb.mono h.size)

set_option maxHeartbeats 16000000 in
set_option maxRecDepth 100000 in
theorem rright_any (per : Int) (links : List Bs) (A : Option Addr) (cl : Nat) (w : World) (hcl : links.length ≤ cl ∧ cl ≤ 9223372036854775807)
    (hr : Rd w w.heap.size 1 A links.length (strs links)) (hs : ∀ s ∈ links, s.length ≤ 9223372036854775807) :
    Calls Tryz.prog 27 #[.int .i64 per, .slice A links.length cl] w fun e w' => e = .returned (.bool (okNew per links)) ∧ Below w.heap.size w w' := by
  have HRd := Lib.hid hr
  have hpa := Lib.hid (fun (j : Nat) (hj : j < links.length) W => rparse_val (links.getD j []) W (hs _ (by simp [hj])))
  have HA := Lib.hid (fun (j : Nat) (h : j < links.length) => all_step (p := fun s => (parseP s).isSome) h)
  have HF := Lib.hid (fun (j : Nat) (h : j < links.length) => all_false (p := fun s => (parseP s).isSome) h)
  have HX := Lib.hid (fun (j : Nat) (h : j < links.length) => (show (strs links)[j]? = some (.string (bs (links.getD j []))) by unfold strs; simp [h]))
  have HE := Lib.hid (show (links.take links.length).all (fun s => (parseP s).isSome) = links.all (fun s => (parseP s).isSome) by rw [List.take_length])
  obtain ⟨K, hK⟩ : ∃ K, K = okNew per links := ⟨_, rfl⟩
  rw [← hK]
  unfold okNew at hK
  have HK := Lib.hid hK
  clear hr hs hK
  obtain ⟨XS, hXS⟩ : ∃ XS, XS = strs links := ⟨_, rfl⟩
  rw [← hXS] at HRd HX
  clear hXS
  obtain ⟨n, hn⟩ : ∃ n, n = links.length := ⟨_, rfl⟩
  rw [← hn] at HRd hpa HA HF HX HE HK hcl ⊢
  clear hn
  go_enter Tryz.func27, Tryz.ntmps27
  go_upto_block 1 with fail
  go_loopw [11] (fun i wr => ∃ (j : Nat), i = .int .i64 (j : Int) ∧ j ≤ n ∧ Hid (Below w.heap.size w wr) ∧ Hid ((links.take j).all (fun s => (parseP s).isSome) = true)) (fun i _ => n - (intOf i).toNat)
  case atStart => exact ⟨0, rfl, Nat.zero_le _, Lib.hid (Below.refl _ _), Lib.hid rfl⟩
  case round =>
    obtain ⟨j, rfl, hj, H, HAll⟩ := hrel
    by_cases hjn : j < n
    · have tj : decide ((j : Int) < (n : Int)) = true := by rw [decide_eq_true_eq]; omega
      obtain ⟨b, off, hA, _, hc⟩ := (HRd.out.keep H.out).at_ (by omega)
      subst hA
      have hcj := (hc j (by omega)).trans (HX.out j hjn)
      have hp := Lib.hid (hpa.out j hjn wr)
      have HA1 := Lib.hid (HA.out j hjn)
      have HF1 := Lib.hid (HF.out j hjn)
      clear hc
      generalize links.getD j [] = s at *
      obtain ⟨X, hX⟩ : ∃ X, X = (parseP s).getD Link.zero := ⟨_, rfl⟩
      rw [← hX] at hp
      clear hX
      obtain ⟨bo, hbo⟩ : ∃ bo, bo = (parseP s).isSome := ⟨_, rfl⟩
      rw [← hbo] at hp
      have HBO := Lib.hid hbo
      clear hbo
      go_upto_if 21 with (first | (go_at_call 15; refine hp.out.mono ?_; rintro e W1 ⟨rfl, hb1⟩; have H1 := Lib.hid (below_and H.out hb1); clear hb1) | ((with_reducible refine atS 7 18 ?_); refine wpList_storeL rfl (.tmp 7) (.tmp 18) rfl W1.heap.size (lcs X).toArray (by rfl) (by rfl) zcs (new_zcs W1) rfl rfl rfl ?_; intro X1 hb1 ht1; have H2 := Lib.hid (below_and H1.out (ht1.below W1.heap.size W1 (Nat.le_refl _) (below_one W1 _))); clear hb1 ht1))
      clear hcj H H1 hp
      cases bo with
      | false =>
        have HF2 := Lib.hid (HF1.out HBO.out.symm)
        clear HA1 HF1
        go_wp2_with fail
        go_ret
        exact ⟨by rw [HK.out, HF2.out, Bool.and_false]; rfl, H2.out⟩
      | true =>
        have HA2 := Lib.hid (HA1.out.trans (show _ = true by rw [HAll.out, ← HBO.out] <;> rfl))
        clear HA1 HF1
        go_wp2_with fail
        exact ⟨⟨j + 1, by go_num, by omega, H2, HA2⟩, by simp [intOf]; omega⟩
    · have tj : decide ((j : Int) < (n : Int)) = false := by rw [decide_eq_false_iff_not]; omega
      have hjn2 : j = n := by omega
      have HAl := Lib.hid (show (links.all fun s => (parseP s).isSome) = true from HE.out.symm.trans (by rw [← hjn2]; exact HAll.out))
      have hk := HK.out
      rw [HAl.out, Bool.and_true] at hk
      have HK2 := Lib.hid hk
      clear hk HK hjn2
      obtain ⟨b1, h1⟩ : ∃ b, b = decide (1 ≤ per) := ⟨_, rfl⟩
      obtain ⟨b2, h2⟩ : ∃ b, b = decide (per ≤ 1048576) := ⟨_, rfl⟩
      obtain ⟨b3, h3⟩ : ∃ b, b = decide (n ≤ 32) := ⟨_, rfl⟩
      rw [← h1, ← h2, ← h3] at HK2
      have q1 : decide (per ≥ 1) = b1 := h1.symm
      have q1' : decide (1 ≤ per) = b1 := h1.symm
      have q2 : decide (per ≤ 1048576) = b2 := h2.symm
      have q3 : decide ((n : Int) ≤ 32) = b3 := by rw [h3, Bool.eq_iff_iff, decide_eq_true_eq, decide_eq_true_eq]; omega
      have q3' : decide (n ≤ 32) = b3 := h3.symm
      clear h1 h2 h3
      cases b1 <;> cases b2 <;> cases b3
      all_goals go_wp2_with fail
      all_goals go_ret
      all_goals exact ⟨by rw [HK2.out]; rfl, H.out⟩
end Go.Proofs.YtcpkkaimingnlaaGreatDoor
