/-
  A link as the program holds it; link.origin, link.Print.
-/
import Derived.Test.YtcpkkaimingnlaaGreatDoorLpo
namespace Go.Proofs.YtcpkkaimingnlaaGreatDoor
open Go.RowKit

theorem itoa_dec (n : Nat) : Lib.itoa (n : Int) = decT n := by
  have : Lib.itoa (n : Int) = Lib.decDigits n := by
    unfold Lib.itoa; rw [if_neg (by omega), Int.toNat_natCast]
  rw [this]
  induction n using Nat.strongRecOn with
  | _ n ih =>
    rw [Lib.decDigits, decT]
    by_cases h : n < 10
    · rw [dif_pos h, dif_pos h]
    · rw [dif_neg h, dif_neg h]
      have := ih (n / 10) (by omega) (by unfold Lib.itoa; rw [if_neg (by omega), Int.toNat_natCast])
      rw [this]
def lnk (l : Link) : Value := .agg #[.string (bs l.scheme), .string (bs l.host), .int .i64 ((l.port : Nat) : Int), .string (bs l.path), .string (bs l.query), .string (bs l.frag), .bool l.hasQ, .bool l.hasF]
def sL (l : Link) : Prop := l.scheme.length ≤ 1000000 ∧ l.host.length ≤ 1000000 ∧ l.port ≤ 65535
theorem below_gr (w : World) (q : Nat) (os : Array Obj) : Below w.heap.size w («Sort».grow (w.drewN q) os) :=
  ⟨rfl, rfl, rfl, by first | (simp [«Sort».grow]; done) | (simp [«Sort».grow]; omega), fun i hi => by
    show ((w.drewN q).heap ++ os)[i]? = _
    rw [Array.getElem?_append_left (by show i < w.heap.size; omega)]
    rfl⟩
theorem decT_len : ∀ (n : Nat), n ≤ 65535 → (decT n).length ≤ 6 := by
  have h0 : ∀ k n, n < 10 ^ (k + 1) → (decT n).length ≤ k + 1 := by
    intro k
    induction k with
    | zero => intro n hn; rw [decT, dif_pos (by omega)]; simp
    | succ k ih =>
      intro n hn
      rw [decT]
      by_cases h : n < 10
      · rw [dif_pos h]; simp
      · rw [dif_neg h, List.length_append]
        have := ih (n / 10) (by rw [Nat.pow_succ] at hn; omega)
        simp only [List.length_cons, List.length_nil]
        omega
  intro n hn
  exact h0 5 n (by omega)
theorem itoa_any (n : Nat) (hn : n ≤ 65535) (w : World) (hT : Tabs w) : Calls Tryz.prog 87 #[.int .i64 ((n : Nat) : Int)] w fun e w' => e = .returned (.string (bs (decT n))) ∧ Below w.heap.size w w' := by
  refine (Tryz.strconv_Itoa (n : Int) (by omega) (by omega) w hT.pow).mono ?_
  rintro e w' ⟨rfl, k, os, rfl⟩
  rw [itoa_dec]
  exact ⟨rfl, below_gr _ _ _⟩
theorem below_one (w : World) (x : Obj) : Below w.heap.size w (w.alloc x) := (Below.refl _ _).alloc (Nat.le_refl _) _
theorem below_then {w w1 w2 : World} (h : Below w.heap.size w w1) (h2 : Below w1.heap.size w1 w2) : Below w.heap.size w w2 := h.trans (h2.mono h.size)
set_option maxHeartbeats 2000000 in
theorem origin_any (l : Link) (w : World) (hT : Tabs w) (hl : sL l) :
    Calls Tryz.prog 51 #[lnk l] w fun e w' => e = .returned (.string (bs (originL l))) ∧ Below w.heap.size w w' := by
  have hc := Lib.hid (fun W (hb : Below w.heap.size w W) => itoa_any l.port hl.2.2 W (hT.below hb))
  have z1 : (bs l.scheme).size ≤ 1000000 := by rw [bs_size]; exact hl.1
  have z2 : (bs l.host).size ≤ 1000000 := by rw [bs_size]; exact hl.2.1
  have z3 : (bs (decT l.port)).size ≤ 6 := by rw [bs_size]; exact decT_len _ hl.2.2
  by_cases hp : l.port = 0
  · have e1 : (((l.port : Nat) : Int) == 0) = true := by rw [hp]; rfl
    have eO : originL l = (l.scheme ++ [58, 47, 47]) ++ l.host := by unfold originL portT; rw [if_pos hp, List.append_nil]
    rw [eO, ← bs_cat, ← bs_cat]
    unfold lnk
    generalize bs l.scheme = S1 at *
    generalize bs l.host = S2 at *
    clear eO hl z3 hp hc
    generalize ((l.port : Nat) : Int) = y at *
    go_enter Tryz.func51, Tryz.ntmps51
    have hA := Lib.hid (fun x : Obj => below_one w x)
    go_wp2
    go_ret
    exact ⟨rfl, hA.out _⟩
  · have e1 : (((l.port : Nat) : Int) == 0) = false := by rw [beq_eq_false_iff_ne]; omega
    have eO : originL l = (l.scheme ++ [58, 47, 47]) ++ l.host ++ ([58] ++ decT l.port) := by unfold originL portT; rw [if_neg hp]; rfl
    rw [eO, ← bs_cat, ← bs_cat, ← bs_cat, ← bs_cat]
    unfold lnk
    generalize bs (decT l.port) = S3 at *
    generalize bs l.scheme = S1 at *
    generalize bs l.host = S2 at *
    clear eO hl hp
    generalize ((l.port : Nat) : Int) = y at *
    go_enter Tryz.func51, Tryz.ntmps51
    have hA := Lib.hid (fun x : Obj => below_one w x)
    go_wp2_with (go_at_call 87; refine (hc.out _ (hA.out _)).mono ?_; rintro e w' ⟨rfl, hb⟩)
    go_ret
    exact ⟨rfl, below_then (hA.out _) hb⟩
end Go.Proofs.YtcpkkaimingnlaaGreatDoor
