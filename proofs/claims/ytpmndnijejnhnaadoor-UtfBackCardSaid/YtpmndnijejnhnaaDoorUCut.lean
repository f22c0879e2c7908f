/-
  utf.Cut: runes of a string, cut, and back.
-/
import Derived.Test.YtpmndnijejnhnaaDoorRCut
import Derived.Laws.IdiomStrings
import Derived.Laws.Cover4
namespace Go.Proofs.YtpmndnijejnhnaaDoor
open Go.RowKit

def i32s (l : List Int) : List Value := l.map (Value.int .i32)
theorem i32s_take (l : List Int) (k : Nat) : (i32s l).take k = i32s (l.take k) := by unfold i32s; rw [List.map_take]
theorem runes_from (l : List UInt8) : ∀ (f i : Nat) (acc : Array Value), i ≤ l.length → l.length - i ≤ f →
    Conv.runesFrom ⟨l.toArray⟩ f i acc = acc ++ (i32s (fixedL (l.drop i))).toArray
  | 0, i, acc, h, hf => by
    have e : l.drop i = [] := List.drop_of_length_le (by omega)
    rw [e]
    show acc = acc ++ #[]
    simp
  | f + 1, i, acc, h, hf => by
    have hs : (⟨l.toArray⟩ : ByteArray).size = l.length := by simp [ByteArray.size]
    unfold Conv.runesFrom
    by_cases hi : i < l.length
    · rw [if_pos (by rw [hs]; exact hi)]
      obtain ⟨x, r, hxr⟩ : ∃ x r, l.drop i = x :: r := by
        cases hd : l.drop i with
        | nil => have := congrArg List.length hd; rw [List.length_drop] at this; simp at this; omega
        | cons x r => exact ⟨x, r, rfl⟩
      have hd := decode_read l i x r hxr
      have hle := readL_le x r
      have hrl : r.length + 1 = l.length - i := by have := congrArg List.length hxr; rw [List.length_drop] at this; simpa using this.symm
      have hp := isPt_range (isPt_read x r)
      rw [hd]
      dsimp only
      rw [runes_from l f _ _ (by omega) (by omega), hxr, fixedL_cons, ← List.drop_drop, hxr]
      have e : Int.ofNat (fixP (readL (x :: r)).1).toNat = fixP (readL (x :: r)).1 := Int.toNat_of_nonneg hp.1
      rw [e]
      simp [i32s]
    · rw [if_neg (by rw [hs]; exact hi)]
      have e : l.drop i = [] := List.drop_of_length_le (by omega)
      rw [e]
      show acc = acc ++ #[]
      simp
theorem runes_fixed (l : List UInt8) : Conv.runesFrom ⟨l.toArray⟩ (⟨l.toArray⟩ : ByteArray).size 0 #[] = (i32s (fixedL l)).toArray := by
  have hs : (⟨l.toArray⟩ : ByteArray).size = l.length := by simp [ByteArray.size]
  rw [hs, runes_from l l.length 0 #[] (Nat.zero_le _) (by omega)]
  simp
/-- '[]rune(s)'. -/
theorem conv_runes (l : List UInt8) (w : World) (hl : l.length ≤ 60000) : ∃ c W, (convert 9 42 (.string ⟨l.toArray⟩)).run Tryd.prog w = .ok (.slice (some ⟨w.heap.size, 0, none⟩) (fixedL l).length c) W ∧ (fixedL l).length ≤ c ∧
    Rd W W.heap.size 1 (some ⟨w.heap.size, 0, none⟩) (fixedL l).length (i32s (fixedL l)) ∧ Below w.heap.size w W := by
  have hlen := fixedL_length l
  have hr := run_runes_of_string (P := Tryd.prog) w 9 42 21 ⟨l.toArray⟩ Tryd.underlying9 Tryd.underlying42 Tryd.underlying21 (by rw [runes_fixed]; simp [i32s]; omega)
  rw [runes_fixed] at hr
  have hsz : (i32s (fixedL l)).toArray.size = (fixedL l).length := by simp [i32s]
  rw [hsz] at hr
  refine ⟨_, _, hr, grownCap_ge _ _ _ _, ⟨by simp [i32s], fun hn => ⟨w.heap.size, 0, rfl, by simp, fun j hj => ?_⟩⟩, ((Below.refl _ w).drew).alloc (Nat.le_refl _) _⟩
  rw [Nat.zero_add]
  have := World.cell?_alloc_mark w.drew ((i32s (fixedL l)).toArray ++ Array.replicate (grownCap w (fixedL l).length 0 21 - (fixedL l).length) (.int .i32 0)) 21 (0, 0) j
  refine this.trans ?_
  rw [Array.getElem?_append_left (by rw [hsz]; omega)]
  simp
theorem enc_utf8 (p : Nat) (h : isPt (p : Int) = true) : Utf8.encode (p : Int) = ⟨(oneL p).toArray⟩ := by
  have hv : Utf8.valid (p : Int) = true := by rw [← isPt_valid]; exact h
  unfold Utf8.encode oneL
  simp only [hv, if_true, Int.toNat_natCast]
  by_cases h1 : p < 128
  · simp [h1]
  · by_cases h2 : p < 2048
    · simp [h1, h2]
    · by_cases h3 : p < 65536
      · simp [h1, h2, h3]
      · simp [h1, h2, h3]
theorem bytes_app (a b : List UInt8) : (⟨a.toArray⟩ : ByteArray) ++ ⟨b.toArray⟩ = ⟨(a ++ b).toArray⟩ := by
  apply ByteArray.ext
  rw [ByteArray.data_append]
  simp
theorem runes_fold : ∀ (ns : List Int) (acc : List UInt8), (∀ p ∈ ns, isPt p = true) → ns.foldl (fun r n => r ++ Utf8.encode n) (⟨acc.toArray⟩ : ByteArray) = ⟨(acc ++ textL ns).toArray⟩
  | [], acc, _ => by rw [textL_nil, List.append_nil]; rfl
  | p :: ns, acc, h => by
    have hp := h p (by simp)
    obtain ⟨q, rfl⟩ : ∃ q : Nat, p = q := ⟨p.toNat, by have := isPt_range hp; omega⟩
    rw [List.foldl_cons, enc_utf8 q hp, bytes_app, runes_fold ns _ (fun p hq => h p (by simp [hq])), textL_cons, Int.toNat_natCast, List.append_assoc]
theorem runes_text (ns : List Int) (h : ∀ p ∈ ns, isPt p = true) : runesBytes ns = ⟨(textL ns).toArray⟩ := runes_fold ns [] h
/-- 'string(l)'. -/
theorem conv_back (ns : List Int) (h : ∀ p ∈ ns, isPt p = true) {w : World} {B : Nat} {A : Option Addr} (cap : Nat) (hr : Rd w B 1 A ns.length (i32s ns)) : (convert 42 9 (.slice A ns.length cap)).run Tryd.prog w = .ok (.string ⟨(textL ns).toArray⟩) w := by
  rw [← runes_text ns h]
  cases A with
  | none =>
    have hn : ns = [] := by
      cases ns with
      | nil => rfl
      | cons p ns => obtain ⟨_, _, e, _⟩ := hr.2 (by simp); cases e
    subst hn
    exact run_convert_runes_nil w 42 9 21 _ _ Tryd.underlying42 Tryd.underlying21 Tryd.underlying9
  | some a =>
    have := run_convert_runes (P := Tryd.prog) w 42 9 21 a ns.length cap ns (Nat.le_refl _) Tryd.underlying42 Tryd.underlying21 Tryd.underlying9 (fun j hj => by
      obtain ⟨b, off, e, _, hc⟩ := hr.2 (by omega)
      cases e
      rw [add_eq, hc j (by omega)]
      simp [i32s, hj])
    rw [List.take_length] at this
    exact this
/-- 'append(l[:k:k], x)': a full slice, whoever owns it: a new row. -/
theorem wpList_push_full {P : Program} {w : World} {ops : Array Oper} {rest : List Oper} {o : Oper} {a : Act} {Q : Exit → Act → World → Prop} (hgd : o.guard = none) (s x : Operand) (t : TypeId)
    (ho : o.op = .call { callee := .builtin .append, args := #[s, x], argTypes := #[t, t] })
    (e : TypeId) (z : Value) (bytes : Nat) (ht : P.underlying t = some (.slice e)) (hinfo : (P.info? e).map (fun i => (i.zero, i.size, i.bytes)) = some (some z, 1, bytes))
    (b off k B : Nat) (xs : List Value) (hs : a.eval s = .slice (some ⟨b, off, none⟩) k k) (hr : Rd w B 1 (some ⟨b, off, none⟩) k xs) (hB : B ≤ w.heap.size)
    (u : Value) (hx : a.eval x = .slice (some ⟨w.heap.size, 0, none⟩) 1 1)
    (h63 : k + 1 ≤ 9223372036854775807) (hbytes : (k + 1) * bytes ≤ 140737488355328)
    (h : ∀ g cap w', Rd w' w'.heap.size 1 (some ⟨g, 0, none⟩) (k + 1) (xs ++ [u]) → k + 1 ≤ cap → Below w.heap.size w w' →
      wpList P ops Q rest (a.put o.dst (.slice (some ⟨g, 0, none⟩) (k + 1) cap)) w') : wpList P ops Q (o :: rest) a (w.alloc (.cells #[u] e)) := by
  obtain ⟨i0, hi, hz0, hz1, hz2⟩ := info_parts hinfo
  have hkeep : ∀ j v, xs[j]? = some v → (w.alloc (.cells #[u] e)).cell? ((⟨b, off, none⟩ : Addr).add j) = some v := by
    intro j v hv
    have hj : j < k := by
      have := hr.1
      rcases Nat.lt_or_ge j xs.length with h' | h'
      · omega
      · rw [List.getElem?_eq_none h'] at hv; cases hv
    obtain ⟨b', off', e', hb', hc⟩ := hr.2 (by omega)
    cases e'
    rw [add_eq, World.cell?_alloc_lt w _ ⟨b, off + j, none⟩ (by show b < _; omega), hc j (by omega)]
    exact hv
  have hrun := run_append_grow (P := P) (w := w.alloc (.cells #[u] e)) t o.type e i0 z ht hi hz0 ⟨b, off, none⟩ k k xs (by rw [hz1]; exact hr.1) hkeep ⟨w.heap.size, 0, none⟩ 1 1 [u] (by rw [hz1]; rfl)
    (fun j v hv => by
      rw [add_eq, Nat.zero_add]
      have := World.cell?_alloc_mark w #[u] e (0, 0) j
      rw [this]
      simpa using hv)
    (by omega) (by omega) (by rw [hz2]; exact growslice_fits (by omega) hbytes)
  refine wpList_plain hgd fun K hK => ?_
  unfold Oper.wp execOp
  simp only [ho, resolve, invoke, builtin, Sem.run_bind, Sem.run_pure, Result.andThen_ok, List.map_toArray, List.map_cons, List.map_nil, hs, hx, hrun]
  refine hK _ _ (h _ _ _ ⟨by have := hr.1; simp; omega, fun _ => ⟨_, 0, rfl, by simp, fun j hj => ?_⟩⟩ (grownCap_ge _ _ _ _) ?_)
  · rw [Nat.zero_add]
    have := World.cell?_alloc_mark (w.alloc (.cells #[u] e)).drew (xs.toArray ++ [u].toArray ++ Builtin.zeroCells z.cells (grownCap (w.alloc (.cells #[u] e)) (k + 1) k e - (k + 1))) e (0, 0) j
    refine this.trans ?_
    have hl : (xs.toArray ++ [u].toArray).size = k + 1 := by have := hr.1; simp; omega
    rw [Array.getElem?_append_left (by rw [hl]; omega)]
    simp
  · exact (((Below.refl _ w).alloc (Nat.le_refl _) _).drew).alloc (by simp) _

set_option maxHeartbeats 4000000 in
theorem ucut_any (l : List UInt8) (n : Int) (w : World) (hl : l.length ≤ 60000) (hn0 : -9223372036854775808 ≤ n) (hn1 : n ≤ 9223372036854775807) :
    Calls Tryd.prog 19 #[.string ⟨l.toArray⟩, .int .i64 n] w fun e w' => e = .returned (.string ⟨(cutL n l).toArray⟩) ∧ Below w.heap.size w w' := by
  have hlen := fixedL_length l
  have hpt := fixedL_pts l
  obtain ⟨c, W, hcv, hmc, hrd, hb⟩ := conv_runes l w hl
  show Calls Tryd.prog 19 #[.string ⟨l.toArray⟩, .int .i64 n] w fun e w' => e = .returned (.string ⟨(textL (cutP n (fixedL l))).toArray⟩) ∧ Below w.heap.size w w'
  obtain ⟨P, hP⟩ : ∃ P, P = fixedL l := ⟨_, rfl⟩
  rw [← hP] at hlen hpt hcv hmc hrd ⊢
  clear hP
  obtain ⟨m, hm⟩ : ∃ m, m = P.length := ⟨_, rfl⟩
  rw [← hm] at hlen hcv hmc hrd
  have Hm := Lib.hid hm; have Hpt := Lib.hid hpt; have Hr := Lib.hid hrd; clear hm hpt hrd
  by_cases h1 : n < 1
  · have t1 : decide (n < 1) = true := by rw [decide_eq_true_eq]; exact h1
    have hc : cutP n P = [] := if_pos h1
    have Hc := Lib.hid hc; clear hc hcv
    go_enter Tryd.func19, Tryd.ntmps19
    go_wp2_with fail
    go_ret
    exact ⟨by rw [Hc.out]; rfl, Below.refl _ _⟩
  · obtain ⟨K, rfl⟩ : ∃ K : Nat, n = (K : Int) + 1 := ⟨(n - 1).toNat, by omega⟩
    have t1 : decide ((K : Int) + 1 < 1) = false := by rw [decide_eq_false_iff_not]; exact h1
    have hsW := hb.size
    by_cases h2 : K + 1 < m
    · have t2 : decide ((m : Int) > (K : Int) + 1) = true := by rw [decide_eq_true_eq]; omega
      have hc : cutP ((K : Int) + 1) P = P.take K ++ [8230] := by
        unfold cutP
        rw [if_neg h1, if_pos (by rw [← Hm.out]; omega), show ((K : Int) + 1 - 1).toNat = K by omega]
      have hcp := cut_pts ((K : Int) + 1) P Hpt.out
      rw [hc] at hcp
      have Hc := Lib.hid hc; have Hcp := Lib.hid hcp; clear hc hcp
      have hK : (K : Int) + 1 - 1 = (K : Int) := by omega
      have hlt : (P.take K).length = K := by rw [List.length_take, ← Hm.out]; omega
      have Hlt := Lib.hid hlt; clear hlt
      have hrk := Hr.out.upto (k := K) (by omega)
      rw [i32s_take] at hrk
      have Hrk := Lib.hid hrk; clear hrk
      have hKc : K ≤ c := by omega
      go_enter Tryd.func19, Tryd.ntmps19
      go_wp2_with (at_builtin; refine wpList_push_full rfl (.tmp 19) (.tmp 20) 42 rfl 21 (.int .i32 0) 4 Tryd.underlying42 (by kernel_rfl) w.heap.size 0 K W.heap.size (i32s (P.take K)) rfl Hrk.out (Nat.le_refl _) _ rfl (by omega) (by omega) ?_; intro g5 cap5 w5 hrd5 hcap5 hb5; have Hr5 := Lib.hid hrd5; clear hrd5)
      have hql : K + 1 = (P.take K ++ [8230]).length := by rw [List.length_append, Hlt.out]; rfl
      have hr5 := Hr5.out
      rw [show i32s (P.take K) ++ [Value.int .i32 8230] = i32s (P.take K ++ [8230]) by simp [i32s], hql] at hr5
      have hback := conv_back (P.take K ++ [8230]) Hcp.out cap5 hr5
      rw [← hql] at hback
      clear hql hr5
      rw [hback]
      go_wp2_with fail
      go_ret
      exact ⟨by rw [Hc.out]; rfl, hb.trans (hb5.mono hsW)⟩
    · have t2 : decide ((m : Int) > (K : Int) + 1) = false := by rw [decide_eq_false_iff_not]; omega
      have hc : cutP ((K : Int) + 1) P = P := by
        unfold cutP
        rw [if_neg h1, if_neg (by rw [← Hm.out]; omega)]
      have Hc := Lib.hid hc; clear hc
      have hback := conv_back P Hpt.out (w := W) (B := W.heap.size) (A := some ⟨w.heap.size, 0, none⟩) c (by rw [← Hm.out]; exact Hr.out)
      rw [← Hm.out] at hback
      go_enter Tryd.func19, Tryd.ntmps19
      go_wp2_with fail
      go_ret
      exact ⟨by rw [Hc.out]; rfl, hb⟩
end Go.Proofs.YtpmndnijejnhnaaDoor
