/-
  link.Resolve, any text by any link; link.Safe.
-/
import Derived.Test.YtcpkkaimingnlaaGreatDoorLre
import Derived.Test.YtcpkkaimingnlaaGreatDoorLsf
namespace Go.Proofs.YtcpkkaimingnlaaGreatDoor
open Go.RowKit

theorem resolve_any (b : Link) (s : Bs) (w : World) (hT : Tabs w) (hB : sB b) (hs : s.length ≤ 1000000) :
    Calls Tryz.prog 17 #[.agg (lcs b).toArray, .string (bs s)] w fun e w' => e = .returned (.tuple #[.agg (lcs ((resolveP b s).getD Link.zero)).toArray, .int .i64 (errI (resolveP b s))]) ∧ Below w.heap.size w w' := by
  cases hA : absP s with
  | true =>
    have e : resolveP b s = parseP s := by unfold resolveP; rw [if_pos hA]
    rw [e]; exact res_abs b s w hT hB hs hA
  | false =>
    cases h2 : Lib.hasPrefix s [47, 47] with
    | true =>
      have e : resolveP b s = dottedP (b.scheme ++ [58] ++ s) := by unfold resolveP; rw [if_neg (by rw [hA]; decide), if_pos h2]
      rw [e]; exact res_two b s w hT hB hs hA h2
    | false =>
      cases h1 : Lib.hasPrefix s [47] with
      | true =>
        have e : resolveP b s = dottedP (originL b ++ s) := by unfold resolveP; rw [if_neg (by rw [hA]; decide), if_neg (by rw [h2]; decide), if_pos h1]
        rw [e]; exact res_one b s w hT hB hs hA h2 h1
      | false =>
        match s, hA, h2, h1, hs with
        | [], hA, h2, h1, hs =>
          have e : resolveP b [] = parseP (printL (bareF b) ++ []) := by unfold resolveP; rw [if_neg (by rw [hA]; decide), if_neg (by rw [h2]; decide), if_neg (by rw [h1]; decide)]
          rw [e]; exact res_none b [] w hT hB hs hA h2 h1 rfl
        | c :: r, hA, h2, h1, hs =>
          by_cases n1 : c = 35
          · have e : resolveP b (c :: r) = parseP (printL (bareF b) ++ (c :: r)) := by unfold resolveP; rw [if_neg (by rw [hA]; decide), if_neg (by rw [h2]; decide), if_neg (by rw [h1]; decide)]; dsimp only; rw [if_pos n1]
            rw [e]; exact res_hash b (c :: r) w hT hB hs hA h2 h1 r (by rw [n1])
          · by_cases n2 : c = 63
            · have e : resolveP b (c :: r) = parseP (printL (bareQ b) ++ (c :: r)) := by unfold resolveP; rw [if_neg (by rw [hA]; decide), if_neg (by rw [h2]; decide), if_neg (by rw [h1]; decide)]; dsimp only; rw [if_neg n1, if_pos n2]
              rw [e]; exact res_query b (c :: r) w hT hB hs hA h2 h1 r (by rw [n2])
            · have e : resolveP b (c :: r) = dottedP (printL (baseP b) ++ (c :: r)) := by unfold resolveP; rw [if_neg (by rw [hA]; decide), if_neg (by rw [h2]; decide), if_neg (by rw [h1]; decide)]; dsimp only; rw [if_neg n1, if_neg n2]
              rw [e]; exact res_other b (c :: r) w hT hB hs hA h2 h1 c r rfl n1 n2
end Go.Proofs.YtcpkkaimingnlaaGreatDoor
