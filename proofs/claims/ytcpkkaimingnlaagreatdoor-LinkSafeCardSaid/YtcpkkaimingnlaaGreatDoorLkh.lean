/-
  Links, plain: what a text is by a link.
-/
import Derived.Test.YtcpkkaimingnlaaGreatDoorLkg
namespace Go.Proofs.YtcpkkaimingnlaaGreatDoor

def absP (s : Bs) : Bool :=
  match s, s.dropWhile (out [58, 47, 63, 35]) with
  | c :: _, d :: _ => decide (0 < stop [58, 47, 63, 35] s) && (d == 58) && (alB c && decide (57 < c.toNat))
  | _, _ => false
def dottedP (t : Bs) : Option Link := (parseP t).map fun l => { l with path := dotsP l.path }
/-- A path up to its last slash. -/
def upTo : Bs → Bs
  | [] => []
  | c :: r => if c = 47 ∨ (upTo r ≠ []) then c :: upTo r else []
def bareF (l : Link) : Link := { l with frag := [], hasF := false }
def bareQ (l : Link) : Link := { l with query := [], hasQ := false, frag := [], hasF := false }
def baseP (l : Link) : Link := { bareQ l with path := if upTo l.path = [] then [47] else upTo l.path }
def resolveP (b : Link) (s : Bs) : Option Link :=
  if absP s = true then parseP s
  else if Lib.hasPrefix s [47, 47] = true then dottedP (b.scheme ++ [58] ++ s)
  else if Lib.hasPrefix s [47] = true then dottedP (originL b ++ s)
  else match s with
    | [] => parseP (printL (bareF b) ++ s)
    | c :: _ => if c = 35 then parseP (printL (bareF b) ++ s)
      else if c = 63 then parseP (printL (bareQ b) ++ s)
      else dottedP (printL (baseP b) ++ s)

/-! ### Links come back -/
theorem WF.dots {l : Link} (h : WF l) : WF { l with path := dotsP l.path } :=
  ⟨h.host1, h.host2, h.hostC, h.port, dots_head _ h.path, fun c hc => h.pathC c (dots_mem _ c hc), h.queryC, h.fragC, dots_right _ h.pathR, h.queryR, h.fragR, h.noQ, h.noF⟩
theorem print_dots (l : Link) : (printL { l with path := dotsP l.path }).length ≤ (printL l).length := by
  have := dots_len l.path
  show (originL l ++ dotsP l.path ++ qT l ++ fT l).length ≤ (originL l ++ l.path ++ qT l ++ fT l).length
  simp only [List.length_append]; omega
theorem parse_back {s : Bs} {l : Link} (h : parseP s = some l) : parseP (printL l) = some l := by
  have := (parseP_iff s l).1 h
  rw [this.2.1]; exact h
theorem dotted_back {s : Bs} {r : Link} (h : dottedP s = some r) : parseP (printL r) = some r ∧ dotsP r.path = r.path := by
  unfold dottedP at h
  cases hp : parseP s with
  | none => rw [hp] at h; cases h
  | some l =>
    rw [hp] at h
    injection h with h
    subst h
    obtain ⟨h1, h2, h3, h4⟩ := (parseP_iff s l).1 hp
    refine ⟨(parseP_iff _ _).2 ⟨?_, rfl, h3, h4.dots⟩, dots_idem _⟩
    have := print_dots l
    show (printL { l with path := dotsP l.path }).length ≤ 2048
    rw [h2] at this; omega
theorem resolve_back {b : Link} {s : Bs} {r : Link} (h : resolveP b s = some r) : parseP (printL r) = some r := by
  unfold resolveP at h
  split at h
  · exact parse_back h
  · split at h
    · exact (dotted_back h).1
    · split at h
      · exact (dotted_back h).1
      · split at h
        · exact parse_back h
        · split at h
          · exact parse_back h
          · split at h
            · exact parse_back h
            · exact (dotted_back h).1
/-- A whole link is itself by any link. -/
theorem abs_link {s : Bs} {l : Link} (h : parseP s = some l) : absP s = true := by
  obtain ⟨h1, h2, h3, h4⟩ := (parseP_iff s l).1 h
  rw [print_eq] at h2
  have hl := small_http_len h3
  have hm : ∀ x ∈ l.scheme, out [58, 47, 63, 35] x = true ∧ alB x = true ∧ 57 < x.toNat := by
    intro x hx
    have h5 := isHttp_S _ h3 (smallB x) (List.mem_map.2 ⟨x, hx, rfl⟩)
    have h6 : 97 ≤ (smallB x).toNat ∧ (smallB x).toNat ≤ 122 := by
      unfold lowS at h5
      simp only [List.mem_cons, List.not_mem_nil, or_false] at h5
      omega
    have h7 : (97 ≤ x.toNat ∧ x.toNat ≤ 122) ∨ (65 ≤ x.toNat ∧ x.toNat ≤ 90) := by
      unfold smallB at h6
      split at h6
      · rename_i h8
        simp only [Bool.and_eq_true, decide_eq_true_eq] at h8
        exact .inr h8
      · exact .inl h6
    refine ⟨?_, ?_, by omega⟩
    · rw [out_true]
      simp only [List.mem_cons, List.not_mem_nil, or_false]
      rintro (rfl | rfl | rfl | rfl) <;> revert h7 <;> decide
    · rw [alB_iff]; omega
  have e := tw_app (p := out [58, 47, 63, 35]) (a := l.scheme) (b := 58 :: 47 :: 47 :: restT l) (fun x hx => (hm x hx).1) (fun y r hy => by injection hy with hy _; rw [← hy]; decide)
  rw [h2] at e
  cases hs : l.scheme with
  | nil => rw [hs] at hl; simp at hl
  | cons c r =>
    have hc := hm c (by rw [hs]; exact List.mem_cons_self)
    have hs2 : s = c :: (r ++ 58 :: 47 :: 47 :: restT l) := by rw [← h2, hs]; rfl
    unfold absP
    rw [e.2]
    rw [hs2]
    dsimp only
    rw [← hs2]
    have hst : 0 < stop [58, 47, 63, 35] s := by unfold stop; rw [e.1, hs]; simp
    simp [hst, hc.2.1, hc.2.2]
theorem resolve_whole {b : Link} {s : Bs} {l : Link} (h : parseP s = some l) : resolveP b s = some l := by
  unfold resolveP
  rw [if_pos (abs_link h)]; exact h
theorem WF.bare {l : Link} (h : WF l) : WF (bareF l) :=
  ⟨h.host1, h.host2, h.hostC, h.port, h.path, h.pathC, h.queryC, (fun _ h => by cases h), h.pathR, h.queryR, rfl, h.noQ, fun _ => rfl⟩
/-- An empty text is the link without its fragment. -/
theorem resolve_empty {s : Bs} {l : Link} (h : parseP s = some l) : resolveP l [] = some (bareF l) := by
  obtain ⟨h1, h2, h3, h4⟩ := (parseP_iff s l).1 h
  unfold resolveP
  rw [if_neg (by decide), if_neg (by decide), if_neg (by decide)]
  dsimp only
  rw [List.append_nil]
  refine (parseP_iff _ _).2 ⟨?_, rfl, h3, h4.bare⟩
  have : (printL (bareF l)).length ≤ (printL l).length := by
    show (originL l ++ l.path ++ qT l ++ []).length ≤ (originL l ++ l.path ++ qT l ++ fT l).length
    simp only [List.length_append, List.length_nil]; omega
  rw [h2] at this; omega
theorem portT_inj {p q : Nat} (hp : p ≤ 65535) (hq : q ≤ 65535) (h : portT p = portT q) : p = q := by
  unfold portT at h
  split at h
  · split at h
    · omega
    · cases h
  · split at h
    · cases h
    · injection h with _ h
      rw [← (decT_spec p).1, h, (decT_spec q).1]
/-- A text behind a link's origin stays with it. -/
theorem origin_stays {x l : Link} {u : Bs} (hx : isHttp (small x.scheme) = true) (wx : WF x) (h : parseP (originL x ++ 47 :: u) = some l) : l.scheme = x.scheme ∧ l.host = x.host ∧ l.port = x.port := by
  obtain ⟨h1, h2, h3, h4⟩ := (parseP_iff _ l).1 h
  rw [print_eq] at h2
  have h2 : l.scheme ++ 58 :: 47 :: 47 :: restT l = x.scheme ++ 58 :: 47 :: 47 :: (x.host ++ portT x.port ++ 47 :: u) := by
    rw [h2]; unfold originL; simp
  have a1 := tw_app (p := ne 58) (a := l.scheme) (b := 58 :: 47 :: 47 :: restT l) (fun c hc => ne_true.2 (sch_not h3 c hc)) (fun y r hy => by injection hy with hy _; rw [← hy]; exact ne_false.2 rfl)
  have a2 := tw_app (p := ne 58) (a := x.scheme) (b := 58 :: 47 :: 47 :: (x.host ++ portT x.port ++ 47 :: u)) (fun c hc => ne_true.2 (sch_not hx c hc)) (fun y r hy => by injection hy with hy _; rw [← hy]; exact ne_false.2 rfl)
  rw [h2] at a1
  have e1 : l.scheme = x.scheme := by rw [← a1.1, a2.1]
  have e2 : restT l = x.host ++ portT x.port ++ 47 :: u := by
    have := a1.2.symm.trans a2.2
    injection this with _ this
    injection this with _ this
    injection this
  unfold restT at e2
  have hn : ∀ (y : Link), WF y → ∀ c ∈ y.host ++ portT y.port, out [47, 63, 35] c = true := by
    intro y wy c hc
    rw [out_true]
    simp only [List.mem_cons, List.not_mem_nil, or_false]
    have : c ≠ 47 ∧ c ≠ 63 ∧ c ≠ 35 := by
      rcases List.mem_append.1 hc with hc | hc
      · exact (host_not (wy.hostC c hc)).2
      · exact portT_not _ c hc
    rintro (h | h | h)
    · exact this.1 h
    · exact this.2.1 h
    · exact this.2.2 h
  have b1 := tw_app (p := out [47, 63, 35]) (a := l.host ++ portT l.port) (b := l.path ++ qT l ++ fT l) (hn l h4) (fun y r hy => by
    rw [out_false]
    have := tail_head l h4.path y r hy
    simp only [List.mem_cons, List.not_mem_nil, or_false]; exact this)
  have b2 := tw_app (p := out [47, 63, 35]) (a := x.host ++ portT x.port) (b := 47 :: u) (hn x wx) (fun y r hy => by injection hy with hy _; rw [← hy]; decide)
  rw [e2] at b1
  have e3 : l.host ++ portT l.port = x.host ++ portT x.port := by rw [← b1.1, b2.1]
  have hp : ∀ (y : Link) y' r, portT y.port = y' :: r → ne 58 y' = false := by
    intro y y' r hy
    unfold portT at hy
    split at hy
    · cases hy
    · injection hy with hy _; rw [← hy]; exact ne_false.2 rfl
  have c1 := tw_app (p := ne 58) (a := l.host) (b := portT l.port) (fun c hc => ne_true.2 (host_not (h4.hostC c hc)).1) (hp l)
  have c2 := tw_app (p := ne 58) (a := x.host) (b := portT x.port) (fun c hc => ne_true.2 (host_not (wx.hostC c hc)).1) (hp x)
  rw [e3] at c1
  exact ⟨e1, by rw [← c1.1, c2.1], portT_inj h4.port wx.port (by rw [← c1.2, c2.2])⟩
theorem dotted_stays {x l : Link} {u : Bs} (hx : isHttp (small x.scheme) = true) (wx : WF x) (h : dottedP (originL x ++ 47 :: u) = some l) : l.scheme = x.scheme ∧ l.host = x.host ∧ l.port = x.port ∧ dotsP l.path = l.path := by
  have hd := (dotted_back h).2
  unfold dottedP at h
  cases hp : parseP (originL x ++ 47 :: u) with
  | none => rw [hp] at h; cases h
  | some m =>
    rw [hp] at h
    injection h with h
    subst h
    obtain ⟨h1, h2, h3⟩ := origin_stays hx wx hp
    exact ⟨h1, h2, h3, hd⟩
theorem upTo_cons (c : UInt8) (r : Bs) : upTo (c :: r) = if c = 47 ∨ (upTo r ≠ []) then c :: upTo r else [] := rfl
theorem upTo_head : ∀ (p : Bs), (∀ y r, p = y :: r → y = 47) → p ≠ [] → ∃ r, upTo p = 47 :: r
  | [], _, h => absurd rfl h
  | c :: r, h, _ => by
    have hc := h c r rfl
    exact ⟨upTo r, by rw [upTo_cons, if_pos (.inl hc), hc]⟩
theorem base_print (x : Link) (wx : WF x) : ∃ u, printL (baseP x) = originL x ++ 47 :: u := by
  have e : printL (baseP x) = originL x ++ (if upTo x.path = [] then [47] else upTo x.path) := by
    show originL x ++ (if upTo x.path = [] then [47] else upTo x.path) ++ [] ++ [] = _
    simp
  rw [e]
  by_cases hp : x.path = []
  · exact ⟨[], by rw [hp]; rfl⟩
  · obtain ⟨r, hr⟩ := upTo_head x.path wx.path hp
    exact ⟨r, by rw [hr]; simp⟩
/-- Texts without a scheme, without two slashes. -/
theorem hosts_slash {x l : Link} {s : Bs} (hx : isHttp (small x.scheme) = true) (wx : WF x) (hs : s.head? ≠ some 47) (h : resolveP x (47 :: s) = some l) : l.scheme = x.scheme ∧ l.host = x.host ∧ l.port = x.port ∧ dotsP l.path = l.path := by
  unfold resolveP at h
  have ha : absP (47 :: s) = false := by
    unfold absP
    have : (47 :: s : Bs).dropWhile (out [58, 47, 63, 35]) = 47 :: s := by
      simp [List.dropWhile, show out [58, 47, 63, 35] 47 = false by decide]
    rw [this]
    simp
  have h2 : Lib.hasPrefix (47 :: s) [47, 47] = false := by
    unfold Lib.hasPrefix
    cases s with
    | nil => rfl
    | cons c r =>
      have : c ≠ 47 := fun e => hs (by rw [e]; rfl)
      have hb : (47 == c) = false := by rw [beq_eq_false_iff_ne]; exact fun e => this e.symm
      simp [List.isPrefixOf, hb]
  have h3 : Lib.hasPrefix (47 :: s) [47] = true := by simp [Lib.hasPrefix, List.isPrefixOf]
  rw [if_neg (by rw [ha]; decide), if_neg (by rw [h2]; decide), if_pos h3] at h
  exact dotted_stays hx wx h
theorem hosts_dot {x l : Link} {s : Bs} (hx : isHttp (small x.scheme) = true) (wx : WF x) (h : resolveP x (46 :: 47 :: s) = some l) : l.scheme = x.scheme ∧ l.host = x.host ∧ l.port = x.port ∧ dotsP l.path = l.path := by
  unfold resolveP at h
  have ha : absP (46 :: 47 :: s) = false := by
    unfold absP
    have : (46 :: 47 :: s : Bs).dropWhile (out [58, 47, 63, 35]) = 47 :: s := by
      simp [List.dropWhile, show out [58, 47, 63, 35] 46 = true by decide, show out [58, 47, 63, 35] 47 = false by decide]
    rw [this]
    simp
  have h2 : Lib.hasPrefix (46 :: 47 :: s) [47, 47] = false := by simp [Lib.hasPrefix, List.isPrefixOf]
  have h3 : Lib.hasPrefix (46 :: 47 :: s) [47] = false := by simp [Lib.hasPrefix, List.isPrefixOf]
  rw [if_neg (by rw [ha]; decide), if_neg (by rw [h2]; decide), if_neg (by rw [h3]; decide)] at h
  dsimp only at h
  rw [if_neg (by decide), if_neg (by decide)] at h
  obtain ⟨u, hu⟩ := base_print x wx
  rw [hu, List.append_assoc, List.cons_append] at h
  exact dotted_stays hx wx h
end Go.Proofs.YtcpkkaimingnlaaGreatDoor
