/- Plain laws: a program's bytes are read as they were written; each front is too short. -/
import Derived.Test.YtdbmfnhbgacldaaPrM
namespace Go.Proofs.Ytdbmfnhbgacldaa.Am
set_option autoImplicit false
set_option linter.unusedVariables false
set_option linter.unusedSimpArgs false
set_option maxRecDepth 10000
set_option pp.maxSteps 20000
theorem eat {s : Rd} {m rest : List Nat} (hd : s.bs.drop s.p = m ++ rest) : s.bs.drop (s.p + m.length) = rest := drop_add hd
theorem fld_put : ∀ (l : List Nat) (x y : Nd) (s : Rd) (rest : List Nat), s.why = 0 → ndOk y → (∀ c ∈ l, c = 1 ∨ c = 2 ∨ c = 3) → x.1 = y.1 → (∀ c, c = 1 ∨ c = 2 ∨ c = 3 → c ∉ l → fld x c = fld y c) →
    s.bs.drop s.p = (l.flatMap fun c => putN (fld y c).toNat) ++ rest → rdFld l x s = (y, { s with p := s.p + (l.flatMap fun c => putN (fld y c).toNat).length })
  | [], x, y, s, rest, h0, hy, hm, hk, hx, hd => by
    have : x = y := nd_ext hk (fun c hc => hx c hc (by simp))
    rw [this]; rfl
  | c :: l, x, y, s, rest, h0, hy, hm, hk, hx, hd => by
    rw [List.flatMap_cons, List.append_assoc] at hd
    have hc := hm c (by simp)
    have hf := hy.2.1 c
    have e1 := num_put (mx := 64) h0 hd (by omega) (by omega)
    rw [rdFld, e1]
    have hd2 := eat hd
    have ih := fld_put l (setF x c ((fld y c).toNat : Nat)) y { s with p := s.p + (putN (fld y c).toNat).length } rest h0 hy (fun d hd => hm d (by simp [hd])) (by rw [set_fst, hk]) (fun d hd hdn => by
      rw [fld_set x c _ d hc hd]
      by_cases e : d = c
      · rw [if_pos e, e]; omega
      · rw [if_neg e]; exact hx d hd (by simp [e, hdn])) hd2
    simp only
    rw [ih, List.flatMap_cons, List.length_append]
    simp [Nat.add_assoc]
theorem node_put {y : Nd} {s : Rd} {rest : List Nat} (h0 : s.why = 0) (hy : ndOk y) (hd : s.bs.drop s.p = nodeN y ++ rest) : rdNode s = (y, { s with p := s.p + (nodeN y).length }) := by
  rw [nodeN, List.append_assoc] at hd
  have hk := hy.1
  have e1 := num_put (mx := 9) h0 hd (by omega) (by omega)
  have hd2 := eat hd
  have ek : ((y.1.toNat : Nat) : Int) = y.1 := by omega
  unfold rdNode
  rw [e1]
  simp only
  rw [ek]
  have e2 := fld_put (partsL y.1) (y.1, 0, 0, 0) y { s with p := s.p + (putN y.1.toNat).length } rest h0 hy (fun c hc => parts_mem hc) rfl (fun c hc hn => by
    rw [hy.2.2 c hc hn]
    rcases hc with rfl | rfl | rfl <;> rfl) hd2
  rw [e2, nodeN, List.length_append]
  simp [Nat.add_assoc]
theorem nodes_put : ∀ (m l : List Nd) (s : Rd) (rest : List Nat), s.why = 0 → (∀ y ∈ m, ndOk y) → s.bs.drop s.p = m.flatMap nodeN ++ rest → rdNodes m.length l s = (l ++ m, { s with p := s.p + (m.flatMap nodeN).length })
  | [], l, s, rest, h0, hy, hd => by simp [rdNodes]
  | y :: m, l, s, rest, h0, hy, hd => by
    rw [List.flatMap_cons, List.append_assoc] at hd
    have e1 := node_put h0 (hy y (by simp)) hd
    rw [List.length_cons, rdNodes, if_pos h0, e1]
    simp only
    rw [nodes_put m (l ++ [y]) { s with p := s.p + (nodeN y).length } rest h0 (fun z hz => hy z (by simp [hz])) (eat hd), List.flatMap_cons, List.length_append]
    simp [Nat.add_assoc]
theorem nodesR_put {L : List Nd} {s : Rd} {rest : List Nat} (h0 : s.why = 0) (hL : L.length ≤ 64) (hy : ∀ y ∈ L, ndOk y) (hd : s.bs.drop s.p = fnN L ++ rest) : nodesR s = (L, { s with p := s.p + (fnN L).length }) := by
  rw [fnN, List.append_assoc] at hd
  have e1 := num_put (mx := 64) h0 hd (by omega) (by omega)
  unfold nodesR
  rw [e1]
  simp only
  rw [nodes_put L [] { s with p := s.p + (putN L.length).length } rest h0 hy (eat hd), fnN, List.length_append]
  simp [Nat.add_assoc]
theorem fns_put : ∀ (m l : List (List Nd)) (s : Rd) (rest : List Nat), s.why = 0 → (∀ L ∈ m, L.length ≤ 64 ∧ ∀ y ∈ L, ndOk y) → s.bs.drop s.p = m.flatMap fnN ++ rest → rdFns m.length l s = (l ++ m, { s with p := s.p + (m.flatMap fnN).length })
  | [], l, s, rest, h0, hy, hd => by simp [rdFns]
  | L :: m, l, s, rest, h0, hy, hd => by
    rw [List.flatMap_cons, List.append_assoc] at hd
    have e1 := nodesR_put h0 (hy L (by simp)).1 (hy L (by simp)).2 hd
    rw [List.length_cons, rdFns, if_pos h0, e1]
    simp only
    rw [fns_put m (l ++ [L]) { s with p := s.p + (fnN L).length } rest h0 (fun z hz => hy z (by simp [hz])) (eat hd), List.flatMap_cons, List.length_append]
    simp [Nat.add_assoc]
/-- the steps of reading a program's bytes -/
theorem prog_steps {p : Pg} (ok : PgOk p) (rest : List Nat) : ∃ s1 s2 s3 s4 s5 : Rd, (Rd.mk (progN p ++ rest) 0 0 0).raw 4 = (alp, s1) ∧ s1.num 16 = (p.g.toNat, s2) ∧ s2.num 16 = (p.l.toNat, s3) ∧ s3.num 8 = (p.s.toNat, s4) ∧ s4.num 16 = (p.fs.length, s5) ∧
    rdFns p.fs.length [] s5 = (p.fs, ⟨progN p ++ rest, (progN p).length, 0, 0⟩) ∧ s1.why = 0 ∧ s2.why = 0 ∧ s3.why = 0 ∧ s4.why = 0 ∧ s5.why = 0 := by
  have h1 := ok.g; have h2 := ok.l; have h3 := ok.s; have h4 := ok.n
  have d0 : (Rd.mk (progN p ++ rest) 0 0 0).bs.drop (Rd.mk (progN p ++ rest) 0 0 0).p = alp ++ (putN p.g.toNat ++ (putN p.l.toNat ++ (putN p.s.toNat ++ (putN p.fs.length ++ (p.fs.flatMap fnN ++ rest))))) := by
    simp only [List.drop_zero, progN, numsP, List.flatMap_cons, List.flatMap_nil, List.append_nil, List.append_assoc]
  have e1 := raw_put (s := Rd.mk (progN p ++ rest) 0 0 0) rfl d0
  have d1 := drop_add d0
  have e2 := num_put (s := ⟨progN p ++ rest, _, 0, 0⟩) (mx := 16) rfl d1 (by omega) (by omega)
  have d2 := drop_add d1
  have e3 := num_put (s := ⟨progN p ++ rest, _, 0, 0⟩) (mx := 16) rfl d2 (by omega) (by omega)
  have d3 := drop_add d2
  have e4 := num_put (s := ⟨progN p ++ rest, _, 0, 0⟩) (mx := 8) rfl d3 (by omega) (by omega)
  have d4 := drop_add d3
  have e5 := num_put (s := ⟨progN p ++ rest, _, 0, 0⟩) (mx := 16) rfl d4 (by omega) (by omega)
  have d5 := drop_add d4
  have e6 := fns_put p.fs [] ⟨progN p ++ rest, _, 0, 0⟩ rest rfl (fun L hL => ⟨(ok.f L hL).2.1, fun y hy => ok.nd hL hy⟩) d5
  refine ⟨_, _, _, _, _, e1, e2, e3, e4, e5, ?_, rfl, rfl, rfl, rfl, rfl⟩
  rw [e6]
  simp only [List.nil_append, Prod.mk.injEq, Rd.mk.injEq, true_and, and_true]
  simp only [progN, numsP, List.flatMap_cons, List.flatMap_nil, List.append_nil, List.length_append]
  omega
theorem nat_pg {p : Pg} (ok : PgOk p) : (⟨(p.g.toNat : Nat), (p.l.toNat : Nat), (p.s.toNat : Nat), p.fs⟩ : Pg) = p := by
  have h1 := ok.g; have h2 := ok.l; have h3 := ok.s
  obtain ⟨g, l, s, fs⟩ := p
  simp only [Pg.mk.injEq, and_true]
  simp only at h1 h2 h3
  omega
theorem readP_back {p : Pg} (ok : PgOk p) : readP (progN p) = (p, 0, 0) := by
  obtain ⟨s1, s2, s3, s4, s5, e1, e2, e3, e4, e5, e6, _⟩ := prog_steps ok []
  have hb := (progN_byte ok).2
  rw [List.append_nil] at e1 e6
  have ec := chk_ok ok
  unfold readP
  rw [if_neg (by omega), e1]
  simp only
  rw [if_neg (by rw [strOf_alp]; simp)]
  unfold tailP
  simp only [e2, e3, e4, e5, e6, nat_pg ok, ec]
  rw [if_neg (by unfold Rd.done; rw [if_neg (by simp)]; simp), if_neg (by simp)]
theorem readP_more {p : Pg} (ok : PgOk p) (b : Nat) : readP (progN p ++ [b]) = (Pg.zero, (progN p).length, 7) := by
  obtain ⟨s1, s2, s3, s4, s5, e1, e2, e3, e4, e5, e6, _⟩ := prog_steps ok [b]
  have hb := (progN_byte ok).2
  have ed : Rd.done ⟨progN p ++ [b], (progN p).length, 0, 0⟩ = ⟨progN p ++ [b], (progN p).length, (progN p).length, 7⟩ := by
    unfold Rd.done Rd.fail; rw [if_pos ⟨rfl, by simp⟩]; rfl
  unfold readP
  rw [if_neg (by rw [List.length_append]; simp; omega), e1]
  simp only
  rw [if_neg (by rw [strOf_alp]; simp)]
  unfold tailP
  simp only [e2, e3, e4, e5, e6]
  rw [ed, if_pos (by simp)]
  rfl
theorem along_bad {k : Nat} {s t : Rd} (h : Along k s t) : (t.why = 0 ∧ t.p = s.p ∧ s.p ≤ k) ∨ t.why = 2 := h.2
theorem alongB {k : Nat} {s t : Rd} (hb : t.bs = s.bs.take k) (h : t.why = 2) : Along k s t := ⟨hb, .inr h⟩
theorem fld_bs : ∀ (l : List Nat) (x : Nd) (s : Rd), (rdFld l x s).2.bs = s.bs
  | [], _, _ => rfl
  | c :: l, x, s => by
    rw [rdFld, fld_bs l]
    unfold Rd.num Rd.fail; split <;> (try split) <;> (try split) <;> (try split) <;> rfl
theorem num_bs' (s : Rd) (n : Int) : (s.num n).2.bs = s.bs := by
  unfold Rd.num Rd.fail; split <;> (try split) <;> (try split) <;> (try split) <;> rfl
theorem raw_bs' (s : Rd) (n : Int) : (s.raw n).2.bs = s.bs := by
  unfold Rd.raw Rd.fail; split <;> (try split) <;> (try split) <;> (try split) <;> rfl
theorem node_bs (s : Rd) : (rdNode s).2.bs = s.bs := by rw [rdNode, fld_bs, num_bs']
theorem nodes_bs : ∀ (k : Nat) (l : List Nd) (s : Rd), (rdNodes k l s).2.bs = s.bs
  | 0, _, _ => rfl
  | k + 1, l, s => by
    rw [rdNodes]; split
    · rw [nodes_bs k, node_bs]
    · rfl
theorem nodesR_bs (s : Rd) : (nodesR s).2.bs = s.bs := by rw [nodesR, nodes_bs, num_bs']
theorem along_fld {k : Nat} : ∀ (l : List Nat) (x : Nd) (s t : Rd), k ≤ s.bs.length → s.ok → Along k s t → (rdFld l x s).2.why = 0 → Along k (rdFld l x s).2 (rdFld l x t).2 ∧ ((rdFld l x t).2.why = 0 → (rdFld l x t).1 = (rdFld l x s).1)
  | [], x, s, t, _, _, h, _ => ⟨h, fun _ => rfl⟩
  | c :: l, x, s, t, hk, hok, h, hw => by
    rw [rdFld] at hw
    have hw1 : (s.num 64).2.why = 0 := by
      by_cases q : (s.num 64).2.why = 0
      · exact q
      · rw [fld_bad l _ q] at hw; exact absurd hw q
    obtain ⟨a1, a2⟩ := along_num hk hok h 64 hw1
    rw [rdFld, rdFld]
    by_cases q : (t.num 64).2.why = 0
    · rw [a2 q]
      exact along_fld l _ _ _ (by rw [num_bs']; exact hk) (num_ok hok 64) a1 hw
    · have q2 : (t.num 64).2.why = 2 := by rcases a1.2 with ⟨z, _⟩ | z; exact absurd z q; exact z
      have eb := fld_bad l (setF x c (t.num 64).1) q
      rw [eb]
      exact ⟨alongB (by rw [a1.1, fld_bs]) q2, fun z => absurd z q⟩
theorem along_node {k : Nat} {s t : Rd} (hk : k ≤ s.bs.length) (hok : s.ok) (h : Along k s t) (hw : (rdNode s).2.why = 0) : Along k (rdNode s).2 (rdNode t).2 ∧ ((rdNode t).2.why = 0 → (rdNode t).1 = (rdNode s).1) := by
  unfold rdNode at hw ⊢
  have hw1 : (s.num 9).2.why = 0 := by
    by_cases q : (s.num 9).2.why = 0
    · exact q
    · rw [fld_bad _ _ q] at hw; exact absurd hw q
  obtain ⟨a1, a2⟩ := along_num hk hok h 9 hw1
  by_cases q : (t.num 9).2.why = 0
  · rw [a2 q]
    exact along_fld _ _ _ _ (by rw [num_bs']; exact hk) (num_ok hok 9) a1 hw
  · have q2 : (t.num 9).2.why = 2 := by rcases a1.2 with ⟨z, _⟩ | z; exact absurd z q; exact z
    rw [fld_bad _ _ q]
    exact ⟨alongB (by rw [a1.1, fld_bs]) q2, fun z => absurd z q⟩
theorem along_nodes {k : Nat} : ∀ (n : Nat) (l : List Nd) (s t : Rd), k ≤ s.bs.length → s.ok → Along k s t → (rdNodes n l s).2.why = 0 → Along k (rdNodes n l s).2 (rdNodes n l t).2 ∧ ((rdNodes n l t).2.why = 0 → (rdNodes n l t).1 = (rdNodes n l s).1)
  | 0, l, s, t, _, _, h, _ => ⟨h, fun _ => rfl⟩
  | n + 1, l, s, t, hk, hok, h, hw => by
    rw [rdNodes] at hw
    by_cases hs : s.why = 0
    · rw [if_pos hs] at hw
      have hw1 : (rdNode s).2.why = 0 := by
        by_cases q : (rdNode s).2.why = 0
        · exact q
        · rw [nodes_bad q] at hw; exact absurd hw q
      rw [rdNodes, if_pos hs]
      by_cases ht : t.why = 0
      · rw [rdNodes, if_pos ht]
        obtain ⟨a1, a2⟩ := along_node hk hok h hw1
        by_cases q : (rdNode t).2.why = 0
        · rw [a2 q]
          exact along_nodes n _ _ _ (by rw [node_bs]; exact hk) (rdNode_ok hok) a1 hw
        · have q2 : (rdNode t).2.why = 2 := by rcases a1.2 with ⟨z, _⟩ | z; exact absurd z q; exact z
          rw [nodes_bad q]
          exact ⟨alongB (by rw [a1.1, nodes_bs]) q2, fun z => absurd z q⟩
      · have t2 : t.why = 2 := by rcases h.2 with ⟨z, _⟩ | z; exact absurd z ht; exact z
        rw [nodes_bad ht]
        exact ⟨alongB (by rw [h.1, nodes_bs, node_bs]) t2, fun z => absurd z ht⟩
    · rw [if_neg hs] at hw; exact absurd hw hs
theorem along_nodesR {k : Nat} {s t : Rd} (hk : k ≤ s.bs.length) (hok : s.ok) (h : Along k s t) (hw : (nodesR s).2.why = 0) : Along k (nodesR s).2 (nodesR t).2 ∧ ((nodesR t).2.why = 0 → (nodesR t).1 = (nodesR s).1) := by
  unfold nodesR at hw ⊢
  have hw1 : (s.num 64).2.why = 0 := by
    by_cases q : (s.num 64).2.why = 0
    · exact q
    · rw [nodes_bad q] at hw; exact absurd hw q
  obtain ⟨a1, a2⟩ := along_num hk hok h 64 hw1
  by_cases q : (t.num 64).2.why = 0
  · rw [a2 q]
    exact along_nodes _ _ _ _ (by rw [num_bs']; exact hk) (num_ok hok 64) a1 hw
  · have q2 : (t.num 64).2.why = 2 := by rcases a1.2 with ⟨z, _⟩ | z; exact absurd z q; exact z
    rw [nodes_bad q]
    exact ⟨alongB (by rw [a1.1, nodes_bs]) q2, fun z => absurd z q⟩
theorem fns_bs : ∀ (k : Nat) (l : List (List Nd)) (s : Rd), (rdFns k l s).2.bs = s.bs
  | 0, _, _ => rfl
  | k + 1, l, s => by
    rw [rdFns]; split
    · rw [fns_bs k, nodesR_bs]
    · rfl
theorem along_fns {k : Nat} : ∀ (n : Nat) (l : List (List Nd)) (s t : Rd), k ≤ s.bs.length → s.ok → Along k s t → (rdFns n l s).2.why = 0 → Along k (rdFns n l s).2 (rdFns n l t).2
  | 0, l, s, t, _, _, h, _ => h
  | n + 1, l, s, t, hk, hok, h, hw => by
    rw [rdFns] at hw
    by_cases hs : s.why = 0
    · rw [if_pos hs] at hw
      have hw1 : (nodesR s).2.why = 0 := by
        by_cases q : (nodesR s).2.why = 0
        · exact q
        · rw [fns_bad q] at hw; exact absurd hw q
      rw [rdFns, if_pos hs]
      by_cases ht : t.why = 0
      · rw [rdFns, if_pos ht]
        obtain ⟨a1, a2⟩ := along_nodesR hk hok h hw1
        by_cases q : (nodesR t).2.why = 0
        · rw [a2 q]
          exact along_fns n _ _ _ (by rw [nodesR_bs]; exact hk) (nodesR_ok hok) a1 hw
        · have q2 : (nodesR t).2.why = 2 := by rcases a1.2 with ⟨z, _⟩ | z; exact absurd z q; exact z
          rw [fns_bad q]
          exact alongB (by rw [a1.1, fns_bs]) q2
      · have t2 : t.why = 2 := by rcases h.2 with ⟨z, _⟩ | z; exact absurd z ht; exact z
        rw [fns_bad ht]
        exact alongB (by rw [h.1, fns_bs, nodesR_bs]) t2
    · rw [if_neg hs] at hw; exact absurd hw hs
theorem readP_cut {p : Pg} (ok : PgOk p) {k : Nat} (hk : k < (progN p).length) : (readP ((progN p).take k)).2.2 = 2 := by
  obtain ⟨s1, s2, s3, s4, s5, e1, e2, e3, e4, e5, e6, y1, y2, y3, y4, y5⟩ := prog_steps ok []
  obtain ⟨nb, hb⟩ := progN_byte ok
  rw [List.append_nil] at e1 e6
  have ok0 : Rd.ok ⟨progN p, 0, 0, 0⟩ := ⟨by simp only; omega, Nat.zero_le _, nb⟩
  have ok1 := raw_ok ok0 4; rw [e1] at ok1; simp only at ok1
  have ok2 := num_ok ok1 16; rw [e2] at ok2; simp only at ok2
  have ok3 := num_ok ok2 16; rw [e3] at ok3; simp only at ok3
  have ok4 := num_ok ok3 8; rw [e4] at ok4; simp only at ok4
  have ok5 := num_ok ok4 16; rw [e5] at ok5; simp only at ok5
  have q1 : s1.bs = progN p := by have := raw_bs' ⟨progN p, 0, 0, 0⟩ 4; rw [e1] at this; exact this
  have q2 : s2.bs = progN p := by have := num_bs' s1 16; rw [e2, q1] at this; exact this
  have q3 : s3.bs = progN p := by have := num_bs' s2 16; rw [e3, q2] at this; exact this
  have q4 : s4.bs = progN p := by have := num_bs' s3 8; rw [e4, q3] at this; exact this
  have q5 : s5.bs = progN p := by have := num_bs' s4 16; rw [e5, q4] at this; exact this
  have hkb : k ≤ (progN p).length := by omega
  have al0 : Along k ⟨progN p, 0, 0, 0⟩ ⟨(progN p).take k, 0, 0, 0⟩ := ⟨rfl, .inl ⟨rfl, rfl, Nat.zero_le _⟩⟩
  obtain ⟨al1, v1⟩ := along_raw hkb ok0 al0 4 4 (fun _ => rfl) (by rw [e1]; exact y1)
  rw [e1] at al1 v1; simp only at al1 v1
  obtain ⟨tm, t1, f1⟩ : ∃ m s, (Rd.mk ((progN p).take k) 0 0 0).raw 4 = (m, s) := ⟨_, _, rfl⟩
  rw [f1] at al1 v1; simp only at al1 v1
  obtain ⟨al2, _⟩ := along_num (by rw [q1]; exact hkb) ok1 al1 16 (by rw [e2]; exact y2)
  rw [e2] at al2; simp only at al2
  obtain ⟨al3, _⟩ := along_num (by rw [q2]; exact hkb) ok2 al2 16 (by rw [e3]; exact y3)
  rw [e3] at al3; simp only at al3
  obtain ⟨al4, _⟩ := along_num (by rw [q3]; exact hkb) ok3 al3 8 (by rw [e4]; exact y4)
  rw [e4] at al4; simp only at al4
  obtain ⟨al5, v5⟩ := along_num (by rw [q4]; exact hkb) ok4 al4 16 (by rw [e5]; exact y5)
  rw [e5] at al5 v5; simp only at al5 v5
  unfold readP
  rw [if_neg (by rw [List.length_take]; omega), f1]
  simp only
  rw [if_neg]
  · unfold tailP
    simp only
    obtain ⟨n, t5, g5⟩ : ∃ m s, (((t1.num 16).2.num 16).2.num 8).2.num 16 = (m, s) := ⟨_, _, rfl⟩
    rw [g5] at al5 v5 ⊢
    simp only at al5 v5 ⊢
    have fin : (rdFns n [] t5).2.why = 2 ∧ (rdFns n [] t5).2.done.why = 2 := by
      by_cases q : t5.why = 0
      · have en := v5 q
        rw [en]
        have al6 := along_fns p.fs.length [] s5 t5 (by rw [q5]; exact hkb) ok5 al5 (by rw [e6])
        rw [e6] at al6
        exact along_end (s := ⟨progN p, (progN p).length, 0, 0⟩) hk al6 rfl
      · have q2 : t5.why = 2 := by rcases al5.2 with ⟨z, _⟩ | z; exact absurd z q; exact z
        rw [fns_bad q]
        refine ⟨q2, ?_⟩
        show (Rd.done t5).why = 2
        unfold Rd.done
        rw [if_neg (by omega)]; exact q2
    rw [if_pos (by rw [fin.2]; simp)]
    simp only
    rw [fin.2]; rfl
  · rintro ⟨g1, g2⟩
    rw [v1 g1, strOf_alp] at g2
    exact g2 rfl
/-- where a fault is told lies in the bytes -/
def Rd.at' (s : Rd) (bs : List Nat) : Prop := s.ok ∧ s.bs = bs ∧ s.a ≤ bs.length
theorem at_fail {s : Rd} {bs : List Nat} (h : s.at' bs) (c : Nat) : (s.fail c).at' bs := by
  obtain ⟨h1, h2, h3⟩ := h
  refine ⟨fail_ok h1 c, ?_, ?_⟩
  · unfold Rd.fail; split <;> exact h2
  · unfold Rd.fail
    split
    · have := h1.2.1; simp only; rw [← h2]; exact this
    · exact h3
theorem at_num {s : Rd} {bs : List Nat} (h : s.at' bs) (mx : Int) : (s.num mx).2.at' bs := by
  have hk := num_ok h.1 mx
  unfold Rd.num at hk ⊢
  split
  · exact h
  · split
    · exact at_fail h _
    · split
      · exact at_fail h _
      · rename_i h1 h2 h3
        rw [if_neg h1, if_neg h2, if_neg h3] at hk
        exact ⟨hk, h.2.1, h.2.2⟩
theorem at_raw {s : Rd} {bs : List Nat} (h : s.at' bs) (n : Int) : (s.raw n).2.at' bs := by
  have hk := raw_ok h.1 n
  unfold Rd.raw at hk ⊢
  split
  · exact h
  · split
    · exact at_fail h _
    · split
      · exact at_fail h _
      · rename_i h1 h2 h3
        rw [if_neg h1, if_neg h2, if_neg h3] at hk
        exact ⟨hk, h.2.1, h.2.2⟩
theorem at_fld : ∀ (l : List Nat) (x : Nd) {s : Rd} {bs : List Nat}, s.at' bs → (rdFld l x s).2.at' bs
  | [], _, _, _, h => h
  | c :: l, x, s, bs, h => at_fld l _ (at_num h 64)
theorem at_node {s : Rd} {bs : List Nat} (h : s.at' bs) : (rdNode s).2.at' bs := at_fld _ _ (at_num h 9)
theorem at_nodes : ∀ (k : Nat) (l : List Nd) {s : Rd} {bs : List Nat}, s.at' bs → (rdNodes k l s).2.at' bs
  | 0, _, _, _, h => h
  | k + 1, l, s, bs, h => by
    rw [rdNodes]; split
    · exact at_nodes k _ (at_node h)
    · exact h
theorem at_nodesR {s : Rd} {bs : List Nat} (h : s.at' bs) : (nodesR s).2.at' bs := at_nodes _ _ (at_num h 64)
theorem at_fns : ∀ (k : Nat) (l : List (List Nd)) {s : Rd} {bs : List Nat}, s.at' bs → (rdFns k l s).2.at' bs
  | 0, _, _, _, h => h
  | k + 1, l, s, bs, h => by
    rw [rdFns]; split
    · exact at_fns k _ (at_nodesR h)
    · exact h
theorem at_done {s : Rd} {bs : List Nat} (h : s.at' bs) : s.done.at' bs := by
  unfold Rd.done; split
  · exact at_fail h 7
  · exact h
theorem readP_at {bs : List Nat} (hl : bs.length ≤ 1000000) (hb : ∀ b ∈ bs, b < 256) : (readP bs).2.1 ≤ bs.length := by
  have a0 : Rd.at' ⟨bs, 0, 0, 0⟩ bs := ⟨⟨hl, Nat.zero_le _, hb⟩, rfl, Nat.zero_le _⟩
  unfold readP tailP
  simp only
  split
  · exact Nat.zero_le _
  · split
    · exact Nat.zero_le _
    · split
      · exact (at_done (at_fns _ [] (at_num (at_num (at_num (at_num (at_raw a0 4) 16) 16) 8) 16))).2.2
      · split
        · exact Nat.le_refl _
        · exact Nat.zero_le _
end Go.Proofs.Ytdbmfnhbgacldaa.Am
namespace Go.Proofs.Ytdbmfnhbgacldaa.Am
set_option autoImplicit false
set_option linter.unusedVariables false
set_option linter.unusedSimpArgs false
set_option maxRecDepth 10000
set_option pp.maxSteps 20000
set_option pp.proofs false
set_option maxHeartbeats 4000000 in
theorem law8 (p : Pg) (hp : okPg p) (cut : Nat) (hct : cut < 65536) (more : Nat) (hm : more < 256) : CallW Try.prog G0 8 [pgV p, .i (.int .u16 cut), .i (.int .u8 more)] [] (fun r st' => r = .i (.bool true) ∧ st' = []) := by
  refine call_of_bodyF 0 (Nat.le_refl _) Try.func8 rfl (fun a w => Try.call8 a w) (wpx_ok (own := fun t => t == 52) _ _ _ ?_)
  repeat ((conv => whnf); first | refine Br.t ?_ | refine Br.f ?_ | refine ⟨rfl, ?_⟩)
  conv => whnf
  refine CallW.mono (awake15.pure _ rfl rfl) ?_
  rintro r st' ⟨rfl, rfl⟩
  repeat ((conv => whnf); first | refine Br.t ?_ | refine Br.f ?_ | refine ⟨rfl, ?_⟩)
  conv => whnf
  refine CallW.mono ((small16 p hp).pure _ rfl rfl) ?_
  rintro r st' ⟨rfl, rfl⟩
  repeat ((conv => whnf); first | refine Br.t ?_ | refine Br.f ?_ | refine ⟨rfl, ?_⟩)
  conv => whnf
  refine Br.mk (fun z => ?_) (fun z => ?_)
  · repeat ((conv => whnf); first | refine Br.t ?_ | refine Br.f ?_ | refine ⟨rfl, ?_⟩)
    conv => whnf
    refine CallW.mono (awake15.pure _ rfl rfl) ?_
    rintro r st' ⟨rfl, rfl⟩
    repeat ((conv => whnf); first | refine Br.t ?_ | refine Br.f ?_ | refine ⟨rfl, ?_⟩)
    conv => whnf
    refine fin (target := []) rfl (Nat.zero_le _) (by simp) rfl rfl
  · repeat ((conv => whnf); first | refine Br.t ?_ | refine Br.f ?_ | refine ⟨rfl, ?_⟩)
    conv => whnf
    refine CallW.mono ((write17 p hp).pure _ rfl rfl) ?_
    rintro r st' ⟨rfl, rfl⟩
    by_cases h1 : (chk p).2.2 = 0
    · have ok := chk_zero h1
      have rb := readP_back ok
      have rm := readP_more ok more
      have rc := fun k hk => readP_cut ok (k := k) hk
      obtain ⟨nb, nl⟩ := progN_byte ok
      have wp : 0 < (progN p).length := by simp [progN, alp]
      rw [if_pos h1, h1]
      obtain ⟨nw, hnw⟩ : ∃ l, l = progN p := ⟨_, rfl⟩
      rw [← hnw] at rb rm rc nb nl wp ⊢
      repeat ((conv => whnf); first | refine Br.t ?_ | refine Br.f ?_ | refine ⟨rfl, ?_⟩)
      conv => whnf
      refine CallW.mono ((read22 nw (by omega) nb).pure _ rfl rfl) ?_
      rintro r st' ⟨rfl, rfl⟩
      rw [rb]
      repeat ((conv => whnf); first | refine Br.t ?_ | refine Br.f ?_ | refine ⟨rfl, ?_⟩)
      conv => whnf
      have ek : (IntKind.i64.wrap (cut : Int)).tmod (((nw.map by8).length : Nat) : Int) = ((cut % nw.length : Nat) : Int) := by
        rw [i64_id (by omega) (by omega), List.length_map]; rfl
      have hk : cut % nw.length < nw.length := Nat.mod_lt _ wp
      refine ⟨by rw [List.length_map]; omega, ?_⟩
      rw [ek]
      obtain ⟨k, hk'⟩ : ∃ k, k = cut % nw.length := ⟨_, rfl⟩
      rw [← hk'] at hk ⊢
      repeat ((conv => whnf); first | refine Br.t ?_ | refine Br.f ?_ | refine ⟨rfl, ?_⟩)
      conv => whnf
      have es : (((nw.map by8).drop (Int.toNat 0)).take ((k : Int).toNat - Int.toNat 0)) = (nw.take k).map by8 := by simp [List.map_take]
      refine ⟨⟨by omega, by omega, by simp; omega, bytes_one _⟩, ?_⟩
      rw [es]
      have nbk : ∀ b ∈ nw.take k, b < 256 := fun b hb => nb b (List.mem_of_mem_take hb)
      have hat := readP_at (bs := nw.take k) (by simp; omega) nbk
      rw [List.length_take, Nat.min_eq_left (by omega)] at hat
      repeat ((conv => whnf); first | refine Br.t ?_ | refine Br.f ?_ | refine ⟨rfl, ?_⟩)
      conv => whnf
      refine CallW.mono ((read22 (nw.take k) (by simp; omega) nbk).pure _ rfl rfl) ?_
      rintro r st' ⟨rfl, rfl⟩
      have wk := rc k hk
      obtain ⟨y, ey⟩ : ∃ y, y = readP (nw.take k) := ⟨_, rfl⟩
      rw [← ey] at wk hat ⊢
      obtain ⟨y1, y2, y3⟩ := y
      simp only at wk hat
      subst wk
      repeat ((conv => whnf); first | refine Br.t ?_ | refine Br.f ?_ | refine ⟨rfl, ?_⟩)
      conv => whnf
      refine ⟨apL (bytes_one nw) rfl 1 rfl rfl (by simp; omega) (len_mx (by simp; omega)), ?_⟩
      repeat ((conv => whnf); first | refine Br.t ?_ | refine Br.f ?_ | refine ⟨rfl, ?_⟩)
      conv => whnf
      refine ⟨⟨by intro cs hcs; simp at hcs; subst hcs; rfl, by simp [lift], by show (_ + 1) * 1 ≤ _; simp [lift]; omega, len_mx (by simp [lift]; omega)⟩, ?_⟩
      repeat ((conv => whnf); first | refine Br.t ?_ | refine Br.f ?_ | refine ⟨rfl, ?_⟩)
      conv => whnf
      obtain ⟨tt, htt⟩ : ∃ tt, nw ++ [more] = tt := ⟨_, rfl⟩
      rw [htt] at rm
      have htl : tt.length = nw.length + 1 := by rw [← htt]; simp
      have htb : ∀ b ∈ tt, b < 256 := by
        intro b hb
        rw [← htt] at hb
        simp only [List.mem_append, List.mem_singleton] at hb
        rcases hb with hb | rfl
        · exact nb b hb
        · exact hm
      have cR := read22 tt (by omega) htb
      rw [rm] at cR
      have e2 : lift (nw.map by8) ++ lift [[I.int .u8 (more : Int)]] = lift (tt.map by8) := by rw [← htt, List.map_append, lift_app]; rfl
      refine CallW.mono (CallW.ref1 (id := 5) (ver := 3) (sz := 1) (ro := false) _ cR (by
        show some (Ob.row 3 1 false (lift (nw.map by8) ++ lift [[I.int .u8 (more : Int)]])) = _
        rw [e2]) (by rw [List.length_map, htl]; simp [lift]) rfl rfl) ?_
      rintro r st' ⟨rfl, rfl⟩
      repeat ((conv => whnf); first | refine Br.t ?_ | refine Br.f ?_ | refine ⟨rfl, ?_⟩)
      conv => whnf
      refine ⟨by kernel_rfl, ?_⟩
      repeat ((conv => whnf); first | refine Br.t ?_ | refine Br.f ?_ | refine ⟨rfl, ?_⟩)
      conv => whnf
      refine CallW.mono ((same18 p p hp hp).pure _ rfl rfl) ?_
      rintro r st' ⟨rfl, rfl⟩
      rw [samePg_iff.2 rfl]
      repeat ((conv => whnf); first | refine Br.t ?_ | refine Br.f ?_ | refine ⟨rfl, ?_⟩)
      conv => whnf
      refine Br.mk (fun q => ?_) (fun q => ?_)
      · repeat ((conv => whnf); first | refine Br.t ?_ | refine Br.f ?_ | refine ⟨rfl, ?_⟩)
        conv => whnf
        refine ⟨by kernel_rfl, ?_⟩
        repeat ((conv => whnf); first | refine Br.t ?_ | refine Br.f ?_ | refine ⟨rfl, ?_⟩)
        conv => whnf
        refine fin (target := []) rfl (Nat.zero_le _) (by simp) ?_ rfl
        rw [List.length_map]
        simp
      · exfalso
        simp at q
        omega
    · rw [if_neg h1]
      repeat ((conv => whnf); first | refine Br.t ?_ | refine Br.f ?_ | refine ⟨rfl, ?_⟩)
      conv => whnf
      refine Br.mk (fun q => ?_) (fun q => by simp at q; exact absurd q h1)
      repeat ((conv => whnf); first | refine Br.t ?_ | refine Br.f ?_ | refine ⟨rfl, ?_⟩)
      conv => whnf
      refine fin (target := []) rfl (Nat.zero_le _) (by simp) rfl rfl
end Go.Proofs.Ytdbmfnhbgacldaa.Am
