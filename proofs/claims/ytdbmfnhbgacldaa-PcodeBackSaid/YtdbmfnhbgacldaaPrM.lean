/- Plain laws: a program's bytes are read as they were written; fronts are too short; what is read is written so. -/
import Derived.Test.YtdbmfnhbgacldaaPrK
namespace Go.Proofs.Ytdbmfnhbgacldaa.Am
set_option autoImplicit false
set_option linter.unusedVariables false
set_option linter.unusedSimpArgs false
set_option maxRecDepth 10000
/-- the reader has read these bytes -/
def Ate (s s' : Rd) (m : List Nat) : Prop := s' = { s with p := s.p + m.length } ∧ s.why = 0 ∧ s.bs.drop s.p = m ++ s.bs.drop (s.p + m.length)
theorem Ate.nil {s : Rd} (h : s.why = 0) : Ate s s [] := ⟨by simp, h, by simp⟩
theorem Ate.trans {s s1 s2 : Rd} {m1 m2 : List Nat} (h : Ate s s1 m1) (k : Ate s1 s2 m2) : Ate s s2 (m1 ++ m2) := by
  obtain ⟨rfl, h2, h3⟩ := h
  obtain ⟨rfl, k2, k3⟩ := k
  simp only at k3
  refine ⟨?_, h2, ?_⟩
  · simp [Nat.add_assoc]
  · rw [h3, k3, List.length_append, List.append_assoc, Nat.add_assoc]
theorem num_ate {s : Rd} {mx : Int} (hok : s.ok) (h : (s.num mx).2.why = 0) : Ate s (s.num mx).2 (putN (s.num mx).1) ∧ ((s.num mx).1 : Int) ≤ mx := by
  obtain ⟨n, e, hn, h0, hd, hp⟩ := num_of hok h
  rw [e]
  exact ⟨⟨rfl, h0, hd⟩, hn⟩
theorem fld_set (x : Nd) (c : Nat) (v : Int) (d : Nat) (hc : c = 1 ∨ c = 2 ∨ c = 3) (hd : d = 1 ∨ d = 2 ∨ d = 3) : fld (setF x c v) d = if d = c then v else fld x d := by
  rcases hc with rfl | rfl | rfl <;> rcases hd with rfl | rfl | rfl <;> rfl
theorem set_fst (x : Nd) (c : Nat) (v : Int) : (setF x c v).1 = x.1 := by
  unfold setF; split
  · rfl
  · split <;> rfl
theorem nd_ext {x y : Nd} (h0 : x.1 = y.1) (h : ∀ c, c = 1 ∨ c = 2 ∨ c = 3 → fld x c = fld y c) : x = y := by
  have k1 := h 1 (by omega)
  have k2 := h 2 (by omega)
  have k3 := h 3 (by omega)
  obtain ⟨x1, x2, x3, x4⟩ := x
  obtain ⟨y1, y2, y3, y4⟩ := y
  simp [fld] at k1 k2 k3 h0
  rw [h0, k1, k2, k3]
theorem num_bad {s : Rd} (h : s.why ≠ 0) (mx : Int) : s.num mx = (0, s) := by unfold Rd.num; rw [if_pos h]
theorem fld_bad : ∀ (l : List Nat) (x : Nd) {s : Rd}, s.why ≠ 0 → (rdFld l x s).2 = s
  | [], _, _, _ => rfl
  | c :: l, x, s, h => by
    rw [rdFld, num_bad h]
    exact fld_bad l _ h
theorem node_bad {s : Rd} (h : s.why ≠ 0) : (rdNode s).2 = s := by
  unfold rdNode
  rw [num_bad h]
  exact fld_bad _ _ h
theorem nodes_bad {s : Rd} (h : s.why ≠ 0) : ∀ (k : Nat) (l : List Nd), rdNodes k l s = (l, s)
  | 0, _ => rfl
  | k + 1, l => by rw [rdNodes, if_neg h]
theorem nodesR_bad {s : Rd} (h : s.why ≠ 0) : (nodesR s).2 = s := by
  unfold nodesR
  rw [num_bad h, nodes_bad h]
theorem fns_bad {s : Rd} (h : s.why ≠ 0) : ∀ (k : Nat) (l : List (List Nd)), rdFns k l s = (l, s)
  | 0, _ => rfl
  | k + 1, l => by rw [rdFns, if_neg h]
theorem fld_ate : ∀ (l : List Nat) (x : Nd) (s : Rd), s.ok → l.Nodup → (∀ c ∈ l, c = 1 ∨ c = 2 ∨ c = 3) → (rdFld l x s).2.why = 0 →
    Ate s (rdFld l x s).2 (l.flatMap fun c => putN (fld (rdFld l x s).1 c).toNat) ∧ (rdFld l x s).1.1 = x.1 ∧ ∀ d, d = 1 ∨ d = 2 ∨ d = 3 → d ∉ l → fld (rdFld l x s).1 d = fld x d
  | [], x, s, _, _, _, h => ⟨Ate.nil h, rfl, fun _ _ _ => rfl⟩
  | c :: l, x, s, hok, hnd, hm, h => by
    rw [rdFld] at h ⊢
    have hw : (s.num 64).2.why = 0 := by
      by_cases q : (s.num 64).2.why = 0
      · exact q
      · rw [fld_bad l _ q] at h; exact absurd h q
    obtain ⟨a1, a2⟩ := num_ate hok hw
    rw [List.nodup_cons] at hnd
    obtain ⟨b1, b2, b3⟩ := fld_ate l (setF x c (s.num 64).1) (s.num 64).2 (num_ok hok 64) hnd.2 (fun d hd => hm d (by simp [hd])) h
    have hc := hm c (by simp)
    have ec : fld (rdFld l (setF x c (s.num 64).1) (s.num 64).2).1 c = (s.num 64).1 := by
      rw [b3 c hc hnd.1, fld_set x c _ c hc hc, if_pos rfl]
    refine ⟨?_, by rw [b2, set_fst], fun d hd hdn => ?_⟩
    · rw [List.flatMap_cons, ec, Int.toNat_natCast]
      exact a1.trans b1
    · simp only [List.mem_cons, not_or] at hdn
      rw [b3 d hd hdn.2, fld_set x c _ d hc hd, if_neg hdn.1]
theorem parts_nodup (k : Int) : (partsL k).Nodup := by unfold partsL; (repeat' split) <;> decide
theorem node_ate {s : Rd} (hok : s.ok) (h : (rdNode s).2.why = 0) : Ate s (rdNode s).2 (nodeN (rdNode s).1) := by
  unfold rdNode at h ⊢
  have hw : (s.num 9).2.why = 0 := by
    by_cases q : (s.num 9).2.why = 0
    · exact q
    · rw [fld_bad _ _ q] at h; exact absurd h q
  obtain ⟨a1, a2⟩ := num_ate hok hw
  obtain ⟨b1, b2, b3⟩ := fld_ate _ _ _ (num_ok hok 9) (parts_nodup _) (fun c hc => parts_mem hc) h
  rw [nodeN, b2]
  simp only [Int.toNat_natCast]
  exact a1.trans b1
theorem nodes_ate : ∀ (k : Nat) (l : List Nd) (s : Rd), s.ok → (rdNodes k l s).2.why = 0 → ∃ m, (rdNodes k l s).1 = l ++ m ∧ m.length = k ∧ Ate s (rdNodes k l s).2 (m.flatMap nodeN)
  | 0, l, s, _, h => ⟨[], by simp [rdNodes], rfl, Ate.nil h⟩
  | k + 1, l, s, hok, h => by
    rw [rdNodes] at h ⊢
    by_cases hs : s.why = 0
    · rw [if_pos hs] at h ⊢
      have hw : (rdNode s).2.why = 0 := by
        by_cases q : (rdNode s).2.why = 0
        · exact q
        · rw [nodes_bad q] at h; exact absurd h q
      obtain ⟨m, e1, e2, e3⟩ := nodes_ate k _ _ (rdNode_ok hok) h
      refine ⟨(rdNode s).1 :: m, by rw [e1]; simp, by simp [e2], ?_⟩
      rw [List.flatMap_cons]
      exact (node_ate hok hw).trans e3
    · rw [if_neg hs] at h; exact absurd h hs
theorem nodesR_ate {s : Rd} (hok : s.ok) (h : (nodesR s).2.why = 0) : Ate s (nodesR s).2 (fnN (nodesR s).1) := by
  unfold nodesR at h ⊢
  have hw : (s.num 64).2.why = 0 := by
    by_cases q : (s.num 64).2.why = 0
    · exact q
    · rw [nodes_bad q] at h; exact absurd h q
  obtain ⟨a1, a2⟩ := num_ate hok hw
  obtain ⟨m, e1, e2, e3⟩ := nodes_ate _ _ _ (num_ok hok 64) h
  rw [List.nil_append] at e1
  rw [e1, fnN, e2]
  exact a1.trans e3
theorem fns_ate : ∀ (k : Nat) (l : List (List Nd)) (s : Rd), s.ok → (rdFns k l s).2.why = 0 → ∃ m, (rdFns k l s).1 = l ++ m ∧ m.length = k ∧ Ate s (rdFns k l s).2 (m.flatMap fnN)
  | 0, l, s, _, h => ⟨[], by simp [rdFns], rfl, Ate.nil h⟩
  | k + 1, l, s, hok, h => by
    rw [rdFns] at h ⊢
    by_cases hs : s.why = 0
    · rw [if_pos hs] at h ⊢
      have hw : (nodesR s).2.why = 0 := by
        by_cases q : (nodesR s).2.why = 0
        · exact q
        · rw [fns_bad q] at h; exact absurd h q
      obtain ⟨m, e1, e2, e3⟩ := fns_ate k _ _ (nodesR_ok hok) h
      refine ⟨(nodesR s).1 :: m, by rw [e1]; simp, by simp [e2], ?_⟩
      rw [List.flatMap_cons]
      exact (nodesR_ate hok hw).trans e3
    · rw [if_neg hs] at h; exact absurd h hs
theorem strOf_alp : strOf alp = alpS := rfl
theorem done_zero {s : Rd} (h : s.done.why = 0) (hok : s.ok) : s.why = 0 ∧ s.p = s.bs.length := by
  have := hok.2.1
  unfold Rd.done at h
  split at h
  · rename_i hw
    simp only [Rd.fail, hw.1, if_true] at h
    simp at h
  · omega
theorem raw_ate {s : Rd} {n : Int} (hok : s.ok) (h : (s.raw n).2.why = 0) : Ate s (s.raw n).2 (s.raw n).1 := by
  obtain ⟨h0, hw, hlen, e, hd, hp⟩ := raw_of hok h
  have e2 : (s.raw n).2 = { s with p := s.p + n.toNat } := by rw [e]
  refine ⟨by rw [e2, hlen], hw, by rw [hlen]; exact hd⟩
theorem readP_once {bs : List Nat} (hl : bs.length ≤ 1000000) (hb : ∀ b ∈ bs, b < 256) (h : (readP bs).2.2 = 0) : PgOk (readP bs).1 ∧ bs = progN (readP bs).1 := by
  have ok0 : Rd.ok ⟨bs, 0, 0, 0⟩ := ⟨hl, Nat.zero_le _, hb⟩
  unfold readP at h ⊢
  by_cases hlong : 65536 < bs.length
  · rw [if_pos hlong] at h; simp at h
  rw [if_neg hlong] at h ⊢
  simp only at h ⊢
  have ok1 := raw_ok ok0 4
  have rb := (raw_bytes ok0 4).2
  have ra := fun hw => raw_ate (n := 4) ok0 hw
  obtain ⟨m1, s1, f1⟩ : ∃ m s, (Rd.mk bs 0 0 0).raw 4 = (m, s) := ⟨_, _, rfl⟩
  rw [f1] at h ⊢ ok1 rb ra
  simp only at h ⊢ ok1 rb ra
  by_cases hh : s1.why = 0 ∧ strOf m1 ≠ alpS
  · rw [if_pos hh] at h; simp at h
  rw [if_neg hh] at h ⊢
  unfold tailP at h ⊢
  simp only at h ⊢
  have ok2 := num_ok ok1 16
  have na := fun hw => num_ate (mx := 16) ok1 hw
  obtain ⟨a, s2, f2⟩ : ∃ m s, s1.num 16 = (m, s) := ⟨_, _, rfl⟩
  rw [f2] at h ⊢ ok2 na
  simp only at h ⊢ ok2 na
  have ok3 := num_ok ok2 16
  have nb := fun hw => num_ate (mx := 16) ok2 hw
  obtain ⟨b, s3, f3⟩ : ∃ m s, s2.num 16 = (m, s) := ⟨_, _, rfl⟩
  rw [f3] at h ⊢ ok3 nb
  simp only at h ⊢ ok3 nb
  have ok4 := num_ok ok3 8
  have nc := fun hw => num_ate (mx := 8) ok3 hw
  obtain ⟨c, s4, f4⟩ : ∃ m s, s3.num 8 = (m, s) := ⟨_, _, rfl⟩
  rw [f4] at h ⊢ ok4 nc
  simp only at h ⊢ ok4 nc
  have ok5 := num_ok ok4 16
  have nn := fun hw => num_ate (mx := 16) ok4 hw
  obtain ⟨n, s5, f5⟩ : ∃ m s, s4.num 16 = (m, s) := ⟨_, _, rfl⟩
  rw [f5] at h ⊢ ok5 nn
  simp only at h ⊢ ok5 nn
  have ok6 := rdFns_ok n [] s5 ok5
  have fa := fns_ate n [] s5 ok5
  obtain ⟨fs, s6, f6⟩ : ∃ m s, rdFns n [] s5 = (m, s) := ⟨_, _, rfl⟩
  rw [f6] at h ⊢ ok6 fa
  simp only at h ⊢ ok6 fa
  by_cases h1 : s6.done.why ≠ 0
  · rw [if_pos h1] at h; simp only at h; omega
  rw [if_neg h1] at h ⊢
  by_cases h2 : (chk ⟨a, b, c, fs⟩).2.2 ≠ 0
  · rw [if_pos h2] at h; simp only at h; exact absurd h h2
  rw [if_neg h2]
  have h2 : (chk ⟨a, b, c, fs⟩).2.2 = 0 := by omega
  refine ⟨chk_zero h2, ?_⟩
  obtain ⟨w6, p6⟩ := done_zero (by omega) ok6
  obtain ⟨m, em, el, A6⟩ := fa w6
  rw [List.nil_append] at em
  subst em
  obtain ⟨A5, _⟩ := nn A6.2.1
  obtain ⟨A4, _⟩ := nc A5.2.1
  obtain ⟨A3, _⟩ := nb A4.2.1
  obtain ⟨A2, _⟩ := na A3.2.1
  have A1 := ra A2.2.1
  have em1 : m1 = alp := by
    refine strOf_inj rb (by simp [alp]) ?_
    rw [strOf_alp]
    by_cases e : strOf m1 = alpS
    · exact e
    · exact absurd ⟨A2.2.1, e⟩ hh
  have A := A1.trans (A2.trans (A3.trans (A4.trans (A5.trans A6))))
  obtain ⟨e1, _, e3⟩ := A
  simp only at e3
  rw [List.drop_zero] at e3
  have e4 : bs.drop (0 + (m1 ++ (putN a ++ (putN b ++ (putN c ++ (putN n ++ fs.flatMap fnN))))).length) = [] := by
    apply List.drop_eq_nil_of_le
    have e5 : s6.bs = bs := by rw [e1]
    have e6 : s6.p = 0 + (m1 ++ (putN a ++ (putN b ++ (putN c ++ (putN n ++ fs.flatMap fnN))))).length := by rw [e1]
    rw [← e6, p6, e5]
    exact Nat.le_refl _
  rw [e4, List.append_nil] at e3
  rw [e3, em1]
  simp only [progN, numsP, List.flatMap_cons, List.flatMap_nil, List.append_nil, List.append_assoc, Int.toNat_natCast, el]
theorem readP_bad {bs : List Nat} (h : (readP bs).2.2 ≠ 0) : (readP bs).1 = Pg.zero := by
  unfold readP tailP at h ⊢
  simp only at h ⊢
  split
  · rfl
  · rename_i h0
    rw [if_neg h0] at h
    split
    · rfl
    · rename_i h1
      rw [if_neg h1] at h
      split
      · rfl
      · rename_i h2
        rw [if_neg h2] at h
        split
        · rfl
        · rename_i h3
          rw [if_neg h3] at h
          exact absurd rfl h
end Go.Proofs.Ytdbmfnhbgacldaa.Am
namespace Go.Proofs.Ytdbmfnhbgacldaa.Am
set_option autoImplicit false
set_option linter.unusedVariables false
set_option linter.unusedSimpArgs false
set_option maxRecDepth 10000
set_option pp.maxSteps 20000
set_option pp.proofs false
theorem okPg_of {p : Pg} (h : PgOk p) : okPg p := ⟨by have := h.n; omega, fun f hf => by have := (h.f f hf).2.1; omega⟩
set_option maxHeartbeats 1000000 in
theorem law9 (bs : List Nat) (hl : bs.length ≤ 9223372036854775807) (hb : ∀ b ∈ bs, b < 256) : CallW Try.prog G0 9 [.i (.sl (bs.map by8))] [] (fun r st' => r = .i (.bool true) ∧ st' = []) := by
  refine call_of_bodyF 0 (Nat.le_refl _) Try.func9 rfl (fun a w => Try.call9 a w) (wpx_ok (own := own0) _ _ _ ?_)
  repeat ((conv => whnf); first | refine Br.t ?_ | refine Br.f ?_ | refine ⟨rfl, ?_⟩)
  conv => whnf
  refine CallW.mono (awake15.pure _ rfl rfl) ?_
  rintro r st' ⟨rfl, rfl⟩
  repeat ((conv => whnf); first | refine Br.t ?_ | refine Br.f ?_ | refine ⟨rfl, ?_⟩)
  conv => whnf
  refine Br.mk (fun z => ?_) (fun z => ?_)
  · repeat ((conv => whnf); first | refine Br.t ?_ | refine Br.f ?_ | refine ⟨rfl, ?_⟩)
    conv => whnf
    refine CallW.mono (awake15.pure _ rfl rfl) ?_
    rintro r st' ⟨rfl, rfl⟩
    repeat ((conv => whnf); first | refine Br.t ?_ | refine Br.f ?_ | refine ⟨rfl, ?_⟩)
    conv => whnf
    refine fin (target := []) rfl (Nat.zero_le _) (by simp) rfl rfl
  · have z : bs.length ≤ 70000 := by simp at z; omega
    repeat ((conv => whnf); first | refine Br.t ?_ | refine Br.f ?_ | refine ⟨rfl, ?_⟩)
    conv => whnf
    refine CallW.mono ((read22 bs (by omega) hb).pure _ rfl rfl) ?_
    rintro r st' ⟨rfl, rfl⟩
    by_cases h : (readP bs).2.2 = 0
    · obtain ⟨ok, e⟩ := readP_once (by omega) hb h
      have ec := chk_ok ok
      obtain ⟨R, hR⟩ : ∃ R, R = readP bs := ⟨_, rfl⟩
      rw [← hR] at h ok e ec ⊢
      obtain ⟨P, a, w⟩ := R
      simp only at h ok e ec ⊢
      subst h
      have cw := write17 P (okPg_of ok)
      rw [ec, if_pos rfl, ← e] at cw
      repeat ((conv => whnf); first | refine Br.t ?_ | refine Br.f ?_ | refine ⟨rfl, ?_⟩)
      conv => whnf
      refine CallW.mono (cw.pure _ rfl rfl) ?_
      rintro r st' ⟨rfl, rfl⟩
      repeat ((conv => whnf); first | refine Br.t ?_ | refine Br.f ?_ | refine ⟨rfl, ?_⟩)
      conv => whnf
      refine ⟨isB_ok (isB_map bs), ?_⟩
      repeat ((conv => whnf); first | refine Br.t ?_ | refine Br.f ?_ | refine ⟨rfl, ?_⟩)
      conv => whnf
      refine ⟨isB_ok (isB_map bs), ?_⟩
      repeat ((conv => whnf); first | refine Br.t ?_ | refine Br.f ?_ | refine ⟨rfl, ?_⟩)
      conv => whnf
      refine fin (target := []) rfl (Nat.zero_le _) (by simp) ?_ rfl
      simp
    · have e := readP_bad h
      rw [e]
      repeat ((conv => whnf); first | refine Br.t ?_ | refine Br.f ?_ | refine ⟨rfl, ?_⟩)
      conv => whnf
      refine Br.mk (fun q => ?_) (fun q => by simp at q; exact absurd q h)
      repeat ((conv => whnf); first | refine Br.t ?_ | refine Br.f ?_ | refine ⟨rfl, ?_⟩)
      conv => whnf
      refine fin (target := []) rfl (Nat.zero_le _) (by simp) rfl rfl
end Go.Proofs.Ytdbmfnhbgacldaa.Am
