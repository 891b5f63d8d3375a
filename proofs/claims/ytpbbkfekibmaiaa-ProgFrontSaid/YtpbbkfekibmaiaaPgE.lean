/- What is wrong with a program first: package prog and the reference tell the same, and 'nothing' just of programs that may be. No condition but those of each lemma. -/
import Derived.Test.YtpbbkfekibmaiaaQx3
import Derived.Test.YtpbbkfekibmaiaaQx4
import Derived.Test.YtpbbkfekibmaiaaQx8
import Derived.Test.YtpbbkfekibmaiaaPgD
namespace Go.Proofs.Ytpbbkfekibmaiaa.Pg
open Go.RowKit Go.Proofs.YtpbbkfekibmaiaaW.PrintWords Go.Proofs.YtpbbkfekibmaiaaW.PrintLast Go.Proofs.YtpbbkfekibmaiaaW.PrintMore Go.Proofs.Ytpbbkfekibmaiaa.Q Go.Proofs.Ytpbbkfekibmaiaa.Pl
/-- A call in function f that comes back to it. -/
def Cyc (fs : List (List Nd)) (f : Nat) (nd : Nd) : Prop := nd.f0 = 7 ∧ (nd.f1 = (f : Int) ∨ Conn (E fs) nd.f1.toNat f)
/-- Calls go round nowhere. -/
def Acyc (fs : List (List Nd)) : Prop := ∀ f, f < fs.length → ∀ nd ∈ fs.getD f [], ¬ Cyc fs f nd
/-- All nodes may be. -/
def Nodes (g l s : Int) (fs : List (List Nd)) : Prop := ∀ f ∈ fs, f ≠ [] ∧ f.length ≤ 64 ∧ ∀ nd ∈ f, okN g l s (fs.length : Int) (f.length : Int) nd
/-- A program that may be. -/
def OkP (g l s : Int) (fs : List (List Nd)) : Prop := (0 ≤ g ∧ g ≤ 16) ∧ (0 ≤ l ∧ l ≤ 16) ∧ (0 ≤ s ∧ s ≤ 8) ∧ (0 < fs.length ∧ fs.length ≤ 16) ∧ Nodes g l s fs ∧ Acyc fs
theorem Nodes.calls0 {g l s : Int} {fs : List (List Nd)} (h : Nodes g l s fs) : Calls0 fs := by
  intro f hf nd hnd h7
  have hk := (h f hf).2.2 nd hnd
  unfold okN inr at hk
  rcases hk with h | h | h | h | h | h | h | h
  all_goals first | omega | exact ⟨h.2.1.1, h.2.1.2⟩
theorem Nodes.len {g l s : Int} {fs : List (List Nd)} (h : Nodes g l s fs) : ∀ f ∈ fs, f.length ≤ 100000 := fun f hf => by have := (h f hf).2.1; omega
section
variable (g l s : Int) (fs : List (List Nd))
/-- Both go through the functions from f on, and this one's nodes from i on, and tell the same. -/
def Same2 (m : List (List Int)) (f i : Nat) (b : Prop) : Prop :=
  ∃ (x y : Int) (r : Bool), Ev (fun k => prog_round.l1 k (f : Int) fs (fs.length : Int) (f : Int) (fs.getD f []) ((fs.getD f []).length : Int) (i : Int) g l s fs) (x, y, r) ∧
    Ev (fun k => alibiref05_Check.l3 k (fs.length : Int) m (f : Int) (i : Int) g l s fs) (if r = true then (x, y, 8) else (0, 0, 0)) ∧ (r = true ↔ b)
def Same1 (m : List (List Int)) (f : Nat) (b : Prop) : Prop :=
  ∃ (x y : Int) (r : Bool), Ev (fun k => prog_round.l0 k fs (fs.length : Int) (f : Int) g l s fs) (x, y, r) ∧
    Ev (fun k => alibiref05_Check.l2 k (fs.length : Int) m (f : Int) g l s fs) (if r = true then (x, y, 8) else (0, 0, 0)) ∧ (r = true ↔ b)
theorem same2_loop (hc : Calls0 fs) (hn : fs.length ≤ 16) (hw : ∀ f ∈ fs, f.length ≤ 100000) (m : List (List Int)) (hm : Sq fs.length m) (hon : ∀ a b, a < fs.length → b < fs.length → (on m a b ↔ Conn (E fs) a b)) (f : Nat) (hf : f < fs.length) (b : Prop) (hnext : Same1 g l s fs m (f + 1) b) (d : Nat) :
    ∀ i : Nat, i + d = fs[f].length → Same2 g l s fs m f i ((∃ nd ∈ fs[f].drop i, Cyc fs f nd) ∨ b) := by
  obtain ⟨hgd, hmem⟩ := getD_mem hf
  have hlen := hw _ hmem
  unfold Same2
  rw [hgd]
  induction d with
  | zero =>
    intro i hd
    obtain ⟨x, y, r, h1, h2, h3⟩ := hnext
    rw [← w64_succ f fs.length hf (by omega)] at h1 h2
    refine ⟨x, y, r, Ev.one h1 fun k => ?_, Ev.one h2 fun k => ?_, ?_⟩
    · rw [prog_round.l1, if_neg (by omega)]
    · rw [alibiref05_Check.l3, if_pos (by omega), if_pos (by omega), rdF fs f hf, if_neg (by omega)]
    · rw [h3, List.drop_of_length_le (by omega)]; simp
  | succ d ih =>
    intro i hd
    have hi : i < fs[f].length := by omega
    have hr := rdN fs[f] i hi
    have hs := w64_succ i fs[f].length hi (by omega)
    obtain ⟨x, y, r, h1, h2, h3⟩ := ih (i + 1) (by omega)
    rw [← hs] at h1 h2
    rw [drop_cons fs[f] i hi]
    by_cases h7 : fs[f][i].f0 = 7
    · obtain ⟨ha0, ha1⟩ := hc _ hmem _ (List.getElem_mem hi) h7
      obtain ⟨a, ha⟩ := Int.eq_ofNat_of_zero_le ha0
      have han : a < fs.length := by omega
      obtain ⟨q, t, hev, hq⟩ := reaches_ev g l s fs hc hw f a han
      have hcyc : Cyc fs f fs[f][i] ↔ q = true := by
        unfold Cyc
        rw [hq, ha, Int.toNat_natCast]
        constructor
        · rintro ⟨_, h | h⟩
          · exact .inl (by omega)
          · exact .inr h
        · rintro (h | h)
          · exact ⟨h7, .inl (by omega)⟩
          · exact ⟨h7, .inr h⟩
      have hev' := hev
      cases hqc : q with
      | true =>
        subst hqc
        refine ⟨(f : Int), (i : Int), true, ?_, ?_, ?_⟩
        · refine Ev.one (Ev.bind hev' ?_) (fun k => by rw [prog_round.l1, if_pos (by omega), if_pos (by omega), if_pos (by omega), hr, if_pos h7, if_pos (by omega), if_pos (by omega), ha, Int.toNat_natCast])
          exact Ev.ret fun k => by rw [if_pos rfl]
        · refine Ev.one (Ev.now _) fun k => ?_
          rw [alibiref05_Check.l3, if_pos (by omega), if_pos (by omega), rdF fs f hf, if_pos (by omega), if_pos (by omega), hr, if_pos h7]
          by_cases e : fs[f][i].f1 = (f : Int)
          · rw [if_pos e, if_pos rfl]
          · have hcon : Conn (E fs) a f := by
              rcases hq.1 rfl with h | h
              · exact absurd (by omega) e
              · exact h
            have hone : on m a f := (hon a f han hf).2 hcon
            have hl1 := hm.1
            have hl2 := hm.2 a han
            unfold on at hone
            rw [if_neg e, if_pos (by omega), if_pos (by omega), ha, rdM, if_pos (by omega), rdI, if_pos hone, if_pos rfl]
        · exact ⟨fun _ => .inl ⟨_, List.mem_cons_self, hcyc.2 rfl⟩, fun _ => rfl⟩
      | false =>
        subst hqc
        have hno : ¬ (a = f ∨ Conn (E fs) a f) := fun h => by have := hq.2 h; cases this
        refine ⟨x, y, r, ?_, ?_, ?_⟩
        · refine Ev.one (Ev.bind hev' ?_) (fun k => by rw [prog_round.l1, if_pos (by omega), if_pos (by omega), if_pos (by omega), hr, if_pos h7, if_pos (by omega), if_pos (by omega), ha, Int.toNat_natCast])
          exact Ev.congr (fun k => by rw [if_neg Bool.false_ne_true]) h1
        · refine Ev.one h2 fun k => ?_
          have hone : ¬ on m a f := fun h => hno (.inr ((hon a f han hf).1 h))
          have hl1 := hm.1
          have hl2 := hm.2 a han
          unfold on at hone
          rw [alibiref05_Check.l3, if_pos (by omega), if_pos (by omega), rdF fs f hf, if_pos (by omega), if_pos (by omega), hr, if_pos h7, if_neg (fun e => hno (.inl (by omega))), if_pos (by omega), if_pos (by omega), ha, rdM, if_pos (by omega), rdI, if_neg hone]
        · rw [h3]
          constructor
          · rintro (⟨nd, h, hh⟩ | h)
            · exact .inl ⟨nd, List.mem_cons_of_mem _ h, hh⟩
            · exact .inr h
          · rintro (⟨nd, h, hh⟩ | h)
            · rcases List.mem_cons.1 h with rfl | h
              · have := hcyc.1 hh; cases this
              · exact .inl ⟨nd, h, hh⟩
            · exact .inr h
    · refine ⟨x, y, r, Ev.one h1 fun k => ?_, Ev.one h2 fun k => ?_, ?_⟩
      · rw [prog_round.l1, if_pos (by omega), if_pos (by omega), if_pos (by omega), hr, if_neg h7]
      · rw [alibiref05_Check.l3, if_pos (by omega), if_pos (by omega), rdF fs f hf, if_pos (by omega), if_pos (by omega), hr, if_neg h7]
      · rw [h3]
        constructor
        · rintro (⟨nd, h, hh⟩ | h)
          · exact .inl ⟨nd, List.mem_cons_of_mem _ h, hh⟩
          · exact .inr h
        · rintro (⟨nd, h, hh⟩ | h)
          · rcases List.mem_cons.1 h with rfl | h
            · exact absurd hh.1 h7
            · exact .inl ⟨nd, h, hh⟩
          · exact .inr h
theorem same1_loop (hc : Calls0 fs) (hn : fs.length ≤ 16) (hw : ∀ f ∈ fs, f.length ≤ 100000) (m : List (List Int)) (hm : Sq fs.length m) (hon : ∀ a b, a < fs.length → b < fs.length → (on m a b ↔ Conn (E fs) a b)) (d : Nat) :
    ∀ f : Nat, f + d = fs.length → Same1 g l s fs m f (∃ j, f ≤ j ∧ j < fs.length ∧ ∃ nd ∈ fs.getD j [], Cyc fs j nd) := by
  induction d with
  | zero =>
    intro f hd
    refine ⟨0, 0, false, Ev.one (Ev.now _) fun k => ?_, Ev.one (Ev.now _) fun k => ?_, ?_⟩
    · rw [prog_round.l0, if_neg (by omega)]
    · rw [alibiref05_Check.l2, if_neg (by omega)]; rfl
    · constructor
      · intro h; cases h
      · rintro ⟨j, h1, h2, _⟩; omega
  | succ d ih =>
    intro f hd
    have hf : f < fs.length := by omega
    obtain ⟨hgd, _⟩ := getD_mem hf
    obtain ⟨x, y, r, h1, h2, h3⟩ := same2_loop g l s fs hc hn hw m hm hon f hf _ (ih (f + 1) (by omega)) fs[f].length 0 (by omega)
    rw [hgd] at h1
    refine ⟨x, y, r, Ev.one h1 fun k => ?_, Ev.one h2 fun k => ?_, ?_⟩
    · rw [prog_round.l0, if_pos (by omega), if_pos (by omega), if_pos (by omega), rdF fs f hf]; rfl
    · rw [alibiref05_Check.l2, if_pos (by omega)]; rfl
    · rw [h3, List.drop_zero]
      constructor
      · rintro (⟨nd, h, hh⟩ | ⟨j, a, b, c⟩)
        · exact ⟨f, Nat.le_refl _, hf, nd, by rw [hgd]; exact h, hh⟩
        · exact ⟨j, by omega, b, c⟩
      · rintro ⟨j, a, b, c⟩
        by_cases e : j = f
        · subst e; rw [hgd] at c; exact .inl c
        · exact .inr ⟨j, by omega, b, c⟩
/-- What both checks tell: the same; (0, 0, 0) just where b holds. -/
def Told (p q : Nat → Option (Int × Int × Int)) (b : Prop) : Prop := ∃ r : Int × Int × Int, Ev p r ∧ Ev q r ∧ (r.2.2 = 0 → r = (0, 0, 0)) ∧ (r = (0, 0, 0) ↔ b)
theorem bad_node (hn : fs.length ≤ 16) (f : Nat) (hf : f < fs.length) (h64 : fs[f].length ≤ 64) (d : Nat) :
    ∀ i : Nat, i + d = fs[f].length → (¬ ∀ nd ∈ fs[f].drop i, okN g l s (fs.length : Int) (fs[f].length : Int) nd) → ∃ r : Int × Int × Int, Ev (fun k => prog_Check.l1 k (f : Int) fs[f] fs (fs.length : Int) (f : Int) fs[f] (fs[f].length : Int) (i : Int) g l s fs) r ∧ Ev (fun k => alibiref05_Check.l1 k (fs.length : Int) (f : Int) (i : Int) g l s fs) r ∧ r.2.2 ≠ 0 := by
  induction d with
  | zero =>
    intro i hd hbad
    rw [List.drop_of_length_le (by omega)] at hbad
    exact absurd (fun _ h => by cases h) hbad
  | succ d ih =>
    intro i hd hbad
    have hi : i < fs[f].length := by omega
    have hr := rdN fs[f] i hi
    have hs := w64_succ i fs[f].length hi (by omega)
    rw [drop_cons fs[f] i hi] at hbad
    have m1 := may_ev g l s fs fs[f][i] (fs[f].length : Int)
    have m2 := rmay_ev g l s fs fs[f][i] (fs[f].length : Int)
    by_cases hk : okN g l s (fs.length : Int) (fs[f].length : Int) fs[f][i]
    · obtain ⟨r, h1, h2, h3⟩ := ih (i + 1) (by omega) (fun h => hbad fun nd hnd => by
        rcases List.mem_cons.1 hnd with rfl | e
        · exact hk
        · exact h nd e)
      rw [← hs] at h1 h2
      rw [decide_eq_true hk] at m1 m2
      refine ⟨r, ?_, ?_, h3⟩
      · refine Ev.one (Ev.bind m1 ?_) (fun k => by rw [prog_Check.l1, if_pos (by omega), if_pos (by omega), if_pos (by omega), hr])
        exact Ev.congr (fun k => by rw [if_pos rfl]) h1
      · refine Ev.one (Ev.bind m2 ?_) (fun k => by rw [alibiref05_Check.l1, if_pos (by omega), if_pos (by omega), rdF fs f hf, if_pos (by omega), if_pos (by omega), hr])
        exact Ev.congr (fun k => by rw [if_pos rfl]) h2
    · rw [decide_eq_false hk] at m1 m2
      refine ⟨((f : Int), (i : Int), 3), ?_, ?_, fun h => (by cases h)⟩
      · refine Ev.one (Ev.bind m1 ?_) (fun k => by rw [prog_Check.l1, if_pos (by omega), if_pos (by omega), if_pos (by omega), hr])
        exact Ev.ret fun k => by rw [if_neg Bool.false_ne_true]
      · refine Ev.one (Ev.bind m2 ?_) (fun k => by rw [alibiref05_Check.l1, if_pos (by omega), if_pos (by omega), rdF fs f hf, if_pos (by omega), if_pos (by omega), hr])
        exact Ev.ret fun k => by rw [if_neg Bool.false_ne_true]
theorem l1_told (hn : fs.length ≤ 16) (f : Nat) (hf : f < fs.length) (h64 : fs[f].length ≤ 64) (b : Prop) (hnext : Told (fun k => prog_Check.l0 k fs (fs.length : Int) ((f + 1 : Nat) : Int) g l s fs) (fun k => alibiref05_Check.l0 k (fs.length : Int) ((f + 1 : Nat) : Int) g l s fs) b) (d : Nat) :
    ∀ i : Nat, i + d = fs[f].length → Told (fun k => prog_Check.l1 k (f : Int) fs[f] fs (fs.length : Int) (f : Int) fs[f] (fs[f].length : Int) (i : Int) g l s fs) (fun k => alibiref05_Check.l1 k (fs.length : Int) (f : Int) (i : Int) g l s fs)
      ((∀ nd ∈ fs[f].drop i, okN g l s (fs.length : Int) (fs[f].length : Int) nd) ∧ b) := by
  induction d with
  | zero =>
    intro i hd
    obtain ⟨r, h1, h2, h3, h4⟩ := hnext
    rw [← w64_succ f fs.length hf (by omega)] at h1 h2
    refine ⟨r, Ev.one h1 fun k => ?_, Ev.one h2 fun k => ?_, h3, ?_⟩
    · rw [prog_Check.l1, if_neg (by omega)]
    · rw [alibiref05_Check.l1, if_pos (by omega), if_pos (by omega), rdF fs f hf, if_neg (by omega)]
    · rw [h4, List.drop_of_length_le (by omega)]; simp
  | succ d ih =>
    intro i hd
    have hi : i < fs[f].length := by omega
    have hr := rdN fs[f] i hi
    have hs := w64_succ i fs[f].length hi (by omega)
    obtain ⟨r, h1, h2, h3, h4⟩ := ih (i + 1) (by omega)
    rw [← hs] at h1 h2
    rw [drop_cons fs[f] i hi]
    have m1 := may_ev g l s fs fs[f][i] (fs[f].length : Int)
    have m2 := rmay_ev g l s fs fs[f][i] (fs[f].length : Int)
    by_cases hk : okN g l s (fs.length : Int) (fs[f].length : Int) fs[f][i]
    · rw [decide_eq_true hk] at m1 m2
      refine ⟨r, ?_, ?_, h3, ?_⟩
      · refine Ev.one (Ev.bind m1 ?_) (fun k => by rw [prog_Check.l1, if_pos (by omega), if_pos (by omega), if_pos (by omega), hr])
        exact Ev.congr (fun k => by rw [if_pos rfl]) h1
      · refine Ev.one (Ev.bind m2 ?_) (fun k => by rw [alibiref05_Check.l1, if_pos (by omega), if_pos (by omega), rdF fs f hf, if_pos (by omega), if_pos (by omega), hr])
        exact Ev.congr (fun k => by rw [if_pos rfl]) h2
      · rw [h4]
        constructor
        · rintro ⟨a, c⟩
          refine ⟨fun nd h => ?_, c⟩
          rcases List.mem_cons.1 h with rfl | h
          · exact hk
          · exact a nd h
        · rintro ⟨a, c⟩
          exact ⟨fun nd h => a nd (List.mem_cons_of_mem _ h), c⟩
    · rw [decide_eq_false hk] at m1 m2
      refine ⟨((f : Int), (i : Int), 3), ?_, ?_, fun h => (by cases h), ?_⟩
      · refine Ev.one (Ev.bind m1 ?_) (fun k => by rw [prog_Check.l1, if_pos (by omega), if_pos (by omega), if_pos (by omega), hr])
        exact Ev.ret fun k => by rw [if_neg Bool.false_ne_true]
      · refine Ev.one (Ev.bind m2 ?_) (fun k => by rw [alibiref05_Check.l1, if_pos (by omega), if_pos (by omega), rdF fs f hf, if_pos (by omega), if_pos (by omega), hr])
        exact Ev.ret fun k => by rw [if_neg Bool.false_ne_true]
      · constructor
        · intro h; cases h
        · rintro ⟨a, _⟩; exact absurd (a _ List.mem_cons_self) hk
theorem l0_told (hn : fs.length ≤ 16) (d : Nat) : ∀ f : Nat, f + d = fs.length → (∀ j, ∀ h : j < fs.length, j < f → fs[j] ≠ [] ∧ fs[j].length ≤ 64 ∧ ∀ nd ∈ fs[j], okN g l s (fs.length : Int) (fs[j].length : Int) nd) →
    Told (fun k => prog_Check.l0 k fs (fs.length : Int) (f : Int) g l s fs) (fun k => alibiref05_Check.l0 k (fs.length : Int) (f : Int) g l s fs) (Nodes g l s fs ∧ Acyc fs) := by
  induction d with
  | zero =>
    intro f hd hb
    have hN : Nodes g l s fs := by
      intro x hx
      obtain ⟨j, hj, rfl⟩ := List.getElem_of_mem hx
      exact hb j hj (by omega)
    have hc := hN.calls0
    have hw := hN.len
    obtain ⟨m, hm, hon, hev⟩ := calls_ev g l s fs hc (by omega) hw
    obtain ⟨x, y, r, h1, h2, h3⟩ := same1_loop g l s fs hc hn hw m hm hon fs.length 0 (by omega)
    refine ⟨if r = true then (x, y, 8) else (0, 0, 0), ?_, ?_, ?_, ?_⟩
    · refine Ev.one (Ev.bind (g := fun k => prog_round.f k g l s fs) h1 ?_) (fun k => by rw [prog_Check.l0, if_neg (by omega)])
      exact Ev.ret fun k => by cases r <;> rfl
    · exact Ev.one (Ev.bind hev h2) fun k => by rw [alibiref05_Check.l0, if_neg (by omega)]
    · cases r
      · exact fun _ => rfl
      · intro h; cases h
    · have hac : Acyc fs ↔ ¬ r = true := by
        rw [h3]
        constructor
        · rintro h ⟨j, _, hj, nd, hnd, hc⟩; exact h j hj nd hnd hc
        · intro h j hj nd hnd hc; exact h ⟨j, Nat.zero_le _, hj, nd, hnd, hc⟩
      rw [hac]
      cases r
      · simp [hN]
      · simp
  | succ d ih =>
    intro f hd hb
    have hf : f < fs.length := by omega
    have hF := rdF fs f hf
    by_cases h0 : fs[f] = []
    · refine ⟨((f : Int), -1, 1), Ev.one (Ev.now _) fun k => ?_, Ev.one (Ev.now _) fun k => ?_, fun h => (by cases h), ?_⟩
      · rw [prog_Check.l0, if_pos (by omega), if_pos (by omega), if_pos (by omega), hF, h0, if_pos (by rfl)]
      · rw [alibiref05_Check.l0, if_pos (by omega), if_pos (by omega), if_pos (by omega), hF, h0, if_pos (by rfl)]
      · constructor
        · intro h; cases h
        · rintro ⟨a, _⟩; exact absurd h0 (a _ (List.getElem_mem hf)).1
    · have hne : fs[f].length ≠ 0 := fun h => h0 (List.length_eq_zero_iff.1 h)
      by_cases h64 : fs[f].length ≤ 64
      · by_cases hk : ∀ nd ∈ fs[f], okN g l s (fs.length : Int) (fs[f].length : Int) nd
        · have hnext := ih (f + 1) (by omega) (fun j h hj => by
            by_cases e : j = f
            · subst e; exact ⟨h0, h64, hk⟩
            · exact hb j h (by omega))
          obtain ⟨r, h1, h2, h3, h4⟩ := l1_told g l s fs hn f hf h64 _ hnext fs[f].length 0 (by omega)
          refine ⟨r, Ev.one h1 fun k => ?_, Ev.one h2 fun k => ?_, h3, ?_⟩
          · rw [prog_Check.l0, if_pos (by omega), if_pos (by omega), if_pos (by omega), hF, if_neg (by omega), if_neg (by omega)]; rfl
          · rw [alibiref05_Check.l0, if_pos (by omega), if_pos (by omega), if_pos (by omega), hF, if_neg (by omega), if_neg (by omega)]; rfl
          · rw [h4, List.drop_zero]
            exact ⟨fun h => h.2, fun h => ⟨hk, h⟩⟩
        · obtain ⟨r, h1, h2, h3⟩ := bad_node g l s fs hn f hf h64 fs[f].length 0 (by omega) (by rw [List.drop_zero]; exact hk)
          refine ⟨r, Ev.one h1 fun k => ?_, Ev.one h2 fun k => ?_, fun h => absurd h h3, ?_⟩
          · rw [prog_Check.l0, if_pos (by omega), if_pos (by omega), if_pos (by omega), hF, if_neg (by omega), if_neg (by omega)]; rfl
          · rw [alibiref05_Check.l0, if_pos (by omega), if_pos (by omega), if_pos (by omega), hF, if_neg (by omega), if_neg (by omega)]; rfl
          · constructor
            · intro h; rw [h] at h3; exact absurd rfl h3
            · rintro ⟨a, _⟩; exact absurd (a _ (List.getElem_mem hf)).2.2 hk
      · refine ⟨((f : Int), -1, 4), Ev.one (Ev.now _) fun k => ?_, Ev.one (Ev.now _) fun k => ?_, fun h => (by cases h), ?_⟩
        · rw [prog_Check.l0, if_pos (by omega), if_pos (by omega), if_pos (by omega), hF, if_neg (by omega), if_pos (by omega)]
        · rw [alibiref05_Check.l0, if_pos (by omega), if_pos (by omega), if_pos (by omega), hF, if_neg (by omega), if_pos (by omega)]
        · constructor
          · intro h; cases h
          · rintro ⟨a, _⟩; exact absurd (a _ (List.getElem_mem hf)).2.1 h64
/-- prog.Check and the reference tell the same, and (0, 0, 0) just of a program that may be. -/
theorem check_told : Told (fun k => prog_Check.f k g l s fs) (fun k => alibiref05_Check.f k g l s fs) (OkP g l s fs) := by
  by_cases h1 : 0 ≤ g ∧ 0 ≤ l ∧ 0 ≤ s ∧ 0 < fs.length
  · obtain ⟨a, b, c, e⟩ := h1
    have hne : ((fs.length : Int) == 0) = false := by rw [beq_eq_false_iff_ne]; omega
    by_cases h2 : g ≤ 16 ∧ l ≤ 16 ∧ s ≤ 8 ∧ fs.length ≤ 16
    · obtain ⟨a', b', c', e'⟩ := h2
      have hd : decide ((fs.length : Int) > 16) = false := decide_eq_false (by omega)
      obtain ⟨r, p, q, h3, h4⟩ := l0_told g l s fs e' fs.length 0 (by omega) (fun j h hj => absurd hj (Nat.not_lt_zero j))
      refine ⟨r, ?_, ?_, h3, ?_⟩
      · have j1 : Ev (fun k => prog_Check.j1 k false g l s fs) r := Ev.one p fun k => by rw [prog_Check.j1, if_neg Bool.false_ne_true]; rfl
        have j0 : Ev (fun k => prog_Check.j0 k false g l s fs) r := Ev.one j1 fun k => by rw [prog_Check.j0, if_neg Bool.false_ne_true, if_neg (by omega), if_neg (by omega), if_neg (by omega), hd]
        exact Ev.congr (fun k => by rw [prog_Check.f, if_neg (by omega), if_neg (by omega), if_neg (by omega), hne]) j0
      · have j1 : Ev (fun k => alibiref05_Check.j1 k (fs.length : Int) false g l s fs) r := Ev.one q fun k => by rw [alibiref05_Check.j1, if_neg Bool.false_ne_true]; rfl
        have j0 : Ev (fun k => alibiref05_Check.j0 k (fs.length : Int) false g l s fs) r := Ev.one j1 fun k => by rw [alibiref05_Check.j0, if_neg Bool.false_ne_true, if_neg (by omega), if_neg (by omega), if_neg (by omega), hd]
        exact Ev.congr (fun k => by rw [alibiref05_Check.f, if_neg (by omega), if_neg (by omega), if_neg (by omega), hne]) j0
      · rw [h4]
        exact ⟨fun h => ⟨⟨a, a'⟩, ⟨b, b'⟩, ⟨c, c'⟩, ⟨e, e'⟩, h⟩, fun h => h.2.2.2.2⟩
    · refine ⟨(-1, -1, 4), ?_, ?_, fun h => (by cases h), fun h => (by cases h), fun h => absurd ⟨h.1.2, h.2.1.2, h.2.2.1.2, h.2.2.2.1.2⟩ h2⟩
      · have j1 : Ev (fun k => prog_Check.j1 k true g l s fs) (-1, -1, 4) := Ev.one (Ev.now _) fun k => by rw [prog_Check.j1, if_pos rfl]
        have j0 : Ev (fun k => prog_Check.j0 k false g l s fs) (-1, -1, 4) := Ev.one j1 fun k => by
          rw [prog_Check.j0, if_neg Bool.false_ne_true]
          split
          · rfl
          · split
            · rfl
            · split
              · rfl
              · rw [decide_eq_true (by omega)]
        exact Ev.congr (fun k => by rw [prog_Check.f, if_neg (by omega), if_neg (by omega), if_neg (by omega), hne]) j0
      · have j1 : Ev (fun k => alibiref05_Check.j1 k (fs.length : Int) true g l s fs) (-1, -1, 4) := Ev.one (Ev.now _) fun k => by rw [alibiref05_Check.j1, if_pos rfl]
        have j0 : Ev (fun k => alibiref05_Check.j0 k (fs.length : Int) false g l s fs) (-1, -1, 4) := Ev.one j1 fun k => by
          rw [alibiref05_Check.j0, if_neg Bool.false_ne_true]
          split
          · rfl
          · split
            · rfl
            · split
              · rfl
              · rw [decide_eq_true (by omega)]
        exact Ev.congr (fun k => by rw [alibiref05_Check.f, if_neg (by omega), if_neg (by omega), if_neg (by omega), hne]) j0
  · refine ⟨(-1, -1, 1), ?_, ?_, fun h => (by cases h), fun h => (by cases h), fun h => absurd ⟨h.1.1, h.2.1.1, h.2.2.1.1, h.2.2.2.1.1⟩ h1⟩
    · have j0 : Ev (fun k => prog_Check.j0 k true g l s fs) (-1, -1, 1) := Ev.one (Ev.now _) fun k => by rw [prog_Check.j0, if_pos rfl]
      refine Ev.congr (fun k => ?_) j0
      rw [prog_Check.f]
      split
      · rfl
      · split
        · rfl
        · split
          · rfl
          · rw [beq_iff_eq.2 (by omega)]
    · have j0 : Ev (fun k => alibiref05_Check.j0 k (fs.length : Int) true g l s fs) (-1, -1, 1) := Ev.one (Ev.now _) fun k => by rw [alibiref05_Check.j0, if_pos rfl]
      refine Ev.congr (fun k => ?_) j0
      rw [alibiref05_Check.f]
      split
      · rfl
      · split
        · rfl
        · split
          · rfl
          · rw [beq_iff_eq.2 (by omega)]
end
end Go.Proofs.Ytpbbkfekibmaiaa.Pg
