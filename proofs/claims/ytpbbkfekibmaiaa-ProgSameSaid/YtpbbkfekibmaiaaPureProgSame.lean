/- The pure statement of ProgSame: both sides tell whether two programs are the same. No condition. -/
import Derived.Test.YtpbbkfekibmaiaaQRdProgSame
import Derived.Test.YtpbbkfekibmaiaaPgS
import Derived.Test.YtpbbkfekibmaiaaPgW
namespace Go.Proofs.Ytpbbkfekibmaiaa.Pure
open Go.RowKit Go.Proofs.YtpbbkfekibmaiaaW.PrintWords Go.Proofs.YtpbbkfekibmaiaaW.PrintLast Go.Proofs.YtpbbkfekibmaiaaW.PrintMore Go.Proofs.Ytpbbkfekibmaiaa.Q Go.Proofs.Ytpbbkfekibmaiaa.Rd Go.Proofs.Ytpbbkfekibmaiaa.Pl Go.Proofs.Ytpbbkfekibmaiaa.Pg Go.Proofs.Ytpbbkfekibmaiaa.Q.OfProgSame

def ne4 (a b : Nd) : Bool := (!(a.f0 == b.f0) || (!(a.f1 == b.f1) || (!(a.f2 == b.f2) || (!(a.f3 == b.f3)))))
theorem ne4_iff (a b : Nd) : ne4 a b = true ↔ a ≠ b := by
  cases a; cases b
  unfold ne4
  simp only [Bool.or_eq_true, Bool.not_eq_true', beq_eq_false_iff_ne, ne_eq, S35.mk.injEq]
  omega
section
variable (g l s : Int) (fs : List (List Nd)) (g' l' s' : Int) (gs : List (List Nd))
def Sm (p : Nat → Option Bool) (P : Prop) : Prop := ∃ b, Ev p b ∧ (b = true ↔ P)
theorem Sm.one {p q : Nat → Option Bool} {P P' : Prop} (h : Sm q P) (e : ∀ k, p (k + 1) = q k) (i : P ↔ P') : Sm p P' := by
  obtain ⟨b, h1, h2⟩ := h
  exact ⟨b, Ev.one h1 e, h2.trans i⟩
theorem Sm.now {p : Nat → Option Bool} {P : Prop} (b : Bool) (e : ∀ k, p (k + 1) = some b) (i : b = true ↔ P) : Sm p P := ⟨b, Ev.one (Ev.now b) e, i⟩
theorem cons_iff {α : Type} {a b : α} {x y : List α} {R : Prop} (h : a = b) : (x = y ∧ R) ↔ (a :: x = b :: y ∧ R) := by
  subst h; simp
theorem l1_same (f : Nat) (hf : f < fs.length) (hg : f < gs.length) (hl : fs[f].length = gs[f].length) (hb : fs[f].length ≤ 100) (R : Prop) (hnext : Sm (fun k => prog_Same.l0 k fs (fs.length : Int) (wrap64 ((f : Int) + 1)) g' l' s' gs) R) (d : Nat) :
    ∀ i : Nat, i + d = fs[f].length → Sm (fun k => prog_Same.l1 k (f : Int) fs (fs.length : Int) (f : Int) fs[f] (fs[f].length : Int) (i : Int) g' l' s' gs) (fs[f].drop i = gs[f].drop i ∧ R) := by
  induction d with
  | zero =>
    intro i hd
    refine hnext.one (fun k => by rw [prog_Same.l1, if_neg (by omega)]) ?_
    rw [List.drop_of_length_le (by omega), List.drop_of_length_le (by omega)]; simp
  | succ d ih =>
    intro i hd
    have hi : i < fs[f].length := by omega
    have hi' : i < gs[f].length := by omega
    have IH := ih (i + 1) (by omega)
    rw [← w64_succ i fs[f].length hi (by omega)] at IH
    rw [drop_cons fs[f] i hi, drop_cons gs[f] i hi']
    have hn := ne4_iff fs[f][i] gs[f][i]
    unfold ne4 at hn
    by_cases e : fs[f][i] = gs[f][i]
    · refine IH.one (fun k => ?_) (cons_iff e)
      rw [prog_Same.l1, if_pos (by omega), if_pos (by omega), if_pos (by omega), if_pos (by omega), if_pos (by omega), rdF gs f hg, if_pos (by omega), rdN fs[f] i hi, rdN gs[f] i hi', if_neg (fun h => hn.1 h e)]
    · refine Sm.now false (fun k => ?_) ⟨fun h => (by cases h), fun h => absurd (List.cons.inj h.1).1 e⟩
      rw [prog_Same.l1, if_pos (by omega), if_pos (by omega), if_pos (by omega), if_pos (by omega), if_pos (by omega), rdF gs f hg, if_pos (by omega), rdN fs[f] i hi, rdN gs[f] i hi', if_pos (hn.2 e)]
theorem l0_same (hn : fs.length ≤ 40) (hw : ∀ f ∈ fs, f.length ≤ 100) (hl : fs.length = gs.length) (d : Nat) : ∀ f : Nat, f + d = fs.length → Sm (fun k => prog_Same.l0 k fs (fs.length : Int) (f : Int) g' l' s' gs) (fs.drop f = gs.drop f) := by
  induction d with
  | zero =>
    intro f hd
    refine Sm.now true (fun k => by rw [prog_Same.l0, if_neg (by omega)]) ?_
    rw [List.drop_of_length_le (by omega), List.drop_of_length_le (by omega)]; simp
  | succ d ih =>
    intro f hd
    have hf : f < fs.length := by omega
    have hg : f < gs.length := by omega
    have IH := ih (f + 1) (by omega)
    rw [← w64_succ f fs.length hf (by omega)] at IH
    rw [drop_cons fs f hf, drop_cons gs f hg]
    by_cases e : fs[f].length = gs[f].length
    · refine (l1_same fs g' l' s' gs f hf hg e (hw _ (List.getElem_mem hf)) _ IH fs[f].length 0 (by omega)).one (fun k => ?_) ?_
      · rw [prog_Same.l0, if_pos (by omega), if_pos (by omega), if_pos (by omega), if_pos (by omega), rdF fs f hf, rdF gs f hg, if_pos (by omega)]; rfl
      · rw [List.drop_zero, List.drop_zero, List.cons.injEq]
    · refine Sm.now false (fun k => ?_) ⟨fun h => (by cases h), fun h => absurd (congrArg List.length (List.cons.inj h).1) e⟩
      rw [prog_Same.l0, if_pos (by omega), if_pos (by omega), if_pos (by omega), if_pos (by omega), rdF fs f hf, rdF gs f hg, if_neg (by omega)]
theorem same_ev (hn : fs.length ≤ 40) (hw : ∀ f ∈ fs, f.length ≤ 100) : Sm (fun k => prog_Same.f k g l s fs g' l' s' gs) (g = g' ∧ l = l' ∧ s = s' ∧ fs = gs) := by
  have no : Ev (fun k => prog_Same.j0 k true g l s fs g' l' s' gs) false := Ev.one (Ev.now false) fun k => by rw [prog_Same.j0, if_pos rfl]
  by_cases h : g = g' ∧ l = l' ∧ s = s'
  · obtain ⟨a, b, c⟩ := h
    by_cases e : fs.length = gs.length
    · obtain ⟨r, h1, h2⟩ := l0_same fs g' l' s' gs hn hw e fs.length 0 (by omega)
      have hne : ((fs.length : Int) != (gs.length : Int)) = false := by rw [bne_eq_false_iff_eq]; omega
      have j0 : Ev (fun k => prog_Same.j0 k false g l s fs g' l' s' gs) r := Ev.one h1 fun k => by rw [prog_Same.j0, if_neg Bool.false_ne_true]; rfl
      refine ⟨r, Ev.congr (fun k => by rw [prog_Same.f, if_pos a, if_pos b, if_pos c, hne]) j0, ?_⟩
      rw [h2, List.drop_zero, List.drop_zero]
      exact ⟨fun h => ⟨a, b, c, h⟩, fun h => h.2.2.2⟩
    · have hne : ((fs.length : Int) != (gs.length : Int)) = true := by rw [bne_iff_ne]; omega
      exact ⟨false, Ev.congr (fun k => by rw [prog_Same.f, if_pos a, if_pos b, if_pos c, hne]) no, fun h => (by cases h), fun h => absurd (congrArg List.length h.2.2.2) e⟩
  · refine ⟨false, Ev.congr (fun k => ?_) no, fun h => (by cases h), fun q => absurd ⟨q.1, q.2.1, q.2.2.1⟩ h⟩
    rw [prog_Same.f]
    by_cases a : g = g'
    · rw [if_pos a]
      by_cases b : l = l'
      · rw [if_pos b, if_neg (fun c => h ⟨a, b, c⟩)]
      · rw [if_neg b]
    · rw [if_neg a]
theorem rl1_same (f : Nat) (hf : f < fs.length) (hg : f < gs.length) (hl : fs[f].length = gs[f].length) (hb : fs[f].length ≤ 100) (R : Prop) (hnext : Sm (fun k => alibiref05_Same.l0 k (wrap64 ((f : Int) + 1)) g l s fs g' l' s' gs) R) (d : Nat) :
    ∀ i : Nat, i + d = fs[f].length → Sm (fun k => alibiref05_Same.l1 k (f : Int) (i : Int) g l s fs g' l' s' gs) (fs[f].drop i = gs[f].drop i ∧ R) := by
  induction d with
  | zero =>
    intro i hd
    refine hnext.one (fun k => by rw [alibiref05_Same.l1, if_pos (by omega), if_pos (by omega), rdF fs f hf, if_neg (by omega)]) ?_
    rw [List.drop_of_length_le (by omega), List.drop_of_length_le (by omega)]; simp
  | succ d ih =>
    intro i hd
    have hi : i < fs[f].length := by omega
    have hi' : i < gs[f].length := by omega
    have IH := ih (i + 1) (by omega)
    rw [← w64_succ i fs[f].length hi (by omega)] at IH
    rw [drop_cons fs[f] i hi, drop_cons gs[f] i hi']
    have hn := ne4_iff fs[f][i] gs[f][i]
    unfold ne4 at hn
    by_cases e : fs[f][i] = gs[f][i]
    · refine IH.one (fun k => ?_) (cons_iff e)
      rw [alibiref05_Same.l1, if_pos (by omega), if_pos (by omega), rdF fs f hf, if_pos (by omega), if_pos (by omega), if_pos (by omega), rdF gs f hg, if_pos (by omega), rdN fs[f] i hi, rdN gs[f] i hi', if_neg (fun h => hn.1 h e)]
    · refine Sm.now false (fun k => ?_) ⟨fun h => (by cases h), fun h => absurd (List.cons.inj h.1).1 e⟩
      rw [alibiref05_Same.l1, if_pos (by omega), if_pos (by omega), rdF fs f hf, if_pos (by omega), if_pos (by omega), if_pos (by omega), rdF gs f hg, if_pos (by omega), rdN fs[f] i hi, rdN gs[f] i hi', if_pos (hn.2 e)]
theorem rl0_same (hn : fs.length ≤ 40) (hw : ∀ f ∈ fs, f.length ≤ 100) (hl : fs.length = gs.length) (d : Nat) : ∀ f : Nat, f + d = fs.length → Sm (fun k => alibiref05_Same.l0 k (f : Int) g l s fs g' l' s' gs) (fs.drop f = gs.drop f) := by
  induction d with
  | zero =>
    intro f hd
    refine Sm.now true (fun k => by rw [alibiref05_Same.l0, if_neg (by omega)]) ?_
    rw [List.drop_of_length_le (by omega), List.drop_of_length_le (by omega)]; simp
  | succ d ih =>
    intro f hd
    have hf : f < fs.length := by omega
    have hg : f < gs.length := by omega
    have IH := ih (f + 1) (by omega)
    rw [← w64_succ f fs.length hf (by omega)] at IH
    rw [drop_cons fs f hf, drop_cons gs f hg]
    by_cases e : fs[f].length = gs[f].length
    · refine (rl1_same g l s fs g' l' s' gs f hf hg e (hw _ (List.getElem_mem hf)) _ IH fs[f].length 0 (by omega)).one (fun k => ?_) ?_
      · rw [alibiref05_Same.l0, if_pos (by omega), if_pos (by omega), if_pos (by omega), rdF fs f hf, rdF gs f hg, if_pos (by omega)]; rfl
      · rw [List.drop_zero, List.drop_zero, List.cons.injEq]
    · refine Sm.now false (fun k => ?_) ⟨fun h => (by cases h), fun h => absurd (congrArg List.length (List.cons.inj h).1) e⟩
      rw [alibiref05_Same.l0, if_pos (by omega), if_pos (by omega), if_pos (by omega), rdF fs f hf, rdF gs f hg, if_neg (by omega)]
theorem rsame_ev (hn : fs.length ≤ 40) (hw : ∀ f ∈ fs, f.length ≤ 100) : Sm (fun k => alibiref05_Same.f k g l s fs g' l' s' gs) (g = g' ∧ l = l' ∧ s = s' ∧ fs = gs) := by
  have no : Ev (fun k => alibiref05_Same.j0 k true g l s fs g' l' s' gs) false := Ev.one (Ev.now false) fun k => by rw [alibiref05_Same.j0, if_pos rfl]
  by_cases h : g = g' ∧ l = l' ∧ s = s'
  · obtain ⟨a, b, c⟩ := h
    by_cases e : fs.length = gs.length
    · obtain ⟨r, h1, h2⟩ := rl0_same g l s fs g' l' s' gs hn hw e fs.length 0 (by omega)
      have hne : ((fs.length : Int) != (gs.length : Int)) = false := by rw [bne_eq_false_iff_eq]; omega
      have j0 : Ev (fun k => alibiref05_Same.j0 k false g l s fs g' l' s' gs) r := Ev.one h1 fun k => by rw [alibiref05_Same.j0, if_neg Bool.false_ne_true]; rfl
      refine ⟨r, Ev.congr (fun k => by rw [alibiref05_Same.f, if_pos a, if_pos b, if_pos c, hne]) j0, ?_⟩
      rw [h2, List.drop_zero, List.drop_zero]
      exact ⟨fun h => ⟨a, b, c, h⟩, fun h => h.2.2.2⟩
    · have hne : ((fs.length : Int) != (gs.length : Int)) = true := by rw [bne_iff_ne]; omega
      exact ⟨false, Ev.congr (fun k => by rw [alibiref05_Same.f, if_pos a, if_pos b, if_pos c, hne]) no, fun h => (by cases h), fun h => absurd (congrArg List.length h.2.2.2) e⟩
  · refine ⟨false, Ev.congr (fun k => ?_) no, fun h => (by cases h), fun q => absurd ⟨q.1, q.2.1, q.2.2.1⟩ h⟩
    rw [alibiref05_Same.f]
    by_cases a : g = g'
    · rw [if_pos a]
      by_cases b : l = l'
      · rw [if_pos b, if_neg (fun c => h ⟨a, b, c⟩)]
      · rw [if_neg b]
    · rw [if_neg a]
end
theorem two {a b : Bool} {P Q : Prop} (h : a = true ↔ P) (k : b = true ↔ Q) (e : P ↔ Q) : a = b := by
  have := h.trans (e.trans k.symm)
  cases a <;> cases b <;> simp_all
theorem ProgSame : Aim := by
  rintro s0 s1 _ _
  refine Ev.rounds (Ev.bind awake ?_)
  have idle : Ev (fun k => alibilaw05_ProgSame.j0 k true s0.f0 s0.f1 s0.f2 s0.f3 s1.f0 s1.f1 s1.f2 s1.f3) true := Ev.one (f := fun k => (alibilaw05_awake.f k).bind fun t => some t) (Ev.bind awake (Ev.now true)) fun k => by rw [alibilaw05_ProgSame.j0, if_pos (by rfl)]
  obtain ⟨b, hb, hs⟩ := small_ev s0.f0 s0.f1 s0.f2 s0.f3
  refine Ev.congr (fun k => by rw [if_pos rfl]) (Ev.bind hb ?_)
  cases b with
  | false => exact Ev.congr (fun k => by rw [if_neg Bool.false_ne_true]) idle
  | true =>
    obtain ⟨h40, h100⟩ := hs rfl
    obtain ⟨b', hb', hs'⟩ := small_ev s1.f0 s1.f1 s1.f2 s1.f3
    refine Ev.congr (fun k => by rw [if_pos rfl]) (Ev.bind hb' ?_)
    cases b' with
    | false => exact Ev.congr (fun k => by rfl) idle
    | true =>
      obtain ⟨h40', h100'⟩ := hs' rfl
      obtain ⟨p, p1, p2⟩ := same_ev s0.f0 s0.f1 s0.f2 s0.f3 s1.f0 s1.f1 s1.f2 s1.f3 h40 h100
      obtain ⟨q, q1, q2⟩ := rsame_ev s0.f0 s0.f1 s0.f2 s0.f3 s1.f0 s1.f1 s1.f2 s1.f3 h40 h100
      obtain ⟨u, u1, u2⟩ := same_ev s0.f0 s0.f1 s0.f2 s0.f3 s0.f0 s0.f1 s0.f2 s0.f3 h40 h100
      obtain ⟨v, v1, v2⟩ := same_ev s1.f0 s1.f1 s1.f2 s1.f3 s0.f0 s0.f1 s0.f2 s0.f3 h40' h100'
      have hpq : p = q := two p2 q2 Iff.rfl
      have hu : u = true := u2.2 ⟨rfl, rfl, rfl, rfl⟩
      have hpv : p = v := two p2 v2 ⟨fun ⟨a, b, c, d⟩ => ⟨a.symm, b.symm, c.symm, d.symm⟩, fun ⟨a, b, c, d⟩ => ⟨a.symm, b.symm, c.symm, d.symm⟩⟩
      subst hpq hpv hu
      refine Ev.one (Ev.bind p1 (Ev.bind q1 ?_)) fun k => by rw [alibilaw05_ProgSame.j0, if_neg (by decide)]
      refine Ev.congr (fun k => by rw [if_pos (beq_self_eq_true p)]) (Ev.bind u1 ?_)
      refine Ev.congr (fun k => by rw [if_pos rfl]) (Ev.bind p1 (Ev.bind v1 (Ev.ret fun k => ?_)))
      rw [beq_self_eq_true]
end Go.Proofs.Ytpbbkfekibmaiaa.Pure
