/- What is wrong with a program first, told by package prog alone: it ends, and tells nothing just of programs whose nodes may be. No condition but those of each lemma. -/
import Derived.Test.YtpbbkfekibmaiaaQx3
import Derived.Test.YtpbbkfekibmaiaaQx4
import Derived.Test.YtpbbkfekibmaiaaPgB
namespace Go.Proofs.Ytpbbkfekibmaiaa.Pg
open Go.RowKit Go.Proofs.YtpbbkfekibmaiaaW.PrintWords Go.Proofs.YtpbbkfekibmaiaaW.PrintLast Go.Proofs.YtpbbkfekibmaiaaW.PrintMore Go.Proofs.Ytpbbkfekibmaiaa.Q Go.Proofs.Ytpbbkfekibmaiaa.Pl
/-- All nodes may be. -/
def NodesG (g l s : Int) (fs : List (List Nd)) : Prop := ∀ f ∈ fs, f ≠ [] ∧ f.length ≤ 64 ∧ ∀ nd ∈ f, okN g l s (fs.length : Int) (f.length : Int) nd
theorem NodesG.calls0 {g l s : Int} {fs : List (List Nd)} (h : NodesG g l s fs) : Calls0 fs := by
  intro f hf nd hnd h7
  have hk := (h f hf).2.2 nd hnd
  unfold okN inr at hk
  rcases hk with h | h | h | h | h | h | h | h
  all_goals first | omega | exact ⟨h.2.1.1, h.2.1.2⟩
section
variable (g l s : Int) (fs : List (List Nd))
theorem round_l1 (hc : Calls0 fs) (hn : fs.length ≤ 16) (hw : ∀ f ∈ fs, f.length ≤ 100000) (f : Nat) (hf : f < fs.length) (hnext : ∃ r, Ev (fun k => prog_round.l0 k fs (fs.length : Int) ((f + 1 : Nat) : Int) g l s fs) r) (d : Nat) :
    ∀ i : Nat, i + d = fs[f].length → ∃ r, Ev (fun k => prog_round.l1 k (f : Int) fs (fs.length : Int) (f : Int) fs[f] (fs[f].length : Int) (i : Int) g l s fs) r := by
  have hmem := List.getElem_mem hf
  have hlen := hw _ hmem
  induction d with
  | zero =>
    intro i hd
    obtain ⟨r, h1⟩ := hnext
    rw [← w64_succ f fs.length hf (by omega)] at h1
    exact ⟨r, Ev.one h1 fun k => by rw [prog_round.l1, if_neg (by omega)]⟩
  | succ d ih =>
    intro i hd
    have hi : i < fs[f].length := by omega
    have hr := rdN fs[f] i hi
    obtain ⟨r, h1⟩ := ih (i + 1) (by omega)
    rw [← w64_succ i fs[f].length hi (by omega)] at h1
    by_cases h7 : fs[f][i].f0 = 7
    · obtain ⟨ha0, ha1⟩ := hc _ hmem _ (List.getElem_mem hi) h7
      obtain ⟨a, ha⟩ := Int.eq_ofNat_of_zero_le ha0
      have han : a < fs.length := by omega
      obtain ⟨q, t, hev, hq⟩ := reaches_ev g l s fs hc hw f a han
      cases q with
      | true =>
        refine ⟨((f : Int), (i : Int), true), Ev.one (Ev.bind hev ?_) (fun k => by rw [prog_round.l1, if_pos (by omega), if_pos (by omega), if_pos (by omega), hr, if_pos h7, if_pos (by omega), if_pos (by omega), ha, Int.toNat_natCast])⟩
        exact Ev.ret fun k => by rw [if_pos rfl]
      | false =>
        refine ⟨r, Ev.one (Ev.bind hev ?_) (fun k => by rw [prog_round.l1, if_pos (by omega), if_pos (by omega), if_pos (by omega), hr, if_pos h7, if_pos (by omega), if_pos (by omega), ha, Int.toNat_natCast])⟩
        exact Ev.congr (fun k => by rw [if_neg Bool.false_ne_true]) h1
    · exact ⟨r, Ev.one h1 fun k => by rw [prog_round.l1, if_pos (by omega), if_pos (by omega), if_pos (by omega), hr, if_neg h7]⟩
theorem round_l0 (hc : Calls0 fs) (hn : fs.length ≤ 16) (hw : ∀ f ∈ fs, f.length ≤ 100000) (d : Nat) : ∀ f : Nat, f + d = fs.length → ∃ r, Ev (fun k => prog_round.l0 k fs (fs.length : Int) (f : Int) g l s fs) r := by
  induction d with
  | zero =>
    intro f hd
    exact ⟨(0, 0, false), Ev.one (Ev.now _) fun k => by rw [prog_round.l0, if_neg (by omega)]⟩
  | succ d ih =>
    intro f hd
    have hf : f < fs.length := by omega
    obtain ⟨r, h1⟩ := round_l1 g l s fs hc hn hw f hf (ih (f + 1) (by omega)) fs[f].length 0 (by omega)
    exact ⟨r, Ev.one h1 fun k => by rw [prog_round.l0, if_pos (by omega), if_pos (by omega), if_pos (by omega), rdF fs f hf]; rfl⟩
/-- What the check tells, and of what it may tell nothing. -/
def Tells (p : Nat → Option (Int × Int × Int)) (b : Prop) : Prop := ∃ r : Int × Int × Int, Ev p r ∧ (r.2.2 = 0 → b)
theorem l1_tells (hn : fs.length ≤ 16) (f : Nat) (hf : f < fs.length) (h64 : fs[f].length ≤ 64) (b : Prop) (hnext : (∀ nd ∈ fs[f], okN g l s (fs.length : Int) (fs[f].length : Int) nd) → Tells (fun k => prog_Check.l0 k fs (fs.length : Int) ((f + 1 : Nat) : Int) g l s fs) b) (d : Nat) :
    ∀ i : Nat, i + d = fs[f].length → (∀ j, ∀ h : j < fs[f].length, j < i → okN g l s (fs.length : Int) (fs[f].length : Int) fs[f][j]) → Tells (fun k => prog_Check.l1 k (f : Int) fs[f] fs (fs.length : Int) (f : Int) fs[f] (fs[f].length : Int) (i : Int) g l s fs) b := by
  induction d with
  | zero =>
    intro i hd hb
    obtain ⟨r, h1, h2⟩ := hnext fun nd hnd => by
      obtain ⟨j, hj, rfl⟩ := List.getElem_of_mem hnd
      exact hb j hj (by omega)
    rw [← w64_succ f fs.length hf (by omega)] at h1
    exact ⟨r, Ev.one h1 fun k => (by rw [prog_Check.l1, if_neg (by omega)]), h2⟩
  | succ d ih =>
    intro i hd hb
    have hi : i < fs[f].length := by omega
    have hr := rdN fs[f] i hi
    have m1 := may_ev g l s fs fs[f][i] (fs[f].length : Int)
    by_cases hk : okN g l s (fs.length : Int) (fs[f].length : Int) fs[f][i]
    · obtain ⟨r, h1, h2⟩ := ih (i + 1) (by omega) fun j h hj => by
        by_cases e : j = i
        · subst e; exact hk
        · exact hb j h (by omega)
      rw [← w64_succ i fs[f].length hi (by omega)] at h1
      rw [decide_eq_true hk] at m1
      refine ⟨r, Ev.one (Ev.bind m1 ?_) (fun k => by rw [prog_Check.l1, if_pos (by omega), if_pos (by omega), if_pos (by omega), hr]), h2⟩
      exact Ev.congr (fun k => by rw [if_pos rfl]) h1
    · rw [decide_eq_false hk] at m1
      refine ⟨((f : Int), (i : Int), 3), Ev.one (Ev.bind m1 ?_) (fun k => by rw [prog_Check.l1, if_pos (by omega), if_pos (by omega), if_pos (by omega), hr]), fun h => (by cases h)⟩
      exact Ev.ret fun k => by rw [if_neg Bool.false_ne_true]
theorem l0_tells (hn : fs.length ≤ 16) (d : Nat) : ∀ f : Nat, f + d = fs.length → (∀ j, ∀ h : j < fs.length, j < f → fs[j] ≠ [] ∧ fs[j].length ≤ 64 ∧ ∀ nd ∈ fs[j], okN g l s (fs.length : Int) (fs[j].length : Int) nd) →
    Tells (fun k => prog_Check.l0 k fs (fs.length : Int) (f : Int) g l s fs) (NodesG g l s fs) := by
  induction d with
  | zero =>
    intro f hd hb
    have hN : NodesG g l s fs := by
      intro x hx
      obtain ⟨j, hj, rfl⟩ := List.getElem_of_mem hx
      exact hb j hj (by omega)
    obtain ⟨r, h1⟩ := round_l0 g l s fs hN.calls0 hn (fun f hf => by have := (hN f hf).2.1; omega) fs.length 0 (by omega)
    refine ⟨if r.2.2 = true then (r.1, r.2.1, 8) else (0, 0, 0), ?_, fun _ => hN⟩
    refine Ev.one (Ev.bind (g := fun k => prog_round.f k g l s fs) h1 ?_) (fun k => by rw [prog_Check.l0, if_neg (by omega)])
    exact Ev.ret fun k => by
      by_cases e : r.2.2 = true
      · rw [if_pos e, if_pos e]
      · rw [if_neg e, if_neg e]
  | succ d ih =>
    intro f hd hb
    have hf : f < fs.length := by omega
    have hF := rdF fs f hf
    by_cases h0 : fs[f] = []
    · refine ⟨((f : Int), -1, 1), Ev.one (Ev.now _) fun k => ?_, fun h => (by cases h)⟩
      rw [prog_Check.l0, if_pos (by omega), if_pos (by omega), if_pos (by omega), hF, h0, if_pos (by rfl)]
    · have hne : fs[f].length ≠ 0 := fun h => h0 (List.length_eq_zero_iff.1 h)
      by_cases h64 : fs[f].length ≤ 64
      · obtain ⟨r, h1, h2⟩ := l1_tells g l s fs hn f hf h64 (NodesG g l s fs) (fun hk => ih (f + 1) (by omega) (fun j h hj => by
            by_cases e : j = f
            · subst e; exact ⟨h0, h64, hk⟩
            · exact hb j h (by omega))) fs[f].length 0 (by omega) (fun j _ hj => absurd hj (Nat.not_lt_zero j))
        refine ⟨r, Ev.one h1 fun k => ?_, h2⟩
        rw [prog_Check.l0, if_pos (by omega), if_pos (by omega), if_pos (by omega), hF, if_neg (by omega), if_neg (by omega)]; rfl
      · refine ⟨((f : Int), -1, 4), Ev.one (Ev.now _) fun k => ?_, fun h => (by cases h)⟩
        rw [prog_Check.l0, if_pos (by omega), if_pos (by omega), if_pos (by omega), hF, if_neg (by omega), if_pos (by omega)]
theorem check_tells : Tells (fun k => prog_Check.f k g l s fs) (fs.length ≤ 16 ∧ NodesG g l s fs) := by
  by_cases h1 : 0 ≤ g ∧ 0 ≤ l ∧ 0 ≤ s ∧ 0 < fs.length
  · obtain ⟨a, b, c, e⟩ := h1
    have hne : ((fs.length : Int) == 0) = false := by rw [beq_eq_false_iff_ne]; omega
    by_cases h2 : g ≤ 16 ∧ l ≤ 16 ∧ s ≤ 8 ∧ fs.length ≤ 16
    · obtain ⟨a', b', c', e'⟩ := h2
      have hd : decide ((fs.length : Int) > 16) = false := decide_eq_false (by omega)
      obtain ⟨r, p, q⟩ := l0_tells g l s fs e' fs.length 0 (by omega) (fun j h hj => absurd hj (Nat.not_lt_zero j))
      have j1 : Ev (fun k => prog_Check.j1 k false g l s fs) r := Ev.one p fun k => by rw [prog_Check.j1, if_neg Bool.false_ne_true]; rfl
      have j0 : Ev (fun k => prog_Check.j0 k false g l s fs) r := Ev.one j1 fun k => by rw [prog_Check.j0, if_neg Bool.false_ne_true, if_neg (by omega), if_neg (by omega), if_neg (by omega), hd]
      exact ⟨r, Ev.congr (fun k => by rw [prog_Check.f, if_neg (by omega), if_neg (by omega), if_neg (by omega), hne]) j0, fun h => ⟨e', q h⟩⟩
    · have j1 : Ev (fun k => prog_Check.j1 k true g l s fs) (-1, -1, 4) := Ev.one (Ev.now _) fun k => by rw [prog_Check.j1, if_pos rfl]
      have j0 : Ev (fun k => prog_Check.j0 k false g l s fs) (-1, -1, 4) := Ev.one j1 fun k => by
        rw [prog_Check.j0, if_neg Bool.false_ne_true]
        split
        · rfl
        · split
          · rfl
          · split
            · rfl
            · rw [decide_eq_true (by omega)]
      exact ⟨(-1, -1, 4), Ev.congr (fun k => by rw [prog_Check.f, if_neg (by omega), if_neg (by omega), if_neg (by omega), hne]) j0, fun h => (by cases h)⟩
  · have j0 : Ev (fun k => prog_Check.j0 k true g l s fs) (-1, -1, 1) := Ev.one (Ev.now _) fun k => by rw [prog_Check.j0, if_pos rfl]
    refine ⟨(-1, -1, 1), Ev.congr (fun k => ?_) j0, fun h => (by cases h)⟩
    rw [prog_Check.f]
    split
    · rfl
    · split
      · rfl
      · split
        · rfl
        · rw [beq_iff_eq.2 (by omega)]
end
end Go.Proofs.Ytpbbkfekibmaiaa.Pg
