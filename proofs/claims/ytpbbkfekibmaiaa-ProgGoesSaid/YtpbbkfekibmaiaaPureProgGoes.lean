/- The pure statement of ProgGoes: the successors of a program that may be lie in its function. No condition. -/
import Derived.Test.YtpbbkfekibmaiaaQRdProgGoes
import Derived.Test.YtpbbkfekibmaiaaPgG
import Derived.Test.YtpbbkfekibmaiaaPgS
import Derived.Test.YtpbbkfekibmaiaaPgW
namespace Go.Proofs.Ytpbbkfekibmaiaa.Pure
open Go.RowKit Go.Proofs.YtpbbkfekibmaiaaW.PrintWords Go.Proofs.YtpbbkfekibmaiaaW.PrintLast Go.Proofs.YtpbbkfekibmaiaaW.PrintMore Go.Proofs.Ytpbbkfekibmaiaa.Q Go.Proofs.Ytpbbkfekibmaiaa.Rd Go.Proofs.Ytpbbkfekibmaiaa.Pl Go.Proofs.Ytpbbkfekibmaiaa.Pg Go.Proofs.Ytpbbkfekibmaiaa.Q.OfProgGoes

def succs (nd : Nd) : List Int := if nd.f0 = 9 then [] else if nd.f0 = 8 then [nd.f2, nd.f3] else [nd.f2]
theorem succ_eq (nd : Nd) : prog_Succ.f nd.f0 nd.f1 nd.f2 nd.f3 = some (succs nd) := by
  unfold prog_Succ.f succs
  split
  · rfl
  · split <;> rfl
theorem succs_none (nd : Nd) : (((succs nd).length : Int) == 0) = (nd.f0 == 9) := by
  unfold succs
  by_cases h9 : nd.f0 = 9
  · rw [if_pos h9, h9]; rfl
  · rw [if_neg h9, beq_eq_false_iff_ne.2 h9]
    split <;> rfl
theorem succs_two (nd : Nd) : (((succs nd).length : Int) == 2) = (nd.f0 == 8) := by
  unfold succs
  by_cases h9 : nd.f0 = 9
  · rw [if_pos h9, h9]; rfl
  · rw [if_neg h9]
    by_cases h8 : nd.f0 = 8
    · rw [if_pos h8, h8]; rfl
    · rw [if_neg h8, beq_eq_false_iff_ne.2 h8]; rfl
theorem succs_in {g l s nf sz : Int} (h1 : 1 ≤ sz) {nd : Nd} (h : okN g l s nf sz nd) : ∀ x ∈ succs nd, 0 ≤ x ∧ x < sz := by
  have hm := (mx1 sz).2.1 h1
  unfold okN inr at h
  rw [hm] at h
  unfold succs
  intro x hx
  by_cases h9 : nd.f0 = 9
  · rw [if_pos h9] at hx; cases hx
  · rw [if_neg h9] at hx
    by_cases h8 : nd.f0 = 8
    · rw [if_pos h8] at hx
      rcases List.mem_cons.1 hx with rfl | hx
      · omega
      · rcases List.mem_cons.1 hx with rfl | hx
        · omega
        · cases hx
    · rw [if_neg h8] at hx
      rcases List.mem_cons.1 hx with rfl | hx
      · omega
      · cases hx
theorem succs_len (nd : Nd) : (succs nd).length ≤ 2 := by
  unfold succs
  split
  · exact Nat.zero_le _
  · split
    · exact Nat.le_refl _
    · exact Nat.le_succ _
section
variable (g l s : Int) (fs : List (List Nd))
theorem l2_loop (f : Nat) (hf : f < fs.length) (j : Int) (xs : List Int) (hl : xs.length ≤ 2) (hx : ∀ x ∈ xs, 0 ≤ x ∧ x < (fs[f].length : Int)) (hnext : Ev (fun k => alibilaw05_ProgGoes.l1 k (f : Int) (wrap64 (j + 1)) g l s fs) true) (d : Nat) :
    ∀ i : Nat, i + d = xs.length → Ev (fun k => alibilaw05_ProgGoes.l2 k (f : Int) j xs (i : Int) g l s fs) true := by
  induction d with
  | zero =>
    intro i hd
    exact Ev.one hnext fun k => by rw [alibilaw05_ProgGoes.l2, if_neg (by omega)]
  | succ d ih =>
    intro i hd
    have hi : i < xs.length := by omega
    have IH := ih (i + 1) (by omega)
    rw [← w64_succ i xs.length hi (by omega)] at IH
    have hr := rd_nat xs i hi
    have hxi := hx _ (List.getElem_mem hi)
    exact Ev.one IH fun k => by rw [alibilaw05_ProgGoes.l2, if_pos (by omega), if_pos (by omega), hr, if_neg (by omega), if_pos (by omega), if_pos (by omega), rdF fs f hf, if_neg (by omega)]
theorem l1_loop (hN : NodesG g l s fs) (f : Nat) (hf : f < fs.length) (hnext : Ev (fun k => alibilaw05_ProgGoes.l0 k (wrap64 ((f : Int) + 1)) g l s fs) true) (d : Nat) :
    ∀ i : Nat, i + d = fs[f].length → Ev (fun k => alibilaw05_ProgGoes.l1 k (f : Int) (i : Int) g l s fs) true := by
  obtain ⟨_, h64, hall⟩ := hN _ (List.getElem_mem hf)
  induction d with
  | zero =>
    intro i hd
    exact Ev.one hnext fun k => by rw [alibilaw05_ProgGoes.l1, if_pos (by omega), if_pos (by omega), rdF fs f hf, if_neg (by omega)]
  | succ d ih =>
    intro i hd
    have hi : i < fs[f].length := by omega
    have IH := ih (i + 1) (by omega)
    rw [← w64_succ i fs[f].length hi (by omega)] at IH
    have hr := rdN fs[f] i hi
    have hok := hall _ (List.getElem_mem hi)
    have hm := may_ev g l s fs fs[f][i] (fs[f].length : Int)
    rw [decide_eq_true hok] at hm
    have h2 := l2_loop g l s fs f hf (i : Int) (succs fs[f][i]) (succs_len _) (succs_in (by omega) hok) IH (succs fs[f][i]).length 0 (by omega)
    refine Ev.one (Ev.bind (Ev.ret fun _ => succ_eq fs[f][i]) ?_) fun k => by rw [alibilaw05_ProgGoes.l1, if_pos (by omega), if_pos (by omega), rdF fs f hf, if_pos (by omega), if_pos (by omega), hr]
    refine Ev.congr (fun k => by rw [succs_none, succs_two, if_neg (by simp), if_neg (by simp)]) (Ev.bind hm ?_)
    exact Ev.one h2 fun k => by rw [alibilaw05_ProgGoes.j3, if_neg (by decide)]; rfl
theorem l0_loop (hN : NodesG g l s fs) (hn : fs.length ≤ 16) (d : Nat) : ∀ f : Nat, f + d = fs.length → Ev (fun k => alibilaw05_ProgGoes.l0 k (f : Int) g l s fs) true := by
  induction d with
  | zero =>
    intro f hd
    exact Ev.one (Ev.now _) fun k => by rw [alibilaw05_ProgGoes.l0, if_neg (by omega)]
  | succ d ih =>
    intro f hd
    have hf : f < fs.length := by omega
    have IH := ih (f + 1) (by omega)
    rw [← w64_succ f fs.length hf (by omega)] at IH
    exact Ev.one (l1_loop g l s fs hN f hf IH fs[f].length 0 (by omega)) fun k => by rw [alibilaw05_ProgGoes.l0, if_pos (by omega)]; rfl
end
theorem ProgGoes : Aim := by
  rintro s0 _
  refine Ev.rounds (Ev.bind awake ?_)
  obtain ⟨b, hb, hs⟩ := small_ev s0.f0 s0.f1 s0.f2 s0.f3
  refine Ev.congr (fun k => by rw [if_pos rfl]) (Ev.bind hb ?_)
  cases b with
  | false => exact Ev.one (f := fun k => (alibilaw05_awake.f k).bind fun t => some t) (Ev.bind awake (Ev.now true)) fun k => by rw [alibilaw05_ProgGoes.j0, if_pos (by rfl)]
  | true =>
    obtain ⟨r, h1, h3⟩ := check_tells s0.f0 s0.f1 s0.f2 s0.f3
    refine Ev.one (Ev.bind h1 ?_) fun k => by rw [alibilaw05_ProgGoes.j0, if_neg (by decide)]
    by_cases h0 : r.2.2 = 0
    · obtain ⟨p4, p5⟩ := h3 h0
      exact Ev.congr (fun k => by rw [if_pos h0]; rfl) (l0_loop s0.f0 s0.f1 s0.f2 s0.f3 p5 p4 s0.f3.length 0 (by omega))
    · exact Ev.ret fun k => by rw [if_neg h0]
end Go.Proofs.Ytpbbkfekibmaiaa.Pure
