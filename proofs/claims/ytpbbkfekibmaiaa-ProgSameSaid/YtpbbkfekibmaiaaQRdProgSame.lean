/- How the arguments of alibi/alibilaw05.ProgSame are read, and the pure statement of this law. No condition. -/
import Derived.Test.YtpbbkfekibmaiaaQx15
import Derived.Test.YtpbbkfekibmaiaaRd
import Derived.KernelRfl
namespace Go.Proofs.Ytpbbkfekibmaiaa.Q.OfProgSame
open Go.RowKit Go.Proofs.YtpbbkfekibmaiaaW.PrintWords Go.Proofs.YtpbbkfekibmaiaaW.PrintLast Go.Proofs.Ytpbbkfekibmaiaa.Q Go.Proofs.Ytpbbkfekibmaiaa.Rd
set_option linter.unusedVariables false
structure S24 where
  f0 : Int
  f1 : Int
  f2 : Int
  f3 : List (List (S35))
def k24 : Kd S24 := Kd.iso (Kd.pair (Kd.int .i64) (Kd.pair (Kd.int .i64) (Kd.pair (Kd.int .i64) (Kd.slice 33 (Kd.slice 35 k35))))) (fun x : S24 => (x.f0, x.f1, x.f2, x.f3))
theorem k24_open {w : World} {x : S24} {cs : List Value} (h : k24.K w x cs) : ∃ A3 c3, cs = [.int .i64 x.f0, .int .i64 x.f1, .int .i64 x.f2, .slice A3 x.f3.length c3] ∧ x.f3.length ≤ c3 ∧ Kd.C (Kd.slice 35 k35) w A3 x.f3.length x.f3 := by
  obtain ⟨_, _, rfl, rfl, ⟨_, _, rfl, rfl, ⟨_, _, rfl, rfl, ⟨A3, c3, rfl, l3, g3⟩⟩⟩⟩ := h
  exact ⟨A3, c3, rfl, l3, g3⟩
def Wf35 (x : S35) : Prop := (Lit.int .i64 x.f0).wf = true ∧ (Lit.int .i64 x.f1).wf = true ∧ (Lit.int .i64 x.f2).wf = true ∧ (Lit.int .i64 x.f3).wf = true
theorem reads35 : Reads Try.prog 35 k35 Wf35 := by
  have h := Reads.struct (d := (Kd.pair (Kd.int .i64) (Kd.pair (Kd.int .i64) (Kd.pair (Kd.int .i64) (Kd.int .i64))))) Try.underlying35 (by kernel_rfl) (ReadsF.cons (Reads.int Try.underlying3) (by kernel_rfl) (ReadsF.cons (Reads.int Try.underlying3) (by kernel_rfl) (ReadsF.cons (Reads.int Try.underlying3) (by kernel_rfl) (ReadsF.one (Reads.int Try.underlying3) (by kernel_rfl))))) (fun x : S35 => (x.f0, x.f1, x.f2, x.f3)) (fun a => (⟨a.1, a.2.1, a.2.2.1, a.2.2.2⟩ : S35)) (fun _ => rfl)
  exact h
theorem reads33 : Reads Try.prog 33 (Kd.slice 35 k35) (fun x => (x.length ≤ maxLen ∧ ∀ x1 ∈ x, Wf35 x1)) := Reads.slice Try.underlying33 reads35 (by kernel_rfl)
theorem reads22 : Reads Try.prog 22 (Kd.slice 33 (Kd.slice 35 k35)) (fun x => (x.length ≤ maxLen ∧ ∀ x1 ∈ x, (x1.length ≤ maxLen ∧ ∀ x2 ∈ x1, Wf35 x2))) := Reads.slice Try.underlying22 reads33 (by kernel_rfl)
def Wf24 (x : S24) : Prop := (Lit.int .i64 x.f0).wf = true ∧ (Lit.int .i64 x.f1).wf = true ∧ (Lit.int .i64 x.f2).wf = true ∧ (x.f3.length ≤ maxLen ∧ ∀ x4 ∈ x.f3, (x4.length ≤ maxLen ∧ ∀ x2 ∈ x4, Wf35 x2))
theorem reads24 : Reads Try.prog 24 k24 Wf24 := by
  have h := Reads.struct (d := (Kd.pair (Kd.int .i64) (Kd.pair (Kd.int .i64) (Kd.pair (Kd.int .i64) (Kd.slice 33 (Kd.slice 35 k35)))))) Try.underlying24 (by kernel_rfl) (ReadsF.cons (Reads.int Try.underlying3) (by kernel_rfl) (ReadsF.cons (Reads.int Try.underlying3) (by kernel_rfl) (ReadsF.cons (Reads.int Try.underlying3) (by kernel_rfl) (ReadsF.one reads22 (by kernel_rfl))))) (fun x : S24 => (x.f0, x.f1, x.f2, x.f3)) (fun a => (⟨a.1, a.2.1, a.2.2.1, a.2.2.2⟩ : S24)) (fun _ => rfl)
  exact h
def Aim : Prop := ∀ (s0 : S24) (s1 : S24), Wf24 s0 → Wf24 s1 → ∃ k, alibilaw05_ProgSame.f k s0.f0 s0.f1 s0.f2 s0.f3 s1.f0 s1.f1 s1.f2 s1.f3 = some true
end Go.Proofs.Ytpbbkfekibmaiaa.Q.OfProgSame
