/- Small plain lemmas for pure statements: rounds, wraps, reading lists by whole numbers. No condition. -/
import Derived.Test.YtpbbkfekibmaiaaDoorWWords
import Derived.Test.YtpbbkfekibmaiaaDoorWMore
namespace Go.Proofs.YtpbbkfekibmaiaaDoor.Pl
open Go.RowKit Go.Proofs.YtpbbkfekibmaiaaDoorW.PrintWords
theorem w64 {x : Int} (h0 : -9223372036854775808 ≤ x) (h1 : x ≤ 9223372036854775807) : wrap64 x = x := by unfold wrap64; omega
theorem w64_succ (i n : Nat) (h : i < n) (hn : n ≤ 1000000000000) : wrap64 ((i : Int) + 1) = ((i + 1 : Nat) : Int) := by unfold wrap64; omega
theorem getD_nat {α : Type} (xs : List α) (i : Nat) (d : α) (h : i < xs.length) : xs.getD (i : Int).toNat d = xs[i] := by
  simp [List.getD, List.getElem?_eq_getElem h]
theorem rd_nat (xs : List Int) (i : Nat) (h : i < xs.length) : rd xs (i : Int) = xs[i] := getD_nat xs i 0 h
theorem drop_cons {α : Type} (xs : List α) (i : Nat) (h : i < xs.length) : xs.drop i = xs[i] :: xs.drop (i + 1) := List.drop_eq_getElem_cons h
theorem Ev.ret {α : Type} {g : Nat → Option α} {r : α} (h : ∀ k, g k = some r) : Ev g r := ⟨0, fun k _ => h k⟩
/-- One round, by its own equation. -/
theorem Ev.one {α : Type} {g f : Nat → Option α} {r : α} (k : Ev f r) (h : ∀ k, g (k + 1) = f k) : Ev g r := Ev.step h k
theorem Ev.to {α : Type} {g : Nat → Option α} {r s : α} (h : Ev g r) (e : r = s) : Ev g s := e ▸ h
end Go.Proofs.YtpbbkfekibmaiaaDoor.Pl
