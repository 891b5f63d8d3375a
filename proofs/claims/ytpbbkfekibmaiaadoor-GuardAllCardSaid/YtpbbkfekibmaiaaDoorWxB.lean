/- Contracts: tables; the lowest bit. -/
import Derived.Test.YtpbbkfekibmaiaaDoorBtN
namespace Go.Proofs.YtpbbkfekibmaiaaDoor.Am
set_option autoImplicit false
set_option linter.unusedVariables false
set_option linter.unusedSimpArgs false
set_option maxRecDepth 10000
set_option pp.maxSteps 20000
set_option pp.proofs false
theorem CallW.glob {P : Program} {G : Gl} {f : FuncId} {args : List V} {st : List Ob} {K : V → List Ob → Prop} (h : CallW P G0 f args st K) : CallW P G f args st K :=
  ⟨h.enter, fun D μ w args' hg ha hs => h.calls D μ w args' (fun g cs h => nomatch h) ha hs⟩
def tz : List I := Lib.deBruijn32tab.map fun (n : Nat) => I.int .u8 n
def G1 : Gl := fun g => if g = 0 then some tz else none
theorem tz_idx {m k : Nat} (hm : m < 4294967296) (h0 : m ≠ 0) (hlow : m &&& 2 ^ 32 - m = 2 ^ k) : (IntKind.u32.wrap (IntKind.u32.wrap ((BitVec.ofInt IntKind.u32.bits (m : Int) &&& BitVec.ofInt IntKind.u32.bits (IntKind.u32.wrap (0 - (m : Int)))).toNat : Nat) * 125613361)).fdiv (2 ^ min (Int.toNat 27) IntKind.u32.bits) = ((2 ^ k * 125613361 % 4294967296 / 134217728 : Nat) : Int) := by
  have e1 : IntKind.u32.wrap (0 - (m : Int)) = ((4294967296 - m : Nat) : Int) := by simp [IntKind.wrap, IntKind.signed, IntKind.bits]; omega
  rw [e1, and32 hm (by omega), hlow]
  have e2 : (2 : Int) ^ min (Int.toNat 27) IntKind.u32.bits = 134217728 := by decide
  rw [e2, Int.fdiv_eq_ediv_of_nonneg _ (by decide), IntKind.wrap_u32]
  omega
theorem tz100 (m : Nat) (hm : m < 4294967296) (h0 : m ≠ 0) : CallW Tryd.prog G1 37 [.i (.int .u32 m)] [] (fun r st' => r = .i (.int .i64 (Lib.ctz 32 m : Nat)) ∧ st' = []) := by
  refine call_of_bodyF 0 (Nat.le_refl _) Tryd.func37 rfl (fun a w => Tryd.call37 a w) (wpx_ok (own := own0) _ _ _ ?_)
  obtain ⟨hlow, hk⟩ := Lib.lowest_bit 32 m h0 hm
  obtain ⟨hi, htab⟩ := Lib.deBruijn32_at _ hk
  have key := tz_idx hm h0 hlow
  generalize 2 ^ Lib.ctz 32 m * 125613361 % 4294967296 / 134217728 = idx at key hi htab
  generalize Lib.ctz 32 m = k at htab
  repeat ((conv => whnf); first | refine Br.t ?_ | refine Br.f ?_ | refine ⟨rfl, ?_⟩)
  conv => whnf
  refine Br.mk (fun h => by simp at h; omega) (fun h => ?_)
  repeat ((conv => whnf); first | refine Br.t ?_ | refine Br.f ?_ | refine ⟨rfl, ?_⟩)
  conv => whnf
  refine ⟨by decide, ?_⟩
  rw [key]
  clear key
  have hc : idx = 0 ∨ idx = 1 ∨ idx = 2 ∨ idx = 3 ∨ idx = 4 ∨ idx = 5 ∨ idx = 6 ∨ idx = 7 ∨ idx = 8 ∨ idx = 9 ∨ idx = 10 ∨ idx = 11 ∨ idx = 12 ∨ idx = 13 ∨ idx = 14 ∨ idx = 15 ∨ idx = 16 ∨ idx = 17 ∨ idx = 18 ∨ idx = 19 ∨ idx = 20 ∨ idx = 21 ∨ idx = 22 ∨ idx = 23 ∨ idx = 24 ∨ idx = 25 ∨ idx = 26 ∨ idx = 27 ∨ idx = 28 ∨ idx = 29 ∨ idx = 30 ∨ idx = 31 := by omega
  rcases hc with rfl | rfl | rfl | rfl | rfl | rfl | rfl | rfl | rfl | rfl | rfl | rfl | rfl | rfl | rfl | rfl | rfl | rfl | rfl | rfl | rfl | rfl | rfl | rfl | rfl | rfl | rfl | rfl | rfl | rfl | rfl | rfl
  all_goals
    subst htab
    repeat ((conv => whnf); first | refine Br.t ?_ | refine Br.f ?_ | refine ⟨rfl, ?_⟩)
    conv => whnf
    refine ⟨⟨by decide, by decide⟩, ?_⟩
    repeat ((conv => whnf); first | refine Br.t ?_ | refine Br.f ?_ | refine ⟨rfl, ?_⟩)
    conv => whnf
    refine fin (target := []) rfl (Nat.zero_le _) (by simp) rfl rfl
end Go.Proofs.YtpbbkfekibmaiaaDoor.Am
