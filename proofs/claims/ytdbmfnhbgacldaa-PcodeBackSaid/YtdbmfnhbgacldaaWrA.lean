/- Contracts: the reader. -/
import Derived.Test.YtdbmfnhbgacldaaWwH
import Derived.Test.YtdbmfnhbgacldaaAmY
namespace Go.Proofs.Ytdbmfnhbgacldaa.Am
set_option autoImplicit false
set_option linter.unusedVariables false
set_option linter.unusedSimpArgs false
set_option maxRecDepth 10000
set_option pp.deepTerms false
set_option pp.deepTerms.threshold 6
set_option pp.proofs false
structure Rd where
  bs : List Nat
  p : Nat
  a : Nat
  why : Nat
/-- a reader: its box -/
def rdB (s : Rd) : Ob := .row 0 4 false [[.i (.sl (s.bs.map by8)), .i (.int .i64 s.p), .i (.int .i64 s.a), .i (.int .i64 s.why)]]
theorem rdB_cl (s : Rd) : ∀ o ∈ [rdB s], o.cl 1 := by
  intro o ho
  simp only [List.mem_singleton] at ho
  subst ho
  intro cs hcs
  simp only [List.mem_singleton] at hcs
  subst hcs
  rfl
def Rd.fail (s : Rd) (c : Nat) : Rd := if s.why = 0 then { s with a := s.p, why := c } else s
def Rd.ok (s : Rd) : Prop := s.bs.length ≤ 1000000 ∧ s.p ≤ s.bs.length ∧ ∀ b ∈ s.bs, b < 256
theorem fail49 (s : Rd) (c : Nat) : CallW Try.prog G0 49 [.ptr 0 0 0 0, .i (.int .i64 c)] [rdB s] (fun r st' => r = .tup [] ∧ st' = [rdB (s.fail c)]) := by
  refine call_of_bodyF 1 (Nat.le_refl _) Try.func49 rfl (fun a w => Try.call49 a w) (wpx_ok (own := own0) _ _ _ ?_)
  repeat ((conv => whnf); first | refine Br.t ?_ | refine Br.f ?_ | refine ⟨rfl, ?_⟩)
  conv => whnf
  refine Br.mk (fun h => ?_) (fun h => ?_)
  · simp at h
    repeat ((conv => whnf); first | refine Br.t ?_ | refine Br.f ?_ | refine ⟨rfl, ?_⟩)
    conv => whnf
    refine fin (target := [rdB (s.fail c)]) ?_ (Nat.le_refl _) (rdB_cl _) rfl rfl
    simp only [Rd.fail, h, if_true]
    rfl
  · simp at h
    repeat ((conv => whnf); first | refine Br.t ?_ | refine Br.f ?_ | refine ⟨rfl, ?_⟩)
    conv => whnf
    refine fin (target := [rdB (s.fail c)]) ?_ (Nat.le_refl _) (rdB_cl _) rfl rfl
    simp only [Rd.fail, h, if_false]
    rfl
theorem left50 (s : Rd) (h : s.ok) : CallW Try.prog G0 50 [.ptr 0 0 0 0] [rdB s] (fun r st' => r = .i (.int .i64 (s.bs.length - s.p : Nat)) ∧ st' = [rdB s]) := by
  obtain ⟨h1, h2, h3⟩ := h
  refine call_of_bodyF 1 (Nat.le_refl _) Try.func50 rfl (fun a w => Try.call50 a w) (wpx_ok (own := own0) _ _ _ ?_)
  repeat ((conv => whnf); first | refine Br.t ?_ | refine Br.f ?_ | refine ⟨rfl, ?_⟩)
  conv => whnf
  refine draw_ok (own := own0) [] [] [] rfl (by kernel_rfl) (Nat.le_refl _) ?_
  repeat ((conv => whnf); first | refine Br.t ?_ | refine Br.f ?_ | refine ⟨rfl, ?_⟩)
  conv => whnf
  refine ⟨by repeat ((conv => whnf); first | exact trivial | refine ⟨rfl, ?_⟩), trivial, ?_⟩
  conv => whnf
  refine fin (target := [rdB s]) rfl (Nat.le_refl _) (rdB_cl _) ?_ rfl
  rw [i64_id (by simp; omega) (by simp; omega)]
  simp; omega
theorem fault35 (s : Rd) : CallW Try.prog G0 35 [.ptr 0 0 0 0] [rdB s] (fun r st' => r = .agg [.i (.int .i64 s.a), .i (.int .i64 s.why)] ∧ st' = [rdB s]) := by
  refine call_of_bodyF 1 (Nat.le_refl _) Try.func35 rfl (fun a w => Try.call35 a w) (wpx_ok (own := own0) _ _ _ ?_)
  repeat ((conv => whnf); first | refine Br.t ?_ | refine Br.f ?_ | refine ⟨rfl, ?_⟩)
  conv => whnf
  refine fin (target := [rdB s]) rfl (by simp) (rdB_cl _) rfl rfl
theorem new33 (bs : List Nat) (h : bs.length ≤ 1000000) : CallW Try.prog G0 33 [.i (.sl (bs.map by8))] [] (fun r st' => r = .ptr 1 0 0 0 ∧ st' = [.dead, rdB ⟨bs, 0, 0, 0⟩]) := by
  refine call_of_bodyF 2 (Nat.zero_le _) Try.func33 rfl (fun a w => Try.call33 a w) (W.weak (wpx_ok (own := ownAll) _ _ _ ?_))
  repeat ((conv => whnf); first | refine Br.t ?_ | refine Br.f ?_ | refine ⟨rfl, ?_⟩)
  conv => whnf
  have hl : (bs.map by8).length = bs.length := by simp
  refine ⟨apL (by simp [by8]) rfl 1 rfl rfl (by omega) (len_mx (by omega)), ?_⟩
  repeat ((conv => whnf); first | refine Br.t ?_ | refine Br.f ?_ | refine ⟨rfl, ?_⟩)
  conv => whnf
  refine ⟨_, Le.data 0 2 1 (bs.map by8) (sl := _) (s := ⟨mkS 8 [(2, .ptr 1 0 0 0)], [.dead, rdB ⟨bs, 0, 0, 0⟩]⟩) rfl ?_ ?_, ?_⟩
  · simp [leS, mkS, V.dat]
  · simp [Ob.dat, rdB, V.dat.datAll, V.dat]
    exact (List.take_of_length_le (by simp [lift])).symm
  · conv => whnf
    refine fin (target := [.dead, rdB ⟨bs, 0, 0, 0⟩]) rfl (Nat.le_refl _) ?_ rfl rfl
    intro o ho
    simp only [List.mem_cons, List.not_mem_nil, or_false] at ho
    rcases ho with rfl | rfl
    · trivial
    · intro cs hcs
      simp only [List.mem_singleton] at hcs
      subst hcs
      rfl
def Rd.left (s : Rd) : Nat := s.bs.length - s.p
def Rd.raw (s : Rd) (n : Int) : List Nat × Rd :=
  if s.why ≠ 0 then ([], s) else if n < 0 then ([], s.fail 1) else if (s.left : Int) < n then ([], s.fail 2) else ((s.bs.drop s.p).take n.toNat, { s with p := s.p + n.toNat })
theorem raw34 (s : Rd) (hok : s.ok) (n : Int) : CallW Try.prog G0 34 [.ptr 0 0 0 0, .i (.int .i64 n)] [rdB s] (fun r st' => r = .i (.sl ((s.raw n).1.map by8)) ∧ st' = [rdB (s.raw n).2]) := by
  refine call_of_bodyF 1 (Nat.le_refl _) Try.func34 rfl (fun a w => Try.call34 a w) (wpx_ok (own := fun t => t == 25) _ _ _ ?_)
  repeat ((conv => whnf); first | refine Br.t ?_ | refine Br.f ?_ | refine ⟨rfl, ?_⟩)
  conv => whnf
  refine Br.mk (fun h => ?_) (fun h => ?_)
  · simp at h
    have e : s.raw n = ([], s) := by simp [Rd.raw, h]
    rw [e]
    repeat ((conv => whnf); first | refine Br.t ?_ | refine Br.f ?_ | refine ⟨rfl, ?_⟩)
    conv => whnf
    refine fin (target := [rdB s]) rfl (Nat.le_refl _) (rdB_cl _) rfl rfl
  · simp at h
    repeat ((conv => whnf); first | refine Br.t ?_ | refine Br.f ?_ | refine ⟨rfl, ?_⟩)
    conv => whnf
    refine Br.mk (fun h1 => ?_) (fun h1 => ?_)
    · simp at h1
      have e : s.raw n = ([], s.fail 1) := by simp [Rd.raw, h, h1]
      rw [e]
      repeat ((conv => whnf); first | refine Br.t ?_ | refine Br.f ?_ | refine ⟨rfl, ?_⟩)
      conv => whnf
      refine (fail49 s 1).mono ?_
      rintro r st' ⟨rfl, rfl⟩
      repeat ((conv => whnf); first | refine Br.t ?_ | refine Br.f ?_ | refine ⟨rfl, ?_⟩)
      conv => whnf
      refine fin (target := [rdB (s.fail 1)]) rfl (Nat.le_refl _) (rdB_cl _) rfl rfl
    · simp at h1
      repeat ((conv => whnf); first | refine Br.t ?_ | refine Br.f ?_ | refine ⟨rfl, ?_⟩)
      conv => whnf
      refine (left50 s hok).mono ?_
      rintro r st' ⟨rfl, rfl⟩
      repeat ((conv => whnf); first | refine Br.t ?_ | refine Br.f ?_ | refine ⟨rfl, ?_⟩)
      conv => whnf
      refine Br.mk (fun h2 => ?_) (fun h2 => ?_)
      · simp only [decide_eq_true_eq] at h2
        have e : s.raw n = ([], s.fail 2) := by simp only [Rd.raw]; have hl : s.left = s.bs.length - s.p := rfl; rw [if_neg (by omega), if_neg (by omega), if_pos (by omega)]
        rw [e]
        repeat ((conv => whnf); first | refine Br.t ?_ | refine Br.f ?_ | refine ⟨rfl, ?_⟩)
        conv => whnf
        refine (fail49 s 2).mono ?_
        rintro r st' ⟨rfl, rfl⟩
        repeat ((conv => whnf); first | refine Br.t ?_ | refine Br.f ?_ | refine ⟨rfl, ?_⟩)
        conv => whnf
        refine fin (target := [rdB (s.fail 2)]) rfl (Nat.le_refl _) (rdB_cl _) rfl rfl
      · simp only [decide_eq_false_iff_not] at h2
        have e : s.raw n = ((s.bs.drop s.p).take n.toNat, { s with p := s.p + n.toNat }) := by simp only [Rd.raw]; have hl : s.left = s.bs.length - s.p := rfl; rw [if_neg (by omega), if_neg (by omega), if_neg (by omega)]
        rw [e]
        obtain ⟨k1, k2, k3⟩ := hok
        obtain ⟨n, rfl⟩ := Int.eq_ofNat_of_zero_le h1
        have ew : IntKind.i64.wrap ((s.p : Int) + (n : Int)) = ((s.p + n : Nat) : Int) := by rw [i64_id (by omega) (by omega)]; rfl
        have hb : 0 ≤ (s.p : Int) ∧ (s.p : Int) ≤ IntKind.i64.wrap ((s.p : Int) + (n : Int)) ∧ IntKind.i64.wrap ((s.p : Int) + (n : Int)) ≤ ((s.bs.map by8).length : Nat) ∧ ∀ cs ∈ s.bs.map by8, cs.length = szA Try.prog 5 := by
          rw [ew]
          refine ⟨by omega, by omega, by simp; omega, ?_⟩
          intro cs hcs
          simp only [List.mem_map] at hcs
          obtain ⟨b, _, rfl⟩ := hcs
          rfl
        have ez : (((s.bs.map by8).drop (s.p : Int).toNat).take ((IntKind.i64.wrap ((s.p : Int) + (n : Int))).toNat - (s.p : Int).toNat)) = ((s.bs.drop s.p).take n).map by8 := by
          rw [ew, Int.toNat_natCast, Int.toNat_natCast, List.map_take, List.map_drop]
          congr 1; omega
        have ho : one (((s.bs.drop s.p).take n).map by8) := by
          intro cs hcs
          simp only [List.mem_map] at hcs
          obtain ⟨b, _, rfl⟩ := hcs
          rfl
        have hlen : (((s.bs.drop s.p).take n).map by8).length ≤ 1000000 := by simp; omega
        repeat ((conv => whnf); first | refine Br.t ?_ | refine Br.f ?_ | refine ⟨rfl, ?_⟩)
        conv => whnf
        refine draw_ok (own := fun t => t == 25) [0, 16] [(1, 0), (2, 0), (3, 0), (4, 0), (5, 0), (6, 0), (7, 0), (8, 0), (9, 0), (10, 0), (11, 0), (12, 0), (13, 0), (14, 0), (15, 0)] [] rfl (by kernel_rfl) (Nat.le_refl _) ?_
        repeat ((conv => whnf); first | refine Br.t ?_ | refine Br.f ?_ | refine ⟨rfl, ?_⟩)
        conv => whnf
        refine ⟨hb, ?_⟩
        repeat ((conv => whnf); first | refine Br.t ?_ | refine Br.f ?_ | refine ⟨rfl, ?_⟩)
        conv => whnf
        rw [ez]
        refine ⟨apL ho rfl 1 rfl rfl (by omega) (len_mx (by omega)), ?_⟩
        repeat ((conv => whnf); first | refine Br.t ?_ | refine Br.f ?_ | refine ⟨rfl, ?_⟩)
        conv => whnf
        refine ⟨by repeat ((conv => whnf); first | exact trivial | refine ⟨rfl, ?_⟩), ?_, ?_⟩
        · repeat ((conv => whnf); first | exact trivial | refine ⟨by (conv => whnf); first | exact ⟨rfl, rfl⟩ | exact ⟨rfl, rfl, rfl⟩ | exact ⟨hb, congrArg (fun z => V.i (.sl z)) ez, rfl⟩, ?_⟩)
        · repeat ((conv => whnf); first | refine Br.t ?_ | refine Br.f ?_ | refine ⟨rfl, ?_⟩)
          conv => whnf
          refine ⟨Nat.le_refl _, rfl, ((s.bs.drop s.p).take n).map by8, rfl, ?_⟩
          have er : rdB { s with p := s.p + (n : Int).toNat } = .row 0 4 false [[.i (.sl (s.bs.map by8)), .i (.int .i64 (IntKind.i64.wrap ((s.p : Int) + (n : Int)))), .i (.int .i64 s.a), .i (.int .i64 s.why)]] := by rw [ew]; rfl
          refine fin (target := [rdB { s with p := s.p + (n : Int).toNat }]) ?_ (by simp) (rdB_cl _) ?_ rfl
          · rw [er]; rfl
          · rw [List.drop_zero, List.take_of_length_le (by simp [lift])]
            rfl
end Go.Proofs.Ytdbmfnhbgacldaa.Am
