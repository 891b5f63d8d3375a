/- Texts YsA YsB YsW YsC AzH YsE YsF of this session, one behind the other. -/
import Derived.Test.YtiikndppckjmhaaAzX
import Derived.Test.YtiikndppckjmhaaYpX
import Derived.Test.YtiikndppckjmhaaAmV
/- Contracts: going along a script; what a script comes to. -/
namespace Go.Proofs.Ytiikndppckjmhaa.Am
set_option autoImplicit false
set_option linter.unusedVariables false
set_option linter.unusedSimpArgs false
set_option maxRecDepth 10000
set_option pp.maxSteps 3000
set_option pp.proofs false
def lB (l : List (Int × Bool)) : Ob := .row 0 1 false [[.i (.sl (l.map encP))]]
theorem lB_cl (l : List (Int × Bool)) (m : Nat) : (lB l).cl m := by intro cs hcs; simp only [List.mem_singleton] at hcs; subst hcs; rfl
def fnAl (a b : Nat) : V := .fn (.func 91) [] [.ptr a 0 0 0, .ptr b 0 0 0]
theorem along_ok (p : Pg) (l : List (Int × Bool)) : CallW Try.prog G0 55 [pgV p, .i (.sl (l.map encP))] [] (fun r st' => r = fnAl 0 1 ∧ st' = [pgB p, lB l]) := by
  refine call_of_body Try.func55 rfl (fun a w => Try.call55 a w) (wpx_ok (own := own0) _ _ _ ?_)
  repeat ((conv => whnf); first | refine Br.t ?_ | refine Br.f ?_ | refine ⟨rfl, ?_⟩)
  conv => whnf
  rfl
theorem hG0 : ∀ g, G0 g = none := fun _ => rfl
def Y0 : Yt := fun _ _ _ _ => False
theorem y0_ok {P : Program} {ro : Option Nat} {cx : Cx} : YOK P ro cx Y0 := fun _ _ _ _ h => h.elim
theorem along_in (p : Pg) (l : List (Int × Bool)) (big : List Ob) : CallW Try.prog G0 55 [pgV p, .i (.sl (l.map encP))] big (fun r st' => r = fnAl big.length (big.length + 1) ∧ st' = big ++ [pgB p, lB l]) := by
  refine (CallW.rise (bargs := [pgV p, .i (.sl (l.map encP))]) (big := big) [] [] (along_ok p l) rfl (by simp) (by simp) rfl (by simp) (by simp) rfl (fun j s v hs hv => .inl ⟨by rcases j with _ | _ | j <;> simp at hs <;> subst hs <;> rfl, by rcases j with _ | _ | j <;> simp at hs hv <;> subst hs <;> subst hv <;> rfl⟩) (.inl rfl)).mono ?_
  rintro r st' ⟨r0, s0, ⟨rfl, rfl⟩, rfl, rfl⟩
  refine ⟨?_, ?_⟩
  · simp [fnAl, V.ren, V.ren.renAll, fm]
  · simp [putAll]
    exact ⟨rfl, rfl⟩
/-- the outer store of Run: what stands beside the iterator -/
def ruB (p : Pg) (l : List (Int × Bool)) (c : Cfg) : List Ob := [pgB p, zeroB, cfgB c, pgB p, lB l]
def alS (l : List (Int × Bool)) (y : V) (a b k : Nat) (i : Nat) : List V := mkS 39 [(0, y), (1, .ptr a 0 0 0), (2, .ptr b 0 0 0), (4, .ptr k 0 0 0), (21, .i (.sl (l.map encP))), (22, .i (.int .i64 l.length)), (23, .i (.int .i64 i))]
theorem ruB_cl (p : Pg) (l : List (Int × Bool)) (c d : Cfg) (m : Nat) : ∀ o ∈ ruB p l c ++ [cfgB d], o.cl m := by
  intro o ho
  simp only [ruB, List.cons_append, List.nil_append, List.mem_cons, List.not_mem_nil, or_false] at ho
  rcases ho with rfl | rfl | rfl | rfl | rfl | rfl
  · exact pgB_cl p m
  · exact zeroB_cl m
  · exact cfgB_cl _ m
  · exact pgB_cl p m
  · exact lB_cl l m
  · exact cfgB_cl _ m
set_option maxHeartbeats 4000000 in
theorem run_ok (p : Pg) (hp0 : okPg p) (l : List (Int × Bool)) (hl : l.length ≤ 100000) : CallW Try.prog G0 53 [pgV p, .i (.sl (l.map encP))] [] (fun r st' => r = .tup [cfgV (if (chk p).2.2 = 0 then runC p cfg0 l else cfgZ), .i (.int .i64 (chk p).2.2)] ∧ st' = []) := by
  refine call_of_bodyZ 0 (Nat.le_refl _) Try.func53 rfl (fun a w => Try.call53 a w) (zx_ok (own := own0) cx0_good y0_ok hG0 (Nat.zero_le _) _ _ _ _ ?_)
  have c0 := start_ok p hp0
  by_cases h0 : (chk p).2.2 = 0
  · have hp := chk_zero h0
    have es : startC p = cfg0 := by unfold startC; rw [if_pos h0]
    rw [es, h0] at c0
    rw [if_pos h0, h0]
    repeat ((conv => whnf); first | refine Br.t ?_ | refine Br.f ?_ | refine ⟨rfl, ?_⟩)
    conv => whnf
    refine CallW.mono (c0.pure _ rfl rfl) ?_
    rintro r st' ⟨rfl, rfl⟩
    repeat ((conv => whnf); first | refine Br.t ?_ | refine Br.f ?_ | refine ⟨rfl, ?_⟩)
    conv => whnf
    refine CallW.mono (along_in p l _) ?_
    rintro r st' ⟨rfl, rfl⟩
    repeat ((conv => whnf); first | refine Br.t ?_ | refine Br.f ?_ | refine ⟨rfl, ?_⟩)
    conv => whnf
    refine zrange (Kit := fun st' p' => p' = none ∧ st' = ruB p l (runC p cfg0 l) ++ [cfgB (runC p cfg0 l)]) hG0 rfl (fun a w => Try.call91 a w) ?_ ?_
    · rintro l' ⟨q1, q2, q3, q4, q5, q6, q7, q8⟩ rfl rfl rfl
      refine it_of_body Try.func91 rfl rfl (zx_ok (own := own0) (cxIt_good _ _ _ _) (yit_ok (G := G0) _ _ _ _) hG0 (Nat.le_refl _) _ _ _ _ ?_)
      repeat ((conv => whnf); first | refine Br.t ?_ | refine Br.f ?_ | refine ⟨rfl, ?_⟩)
      conv => whnf
      refine CallW.mono (c0.pure _ rfl rfl) ?_
      rintro r st' ⟨rfl, rfl⟩
      repeat ((conv => whnf); first | refine Br.t ?_ | refine Br.f ?_ | refine ⟨rfl, ?_⟩)
      conv => whnf
      refine zx_ok (own := own0) (cxR_good _ _) y0_ok hG0 (Nat.zero_le _) _ _ _ _ ?_
      repeat ((conv => whnf); first | refine Br.t ?_ | refine Br.f ?_ | refine ⟨rfl, ?_⟩)
      conv => whnf
      refine zx_ok (own := own0) (cxR_good _ _) y0_ok hG0 (Nat.zero_le _) _ _ _ _ ?_
      repeat ((conv => whnf); first | refine Br.t ?_ | refine Br.f ?_ | refine ⟨rfl, ?_⟩)
      conv => whnf
      have hbd : ∀ i, i ≤ l.length → OkC p (runC p cfg0 (l.take i)) := fun i hi => runC_ok hp _ (cfg0_ok hp)
      refine zloop_ok (α := Nat) (cxIt_good _ _ _ _) (Nat.le_refl _) (fun i => ⟨alS l (.fn (.yield l') [] []) 3 4 5 i, ruB p l (runC p cfg0 (l.take i)) ++ [cfgB (runC p cfg0 (l.take i))]⟩) (fun i => i ≤ l.length) (fun i => l.length - i) 0 (Nat.zero_le _) (Le.back (fun _ => 0) (by intro id hid; rfl) (Nat.le_succ 5) rfl (by exact ruB_cl p l _ _ _) (by simp [leS, alS, mkS, V.up, V.up.upAll]) rfl) ?_
      intro i hi
      refine zx_ok (own := own0) (cxIt_good _ _ _ _) (yit_ok (G := G0) _ _ _ _) hG0 (Nat.le_refl _) _ _ _ _ ?_
      repeat ((conv => whnf); first | refine Br.t ?_ | refine Br.f ?_ | refine ⟨rfl, ?_⟩)
      conv => whnf
      by_cases hil : i < l.length
      · have hii : (i : Int) < l.length := by omega
        have he : l[i]? = some l[i] := List.getElem?_eq_getElem hil
        have he2 : (l.map encP)[i]? = some (encP l[i]) := by rw [List.getElem?_map, he]; rfl
        have hi0 : (0 : Int) ≤ i := by omega
        have hs := semstep p hp _ (hbd i hi) l[i].1 l[i].2
        repeat ((conv => whnf); first | refine Br.t ?_ | refine Br.f ?_ | refine ⟨rfl, ?_⟩)
        conv => whnf
        refine Br.mk (fun _ => ?_) (fun k => absurd k (by simp; omega))
        repeat ((conv => whnf); first | refine Br.t ?_ | refine Br.f ?_ | refine ⟨rfl, ?_⟩)
        conv => whnf
        have ex : (l.map encP).getD (i : Int).toNat [] = encP l[i] := by
          rw [Int.toNat_natCast, List.getD_eq_getElem?_getD, he2]; rfl
        rw [ex]
        refine ⟨⟨by omega, by simp; omega, rfl⟩, ?_⟩
        repeat ((conv => whnf); first | refine Br.t ?_ | refine Br.f ?_ | refine ⟨rfl, ?_⟩)
        conv => whnf
        refine CallW.mono (hs.pure _ rfl rfl) ?_
        rintro r st' ⟨rfl, rfl⟩
        repeat ((conv => whnf); first | refine Br.t ?_ | refine Br.f ?_ | refine ⟨rfl, ?_⟩)
        conv => whnf
        refine zx_ok (own := own0) (cxR_good _ _) y0_ok hG0 (Nat.zero_le _) _ _ _ _ ?_
        repeat ((conv => whnf); first | refine Br.t ?_ | refine Br.f ?_ | refine ⟨rfl, ?_⟩)
        conv => whnf
        refine zx_ok (own := own0) (cxR_good _ _) y0_ok hG0 (Nat.zero_le _) _ _ _ _ ?_
        repeat ((conv => whnf); first | refine Br.t ?_ | refine Br.f ?_ | refine ⟨rfl, ?_⟩)
        conv => whnf
        refine ⟨i + 1, rfl, by omega, by omega, ?_⟩
        rw [run_snoc p cfg0 l i _ he]
        exact Le.back (fun _ => 0) (by intro id hid; rfl) (Nat.le_succ 5) rfl (by exact ruB_cl p l _ _ _) (by simp [leS, alS, mkS, V.up, V.up.upAll]; exact i64_id (by omega) (by omega)) rfl
      · have hii : ¬ (i : Int) < l.length := by omega
        repeat ((conv => whnf); first | refine Br.t ?_ | refine Br.f ?_ | refine ⟨rfl, ?_⟩)
        conv => whnf
        refine Br.mk (fun k => absurd k (by simp; omega)) (fun _ => ?_)
        repeat ((conv => whnf); first | refine Br.t ?_ | refine Br.f ?_ | refine ⟨rfl, ?_⟩)
        conv => whnf
        have ei : i = l.length := by omega
        subst ei
        rw [List.take_length]
        rfl
    · rintro st' p' ⟨rfl, rfl⟩
      repeat ((conv => whnf); first | refine Br.t ?_ | refine Br.f ?_ | refine ⟨rfl, ?_⟩)
      conv => whnf
      exact ⟨Nat.zero_le _, rfl, (fun _ h => nomatch h), rfl, rfl⟩
  · have es : startC p = cfgZ := by unfold startC; rw [if_neg h0]
    rw [es] at c0
    rw [if_neg h0]
    repeat ((conv => whnf); first | refine Br.t ?_ | refine Br.f ?_ | refine ⟨rfl, ?_⟩)
    conv => whnf
    refine CallW.mono (c0.pure _ rfl rfl) ?_
    rintro r st' ⟨rfl, rfl⟩
    repeat ((conv => whnf); first | refine Br.t ?_ | refine Br.f ?_ | refine ⟨rfl, ?_⟩)
    conv => whnf
    refine Br.mk (fun _ => ?_) (fun k => absurd h0 (by simpa using k))
    repeat ((conv => whnf); first | refine Br.t ?_ | refine Br.f ?_ | refine ⟨rfl, ?_⟩)
    conv => whnf
    exact ⟨Nat.zero_le _, rfl, (fun _ h => nomatch h), rfl, rfl⟩
end Go.Proofs.Ytiikndppckjmhaa.Am

/- Contracts: the first config on the way of a script in which two race. -/
namespace Go.Proofs.Ytiikndppckjmhaa.Am
set_option autoImplicit false
set_option linter.unusedVariables false
set_option linter.unusedSimpArgs false
set_option maxRecDepth 10000
set_option pp.maxSteps 3000
set_option pp.proofs false
/-- do two race behind the first i picks? -/
def metAt (p : Pg) (l : List (Int × Bool)) (i : Nat) : Bool := (firstR (touches p (runC p cfg0 (l.take i)))).isSome
def meets (p : Pg) (l : List (Int × Bool)) : Option Nat := (List.range (l.length + 1)).find? (metAt p l)
theorem meets_some {p : Pg} {l : List (Int × Bool)} {i : Nat} (hi : i ≤ l.length) (h : metAt p l i = true) (hj : ∀ j, j < i → metAt p l j = false) : meets p l = some i := by
  unfold meets
  rw [List.find?_range_eq_some]
  exact ⟨h, by simp; omega, fun j hj' => by simp [hj j hj']⟩
theorem meets_none {p : Pg} {l : List (Int × Bool)} (hj : ∀ j, j ≤ l.length → metAt p l j = false) : meets p l = none := by
  unfold meets
  rw [List.find?_range_eq_none]
  intro j hj'
  simp [hj j (by omega)]
def intB (n : Int) : Ob := .row 0 1 false [[.i (.int .i64 n)]]
def boolB (b : Bool) : Ob := .row 0 1 false [[.i (.bool b)]]
def meB (p : Pg) (l : List (Int × Bool)) (n : Int) (b : Bool) : List Ob := [pgB p, intB n, boolB b, pgB p, lB l]
theorem meB_cl (p : Pg) (l : List (Int × Bool)) (n : Int) (b : Bool) (c : Cfg) (m : Nat) : ∀ o ∈ meB p l n b ++ [cfgB c], o.cl m := by
  intro o ho
  simp only [meB, List.cons_append, List.nil_append, List.mem_cons, List.not_mem_nil, or_false] at ho
  rcases ho with rfl | rfl | rfl | rfl | rfl | rfl
  · exact pgB_cl p m
  · intro cs hcs; simp only [List.mem_singleton] at hcs; subst hcs; rfl
  · intro cs hcs; simp only [List.mem_singleton] at hcs; subst hcs; rfl
  · exact pgB_cl p m
  · exact lB_cl l m
  · exact cfgB_cl _ m
def meN (o : Option Nat) : Int := match o with | some i => (i : Nat) | none => 0
def meKit (p : Pg) (l : List (Int × Bool)) : List Ob → Option Code → Prop := fun st' p' => (p' = none ∧ meets p l = none ∧ ∃ c, st' = meB p l 0 false ++ [cfgB c]) ∨ (p' = some .ret ∧ ∃ (i : Nat) (rest : List Ob), meets p l = some i ∧ st' = meB p l i true ++ rest)
set_option maxHeartbeats 4000000 in
theorem meets_ok (p : Pg) (hp0 : okPg p) (h0 : (chk p).2.2 = 0) (l : List (Int × Bool)) (hl : l.length ≤ 100000) : CallW Try.prog G0 54 [pgV p, .i (.sl (l.map encP))] [] (fun r st' => r = .tup [.i (.int .i64 (meN (meets p l))), .i (.bool (meets p l).isSome)] ∧ st' = []) := by
  refine call_of_bodyZ 0 (Nat.le_refl _) Try.func54 rfl (fun a w => Try.call54 a w) (zx_ok (own := own0) cx0_good y0_ok hG0 (Nat.zero_le _) _ _ _ _ ?_)
  have c0 := start_ok p hp0
  have hp := chk_zero h0
  have es : startC p = cfg0 := by unfold startC; rw [if_pos h0]
  rw [es, h0] at c0
  repeat ((conv => whnf); first | refine Br.t ?_ | refine Br.f ?_ | refine ⟨rfl, ?_⟩)
  conv => whnf
  refine CallW.mono (along_in p l _) ?_
  rintro r st' ⟨rfl, rfl⟩
  repeat ((conv => whnf); first | refine Br.t ?_ | refine Br.f ?_ | refine ⟨rfl, ?_⟩)
  conv => whnf
  refine zrange (Kit := meKit p l) hG0 rfl (fun a w => Try.call91 a w) ?_ ?_
  · rintro l' ⟨q1, q2, q3, q4, q5, q6, q7, q8⟩ rfl rfl rfl
    refine it_of_body Try.func91 rfl rfl (zx_ok (own := own0) (cxIt_good _ _ _ _) (yit_ok (G := G0) _ _ _ _) hG0 (Nat.le_refl _) _ _ _ _ ?_)
    repeat ((conv => whnf); first | refine Br.t ?_ | refine Br.f ?_ | refine ⟨rfl, ?_⟩)
    conv => whnf
    refine CallW.mono (c0.pure _ rfl rfl) ?_
    rintro r st' ⟨rfl, rfl⟩
    have cf := first_ok p hp cfg0 (cfg0_ok hp)
    have hm0 : metAt p l 0 = (firstR (touches p cfg0)).isSome := rfl
    cases hf : firstR (touches p cfg0) with
    | some xy =>
      obtain ⟨x, y⟩ := xy
      rw [hf] at cf hm0
      repeat ((conv => whnf); first | refine Br.t ?_ | refine Br.f ?_ | refine ⟨rfl, ?_⟩)
      conv => whnf
      refine zx_ok (own := own0) (cxR_good _ _) y0_ok hG0 (Nat.zero_le _) _ _ _ _ ?_
      repeat ((conv => whnf); first | refine Br.t ?_ | refine Br.f ?_ | refine ⟨rfl, ?_⟩)
      conv => whnf
      refine zx_ok (own := own0) (cxR_good _ _) y0_ok hG0 (Nat.zero_le _) _ _ _ _ ?_
      repeat ((conv => whnf); first | refine Br.t ?_ | refine Br.f ?_ | refine ⟨rfl, ?_⟩)
      conv => whnf
      refine CallW.mono (cf.pure _ rfl rfl) ?_
      rintro r st' ⟨rfl, rfl⟩
      repeat ((conv => whnf); first | refine Br.t ?_ | refine Br.f ?_ | refine ⟨rfl, ?_⟩)
      conv => whnf
      exact .inr ⟨rfl, 0, _, meets_some (Nat.zero_le _) hm0 (fun j hj => absurd hj (Nat.not_lt_zero j)), rfl⟩
    | none =>
      rw [hf] at cf hm0
      repeat ((conv => whnf); first | refine Br.t ?_ | refine Br.f ?_ | refine ⟨rfl, ?_⟩)
      conv => whnf
      refine zx_ok (own := own0) (cxR_good _ _) y0_ok hG0 (Nat.zero_le _) _ _ _ _ ?_
      repeat ((conv => whnf); first | refine Br.t ?_ | refine Br.f ?_ | refine ⟨rfl, ?_⟩)
      conv => whnf
      refine zx_ok (own := own0) (cxR_good _ _) y0_ok hG0 (Nat.zero_le _) _ _ _ _ ?_
      repeat ((conv => whnf); first | refine Br.t ?_ | refine Br.f ?_ | refine ⟨rfl, ?_⟩)
      conv => whnf
      refine CallW.mono (cf.pure _ rfl rfl) ?_
      rintro r st' ⟨rfl, rfl⟩
      repeat ((conv => whnf); first | refine Br.t ?_ | refine Br.f ?_ | refine ⟨rfl, ?_⟩)
      conv => whnf
      have hbd : ∀ i, i ≤ l.length → OkC p (runC p cfg0 (l.take i)) := fun i hi => runC_ok hp _ (cfg0_ok hp)
      refine zloop_ok (α := Nat) (cxIt_good _ _ _ _) (Nat.le_refl _) (fun i => ⟨alS l (.fn (.yield l') [] []) 3 4 5 i, meB p l 0 false ++ [cfgB (runC p cfg0 (l.take i))]⟩) (fun i => i ≤ l.length ∧ ∀ j, j ≤ i → metAt p l j = false) (fun i => l.length - i) 0 ⟨Nat.zero_le _, fun j hj => by rw [Nat.le_zero.1 hj]; exact hm0⟩ (Le.back (fun _ => 0) (by intro id hid; rfl) (Nat.le_succ 5) rfl (by exact meB_cl p l _ _ _ _) (by simp [leS, alS, mkS, V.up, V.up.upAll]) rfl) ?_
      rintro i ⟨hi, him⟩
      refine zx_ok (own := own0) (cxIt_good _ _ _ _) (yit_ok (G := G0) _ _ _ _) hG0 (Nat.le_refl _) _ _ _ _ ?_
      repeat ((conv => whnf); first | refine Br.t ?_ | refine Br.f ?_ | refine ⟨rfl, ?_⟩)
      conv => whnf
      by_cases hil : i < l.length
      · have hii : (i : Int) < l.length := by omega
        have he : l[i]? = some l[i] := List.getElem?_eq_getElem hil
        have he2 : (l.map encP)[i]? = some (encP l[i]) := by rw [List.getElem?_map, he]; rfl
        have hi0 : (0 : Int) ≤ i := by omega
        have hs := semstep p hp _ (hbd i hi) l[i].1 l[i].2
        refine Br.mk (fun _ => ?_) (fun k => absurd k (by simp; omega))
        repeat ((conv => whnf); first | refine Br.t ?_ | refine Br.f ?_ | refine ⟨rfl, ?_⟩)
        conv => whnf
        have ex : (l.map encP).getD (i : Int).toNat [] = encP l[i] := by
          rw [Int.toNat_natCast, List.getD_eq_getElem?_getD, he2]; rfl
        rw [ex]
        refine ⟨⟨by omega, by simp; omega, rfl⟩, ?_⟩
        repeat ((conv => whnf); first | refine Br.t ?_ | refine Br.f ?_ | refine ⟨rfl, ?_⟩)
        conv => whnf
        refine CallW.mono (hs.pure _ rfl rfl) ?_
        rintro r st' ⟨rfl, rfl⟩
        have cf := first_ok p hp _ (hbd (i + 1) hil)
        have hm1 : metAt p l (i + 1) = (firstR (touches p (runC p cfg0 (l.take (i + 1))))).isSome := rfl
        have ei : IntKind.i64.wrap ((i : Int) + 1) = ((i + 1 : Nat) : Int) := i64_id (by omega) (by omega)
        rw [run_snoc p cfg0 l i _ he] at cf hm1
        cases hf : firstR (touches p (stepC p (runC p cfg0 (l.take i)) l[i].1 l[i].2)) with
        | some xy =>
          obtain ⟨x, y⟩ := xy
          rw [hf] at cf hm1
          repeat ((conv => whnf); first | refine Br.t ?_ | refine Br.f ?_ | refine ⟨rfl, ?_⟩)
          conv => whnf
          refine zx_ok (own := own0) (cxR_good _ _) y0_ok hG0 (Nat.zero_le _) _ _ _ _ ?_
          repeat ((conv => whnf); first | refine Br.t ?_ | refine Br.f ?_ | refine ⟨rfl, ?_⟩)
          conv => whnf
          refine zx_ok (own := own0) (cxR_good _ _) y0_ok hG0 (Nat.zero_le _) _ _ _ _ ?_
          repeat ((conv => whnf); first | refine Br.t ?_ | refine Br.f ?_ | refine ⟨rfl, ?_⟩)
          conv => whnf
          refine CallW.mono (cf.pure _ rfl rfl) ?_
          rintro r st' ⟨rfl, rfl⟩
          repeat ((conv => whnf); first | refine Br.t ?_ | refine Br.f ?_ | refine ⟨rfl, ?_⟩)
          conv => whnf
          exact .inr ⟨rfl, i + 1, _, meets_some hil hm1 (fun j hj => him j (by omega)), by rw [← ei]; rfl⟩
        | none =>
          rw [hf] at cf hm1
          repeat ((conv => whnf); first | refine Br.t ?_ | refine Br.f ?_ | refine ⟨rfl, ?_⟩)
          conv => whnf
          refine zx_ok (own := own0) (cxR_good _ _) y0_ok hG0 (Nat.zero_le _) _ _ _ _ ?_
          repeat ((conv => whnf); first | refine Br.t ?_ | refine Br.f ?_ | refine ⟨rfl, ?_⟩)
          conv => whnf
          refine zx_ok (own := own0) (cxR_good _ _) y0_ok hG0 (Nat.zero_le _) _ _ _ _ ?_
          repeat ((conv => whnf); first | refine Br.t ?_ | refine Br.f ?_ | refine ⟨rfl, ?_⟩)
          conv => whnf
          refine CallW.mono (cf.pure _ rfl rfl) ?_
          rintro r st' ⟨rfl, rfl⟩
          repeat ((conv => whnf); first | refine Br.t ?_ | refine Br.f ?_ | refine ⟨rfl, ?_⟩)
          conv => whnf
          refine ⟨i + 1, rfl, ⟨hil, fun j hj => ?_⟩, by omega, ?_⟩
          · by_cases hji : j = i + 1
            · subst hji; exact hm1
            · exact him j (by omega)
          rw [run_snoc p cfg0 l i _ he]
          exact Le.back (fun _ => 0) (by intro id hid; rfl) (Nat.le_succ 5) rfl (by exact meB_cl p l _ _ _ _) (by simp [leS, alS, mkS, V.up, V.up.upAll]; exact ei) rfl
      · have hii : ¬ (i : Int) < l.length := by omega
        refine Br.mk (fun k => absurd k (by simp; omega)) (fun _ => ?_)
        repeat ((conv => whnf); first | refine Br.t ?_ | refine Br.f ?_ | refine ⟨rfl, ?_⟩)
        conv => whnf
        exact .inl ⟨rfl, meets_none (fun j hj => him j (by omega)), _, rfl⟩
  · rintro st' p' (⟨rfl, hm, rest, rfl⟩ | ⟨rfl, i, rest, hm, rfl⟩)
    · rw [hm]
      repeat ((conv => whnf); first | refine Br.t ?_ | refine Br.f ?_ | refine ⟨rfl, ?_⟩)
      conv => whnf
      exact ⟨⟨rfl, rfl⟩, Nat.zero_le _, rfl, (fun _ h => nomatch h), rfl, rfl⟩
    · rw [hm]
      repeat ((conv => whnf); first | refine Br.t ?_ | refine Br.f ?_ | refine ⟨rfl, ?_⟩)
      conv => whnf
      exact ⟨⟨rfl, rfl⟩, Nat.zero_le _, rfl, (fun _ h => nomatch h), rfl, rfl⟩
set_option maxHeartbeats 4000000 in
theorem meetsZ_ok (p : Pg) (hp0 : okPg p) (h0 : (chk p).2.2 ≠ 0) (l : List (Int × Bool)) : CallW Try.prog G0 54 [pgV p, .i (.sl (l.map encP))] [] (fun r st' => r = .tup [.i (.int .i64 0), .i (.bool false)] ∧ st' = []) := by
  refine call_of_bodyZ 0 (Nat.le_refl _) Try.func54 rfl (fun a w => Try.call54 a w) (zx_ok (own := own0) cx0_good y0_ok hG0 (Nat.zero_le _) _ _ _ _ ?_)
  have c0 := start_ok p hp0
  have es : startC p = cfgZ := by unfold startC; rw [if_neg h0]
  rw [es] at c0
  repeat ((conv => whnf); first | refine Br.t ?_ | refine Br.f ?_ | refine ⟨rfl, ?_⟩)
  conv => whnf
  refine CallW.mono (along_in p l _) ?_
  rintro r st' ⟨rfl, rfl⟩
  repeat ((conv => whnf); first | refine Br.t ?_ | refine Br.f ?_ | refine ⟨rfl, ?_⟩)
  conv => whnf
  refine zrange (Kit := fun st' p' => p' = none ∧ st' = meB p l 0 false ++ [cfgB cfgZ]) hG0 rfl (fun a w => Try.call91 a w) ?_ ?_
  · rintro l' ⟨q1, q2, q3, q4, q5, q6, q7, q8⟩ rfl rfl rfl
    refine it_of_body Try.func91 rfl rfl (zx_ok (own := own0) (cxIt_good _ _ _ _) (yit_ok (G := G0) _ _ _ _) hG0 (Nat.le_refl _) _ _ _ _ ?_)
    repeat ((conv => whnf); first | refine Br.t ?_ | refine Br.f ?_ | refine ⟨rfl, ?_⟩)
    conv => whnf
    refine CallW.mono (c0.pure _ rfl rfl) ?_
    rintro r st' ⟨rfl, rfl⟩
    repeat ((conv => whnf); first | refine Br.t ?_ | refine Br.f ?_ | refine ⟨rfl, ?_⟩)
    conv => whnf
    have hb : ((chk p).2.2 != 0) = true := by simpa using h0
    rw [hb]
    repeat ((conv => whnf); first | refine Br.t ?_ | refine Br.f ?_ | refine ⟨rfl, ?_⟩)
    conv => whnf
    rfl
  · rintro st' p' ⟨rfl, rfl⟩
    repeat ((conv => whnf); first | refine Br.t ?_ | refine Br.f ?_ | refine ⟨rfl, ?_⟩)
    conv => whnf
    exact ⟨⟨rfl, rfl⟩, Nat.zero_le _, rfl, (fun _ h => nomatch h), rfl, rfl⟩
end Go.Proofs.Ytiikndppckjmhaa.Am

/- Contracts: scripts' and witnesses' bytes and checks (written by mkysw.py). -/
namespace Go.Proofs.Ytiikndppckjmhaa.Am
set_option autoImplicit false
set_option linter.unusedVariables false
set_option linter.unusedSimpArgs false
set_option maxRecDepth 10000
set_option pp.deepTerms false
set_option pp.deepTerms.threshold 6
set_option pp.proofs false
def ownAll : Tmp → Bool := fun _ => true
theorem ap1 {sz by_ len esl : Nat} {x : I} (hsz : 1 = sz) (b : Nat) (hb : by_ = b) (h1 : len = esl) (h2 : (len + 1) * b ≤ 140737488355328) (h3 : len + 1 ≤ Go.maxLen) :
    (∀ cs ∈ [[x]], cs.length = sz) ∧ len = esl ∧ (len + (lift [[x]]).length) * by_ ≤ 140737488355328 ∧ len + (lift [[x]]).length ≤ Go.maxLen := by
  subst hsz hb
  exact ⟨fun cs hcs => by simp at hcs; subst hcs; rfl, h1, h2, h3⟩
theorem apL {sz by_ len esl : Nat} {es : List (List I)} (hes : ∀ cs ∈ es, cs.length = 1) (hsz : 1 = sz) (b : Nat) (hb : by_ = b) (h1 : len = esl) (h2 : (len + es.length) * b ≤ 140737488355328) (h3 : len + es.length ≤ Go.maxLen) :
    (∀ cs ∈ es, cs.length = sz) ∧ len = esl ∧ (len + (lift es).length) * by_ ≤ 140737488355328 ∧ len + (lift es).length ≤ Go.maxLen := by
  subst hsz hb
  have : (lift es).length = es.length := by simp [lift]
  rw [this]
  exact ⟨hes, h1, h2, h3⟩
theorem u8_small {n : Nat} (h : n < 256) : IntKind.u8.wrap n = n := by
  simp [IntKind.wrap, IntKind.signed, IntKind.bits]; omega
/-- a whole number, seven bits a byte -/
def by8 (b : Nat) : List I := [.int .u8 b]
def okP (x : Int × Bool) : Bool := decide (0 ≤ x.1) && decide (x.1 < 8)
def pk (x : Int × Bool) : Nat := x.1.toNat + if x.2 then 8 else 0
def pks (xs : List (Int × Bool)) : List (List I) := (xs.map pk).map by8
def codeS (xs : List (Int × Bool)) : Int := if 4096 < xs.length then 4 else if xs.all okP then 0 else 1
def i64b (n : Int) : Prop := -9223372036854775808 ≤ n ∧ n ≤ 9223372036854775807
def stP (xs : List (Int × Bool)) (i : Nat) : List V := mkS 38 [(2, .nils), (3, .i (.int .i64 0)), (4, .ref 0 1 0 i), (11, .i (.sl (xs.map encP))), (12, .i (.int .i64 xs.length)), (13, .i (.int .i64 i))]
theorem codeS_bad {xs : List (Int × Bool)} {x : Int × Bool} (hl : xs.length ≤ 4096) (hx : x ∈ xs) (hb : okP x = false) : codeS xs = 1 := by
  simp only [codeS]
  rw [if_neg (by omega), if_neg]
  intro h
  have := List.all_eq_true.1 h x hx
  rw [hb] at this; cases this
theorem pk_f {a : Int} (h1 : 0 ≤ a) (h2 : a < 8) : IntKind.u8.wrap a = (a.toNat : Int) := by
  simp [IntKind.wrap, IntKind.signed, IntKind.bits]; omega
theorem pk_t {a : Int} (h1 : 0 ≤ a) (h2 : a < 8) : IntKind.u8.wrap (IntKind.u8.wrap a + 8) = ((a.toNat + 8 : Nat) : Int) := by
  simp [IntKind.wrap, IntKind.signed, IntKind.bits]; omega
theorem put25 (xs : List (Int × Bool)) (hx : xs.length ≤ 1000000) : CallW Try.prog G0 90 [.i (.sl (xs.map encP))] []
    (fun r st' => r = .tup [.i (.sl (if codeS xs = 0 then pks xs else [])), .i (.int .i64 (codeS xs))] ∧ st' = []) := by
  refine call_of_bodyF 0 (Nat.le_refl _) Try.func90 rfl (fun a w => Try.call90 a w) (wpx_ok (own := own0) _ _ _ ?_)
  conv => whnf
  refine Br.mk (fun h => ?_) (fun h => ?_)
  · conv => whnf
    simp at h
    have hc : codeS xs = 4 := by simp only [codeS]; rw [if_pos (by omega)]
    refine fin (target := []) rfl (Nat.zero_le _) (by simp) ?_ rfl
    rw [hc]; rfl
  · simp at h
    conv => whnf
    refine loop_ok (α := Nat) (fun i => ⟨stP xs i, [.row 1 1 false (lift (pks (xs.take i)))]⟩) (fun i => i ≤ xs.length ∧ (xs.take i).all okP = true) (fun i => xs.length - i) 0 ⟨Nat.zero_le _, rfl⟩
      ((Le.nil (n := 0) 4 1 rfl).trans (Le.slots (by simp [leS, stP, mkS]))) (fun i hi => wpx_ok (own := own0) _ _ _ ?_)
    obtain ⟨h1, h2⟩ := hi
    conv => whnf
    refine Br.mk (fun h3 => ?_) (fun h3 => ?_)
    · simp at h3
      conv => whnf
      obtain ⟨x, hxi⟩ : ∃ x, x = xs[i] := ⟨_, rfl⟩
      have e : (xs.map encP).getD (i : Int).toNat [] = encP x := by rw [hxi]; exact getD_enc h3
      have htk : xs.take (i + 1) = xs.take i ++ [x] := by rw [hxi]; simp
      rw [e]
      refine ⟨⟨by omega, by simp; omega, rfl⟩, ?_⟩
      repeat ((conv => whnf); first | refine Br.t ?_ | refine Br.f ?_ | refine ⟨rfl, ?_⟩)
      conv => whnf
      refine Br.mk (fun h4 => ?_) (fun h4 => ?_)
      · simp at h4
        repeat ((conv => whnf); first | refine Br.t ?_ | refine Br.f ?_ | refine ⟨rfl, ?_⟩)
        conv => whnf
        have hc : codeS xs = 1 := codeS_bad (by omega) (hxi ▸ List.getElem_mem h3) (by simp only [okP]; simp; omega)
        refine fin (target := []) rfl (Nat.zero_le _) (by simp) ?_ rfl
        rw [hc]; rfl
      · simp at h4
        repeat ((conv => whnf); first | refine Br.t ?_ | refine Br.f ?_ | refine ⟨rfl, ?_⟩)
        conv => whnf
        refine Br.mk (fun h5 => ?_) (fun h5 => ?_)
        · simp at h5
          repeat ((conv => whnf); first | refine Br.t ?_ | refine Br.f ?_ | refine ⟨rfl, ?_⟩)
          conv => whnf
          have hc : codeS xs = 1 := codeS_bad (by omega) (hxi ▸ List.getElem_mem h3) (by simp only [okP]; simp; omega)
          refine fin (target := []) rfl (Nat.zero_le _) (by simp) ?_ rfl
          rw [hc]; rfl
        · simp at h5
          repeat ((conv => whnf); first | refine Br.t ?_ | refine Br.f ?_ | refine ⟨rfl, ?_⟩)
          conv => whnf
          refine Br.mk (fun h6 => ?_) (fun h6 => ?_)
          · repeat ((conv => whnf); first | refine Br.t ?_ | refine Br.f ?_ | refine ⟨rfl, ?_⟩)
            conv => whnf
            refine ⟨ap1 rfl 1 rfl (by simp [lift, pks]; omega) (by omega) (len_mx (by omega)), ?_⟩
            repeat ((conv => whnf); first | refine Br.t ?_ | refine Br.f ?_ | refine ⟨rfl, ?_⟩)
            conv => whnf
            refine ⟨i + 1, ⟨by omega, ?_⟩, by omega, Le.back (fun id => if id = 0 then 1 else 0) (by simp) (Nat.zero_le _) (by rfl) (fun o ho => ?_) ?_ ?_⟩
            · rw [htk, List.all_append, h2]
              simp [okP, h4, h5]
            · simp only [List.mem_singleton] at ho
              subst ho
              exact cl_lift _ _ _ _ _
            · simp [leS, stP, mkS, V.up, lift]
              exact i64_id (by omega) (by omega)
            · have e9 : pks (xs.take i ++ [x]) = pks (xs.take i) ++ [[.int .u8 (IntKind.u8.wrap (IntKind.u8.wrap x.1 + 8))]] := by
                simp only [pks, List.map_append, List.map_cons, List.map_nil, by8, pk, h6, if_true, pk_t h4 h5]
              simp only [upSt, Ob.up, map_up_lift]
              rw [htk, e9, lift_app]
              rfl
          · repeat ((conv => whnf); first | refine Br.t ?_ | refine Br.f ?_ | refine ⟨rfl, ?_⟩)
            conv => whnf
            refine ⟨ap1 rfl 1 rfl (by simp [lift, pks]; omega) (by omega) (len_mx (by omega)), ?_⟩
            repeat ((conv => whnf); first | refine Br.t ?_ | refine Br.f ?_ | refine ⟨rfl, ?_⟩)
            conv => whnf
            refine ⟨i + 1, ⟨by omega, ?_⟩, by omega, Le.back (fun id => if id = 0 then 1 else 0) (by simp) (Nat.zero_le _) (by rfl) (fun o ho => ?_) ?_ ?_⟩
            · rw [htk, List.all_append, h2]
              simp [okP, h4, h5]
            · simp only [List.mem_singleton] at ho
              subst ho
              exact cl_lift _ _ _ _ _
            · simp [leS, stP, mkS, V.up, lift]
              exact i64_id (by omega) (by omega)
            · have e9 : pks (xs.take i ++ [x]) = pks (xs.take i) ++ [[.int .u8 (IntKind.u8.wrap x.1)]] := by
                simp only [pks, List.map_append, List.map_cons, List.map_nil, by8, pk, h6, pk_f h4 h5]
                rfl
              simp only [upSt, Ob.up, map_up_lift]
              rw [htk, e9, lift_app]
              rfl
    · simp at h3
      have e : xs.take i = xs := List.take_of_length_le h3
      have hc : codeS xs = 0 := by rw [e] at h2; simp only [codeS]; rw [if_neg (by omega), if_pos h2]
      conv => whnf
      refine ⟨Nat.le_refl _, rfl, pks (xs.take i), rfl, ?_⟩
      conv => whnf
      refine fin (target := []) rfl (Nat.zero_le _) (by simp) ?_ rfl
      rw [hc, e]
      simp [pks]
      rw [List.take_of_length_le (by simp; omega)]
theorem within29 (n l : Int) : CallW Try.prog G0 109 [.i (.int .i64 n), .i (.int .i64 l)] [] (fun r st' => r = .i (.bool (decide (0 ≤ n) && decide (n < l))) ∧ st' = []) := by
  refine call_of_bodyF 0 (Nat.le_refl _) Try.func109 rfl (fun a w => Try.call109 a w) (wpx_ok (own := own0) _ _ _ ?_)
  conv => whnf
  refine Br.mk (fun h => ?_) (fun h => ?_)
  · simp at h
    repeat ((conv => whnf); first | refine Br.t ?_ | refine Br.f ?_ | refine ⟨rfl, ?_⟩)
    conv => whnf
    refine fin (target := []) rfl (Nat.zero_le _) (by simp) ?_ rfl
    simp [h]
  · simp at h
    repeat ((conv => whnf); first | refine Br.t ?_ | refine Br.f ?_ | refine ⟨rfl, ?_⟩)
    conv => whnf
    refine fin (target := []) rfl (Nat.zero_le _) (by simp) ?_ rfl
    rw [decide_eq_false (by omega : ¬ 0 ≤ n)]; rfl
def okW (a b c : Int) : Bool := (decide (0 ≤ a) && decide (a < 8)) && (decide (0 ≤ b) && decide (b < 8)) && (decide (0 ≤ c) && decide (c < 16)) && !decide (a = b)
def codeW (xs : List (Int × Bool)) (a b c : Int) : Int := if codeS xs = 0 then (if okW a b c then 0 else 1) else codeS xs
def encW (xs : List (Int × Bool)) (a b c : Int) : List I := [.sl (xs.map encP), .int .i64 a, .int .i64 b, .int .i64 c]
theorem check13 (xs : List (Int × Bool)) (a b c : Int) (hx : xs.length ≤ 1000000) : CallW Try.prog G0 93 [.agg ((encW xs a b c).map .i)] [] (fun r st' => r = .i (.int .i64 (codeW xs a b c)) ∧ st' = []) := by
  refine call_of_bodyF 0 (Nat.le_refl _) Try.func93 rfl (fun a w => Try.call93 a w) (wpx_ok (own := own0) _ _ _ ?_)
  repeat ((conv => whnf); first | refine Br.t ?_ | refine Br.f ?_ | refine ⟨rfl, ?_⟩)
  conv => whnf
  refine ((put25 xs hx).pure _ rfl rfl).mono ?_
  rintro r st' ⟨rfl, rfl⟩
  repeat ((conv => whnf); first | refine Br.t ?_ | refine Br.f ?_ | refine ⟨rfl, ?_⟩)
  conv => whnf
  refine Br.mk (fun h => ?_) (fun h => ?_)
  · simp at h
    repeat ((conv => whnf); first | refine Br.t ?_ | refine Br.f ?_ | refine ⟨rfl, ?_⟩)
    conv => whnf
    refine fin (target := []) rfl (Nat.zero_le _) (by simp) ?_ rfl
    simp [codeW, h]
  · simp at h
    repeat ((conv => whnf); first | refine Br.t ?_ | refine Br.f ?_ | refine ⟨rfl, ?_⟩)
    conv => whnf
    refine ((within29 a 8).pure _ rfl rfl).mono ?_
    rintro r st' ⟨rfl, rfl⟩
    repeat ((conv => whnf); first | refine Br.t ?_ | refine Br.f ?_ | refine ⟨rfl, ?_⟩)
    conv => whnf
    refine Br.mk (fun h1 => ?_) (fun h1 => ?_)
    · repeat ((conv => whnf); first | refine Br.t ?_ | refine Br.f ?_ | refine ⟨rfl, ?_⟩)
      conv => whnf
      refine fin (target := []) rfl (Nat.zero_le _) (by simp) ?_ rfl
      have ho : okW a b c = false := by simp only [okW]; simp at *; omega
      simp [codeW, h, ho]
    · repeat ((conv => whnf); first | refine Br.t ?_ | refine Br.f ?_ | refine ⟨rfl, ?_⟩)
      conv => whnf
      refine ((within29 b 8).pure _ rfl rfl).mono ?_
      rintro r st' ⟨rfl, rfl⟩
      repeat ((conv => whnf); first | refine Br.t ?_ | refine Br.f ?_ | refine ⟨rfl, ?_⟩)
      conv => whnf
      refine Br.mk (fun h2 => ?_) (fun h2 => ?_)
      · repeat ((conv => whnf); first | refine Br.t ?_ | refine Br.f ?_ | refine ⟨rfl, ?_⟩)
        conv => whnf
        refine fin (target := []) rfl (Nat.zero_le _) (by simp) ?_ rfl
        have ho : okW a b c = false := by simp only [okW]; simp at *; omega
        simp [codeW, h, ho]
      · repeat ((conv => whnf); first | refine Br.t ?_ | refine Br.f ?_ | refine ⟨rfl, ?_⟩)
        conv => whnf
        refine ((within29 c 16).pure _ rfl rfl).mono ?_
        rintro r st' ⟨rfl, rfl⟩
        repeat ((conv => whnf); first | refine Br.t ?_ | refine Br.f ?_ | refine ⟨rfl, ?_⟩)
        conv => whnf
        refine Br.mk (fun h3 => ?_) (fun h3 => ?_)
        · repeat ((conv => whnf); first | refine Br.t ?_ | refine Br.f ?_ | refine ⟨rfl, ?_⟩)
          conv => whnf
          refine fin (target := []) rfl (Nat.zero_le _) (by simp) ?_ rfl
          have ho : okW a b c = false := by simp only [okW]; simp at *; omega
          simp [codeW, h, ho]
        · repeat ((conv => whnf); first | refine Br.t ?_ | refine Br.f ?_ | refine ⟨rfl, ?_⟩)
          conv => whnf
          refine Br.mk (fun h4 => ?_) (fun h4 => ?_)
          · repeat ((conv => whnf); first | refine Br.t ?_ | refine Br.f ?_ | refine ⟨rfl, ?_⟩)
            conv => whnf
            refine fin (target := []) rfl (Nat.zero_le _) (by simp) ?_ rfl
            have ho : okW a b c = false := by simp only [okW]; simp at *; omega
            simp [codeW, h, ho]
          · repeat ((conv => whnf); first | refine Br.t ?_ | refine Br.f ?_ | refine ⟨rfl, ?_⟩)
            conv => whnf
            refine fin (target := []) rfl (Nat.zero_le _) (by simp) ?_ rfl
            have ho : okW a b c = true := by simp only [okW]; simp at h1 h2 h3 h4 ⊢; omega
            simp [codeW, h, ho]
def row0 (xs : List (Int × Bool)) (a b c : Int) : Ob := .row 0 4 false [(encW xs a b c).map .i]
theorem check12 (xs : List (Int × Bool)) (a b c : Int) (hx : xs.length ≤ 1000000) : CallW Try.prog G0 62 [.agg ((encW xs a b c).map .i)] [] (fun r st' => r = .i (.int .i64 (codeW xs a b c)) ∧ st' = []) := by
  refine call_of_bodyF 0 (Nat.le_refl _) Try.func62 rfl (fun a w => Try.call62 a w) (wpx_ok (own := own0) _ _ _ ?_)
  repeat ((conv => whnf); first | refine Br.t ?_ | refine Br.f ?_ | refine ⟨rfl, ?_⟩)
  conv => whnf
  refine Br.mk (fun h => ?_) (fun h => ?_)
  · simp at h
    repeat ((conv => whnf); first | refine Br.t ?_ | refine Br.f ?_ | refine ⟨rfl, ?_⟩)
    conv => whnf
    have hc : codeS xs = 4 := by simp only [codeS]; rw [if_pos (by omega)]
    refine fin (target := []) rfl (Nat.zero_le _) (by simp) ?_ rfl
    simp [codeW, hc]
  · simp at h
    repeat ((conv => whnf); first | refine Br.t ?_ | refine Br.f ?_ | refine ⟨rfl, ?_⟩)
    conv => whnf
    refine loop_ok (α := Nat) (fun i => ⟨mkS 66 [(1, .ptr 0 0 0 0), (3, .i (.int .i64 i))], [row0 xs a b c]⟩) (fun i => i ≤ xs.length ∧ (xs.take i).all okP = true) (fun i => xs.length - i) 0 ⟨Nat.zero_le _, rfl⟩
      (Le.slots (by simp [leS, mkS])) (fun i hi => wpx_ok (own := own0) _ _ _ ?_)
    obtain ⟨h1, h2⟩ := hi
    repeat ((conv => whnf); first | refine Br.t ?_ | refine Br.f ?_ | refine ⟨rfl, ?_⟩)
    conv => whnf
    refine Br.mk (fun h3 => ?_) (fun h3 => ?_)
    · simp at h3
      conv => whnf
      obtain ⟨x, hxi⟩ : ∃ x, x = xs[i] := ⟨_, rfl⟩
      have e : (xs.map encP).getD (i : Int).toNat [] = encP x := by rw [hxi]; exact getD_enc h3
      have htk : xs.take (i + 1) = xs.take i ++ [x] := by rw [hxi]; simp
      repeat ((conv => whnf); first | refine Br.t ?_ | refine Br.f ?_ | refine ⟨rfl, ?_⟩)
      conv => whnf
      rw [e]
      refine ⟨⟨by omega, by simp; omega, rfl⟩, ?_⟩
      repeat ((conv => whnf); first | refine Br.t ?_ | refine Br.f ?_ | refine ⟨rfl, ?_⟩)
      conv => whnf
      refine Br.mk (fun h4 => ?_) (fun h4 => ?_)
      · simp at h4
        repeat ((conv => whnf); first | refine Br.t ?_ | refine Br.f ?_ | refine ⟨rfl, ?_⟩)
        conv => whnf
        have hc : codeS xs = 1 := codeS_bad (by omega) (hxi ▸ List.getElem_mem h3) (by simp only [okP]; simp; omega)
        refine fin (target := []) rfl (Nat.zero_le _) (by simp) ?_ rfl
        simp [codeW, hc]
      · simp at h4
        repeat ((conv => whnf); first | refine Br.t ?_ | refine Br.f ?_ | refine ⟨rfl, ?_⟩)
        conv => whnf
        rw [e]
        refine ⟨⟨by omega, by simp; omega, rfl⟩, ?_⟩
        repeat ((conv => whnf); first | refine Br.t ?_ | refine Br.f ?_ | refine ⟨rfl, ?_⟩)
        conv => whnf
        refine Br.mk (fun h5 => ?_) (fun h5 => ?_)
        · simp at h5
          repeat ((conv => whnf); first | refine Br.t ?_ | refine Br.f ?_ | refine ⟨rfl, ?_⟩)
          conv => whnf
          have hc : codeS xs = 1 := codeS_bad (by omega) (hxi ▸ List.getElem_mem h3) (by simp only [okP]; simp; omega)
          refine fin (target := []) rfl (Nat.zero_le _) (by simp) ?_ rfl
          simp [codeW, hc]
        · simp at h5
          repeat ((conv => whnf); first | refine Br.t ?_ | refine Br.f ?_ | refine ⟨rfl, ?_⟩)
          conv => whnf
          refine ⟨i + 1, ⟨by omega, ?_⟩, by omega, Le.slots ?_⟩
          · rw [htk, List.all_append, h2]
            have : okP x = true := by simp only [okP]; simp; omega
            simp [this]
          · simp [leS, mkS]
            exact i64_id (by omega) (by omega)
    · simp at h3
      have e : xs.take i = xs := List.take_of_length_le h3
      have hc : codeS xs = 0 := by rw [e] at h2; simp only [codeS]; rw [if_neg (by omega), if_pos h2]
      repeat ((conv => whnf); first | refine Br.t ?_ | refine Br.f ?_ | refine ⟨rfl, ?_⟩)
      conv => whnf
      refine Br.mk (fun h5 => ?_) (fun h5 => ?_)
      · repeat ((conv => whnf); first | refine Br.t ?_ | refine Br.f ?_ | refine ⟨rfl, ?_⟩)
        conv => whnf
        have ho : okW a b c = false := by simp at h5; simp only [okW]; simp; omega
        refine fin (target := []) rfl (Nat.zero_le _) (by simp) ?_ rfl
        simp [codeW, hc, ho]
      · repeat ((conv => whnf); first | refine Br.t ?_ | refine Br.f ?_ | refine ⟨rfl, ?_⟩)
        conv => whnf
        refine Br.mk (fun h6 => ?_) (fun h6 => ?_)
        · repeat ((conv => whnf); first | refine Br.t ?_ | refine Br.f ?_ | refine ⟨rfl, ?_⟩)
          conv => whnf
          have ho : okW a b c = false := by simp at h5 h6; simp only [okW]; simp; omega
          refine fin (target := []) rfl (Nat.zero_le _) (by simp) ?_ rfl
          simp [codeW, hc, ho]
        · repeat ((conv => whnf); first | refine Br.t ?_ | refine Br.f ?_ | refine ⟨rfl, ?_⟩)
          conv => whnf
          refine Br.mk (fun h7 => ?_) (fun h7 => ?_)
          · repeat ((conv => whnf); first | refine Br.t ?_ | refine Br.f ?_ | refine ⟨rfl, ?_⟩)
            conv => whnf
            have ho : okW a b c = false := by simp at h5 h6 h7; simp only [okW]; simp; omega
            refine fin (target := []) rfl (Nat.zero_le _) (by simp) ?_ rfl
            simp [codeW, hc, ho]
          · repeat ((conv => whnf); first | refine Br.t ?_ | refine Br.f ?_ | refine ⟨rfl, ?_⟩)
            conv => whnf
            refine Br.mk (fun h8 => ?_) (fun h8 => ?_)
            · repeat ((conv => whnf); first | refine Br.t ?_ | refine Br.f ?_ | refine ⟨rfl, ?_⟩)
              conv => whnf
              have ho : okW a b c = false := by simp at h5 h6 h7 h8; simp only [okW]; simp; omega
              refine fin (target := []) rfl (Nat.zero_le _) (by simp) ?_ rfl
              simp [codeW, hc, ho]
            · repeat ((conv => whnf); first | refine Br.t ?_ | refine Br.f ?_ | refine ⟨rfl, ?_⟩)
              conv => whnf
              refine Br.mk (fun h9 => ?_) (fun h9 => ?_)
              · repeat ((conv => whnf); first | refine Br.t ?_ | refine Br.f ?_ | refine ⟨rfl, ?_⟩)
                conv => whnf
                have ho : okW a b c = false := by simp at h5 h6 h7 h8 h9; simp only [okW]; simp; omega
                refine fin (target := []) rfl (Nat.zero_le _) (by simp) ?_ rfl
                simp [codeW, hc, ho]
              · repeat ((conv => whnf); first | refine Br.t ?_ | refine Br.f ?_ | refine ⟨rfl, ?_⟩)
                conv => whnf
                refine Br.mk (fun h10 => ?_) (fun h10 => ?_)
                · repeat ((conv => whnf); first | refine Br.t ?_ | refine Br.f ?_ | refine ⟨rfl, ?_⟩)
                  conv => whnf
                  have ho : okW a b c = false := by simp at h5 h6 h7 h8 h9 h10; simp only [okW]; simp; omega
                  refine fin (target := []) rfl (Nat.zero_le _) (by simp) ?_ rfl
                  simp [codeW, hc, ho]
                · repeat ((conv => whnf); first | refine Br.t ?_ | refine Br.f ?_ | refine ⟨rfl, ?_⟩)
                  conv => whnf
                  refine Br.mk (fun h11 => ?_) (fun h11 => ?_)
                  · repeat ((conv => whnf); first | refine Br.t ?_ | refine Br.f ?_ | refine ⟨rfl, ?_⟩)
                    conv => whnf
                    have ho : okW a b c = false := by simp at h5 h6 h7 h8 h9 h10 h11; simp only [okW]; simp; omega
                    refine fin (target := []) rfl (Nat.zero_le _) (by simp) ?_ rfl
                    simp [codeW, hc, ho]
                  · repeat ((conv => whnf); first | refine Br.t ?_ | refine Br.f ?_ | refine ⟨rfl, ?_⟩)
                    conv => whnf
                    have ho : okW a b c = true := by simp at h5 h6 h7 h8 h9 h10 h11; simp only [okW]; simp; omega
                    refine fin (target := []) rfl (Nat.zero_le _) (by simp) ?_ rfl
                    simp [codeW, hc, ho]
theorem apG {sz by_ len esl : Nat} {es : List (List I)} (hes : ∀ cs ∈ es, cs.length = sz) (b : Nat) (hb : by_ = b) (h1 : len = esl) (h2 : (len + es.length) * b ≤ 140737488355328) (h3 : len + es.length ≤ Go.maxLen) :
    (∀ cs ∈ es, cs.length = sz) ∧ len = esl ∧ (len + (lift es).length) * by_ ≤ 140737488355328 ∧ len + (lift es).length ≤ Go.maxLen := by
  subst hb
  have : (lift es).length = es.length := by simp [lift]
  rw [this]
  exact ⟨hes, h1, h2, h3⟩
def dec (b : Nat) : Int × Bool := ((b % 8 : Nat), decide (8 ≤ b))
def badAt : Nat → List Nat → Option Nat
  | _, [] => none
  | i, b :: r => if 16 ≤ b then some i else badAt (i + 1) r
def getS (bs : List Nat) : List (Int × Bool) × Nat × Nat := if 4096 < bs.length then ([], 0, 4) else match badAt 0 bs with | some i => ([], i, 3) | none => (bs.map dec, 0, 0)
theorem get39 (bs : List Nat) (hl : bs.length ≤ 1000000) (hb : ∀ b ∈ bs, b < 256) : CallW Try.prog G0 89 [.i (.sl (bs.map by8))] []
    (fun r st' => r = .tup [.i (.sl ((getS bs).1.map encP)), .agg [.i (.int .i64 (getS bs).2.1), .i (.int .i64 (getS bs).2.2)]] ∧ st' = []) := by
  refine call_of_bodyF 0 (Nat.le_refl _) Try.func89 rfl (fun a w => Try.call89 a w) (wpx_ok (own := own0) _ _ _ ?_)
  repeat ((conv => whnf); first | refine Br.t ?_ | refine Br.f ?_ | refine ⟨rfl, ?_⟩)
  conv => whnf
  refine Br.mk (fun h => ?_) (fun h => ?_)
  · simp at h
    have e : getS bs = ([], 0, 4) := by unfold getS; rw [if_pos (by omega)]
    rw [e]
    repeat ((conv => whnf); first | refine Br.t ?_ | refine Br.f ?_ | refine ⟨rfl, ?_⟩)
    conv => whnf
    refine fin (target := []) rfl (Nat.zero_le _) (by simp) rfl rfl
  · simp at h
    have e0 : getS bs = match badAt 0 bs with | some i => ([], i, 3) | none => (bs.map dec, 0, 0) := by unfold getS; rw [if_neg (by omega)]
    repeat ((conv => whnf); first | refine Br.t ?_ | refine Br.f ?_ | refine ⟨rfl, ?_⟩)
    conv => whnf
    refine loop_ok (α := Nat) (fun i => ⟨mkS 34 [(3, .ptr 0 0 0 0), (4, .ref 1 1 0 i), (11, .i (.sl (bs.map by8))), (12, .i (.int .i64 (bs.map by8).length)), (13, .i (.int .i64 i))], [.row 0 2 false [[.i (.int .i64 0), .i (.int .i64 0)]], .row 1 2 false (lift ((bs.take i).map fun b => encP (dec b)))]⟩)
      (fun i => i ≤ bs.length ∧ badAt 0 bs = badAt i (bs.drop i)) (fun i => bs.length - i) 0 ⟨Nat.zero_le _, rfl⟩
      ((Le.nil (n := 0) 4 2 rfl).trans (Le.slots (by simp [leS, mkS]))) (fun i hi => wpx_ok (own := own0) _ _ _ ?_)
    obtain ⟨h1, h2⟩ := hi
    repeat ((conv => whnf); first | refine Br.t ?_ | refine Br.f ?_ | refine ⟨rfl, ?_⟩)
    conv => whnf
    refine Br.mk (fun h3 => ?_) (fun h3 => ?_)
    · simp at h3
      obtain ⟨b, hbi⟩ : ∃ b, b = bs[i] := ⟨_, rfl⟩
      have e : (bs.map by8).getD (i : Int).toNat [] = by8 b := by rw [hbi]; exact getD_enc h3
      have ed : bs.drop i = b :: bs.drop (i + 1) := by rw [hbi]; exact List.drop_eq_getElem_cons h3
      have et : bs.take (i + 1) = bs.take i ++ [b] := by rw [hbi]; simp
      have hb' : b < 256 := hb b (hbi ▸ List.getElem_mem h3)
      rw [ed, badAt] at h2
      repeat ((conv => whnf); first | refine Br.t ?_ | refine Br.f ?_ | refine ⟨rfl, ?_⟩)
      conv => whnf
      rw [e]
      refine ⟨⟨by omega, by simp; omega, rfl⟩, ?_⟩
      repeat ((conv => whnf); first | refine Br.t ?_ | refine Br.f ?_ | refine ⟨rfl, ?_⟩)
      conv => whnf
      refine Br.mk (fun h4 => ?_) (fun h4 => ?_)
      · simp at h4
        rw [if_pos (by omega)] at h2
        rw [h2] at e0
        rw [e0]
        repeat ((conv => whnf); first | refine Br.t ?_ | refine Br.f ?_ | refine ⟨rfl, ?_⟩)
        conv => whnf
        refine fin (target := []) rfl (Nat.zero_le _) (by simp) rfl rfl
      · simp at h4
        rw [if_neg (by omega)] at h2
        repeat ((conv => whnf); first | refine Br.t ?_ | refine Br.f ?_ | refine ⟨rfl, ?_⟩)
        conv => whnf
        refine ⟨by decide, ?_⟩
        repeat ((conv => whnf); first | refine Br.t ?_ | refine Br.f ?_ | refine ⟨rfl, ?_⟩)
        conv => whnf
        refine ⟨apG (es := [[.int .i64 (IntKind.i64.wrap ((b : Int).tmod 8)), .bool (decide ((b : Int) ≥ 8))]]) (by intro cs hcs; simp at hcs; subst hcs; rfl) 16 rfl (by simp [lift]; omega) (by simp; omega) (len_mx (by simp; omega)), ?_⟩
        repeat ((conv => whnf); first | refine Br.t ?_ | refine Br.f ?_ | refine ⟨rfl, ?_⟩)
        conv => whnf
        refine ⟨i + 1, ⟨by omega, h2⟩, by omega, Le.down (fun id => if id = 1 then 1 else 0) (by intro id hid; simp at hid) ?_ ?_⟩
        · simp [leS, mkS, V.up, lift]
          exact i64_id (by omega) (by omega)
        · simp only [upSt, Ob.up, map_up_lift]
          rw [et, List.map_append, lift_app]
          have e9 : [[I.int .i64 (IntKind.i64.wrap ((b : Int).tmod 8)), .bool (decide ((b : Int) ≥ 8))]] = [b].map fun b => encP (dec b) := by
            have x1 : IntKind.i64.wrap ((b : Int).tmod 8) = ((b % 8 : Nat) : Int) := by
              rw [Int.tmod_eq_emod_of_nonneg (by omega), i64_id (by omega) (by omega)]; omega
            rw [x1]
            simp [encP, dec]
            omega
          rw [← e9]
          rfl
    · simp at h3
      have hin : i = bs.length := by omega
      subst hin
      rw [List.drop_length, badAt] at h2
      rw [h2] at e0
      rw [e0]
      repeat ((conv => whnf); first | refine Br.t ?_ | refine Br.f ?_ | refine ⟨rfl, ?_⟩)
      conv => whnf
      refine ⟨Nat.zero_le _, rfl, (bs.take bs.length).map fun b => encP (dec b), rfl, ?_⟩
      conv => whnf
      refine fin (target := []) rfl (Nat.zero_le _) (by simp) ?_ rfl
      rw [List.take_length, List.drop_zero, List.take_of_length_le (by simp)]
      simp
end Go.Proofs.Ytiikndppckjmhaa.Am

/- Contracts: picks of who may do no step change nothing of what a script comes to. -/
namespace Go.Proofs.Ytiikndppckjmhaa.Am
set_option autoImplicit false
set_option linter.unusedVariables false
set_option linter.unusedSimpArgs false
set_option maxRecDepth 10000
set_option pp.maxSteps 3000
set_option pp.proofs false
theorem scriptawake : CallW Try.prog G0 52 [] [] (fun r st' => r = .i (.bool true) ∧ st' = []) := by
  refine call_of_bodyF 0 (Nat.le_refl _) Try.func52 rfl (fun a w => Try.call52 a w) (wpx_ok (own := own0) _ _ _ ?_)
  have cg : CallW Try.prog G0 89 [.i (.sl [by8 9])] [] (fun r st' => r = .tup [.i (.sl [encP (1, true)]), .agg [.i (.int .i64 0), .i (.int .i64 0)]] ∧ st' = []) := get39 [9] (by decide) (by decide)
  have cp : CallW Try.prog G0 90 [.i (.sl [encP (1, true)])] [] (fun r st' => r = .tup [.i (.sl [by8 9]), .i (.int .i64 0)] ∧ st' = []) := put25 [(1, true)] (by decide)
  repeat ((conv => whnf); first | refine Br.t ?_ | refine Br.f ?_ | refine ⟨rfl, ?_⟩)
  conv => whnf
  refine CallW.mono (cg.pure _ rfl rfl) ?_
  rintro r st' ⟨rfl, rfl⟩
  repeat ((conv => whnf); first | refine Br.t ?_ | refine Br.f ?_ | refine ⟨rfl, ?_⟩)
  conv => whnf
  refine CallW.mono (cp.pure _ rfl rfl) ?_
  rintro r st' ⟨rfl, rfl⟩
  repeat ((conv => whnf); first | refine Br.t ?_ | refine Br.f ?_ | refine ⟨rfl, ?_⟩)
  conv => whnf
  refine ⟨by kernel_rfl, ?_⟩
  repeat ((conv => whnf); first | refine Br.t ?_ | refine Br.f ?_ | refine ⟨rfl, ?_⟩)
  conv => whnf
  refine ⟨⟨by decide, by decide, rfl⟩, ?_⟩
  repeat ((conv => whnf); first | refine Br.t ?_ | refine Br.f ?_ | refine ⟨rfl, ?_⟩)
  conv => whnf
  refine ⟨by kernel_rfl, ?_⟩
  repeat ((conv => whnf); first | refine Br.t ?_ | refine Br.f ?_ | refine ⟨rfl, ?_⟩)
  conv => whnf
  refine ⟨⟨fun cs hcs => by simp at hcs; subst hcs; rfl, fun cs hcs => by simp [lift] at hcs; subst hcs; trivial⟩, ?_⟩
  repeat ((conv => whnf); first | refine Br.t ?_ | refine Br.f ?_ | refine ⟨rfl, ?_⟩)
  conv => whnf
  refine fin (target := []) rfl (Nat.zero_le _) (by simp) rfl rfl
def idB (p : Pg) (c : Cfg) (M : List (Int × Bool)) : List Ob := [pgB p, cfgB c, .row 1 2 false (lift (M.map encP))]
def idS (l : List (Int × Bool)) (w : Nat) (M : List (Int × Bool)) (i : Nat) (x : List (Nat × V)) : List V := mkS 95 ([(1, .i (.sl (l.map encP))), (2, .i (.int .u8 (w : Nat))), (3, .ptr 0 0 0 0), (7, .ptr 1 0 0 0), (9, .ref 2 1 0 M.length), (10, .i (.int .i64 i))] ++ x)
theorem idB_cl (p : Pg) (c : Cfg) (M : List (Int × Bool)) (m : Nat) : ∀ o ∈ idB p c M, o.cl m := by
  intro o ho
  simp only [idB, List.mem_cons, List.not_mem_nil, or_false] at ho
  rcases ho with rfl | rfl | rfl
  · exact pgB_cl p m
  · exact cfgB_cl _ m
  · exact cl_lift _ _ _ _ _
set_option maxHeartbeats 4000000 in
theorem idle_t (p : Pg) (hp : PgOk p) (l : List (Int × Bool)) (w : Nat) (hw : w < 256) (c : Cfg) (hc : OkC p c) (i : Nat) (hi : i ≤ 1000) (M : List (Int × Bool)) (hM : M.length ≤ 10 * i) (hr : runC p cfg0 M = c) :
    W Try.prog G0 0 (.loop (lp Try.f14 1)) (fun e s => e = .exit 2 ∧ ∃ M' : List (Int × Bool), M'.length ≤ 10 * i + 9 ∧ runC p cfg0 M' = c ∧ s = ⟨idS l w M' i [], idB p c M'⟩) ⟨idS l w M i [(11, .i (.int .i64 0))], idB p c M⟩ := by
  refine W.weak (loop_ok (α := Nat × List (Int × Bool)) (fun x => ⟨idS l w x.2 i [(11, .i (.int .i64 x.1))], idB p c x.2⟩)
    (fun x => x.1 ≤ 9 ∧ x.2.length ≤ 10 * i + x.1 ∧ runC p cfg0 x.2 = c) (fun x => 9 - x.1) (0, M) ⟨Nat.zero_le _, by simpa using hM, hr⟩ (Le.refl _ _) (fun x hx => wpx_ok (own := own0) _ _ _ ?_))
  obtain ⟨t, M1⟩ := x
  obtain ⟨h1, h2, h3⟩ := hx
  simp only at h1 h2 h3 ⊢
  have hd0 : IntKind.i64.wrap (1 + (IntKind.i64.wrap (w : Int)).tmod 5) ≠ 0 := by
    rw [i64_id (n := (w : Int)) (by omega) (by omega), Int.tmod_eq_emod_of_nonneg (by omega), i64_id (by omega) (by omega)]; omega
  repeat ((conv => whnf); first | refine Br.t ?_ | refine Br.f ?_ | refine ⟨rfl, ?_⟩)
  conv => whnf
  refine Br.mk (fun g => ?_) (fun g => ?_)
  · have g : t < 9 := by simp at g; omega
    repeat ((conv => whnf); first | refine Br.t ?_ | refine Br.f ?_ | refine ⟨rfl, ?_⟩)
    conv => whnf
    refine ⟨by decide, ?_⟩
    repeat ((conv => whnf); first | refine Br.t ?_ | refine Br.f ?_ | refine ⟨rfl, ?_⟩)
    conv => whnf
    refine ⟨hd0, ?_⟩
    repeat ((conv => whnf); first | refine Br.t ?_ | refine Br.f ?_ | refine ⟨rfl, ?_⟩)
    conv => whnf
    have nxt : ∀ s, Le 0 s ⟨idS l w M1 i [(11, .i (.int .i64 ((t + 1 : Nat) : Int)))], idB p c M1⟩ → ∃ y : Nat × List (Int × Bool), (y.1 ≤ 9 ∧ y.2.length ≤ 10 * i + y.1 ∧ runC p cfg0 y.2 = c) ∧ 9 - y.1 < 9 - t ∧ Le 0 s ⟨idS l w y.2 i [(11, .i (.int .i64 y.1))], idB p c y.2⟩ :=
      fun s hs => ⟨(t + 1, M1), ⟨by simp only; omega, by simp only; omega, h3⟩, by simp only; omega, hs⟩
    have et : IntKind.i64.wrap ((t : Int) + 1) = ((t + 1 : Nat) : Int) := i64_id (by omega) (by omega)
    refine Br.mk (fun g2 => ?_) (fun g2 => ?_)
    · repeat ((conv => whnf); first | refine Br.t ?_ | refine Br.f ?_ | refine ⟨rfl, ?_⟩)
      conv => whnf
      refine CallW.mono ((enabled_ok p hp c hc t).pure _ rfl rfl) ?_
      rintro r st' ⟨rfl, rfl⟩
      cases he : enab p c t with
      | true =>
        repeat ((conv => whnf); first | refine Br.t ?_ | refine Br.f ?_ | refine ⟨rfl, ?_⟩)
        conv => whnf
        refine nxt _ (Le.slots ?_)
        simp [leS, mkS, idS, et]
      | false =>
        repeat ((conv => whnf); first | refine Br.t ?_ | refine Br.f ?_ | refine ⟨rfl, ?_⟩)
        conv => whnf
        refine ⟨by decide, ?_⟩
        repeat ((conv => whnf); first | refine Br.t ?_ | refine Br.f ?_ | refine ⟨rfl, ?_⟩)
        conv => whnf
        refine ⟨apG (es := [[.int .i64 (t : Int), .bool ((i : Int).tmod 2 == 0)]]) (by intro cs hcs; simp at hcs; subst hcs; rfl) 16 rfl (by simp [lift]) (by simp; omega) (len_mx (by simp; omega)), ?_⟩
        repeat ((conv => whnf); first | refine Br.t ?_ | refine Br.f ?_ | refine ⟨rfl, ?_⟩)
        conv => whnf
        refine ⟨(t + 1, M1 ++ [((t : Int), (i : Int).tmod 2 == 0)]), ⟨by simp only; omega, by simp; omega, ?_⟩, by simp only; omega, Le.down (fun id => if id = 2 then 1 else 0) (by intro id hid; simp at hid) ?_ ?_⟩
        · rw [runC, List.foldl_append]
          show stepC p (runC p cfg0 M1) _ _ = c
          rw [h3]
          exact step_no _ _ he
        · simp [leS, mkS, idS, V.up, lift, et]
        · have e9 : lift ((M1 ++ [((t : Int), (i : Int).tmod 2 == 0)]).map encP) = lift (M1.map encP) ++ lift [[.int .i64 (t : Int), .bool ((i : Int).tmod 2 == 0)]] := by rw [List.map_append, lift_app]; rfl
          unfold idB
          simp only [upSt, Ob.up, map_up_lift]
          rw [e9]
          rfl
    · repeat ((conv => whnf); first | refine Br.t ?_ | refine Br.f ?_ | refine ⟨rfl, ?_⟩)
      conv => whnf
      refine nxt _ (Le.slots ?_)
      simp [leS, mkS, idS, et]
  · have g : t = 9 := by simp at g; omega
    repeat ((conv => whnf); first | refine Br.t ?_ | refine Br.f ?_ | refine ⟨rfl, ?_⟩)
    conv => whnf
    exact ⟨⟨idS l w M1 i [], idB p c M1⟩, Le.slots (by simp [leS, mkS, idS]), rfl, M1, by omega, h3, rfl⟩
set_option maxHeartbeats 4000000 in
theorem idle_i (p : Pg) (hp : PgOk p) (l : List (Int × Bool)) (hl : l.length ≤ 120) (w : Nat) (hw : w < 256) :
    W Try.prog G0 0 (.loop (lp Try.f14 0)) (fun e s => e = .exit 0 ∧ ∃ M' : List (Int × Bool), M'.length ≤ 1200 ∧ runC p cfg0 M' = runC p cfg0 l ∧ s = ⟨mkS 95 [(3, .ptr 0 0 0 0), (7, .ptr 1 0 0 0), (9, .i (.sl (M'.map encP)))], [pgB p, cfgB (runC p cfg0 l), .dead]⟩) ⟨mkS 95 [(1, .i (.sl (l.map encP))), (2, .i (.int .u8 (w : Nat))), (3, .ptr 0 0 0 0), (7, .ptr 1 0 0 0), (9, .nils), (10, .i (.int .i64 0))], [pgB p, cfgB cfg0]⟩ := by
  refine W.weak (loop_ok (α := Nat × List (Int × Bool)) (fun x => ⟨idS l w x.2 x.1 [], idB p (runC p cfg0 (l.take x.1)) x.2⟩)
    (fun x => x.1 ≤ l.length ∧ x.2.length ≤ 10 * x.1 ∧ runC p cfg0 x.2 = runC p cfg0 (l.take x.1)) (fun x => l.length - x.1) (0, []) ⟨Nat.zero_le _, Nat.zero_le _, rfl⟩ ((Le.nil (n := 0) 9 2 rfl).trans (Le.slots (by simp [leS, mkS, idS]))) (fun x hx => wpx_ok (own := own0) _ _ _ ?_))
  obtain ⟨i, M⟩ := x
  obtain ⟨h1, h2, h3⟩ := hx
  simp only at h1 h2 h3 ⊢
  have hc : OkC p (runC p cfg0 (l.take i)) := runC_ok hp _ (cfg0_ok hp)
  have ei : IntKind.i64.wrap ((i : Int) + 1) = ((i + 1 : Nat) : Int) := i64_id (by omega) (by omega)
  repeat ((conv => whnf); first | refine Br.t ?_ | refine Br.f ?_ | refine ⟨rfl, ?_⟩)
  conv => whnf
  refine Br.mk (fun g => ?_) (fun g => ?_)
  · have g : i < l.length := by simp at g; omega
    obtain ⟨x, hx⟩ : ∃ x, l[i]? = some x := ⟨_, List.getElem?_eq_getElem g⟩
    have ex : (l.map encP).getD (i : Int).toNat [] = encP x := by rw [Int.toNat_natCast]; simp [List.getD_eq_getElem?_getD, hx]
    have cs := semstep p hp _ hc x.1 x.2
    have en : runC p cfg0 (l.take (i + 1)) = stepC p (runC p cfg0 (l.take i)) x.1 x.2 := run_snoc p cfg0 l i x hx
    repeat ((conv => whnf); first | refine Br.t ?_ | refine Br.f ?_ | refine ⟨rfl, ?_⟩)
    conv => whnf
    refine W.le (s' := ⟨idS l w M i [(11, .i (.int .i64 0))], idB p (runC p cfg0 (l.take i)) M⟩) (Le.slots (by simp [leS, mkS, idS])) (W.mono (idle_t p hp l w hw _ hc i (by omega) M h2 h3) ?_)
    rintro e s ⟨rfl, M1, m1, m2, rfl⟩
    repeat ((conv => whnf); first | refine Br.t ?_ | refine Br.f ?_ | refine ⟨rfl, ?_⟩)
    conv => whnf
    rw [ex]
    refine ⟨⟨by omega, by simp; omega, rfl⟩, ?_⟩
    repeat ((conv => whnf); first | refine Br.t ?_ | refine Br.f ?_ | refine ⟨rfl, ?_⟩)
    conv => whnf
    refine ⟨apG (es := [encP x]) (by intro cs hcs; simp at hcs; subst hcs; rfl) 16 rfl (by simp [lift]) (by simp; omega) (len_mx (by simp; omega)), ?_⟩
    repeat ((conv => whnf); first | refine Br.t ?_ | refine Br.f ?_ | refine ⟨rfl, ?_⟩)
    conv => whnf
    have e9 : lift ((M1 ++ [x]).map encP) = lift (M1.map encP) ++ lift [encP x] := by rw [List.map_append, lift_app]; rfl
    refine W.le (s' := ⟨idS l w (M1 ++ [x]) i [], idB p (runC p cfg0 (l.take i)) (M1 ++ [x])⟩) (Le.down (fun id => if id = 2 then 1 else 0) (by intro id hid; simp at hid) (by simp [leS, mkS, idS, V.up, lift]) (by unfold idB; simp only [upSt, Ob.up, map_up_lift]; rw [e9]; rfl)) ?_
    refine draw_ok (own := own0) [7] [] [(cfgV (stepC p (runC p cfg0 (l.take i)) x.1 x.2), idB p (runC p cfg0 (l.take i)) (M1 ++ [x]))] rfl (by kernel_rfl) (Nat.zero_le _) ?_
    repeat ((conv => whnf); first | refine Br.t ?_ | refine Br.f ?_ | refine ⟨rfl, ?_⟩)
    conv => whnf
    rw [ex]
    refine ⟨⟨by omega, by simp; omega, rfl⟩, ?_⟩
    repeat ((conv => whnf); first | refine Br.t ?_ | refine Br.f ?_ | refine ⟨rfl, ?_⟩)
    conv => whnf
    refine ⟨cs.pure _ rfl rfl, ?_⟩
    repeat ((conv => whnf); first | refine Br.t ?_ | refine Br.f ?_ | refine ⟨rfl, ?_⟩)
    conv => whnf
    refine ⟨by repeat ((conv => whnf); first | exact trivial | refine ⟨rfl, ?_⟩), trivial, ?_⟩
    conv => whnf
    repeat ((conv => whnf); first | refine Br.t ?_ | refine Br.f ?_ | refine ⟨rfl, ?_⟩)
    conv => whnf
    refine ⟨(i + 1, M1 ++ [x]), ⟨g, by simp; omega, ?_⟩, (by show l.length - (i + 1) < l.length - i; omega), ?_⟩
    · show runC p cfg0 (M1 ++ [x]) = runC p cfg0 (l.take (i + 1))
      rw [en, runC, List.foldl_append]
      show stepC p (runC p cfg0 M1) _ _ = _
      rw [m2]
    · rw [en]
      exact Le.slots (by simp [leS, mkS, idS, ei])
  · have g : i = l.length := by simp at g; omega
    subst g
    repeat ((conv => whnf); first | refine Br.t ?_ | refine Br.f ?_ | refine ⟨rfl, ?_⟩)
    conv => whnf
    refine ⟨_, (Le.data 2 1 2 (M.map encP) (s := ⟨mkS 95 [(3, .ptr 0 0 0 0), (7, .ptr 1 0 0 0), (9, .i (.sl (M.map encP)))], [pgB p, cfgB (runC p cfg0 l), .dead]⟩) rfl ?_ ?_), rfl, M, by omega, by rw [h3, List.take_length], rfl⟩
    · simp [leS, mkS, idS, V.dat, List.take_of_length_le]
    · rw [List.take_length]
      rfl
set_option maxHeartbeats 4000000 in
theorem scriptidle (p : Pg) (hp0 : okPg p) (l : List (Int × Bool)) (hl : okL l) (w : Nat) (hw : w < 256) : CallW Try.prog G0 14 [pgV p, .i (.sl (l.map encP)), .i (.int .u8 (w : Nat))] [] (fun r st' => r = .i (.bool true) ∧ st' = []) := by
  refine call_of_bodyF 0 (Nat.le_refl _) Try.func14 rfl (fun a w => Try.call14 a w) (wpx_ok (own := own0) _ _ _ ?_)
  unfold okL at hl
  repeat ((conv => whnf); first | refine Br.t ?_ | refine Br.f ?_ | refine ⟨rfl, ?_⟩)
  conv => whnf
  refine CallW.mono (scriptawake.pure _ rfl rfl) ?_
  rintro r st' ⟨rfl, rfl⟩
  repeat ((conv => whnf); first | refine Br.t ?_ | refine Br.f ?_ | refine ⟨rfl, ?_⟩)
  conv => whnf
  refine CallW.mono ((small16 p hp0).pure _ rfl rfl) ?_
  rintro r st' ⟨rfl, rfl⟩
  repeat ((conv => whnf); first | refine Br.t ?_ | refine Br.f ?_ | refine ⟨rfl, ?_⟩)
  conv => whnf
  refine Br.mk (fun z => ?_) (fun z => ?_)
  · repeat ((conv => whnf); first | refine Br.t ?_ | refine Br.f ?_ | refine ⟨rfl, ?_⟩)
    conv => whnf
    refine CallW.mono (scriptawake.pure _ rfl rfl) ?_
    rintro r st' ⟨rfl, rfl⟩
    repeat ((conv => whnf); first | refine Br.t ?_ | refine Br.f ?_ | refine ⟨rfl, ?_⟩)
    conv => whnf
    refine fin (target := []) rfl (Nat.zero_le _) (by simp) rfl rfl
  repeat ((conv => whnf); first | refine Br.t ?_ | refine Br.f ?_ | refine ⟨rfl, ?_⟩)
  conv => whnf
  refine Br.mk (fun z2 => ?_) (fun z2 => ?_)
  · repeat ((conv => whnf); first | refine Br.t ?_ | refine Br.f ?_ | refine ⟨rfl, ?_⟩)
    conv => whnf
    refine CallW.mono (scriptawake.pure _ rfl rfl) ?_
    rintro r st' ⟨rfl, rfl⟩
    repeat ((conv => whnf); first | refine Br.t ?_ | refine Br.f ?_ | refine ⟨rfl, ?_⟩)
    conv => whnf
    refine fin (target := []) rfl (Nat.zero_le _) (by simp) rfl rfl
  have hll : l.length ≤ 120 := by simp at z2; omega
  repeat ((conv => whnf); first | refine Br.t ?_ | refine Br.f ?_ | refine ⟨rfl, ?_⟩)
  conv => whnf
  refine CallW.mono ((start_ok p hp0).pure _ rfl rfl) ?_
  rintro r st' ⟨rfl, rfl⟩
  repeat ((conv => whnf); first | refine Br.t ?_ | refine Br.f ?_ | refine ⟨rfl, ?_⟩)
  conv => whnf
  by_cases h0 : (chk p).2.2 = 0
  · have hp := chk_zero h0
    have es : startC p = cfg0 := by unfold startC; rw [if_pos h0]
    have cr := run_ok p hp0
    rw [es, h0]
    repeat ((conv => whnf); first | refine Br.t ?_ | refine Br.f ?_ | refine ⟨rfl, ?_⟩)
    conv => whnf
    refine W.le (s' := ⟨mkS 95 [(1, .i (.sl (l.map encP))), (2, .i (.int .u8 (w : Nat))), (3, .ptr 0 0 0 0), (7, .ptr 1 0 0 0), (9, .nils), (10, .i (.int .i64 0))], [pgB p, cfgB cfg0]⟩) (Le.slots (by simp [leS, mkS])) (W.mono (idle_i p hp l hll w hw) ?_)
    rintro e s ⟨rfl, M, m1, m2, rfl⟩
    have cr := run_ok p hp0 M (by omega)
    rw [if_pos h0, h0, m2] at cr
    repeat ((conv => whnf); first | refine Br.t ?_ | refine Br.f ?_ | refine ⟨rfl, ?_⟩)
    conv => whnf
    refine CallW.mono (cr.pure _ rfl rfl) ?_
    rintro r st' ⟨rfl, rfl⟩
    repeat ((conv => whnf); first | refine Br.t ?_ | refine Br.f ?_ | refine ⟨rfl, ?_⟩)
    conv => whnf
    refine CallW.mono ((same_refl p hp _ (runC_ok hp l (cfg0_ok hp))).pure _ rfl rfl) ?_
    rintro r st' ⟨rfl, rfl⟩
    repeat ((conv => whnf); first | refine Br.t ?_ | refine Br.f ?_ | refine ⟨rfl, ?_⟩)
    conv => whnf
    refine fin (target := []) rfl (Nat.zero_le _) (by simp) rfl rfl
  · repeat ((conv => whnf); first | refine Br.t ?_ | refine Br.f ?_ | refine ⟨rfl, ?_⟩)
    conv => whnf
    refine Br.mk (fun _ => ?_) (fun k => absurd h0 (by simpa using k))
    repeat ((conv => whnf); first | refine Br.t ?_ | refine Br.f ?_ | refine ⟨rfl, ?_⟩)
    conv => whnf
    refine fin (target := []) rfl (Nat.zero_le _) (by simp) rfl rfl
end Go.Proofs.Ytiikndppckjmhaa.Am

/- Cuts: codes told in parts, so that a state may say less between them. -/
namespace Go.Proofs.Ytiikndppckjmhaa.Am
set_option autoImplicit false
set_option linter.unusedVariables false
set_option linter.unusedSimpArgs false
section
variable {P : Program} {G : Gl} {own : Tmp → Bool}
theorem W.seq {n : Nat} {x y : Code} {Q : Exit → S → Prop} {s : S} (h : W P G n x (fun e s' => match e with | .normal => W P G n y Q s' | e => Q e s') s) : W P G n (.seq x y) Q s := by
  refine ⟨fun D μ a w hn hg hr => ?_⟩
  refine wp_seq (wp_mono (h.out D μ a w hn hg hr) fun e a' w' hp => ?_)
  obtain ⟨s', μ', h1, h2, h3, h4⟩ := hp
  cases e with
  | normal => exact wp_mono (h1.out D μ' a' w' h4.1 (hg.keep h3) h2) fun e a'' w'' hp => Post.trans h3 h4 hp
  | _ => exact ⟨s', μ', h1, h2, h3, h4⟩
/-- is this a region behind which the telling is cut? -/
def cutAt (ks : List Nat) : Code → Bool
  | .region i _ _ => ks.contains i
  | _ => false
def wpk (P : Program) (G : Gl) (own : Tmp → Bool) (n : Nat) (ks : List Nat) : Code → (Exit → S → Prop) → S → Prop
  | .seq a b, Q, s => match cutAt ks a with
    | true => wpx P G own n a (fun e s' => match e with | .normal => W P G n b Q s' | e => Q e s') s
    | false => wpx P G own n a (fun e s' => match e with | .normal => wpk P G own n ks b Q s' | e => Q e s') s
  | c, Q, s => wpx P G own n c Q s
theorem wpk_ok {n : Nat} (ks : List Nat) : ∀ (c : Code) (Q : Exit → S → Prop) (s : S), wpk P G own n ks c Q s → W P G n c Q s := by
  intro c
  induction c with
  | seq x y ihx ihy =>
    intro Q s h
    unfold wpk at h
    split at h
    · exact W.seq (wpx_ok x _ s h)
    · exact W.seq ((wpx_ok x _ s h).mono fun e s' hq => by
        cases e with
        | normal => exact ihy _ s' hq
        | _ => exact hq)
  | _ => intro Q s h; exact wpx_ok _ Q s h
end
section
variable {P : Program} {G : Gl} {own : Tmp → Bool} {ro : Option Nat} {cx : Cx} {Y : Yt} {n : Nat}
theorem Z.seq {x y : Code} {Q : Exit → S → Option Code → Prop} {s : S} {p : Option Code} (h : Z P G ro cx n x (fun e s' p' => match e with | .normal => Z P G ro cx n y Q s' p' | e => Q e s' p') s p) : Z P G ro cx n (.seq x y) Q s p := by
  refine ⟨fun D μ a w B hX hB hn hr hJ => wpIn_seq (wpIn_mono (h.out D μ a w B hX hB hn hr hJ) fun e a' w' hp => ?_)⟩
  obtain ⟨s', μ', p', D', h1, h2, h3, h4, h5, h6⟩ := hp
  cases e with
  | normal => exact wpIn_mono (h2.out D' μ' a' w' B (fun g hg hd => hX g hg (h1.1 g hd)) (Nat.le_trans hB h5.size) h6.1 h3 h4) fun e a'' w'' hp => PostZ.trans h1 h5 h6 hp
  | _ => exact ⟨s', μ', p', D', h1, h2, h3, h4, h5, h6⟩
def zxk (P : Program) (G : Gl) (own : Tmp → Bool) (Y : Yt) (ro : Option Nat) (cx : Cx) (n : Nat) (ks : List Nat) : Code → (Exit → S → Option Code → Prop) → S → Option Code → Prop
  | .seq a b, Q, s, p => match cutAt ks a with
    | true => zx P G own Y ro cx n a (fun e s' p' => match e with | .normal => Z P G ro cx n b Q s' p' | e => Q e s' p') s p
    | false => zx P G own Y ro cx n a (fun e s' p' => match e with | .normal => zxk P G own Y ro cx n ks b Q s' p' | e => Q e s' p') s p
  | c, Q, s, p => zx P G own Y ro cx n c Q s p
theorem zxk_ok (hcx : cx.Good) (hY : YOK P ro cx Y) (hG : ∀ g, G g = none) (hm : cx.m ≤ n) (ks : List Nat) : ∀ (c : Code) (Q : Exit → S → Option Code → Prop) (s : S) (p : Option Code), zxk P G own Y ro cx n ks c Q s p → Z P G ro cx n c Q s p := by
  intro c
  induction c with
  | seq x y ihx ihy =>
    intro Q s p h
    unfold zxk at h
    split at h
    · exact Z.seq (zx_ok hcx hY hG hm x _ s p h)
    · exact Z.seq ((zx_ok hcx hY hG hm x _ s p h).mono fun e s' p' hq => by
        cases e with
        | normal => exact ihy _ s' p' hq
        | _ => exact hq)
  | _ => intro Q s p h; exact zx_ok hcx hY hG hm _ Q s p h
end
end Go.Proofs.Ytiikndppckjmhaa.Am

/- Contracts: the document's first race behind a script. -/
namespace Go.Proofs.Ytiikndppckjmhaa.Am
set_option autoImplicit false
set_option linter.unusedVariables false
set_option linter.unusedSimpArgs false
set_option maxRecDepth 10000
set_option pp.maxSteps 3000
set_option pp.proofs false
theorem encP_len2 (l : List (Int × Bool)) : ∀ cs ∈ l.map encP, cs.length = 2 := by
  intro cs h
  simp only [List.mem_map] at h
  obtain ⟨x, _, rfl⟩ := h
  rfl
theorem sl_take (l : List (Int × Bool)) (i : Nat) : List.take ((i : Int).toNat - Int.toNat 0) (List.drop (Int.toNat 0) (l.map encP)) = (l.take i).map encP := by
  rw [List.map_take]
  simp
def meI (o : Option Nat) : Int := match o with | some i => (i : Nat) | none => -1
set_option maxHeartbeats 4000000 in
theorem refmeets (p : Pg) (hp : PgOk p) (l : List (Int × Bool)) (hl : l.length ≤ 1000) : CallW Try.prog G0 57 [pgV p, .i (.sl (l.map encP))] [] (fun r st' => r = .i (.int .i64 (meI (meets p l))) ∧ st' = []) := by
  refine call_of_bodyF 0 (Nat.le_refl _) Try.func57 rfl (fun a w => Try.call57 a w) (wpx_ok (own := own0) _ _ _ ?_)
  repeat ((conv => whnf); first | refine Br.t ?_ | refine Br.f ?_ | refine ⟨rfl, ?_⟩)
  conv => whnf
  refine loop_ok (α := Nat) (fun i => ⟨mkS 31 [(1, .i (.sl (l.map encP))), (2, .ptr 0 0 0 0), (5, .i (.int .i64 i))], [pgB p]⟩) (fun i => i ≤ l.length + 1 ∧ ∀ j, j < i → metAt p l j = false) (fun i => l.length + 1 - i) 0 ⟨Nat.zero_le _, fun j hj => absurd hj (Nat.not_lt_zero j)⟩ (Le.slots (by simp [leS, mkS])) (fun i hi => wpx_ok (own := own0) _ _ _ ?_)
  obtain ⟨h1, h2⟩ := hi
  repeat ((conv => whnf); first | refine Br.t ?_ | refine Br.f ?_ | refine ⟨rfl, ?_⟩)
  conv => whnf
  refine Br.mk (fun g => ?_) (fun g => ?_)
  · have g : i ≤ l.length := by simp at g; omega
    have crr := rrun_ok p hp (l.take i) (by simp; omega)
    have hc : OkC p (runC p cfg0 (l.take i)) := runC_ok hp _ (cfg0_ok hp)
    have cf := hfirst_ok p hp _ hc
    have hm : metAt p l i = (firstR (touches p (runC p cfg0 (l.take i)))).isSome := rfl
    have ei : IntKind.i64.wrap ((i : Int) + 1) = ((i + 1 : Nat) : Int) := i64_id (by omega) (by omega)
    obtain ⟨o, ho⟩ : ∃ o, o = firstR (touches p (runC p cfg0 (l.take i))) := ⟨_, rfl⟩
    rw [← ho] at hm cf
    repeat ((conv => whnf); first | refine Br.t ?_ | refine Br.f ?_ | refine ⟨rfl, ?_⟩)
    conv => whnf
    refine draw_ok (own := own0) [] [] [(rcV (runC p cfg0 (l.take i)), [pgB p]), (.tup (h4 o), [pgB p])] rfl (by kernel_rfl) (Nat.zero_le _) ?_
    repeat ((conv => whnf); first | refine Br.t ?_ | refine Br.f ?_ | refine ⟨rfl, ?_⟩)
    conv => whnf
    refine ⟨⟨by omega, by omega, by simp; omega, encP_len2 l⟩, ?_⟩
    rw [sl_take]
    repeat ((conv => whnf); first | refine Br.t ?_ | refine Br.f ?_ | refine ⟨rfl, ?_⟩)
    conv => whnf
    refine ⟨crr.pure _ rfl rfl, ?_⟩
    repeat ((conv => whnf); first | refine Br.t ?_ | refine Br.f ?_ | refine ⟨rfl, ?_⟩)
    conv => whnf
    refine ⟨cf.pure _ rfl (by rcases o with _ | ⟨x, y⟩ <;> rfl), ?_⟩
    repeat ((conv => whnf); first | refine Br.t ?_ | refine Br.f ?_ | refine ⟨rfl, ?_⟩)
    conv => whnf
    cases o with
    | some xy =>
      obtain ⟨x, y⟩ := xy
      rw [meets_some g hm h2]
      repeat ((conv => whnf); first | refine Br.t ?_ | refine Br.f ?_ | refine ⟨rfl, ?_⟩)
      conv => whnf
      refine ⟨by repeat ((conv => whnf); first | exact trivial | refine ⟨rfl, ?_⟩), trivial, ?_⟩
      conv => whnf
      repeat ((conv => whnf); first | refine Br.t ?_ | refine Br.f ?_ | refine ⟨rfl, ?_⟩)
      conv => whnf
      refine fin (target := []) rfl (Nat.zero_le _) (by simp) rfl rfl
    | none =>
      repeat ((conv => whnf); first | refine Br.t ?_ | refine Br.f ?_ | refine ⟨rfl, ?_⟩)
      conv => whnf
      refine ⟨by repeat ((conv => whnf); first | exact trivial | refine ⟨rfl, ?_⟩), trivial, ?_⟩
      conv => whnf
      repeat ((conv => whnf); first | refine Br.t ?_ | refine Br.f ?_ | refine ⟨rfl, ?_⟩)
      conv => whnf
      refine ⟨i + 1, ⟨by omega, fun j hj => ?_⟩, by omega, Le.slots (by simp [leS, mkS, ei])⟩
      by_cases hji : j = i
      · subst hji; exact hm
      · exact h2 j (by omega)
  · have g : i = l.length + 1 := by simp at g; omega
    subst g
    rw [meets_none (fun j hj => h2 j (by omega))]
    repeat ((conv => whnf); first | refine Br.t ?_ | refine Br.f ?_ | refine ⟨rfl, ?_⟩)
    conv => whnf
    refine fin (target := []) rfl (Nat.zero_le _) (by simp) rfl rfl
end Go.Proofs.Ytiikndppckjmhaa.Am

/- Contracts: what any script comes to. -/
namespace Go.Proofs.Ytiikndppckjmhaa.Am
set_option autoImplicit false
set_option linter.unusedVariables false
set_option linter.unusedSimpArgs false
set_option maxRecDepth 10000
set_option pp.maxSteps 3000
set_option pp.proofs false
def stB (w : Nat) : Ob := .row 0 1 false [[.i (.int .u8 (w : Nat))]]
def rnB (p : Pg) (l : List (Int × Bool)) (w : Nat) (c : Cfg) (k : Int) : List Ob := [pgB p, lB l, stB w, cfgB c, boolB true, intB k, pgB p, lB l]
theorem rnB_cl (p : Pg) (l : List (Int × Bool)) (w : Nat) (c : Cfg) (k : Int) (m : Nat) : ∀ o ∈ rnB p l w c k, o.cl m := by
  intro o ho
  simp only [rnB, List.mem_cons, List.not_mem_nil, or_false] at ho
  rcases ho with rfl | rfl | rfl | rfl | rfl | rfl | rfl | rfl
  · exact pgB_cl p m
  · exact lB_cl l m
  · intro cs hcs; simp only [List.mem_singleton] at hcs; subst hcs; rfl
  · exact cfgB_cl _ m
  · intro cs hcs; simp only [List.mem_singleton] at hcs; subst hcs; rfl
  · intro cs hcs; simp only [List.mem_singleton] at hcs; subst hcs; rfl
  · exact pgB_cl p m
  · exact lB_cl l m
set_option maxHeartbeats 4000000 in
theorem runs2 (p : Pg) (hp : PgOk p) (l : List (Int × Bool)) (hl : l.length ≤ 1000) (w : Nat) (hw : w < 256) (c d : Cfg) (i : Nat) (hi : i ≤ l.length) (hd : d = runC p cfg0 (l.take i)) :
    CallW Try.prog G0 58 [.i (.int .i64 i), cfgV d, .ptr 4 0 0 0, .ptr 5 0 0 0, .ptr 1 0 0 0, .ptr 0 0 0 0, .ptr 2 0 0 0] (rnB p l w c i) (fun r st' => r = .i (.bool (decide (i + 1 ≤ w))) ∧ st' = rnB p l w c ((i + 1 : Nat) : Int)) := by
  refine call_of_bodyF 8 (Nat.le_refl _) Try.func58 rfl (fun a w => Try.call58 a w) (wpx_ok (own := own0) _ _ _ ?_)
  have hok : OkC p d := by rw [hd]; exact runC_ok hp _ (cfg0_ok hp)
  have c1 := plain_ok p hp d hok
  have c2 := rrun_ok p hp (l.take i) (by simp; omega)
  rw [← hd] at c2
  have c3 := rsame_refl p hp d hok
  have ei : IntKind.i64.wrap ((i : Int) + 1) = ((i + 1 : Nat) : Int) := i64_id (by omega) (by omega)
  have ew : IntKind.i64.wrap (w : Int) = (w : Int) := i64_id (by omega) (by omega)
  repeat ((conv => whnf); first | refine Br.t ?_ | refine Br.f ?_ | refine ⟨rfl, ?_⟩)
  conv => whnf
  refine draw_ok (own := own0) [25] [] [(rcV d, rnB p l w c i ++ [cfgB d]), (rcV d, rnB p l w c i ++ [cfgB d]), (.i (.bool true), rnB p l w c i ++ [cfgB d])] rfl (by kernel_rfl) (Nat.le_succ 8) ?_
  repeat ((conv => whnf); first | refine Br.t ?_ | refine Br.f ?_ | refine ⟨rfl, ?_⟩)
  conv => whnf
  refine Br.mk (fun _ => ?_) (fun k => absurd k (by simp))
  repeat ((conv => whnf); first | refine Br.t ?_ | refine Br.f ?_ | refine ⟨rfl, ?_⟩)
  conv => whnf
  refine Br.mk (fun _ => ?_) (fun k => absurd k (by simp; omega))
  repeat ((conv => whnf); first | refine Br.t ?_ | refine Br.f ?_ | refine ⟨rfl, ?_⟩)
  conv => whnf
  refine ⟨c1.pure _ rfl rfl, ?_⟩
  repeat ((conv => whnf); first | refine Br.t ?_ | refine Br.f ?_ | refine ⟨rfl, ?_⟩)
  conv => whnf
  have em : (if false = true then (if ((l.map encP).length : Int) > (i : Int) then ((l.map encP).length : Int) else (i : Int)) else if ((l.map encP).length : Int) < (i : Int) then ((l.map encP).length : Int) else (i : Int)) = (i : Int) := by
    rw [if_neg (by decide), if_neg (by simp; omega)]
  rw [em]
  refine ⟨⟨by omega, by omega, by simp; omega, encP_len2 l⟩, ?_⟩
  rw [sl_take]
  repeat ((conv => whnf); first | refine Br.t ?_ | refine Br.f ?_ | refine ⟨rfl, ?_⟩)
  conv => whnf
  refine ⟨c2.pure _ rfl rfl, ?_⟩
  repeat ((conv => whnf); first | refine Br.t ?_ | refine Br.f ?_ | refine ⟨rfl, ?_⟩)
  conv => whnf
  refine ⟨c3.pure _ rfl rfl, ?_⟩
  repeat ((conv => whnf); first | refine Br.t ?_ | refine Br.f ?_ | refine ⟨rfl, ?_⟩)
  conv => whnf
  refine ⟨by repeat ((conv => whnf); first | exact trivial | refine ⟨rfl, ?_⟩), trivial, ?_⟩
  conv => whnf
  repeat ((conv => whnf); first | refine Br.t ?_ | refine Br.f ?_ | refine ⟨rfl, ?_⟩)
  conv => whnf
  have e9 : decide (IntKind.i64.wrap ((i : Int) + 1) ≤ IntKind.i64.wrap (w : Int)) = decide (i + 1 ≤ w) := by rw [ei, ew]; exact decide_eq_decide.2 (by omega)
  refine fin (target := rnB p l w c ((i + 1 : Nat) : Int)) (by rw [← ei]; rfl) (by simp) (rnB_cl _ _ _ _ _ _) (by rw [e9]) rfl
def runY : V := .fn (.func 58) [] [.ptr 4 0 0 0, .ptr 5 0 0 0, .ptr 1 0 0 0, .ptr 0 0 0 0, .ptr 2 0 0 0]
set_option maxHeartbeats 4000000 in
theorem runs_along (p : Pg) (hp0 : okPg p) (h0 : (chk p).2.2 = 0) (l : List (Int × Bool)) (hl : l.length ≤ 1000) (w : Nat) (hw : w < 256) (c : Cfg) :
    CallW Try.prog G0 91 [runY, .ptr 6 0 0 0, .ptr 7 0 0 0] (rnB p l w c 0) (fun r st' => r = .tup [] ∧ st' = rnB p l w c ((min (l.length + 1) (w + 1) : Nat) : Int)) := by
  refine call_of_bodyF 8 (Nat.le_refl _) Try.func91 rfl (fun a w => Try.call91 a w) (wpx_ok (own := own0) _ _ _ ?_)
  have hp := chk_zero h0
  have es : startC p = cfg0 := by unfold startC; rw [if_pos h0]
  have c0 := start_ok p hp0
  rw [es, h0] at c0
  have f0 := runs2 p hp l hl w hw c cfg0 0 (Nat.zero_le _) rfl
  have b0 : decide (0 + 1 ≤ w) = true ∨ decide (0 + 1 ≤ w) = false := by cases decide (0 + 1 ≤ w) <;> simp
  repeat ((conv => whnf); first | refine Br.t ?_ | refine Br.f ?_ | refine ⟨rfl, ?_⟩)
  conv => whnf
  refine CallW.mono (c0.pure _ rfl rfl) ?_
  rintro r st' ⟨rfl, rfl⟩
  repeat ((conv => whnf); first | refine Br.t ?_ | refine Br.f ?_ | refine ⟨rfl, ?_⟩)
  conv => whnf
  refine CallW.mono (f0.tail [cfgB cfg0] rfl (rnB_cl _ _ _ _ _ _) (rnB_cl _ _ _ _ _ _) rfl rfl) ?_
  rintro r st' ⟨rfl, rfl⟩
  repeat ((conv => whnf); first | refine Br.t ?_ | refine Br.f ?_ | refine ⟨rfl, ?_⟩)
  conv => whnf
  refine Br.mk (fun k => ?_) (fun k => ?_)
  · have k : w < 1 := by simpa using k
    repeat ((conv => whnf); first | refine Br.t ?_ | refine Br.f ?_ | refine ⟨rfl, ?_⟩)
    conv => whnf
    rw [show min (l.length + 1) (w + 1) = 0 + 1 by omega]
    refine fin (target := rnB p l w c ((0 + 1 : Nat) : Int)) rfl (by simp) (rnB_cl _ _ _ _ _ _) rfl rfl
  have k : 1 ≤ w := by simpa using k
  repeat ((conv => whnf); first | refine Br.t ?_ | refine Br.f ?_ | refine ⟨rfl, ?_⟩)
  conv => whnf
  refine loop_ok (α := Nat) (fun i => ⟨alS l runY 6 7 8 i, rnB p l w c ((i + 1 : Nat) : Int) ++ [cfgB (runC p cfg0 (l.take i))]⟩) (fun i => i ≤ l.length ∧ i + 1 ≤ w) (fun i => l.length - i) 0 ⟨Nat.zero_le _, k⟩ (Le.slotsE (by simp [leS, alS, mkS]) rfl) (fun i hi => wpx_ok (own := own0) _ _ _ ?_)
  obtain ⟨hi, hiw⟩ := hi
  have hci : OkC p (runC p cfg0 (l.take i)) := runC_ok hp _ (cfg0_ok hp)
  repeat ((conv => whnf); first | refine Br.t ?_ | refine Br.f ?_ | refine ⟨rfl, ?_⟩)
  conv => whnf
  refine Br.mk (fun g => ?_) (fun g => ?_)
  · have g : i < l.length := by simp at g; omega
    obtain ⟨x, hx⟩ : ∃ x, l[i]? = some x := ⟨_, List.getElem?_eq_getElem g⟩
    have ex : (l.map encP).getD (i : Int).toNat [] = encP x := by rw [Int.toNat_natCast]; simp [List.getD_eq_getElem?_getD, hx]
    have cs := semstep p hp _ hci x.1 x.2
    have en : runC p cfg0 (l.take (i + 1)) = stepC p (runC p cfg0 (l.take i)) x.1 x.2 := run_snoc p cfg0 l i x hx
    have ei : IntKind.i64.wrap ((i : Int) + 1) = ((i + 1 : Nat) : Int) := i64_id (by omega) (by omega)
    rw [← en] at cs
    obtain ⟨d, hdd⟩ : ∃ d, d = runC p cfg0 (l.take (i + 1)) := ⟨_, rfl⟩
    have f1 := runs2 p hp l hl w hw c d (i + 1) g hdd
    rw [← hdd] at cs
    repeat ((conv => whnf); first | refine Br.t ?_ | refine Br.f ?_ | refine ⟨rfl, ?_⟩)
    conv => whnf
    rw [ex]
    refine ⟨⟨by omega, by simp; omega, rfl⟩, ?_⟩
    repeat ((conv => whnf); first | refine Br.t ?_ | refine Br.f ?_ | refine ⟨rfl, ?_⟩)
    conv => whnf
    refine CallW.mono (cs.pure _ rfl rfl) ?_
    rintro r st' ⟨rfl, rfl⟩
    repeat ((conv => whnf); first | refine Br.t ?_ | refine Br.f ?_ | refine ⟨rfl, ?_⟩)
    conv => whnf
    rw [ei]
    refine CallW.mono (f1.tail [cfgB d, .row 0 2 false [(encP x).map .i]] rfl (rnB_cl _ _ _ _ _ _) (rnB_cl _ _ _ _ _ _) rfl rfl) ?_
    rintro r st' ⟨rfl, rfl⟩
    repeat ((conv => whnf); first | refine Br.t ?_ | refine Br.f ?_ | refine ⟨rfl, ?_⟩)
    conv => whnf
    refine Br.mk (fun k2 => ?_) (fun k2 => ?_)
    · have k2 : w < i + 1 + 1 := by simpa using k2
      repeat ((conv => whnf); first | refine Br.t ?_ | refine Br.f ?_ | refine ⟨rfl, ?_⟩)
      conv => whnf
      rw [show min (l.length + 1) (w + 1) = i + 1 + 1 by omega]
      refine fin (target := rnB p l w c ((i + 1 + 1 : Nat) : Int)) rfl (by simp) (rnB_cl _ _ _ _ _ _) rfl rfl
    · have k2 : i + 1 + 1 ≤ w := by simpa using k2
      repeat ((conv => whnf); first | refine Br.t ?_ | refine Br.f ?_ | refine ⟨rfl, ?_⟩)
      conv => whnf
      refine ⟨i + 1, ⟨g, k2⟩, by omega, ?_⟩
      rw [← hdd]
      exact Le.back (fun _ => 0) (by intro id hid; rfl) (Nat.le_succ 8) rfl (by intro o ho; rcases List.mem_append.1 ho with h | h; exact rnB_cl _ _ _ _ _ _ _ h; simp only [List.mem_singleton] at h; subst h; exact cfgB_cl _ _) (by simp [leS, alS, mkS, V.up, V.up.upAll, runY]; exact ei) rfl
  · have g : i = l.length := by simp at g; omega
    subst g
    repeat ((conv => whnf); first | refine Br.t ?_ | refine Br.f ?_ | refine ⟨rfl, ?_⟩)
    conv => whnf
    rw [show min (l.length + 1) (w + 1) = l.length + 1 by omega]
    refine fin (target := rnB p l w c ((l.length + 1 : Nat) : Int)) rfl (by simp) (rnB_cl _ _ _ _ _ _) rfl rfl
def runZY : V := .fn (.func 56) [] [.ptr 4 0 0 0]
def rzB (p : Pg) (l : List (Int × Bool)) (w : Nat) : List Ob := [pgB p, lB l, stB w, cfgB cfgZ, intB 0, pgB p, lB l]
theorem rzB_cl (p : Pg) (l : List (Int × Bool)) (w : Nat) (m : Nat) : ∀ o ∈ rzB p l w, o.cl m := by
  intro o ho
  simp only [rzB, List.mem_cons, List.not_mem_nil, or_false] at ho
  rcases ho with rfl | rfl | rfl | rfl | rfl | rfl | rfl
  · exact pgB_cl p m
  · exact lB_cl l m
  · intro cs hcs; simp only [List.mem_singleton] at hcs; subst hcs; rfl
  · exact cfgB_cl _ m
  · intro cs hcs; simp only [List.mem_singleton] at hcs; subst hcs; rfl
  · exact pgB_cl p m
  · exact lB_cl l m
theorem runsZ_along (p : Pg) (hp0 : okPg p) (h0 : (chk p).2.2 ≠ 0) (l : List (Int × Bool)) (w : Nat) :
    CallW Try.prog G0 91 [runZY, .ptr 5 0 0 0, .ptr 6 0 0 0] (rzB p l w) (fun r st' => r = .tup [] ∧ st' = rzB p l w) := by
  refine call_of_bodyF 7 (Nat.le_refl _) Try.func91 rfl (fun a w => Try.call91 a w) (wpx_ok (own := own0) _ _ _ ?_)
  have es : startC p = cfgZ := by unfold startC; rw [if_neg h0]
  have c0 := start_ok p hp0
  rw [es] at c0
  have hb : ((chk p).2.2 != 0) = true := by simpa using h0
  repeat ((conv => whnf); first | refine Br.t ?_ | refine Br.f ?_ | refine ⟨rfl, ?_⟩)
  conv => whnf
  refine CallW.mono (c0.pure _ rfl rfl) ?_
  rintro r st' ⟨rfl, rfl⟩
  repeat ((conv => whnf); first | refine Br.t ?_ | refine Br.f ?_ | refine ⟨rfl, ?_⟩)
  conv => whnf
  rw [hb]
  repeat ((conv => whnf); first | refine Br.t ?_ | refine Br.f ?_ | refine ⟨rfl, ?_⟩)
  conv => whnf
  refine fin (target := rzB p l w) rfl (by simp) (rzB_cl _ _ _ _) rfl rfl
set_option maxHeartbeats 4000000 in
theorem scriptruns (p : Pg) (hp0 : okPg p) (l : List (Int × Bool)) (hl : okL l) (w : Nat) (hw : w < 256) : CallW Try.prog G0 15 [pgV p, .i (.sl (l.map encP)), .i (.int .u8 (w : Nat))] [] (fun r st' => r = .i (.bool true) ∧ st' = []) := by
  refine call_of_bodyF 0 (Nat.le_refl _) Try.func15 rfl (fun a w => Try.call15 a w) (wpx_ok (own := own0) _ _ _ ?_)
  unfold okL at hl
  repeat ((conv => whnf); first | refine Br.t ?_ | refine Br.f ?_ | refine ⟨rfl, ?_⟩)
  conv => whnf
  refine CallW.mono (scriptawake.pure _ rfl rfl) ?_
  rintro r st' ⟨rfl, rfl⟩
  repeat ((conv => whnf); first | refine Br.t ?_ | refine Br.f ?_ | refine ⟨rfl, ?_⟩)
  conv => whnf
  refine CallW.mono ((small16 p hp0).pure _ rfl rfl) ?_
  rintro r st' ⟨rfl, rfl⟩
  repeat ((conv => whnf); first | refine Br.t ?_ | refine Br.f ?_ | refine ⟨rfl, ?_⟩)
  conv => whnf
  refine Br.mk (fun z => ?_) (fun z => ?_)
  · repeat ((conv => whnf); first | refine Br.t ?_ | refine Br.f ?_ | refine ⟨rfl, ?_⟩)
    conv => whnf
    refine CallW.mono (scriptawake.pure _ rfl rfl) ?_
    rintro r st' ⟨rfl, rfl⟩
    repeat ((conv => whnf); first | refine Br.t ?_ | refine Br.f ?_ | refine ⟨rfl, ?_⟩)
    conv => whnf
    refine fin (target := []) rfl (Nat.zero_le _) (by simp) rfl rfl
  repeat ((conv => whnf); first | refine Br.t ?_ | refine Br.f ?_ | refine ⟨rfl, ?_⟩)
  conv => whnf
  refine Br.mk (fun z2 => ?_) (fun z2 => ?_)
  · repeat ((conv => whnf); first | refine Br.t ?_ | refine Br.f ?_ | refine ⟨rfl, ?_⟩)
    conv => whnf
    refine CallW.mono (scriptawake.pure _ rfl rfl) ?_
    rintro r st' ⟨rfl, rfl⟩
    repeat ((conv => whnf); first | refine Br.t ?_ | refine Br.f ?_ | refine ⟨rfl, ?_⟩)
    conv => whnf
    refine fin (target := []) rfl (Nat.zero_le _) (by simp) rfl rfl
  have hll : l.length ≤ 120 := by simp at z2; omega
  have cr := run_ok p hp0 l (by omega)
  have c1 := refcheck p hp0
  unfold tri at c1
  by_cases h0 : (chk p).2.2 = 0
  · have hp := chk_zero h0
    rw [if_pos h0, h0] at cr
    have cm := meets_ok p hp0 h0 l (by omega)
    have crm := refmeets p hp l (by omega)
    rw [h0] at c1
    have hc : OkC p (runC p cfg0 l) := runC_ok hp l (cfg0_ok hp)
    have c2 := plain_ok p hp _ hc
    have c3 := rrun_ok p hp l (by omega)
    have c4 := rsame_refl p hp _ hc
    obtain ⟨c, hcc⟩ : ∃ c, c = runC p cfg0 l := ⟨_, rfl⟩
    rw [← hcc] at cr c2 c3 c4
    have al := along_in p l [pgB p, lB l, stB w, cfgB c, boolB true, intB 0]
    have ra := runs_along p hp0 h0 l (by omega) w hw c
    repeat ((conv => whnf); first | refine Br.t ?_ | refine Br.f ?_ | refine ⟨rfl, ?_⟩)
    conv => whnf
    refine CallW.mono (cr.pure _ rfl rfl) ?_
    rintro r st' ⟨rfl, rfl⟩
    cases hm : meets p l with
    | some a =>
      rw [hm] at cm crm
      simp only [meN, meI] at cm crm
      repeat ((conv => whnf); first | refine Br.t ?_ | refine Br.f ?_ | refine ⟨rfl, ?_⟩)
      conv => whnf
      refine CallW.mono (cm.pure _ rfl rfl) ?_
      rintro r st' ⟨rfl, rfl⟩
      repeat ((conv => whnf); first | refine Br.t ?_ | refine Br.f ?_ | refine ⟨rfl, ?_⟩)
      conv => whnf
      refine CallW.mono (c1.pure _ rfl rfl) ?_
      rintro r st' ⟨rfl, rfl⟩
      repeat ((conv => whnf); first | refine Br.t ?_ | refine Br.f ?_ | refine ⟨rfl, ?_⟩)
      conv => whnf
      refine CallW.mono (crm.pure _ rfl rfl) ?_
      rintro r st' ⟨rfl, rfl⟩
      repeat ((conv => whnf); first | refine Br.t ?_ | refine Br.f ?_ | refine ⟨rfl, ?_⟩)
      conv => whnf
      refine draw_ok (own := own0) [] [] [(rcV c, [pgB p, lB l, stB w, cfgB c]), (rcV c, [pgB p, lB l, stB w, cfgB c]), (.i (.bool true), [pgB p, lB l, stB w, cfgB c])] rfl (by kernel_rfl) (Nat.zero_le _) ?_
      repeat ((conv => whnf); first | refine Br.t ?_ | refine Br.f ?_ | refine ⟨rfl, ?_⟩)
      conv => whnf
      refine ⟨c2.pure _ rfl rfl, ?_⟩
      repeat ((conv => whnf); first | refine Br.t ?_ | refine Br.f ?_ | refine ⟨rfl, ?_⟩)
      conv => whnf
      refine ⟨c3.pure _ rfl rfl, ?_⟩
      repeat ((conv => whnf); first | refine Br.t ?_ | refine Br.f ?_ | refine ⟨rfl, ?_⟩)
      conv => whnf
      refine ⟨c4.pure _ rfl rfl, ?_⟩
      repeat ((conv => whnf); first | refine Br.t ?_ | refine Br.f ?_ | refine ⟨rfl, ?_⟩)
      conv => whnf
      refine Br.mk (fun k => absurd k (by simp)) (fun _ => ?_)
      repeat ((conv => whnf); first | refine Br.t ?_ | refine Br.f ?_ | refine ⟨rfl, ?_⟩)
      conv => whnf
      refine ⟨by repeat ((conv => whnf); first | exact trivial | refine ⟨rfl, ?_⟩), trivial, ?_⟩
      conv => whnf
      repeat ((conv => whnf); first | refine Br.t ?_ | refine Br.f ?_ | refine ⟨rfl, ?_⟩)
      conv => whnf
      refine CallW.mono al ?_
      rintro r st' ⟨rfl, rfl⟩
      repeat ((conv => whnf); first | refine Br.t ?_ | refine Br.f ?_ | refine ⟨rfl, ?_⟩)
      conv => whnf
      refine CallW.mono ra ?_
      rintro r st' ⟨rfl, rfl⟩
      repeat ((conv => whnf); first | refine Br.t ?_ | refine Br.f ?_ | refine ⟨rfl, ?_⟩)
      conv => whnf
      have ew1 : IntKind.i64.wrap (IntKind.i64.wrap (w : Int) + 1) = (w : Int) + 1 := by rw [i64_id (n := (w : Int)) (by omega) (by omega), i64_id (by omega) (by omega)]
      have el1 : IntKind.i64.wrap (((l.map encP).length : Int) + 1) = (l.length : Int) + 1 := by rw [List.length_map, i64_id (by omega) (by omega)]
      refine fin (target := []) rfl (Nat.zero_le _) (by simp) ?_ rfl
      rw [ew1, el1, if_neg (by decide)]
      have ex : (((min (l.length + 1) (w + 1) : Nat) : Int) == if (w : Int) + 1 < (l.length : Int) + 1 then (w : Int) + 1 else (l.length : Int) + 1) = true := by
        split
        · rw [Nat.min_eq_right (by omega)]; simp
        · rw [Nat.min_eq_left (by omega)]; simp
      rw [ex]
    | none =>
      rw [hm] at cm crm
      simp only [meN, meI] at cm crm
      repeat ((conv => whnf); first | refine Br.t ?_ | refine Br.f ?_ | refine ⟨rfl, ?_⟩)
      conv => whnf
      refine CallW.mono (cm.pure _ rfl rfl) ?_
      rintro r st' ⟨rfl, rfl⟩
      repeat ((conv => whnf); first | refine Br.t ?_ | refine Br.f ?_ | refine ⟨rfl, ?_⟩)
      conv => whnf
      refine CallW.mono (c1.pure _ rfl rfl) ?_
      rintro r st' ⟨rfl, rfl⟩
      repeat ((conv => whnf); first | refine Br.t ?_ | refine Br.f ?_ | refine ⟨rfl, ?_⟩)
      conv => whnf
      refine CallW.mono (crm.pure _ rfl rfl) ?_
      rintro r st' ⟨rfl, rfl⟩
      repeat ((conv => whnf); first | refine Br.t ?_ | refine Br.f ?_ | refine ⟨rfl, ?_⟩)
      conv => whnf
      refine draw_ok (own := own0) [] [] [(rcV c, [pgB p, lB l, stB w, cfgB c]), (rcV c, [pgB p, lB l, stB w, cfgB c]), (.i (.bool true), [pgB p, lB l, stB w, cfgB c])] rfl (by kernel_rfl) (Nat.zero_le _) ?_
      repeat ((conv => whnf); first | refine Br.t ?_ | refine Br.f ?_ | refine ⟨rfl, ?_⟩)
      conv => whnf
      refine ⟨c2.pure _ rfl rfl, ?_⟩
      repeat ((conv => whnf); first | refine Br.t ?_ | refine Br.f ?_ | refine ⟨rfl, ?_⟩)
      conv => whnf
      refine ⟨c3.pure _ rfl rfl, ?_⟩
      repeat ((conv => whnf); first | refine Br.t ?_ | refine Br.f ?_ | refine ⟨rfl, ?_⟩)
      conv => whnf
      refine ⟨c4.pure _ rfl rfl, ?_⟩
      repeat ((conv => whnf); first | refine Br.t ?_ | refine Br.f ?_ | refine ⟨rfl, ?_⟩)
      conv => whnf
      refine ⟨by repeat ((conv => whnf); first | exact trivial | refine ⟨rfl, ?_⟩), trivial, ?_⟩
      conv => whnf
      repeat ((conv => whnf); first | refine Br.t ?_ | refine Br.f ?_ | refine ⟨rfl, ?_⟩)
      conv => whnf
      refine CallW.mono al ?_
      rintro r st' ⟨rfl, rfl⟩
      repeat ((conv => whnf); first | refine Br.t ?_ | refine Br.f ?_ | refine ⟨rfl, ?_⟩)
      conv => whnf
      refine CallW.mono ra ?_
      rintro r st' ⟨rfl, rfl⟩
      repeat ((conv => whnf); first | refine Br.t ?_ | refine Br.f ?_ | refine ⟨rfl, ?_⟩)
      conv => whnf
      have ew1 : IntKind.i64.wrap (IntKind.i64.wrap (w : Int) + 1) = (w : Int) + 1 := by rw [i64_id (n := (w : Int)) (by omega) (by omega), i64_id (by omega) (by omega)]
      have el1 : IntKind.i64.wrap (((l.map encP).length : Int) + 1) = (l.length : Int) + 1 := by rw [List.length_map, i64_id (by omega) (by omega)]
      refine fin (target := []) rfl (Nat.zero_le _) (by simp) ?_ rfl
      rw [ew1, el1, if_neg (by decide)]
      have ex : (((min (l.length + 1) (w + 1) : Nat) : Int) == if (w : Int) + 1 < (l.length : Int) + 1 then (w : Int) + 1 else (l.length : Int) + 1) = true := by
        split
        · rw [Nat.min_eq_right (by omega)]; simp
        · rw [Nat.min_eq_left (by omega)]; simp
      rw [ex]
  · have hz : ((chk p).2.2 != 0) = true := by simpa using h0
    rw [if_neg h0] at cr
    have cm := meetsZ_ok p hp0 h0 l
    have al := along_in p l [pgB p, lB l, stB w, cfgB cfgZ, intB 0]
    have ra := runsZ_along p hp0 h0 l w
    repeat ((conv => whnf); first | refine Br.t ?_ | refine Br.f ?_ | refine ⟨rfl, ?_⟩)
    conv => whnf
    refine CallW.mono (cr.pure _ rfl rfl) ?_
    rintro r st' ⟨rfl, rfl⟩
    repeat ((conv => whnf); first | refine Br.t ?_ | refine Br.f ?_ | refine ⟨rfl, ?_⟩)
    conv => whnf
    refine CallW.mono (cm.pure _ rfl rfl) ?_
    rintro r st' ⟨rfl, rfl⟩
    repeat ((conv => whnf); first | refine Br.t ?_ | refine Br.f ?_ | refine ⟨rfl, ?_⟩)
    conv => whnf
    refine CallW.mono (c1.pure _ rfl rfl) ?_
    rintro r st' ⟨rfl, rfl⟩
    repeat ((conv => whnf); first | refine Br.t ?_ | refine Br.f ?_ | refine ⟨rfl, ?_⟩)
    conv => whnf
    rw [hz]
    repeat ((conv => whnf); first | refine Br.t ?_ | refine Br.f ?_ | refine ⟨rfl, ?_⟩)
    conv => whnf
    refine CallW.mono al ?_
    rintro r st' ⟨rfl, rfl⟩
    repeat ((conv => whnf); first | refine Br.t ?_ | refine Br.f ?_ | refine ⟨rfl, ?_⟩)
    conv => whnf
    refine CallW.mono ra ?_
    rintro r st' ⟨rfl, rfl⟩
    repeat ((conv => whnf); first | refine Br.t ?_ | refine Br.f ?_ | refine ⟨rfl, ?_⟩)
    conv => whnf
    refine Br.mk (fun _ => ?_) (fun k => absurd k (by simp))
    repeat ((conv => whnf); first | refine Br.t ?_ | refine Br.f ?_ | refine ⟨rfl, ?_⟩)
    conv => whnf
    refine fin (target := []) rfl (Nat.zero_le _) (by simp) rfl rfl
end Go.Proofs.Ytiikndppckjmhaa.Am
