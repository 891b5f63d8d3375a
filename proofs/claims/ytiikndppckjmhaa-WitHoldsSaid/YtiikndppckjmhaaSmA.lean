/- Configs; contracts: who lives, where a thread is, who may do a step. -/
import Derived.Test.YtiikndppckjmhaaPsF
import Derived.Test.YtiikndppckjmhaaThA
import Derived.Test.YtiikndppckjmhaaRcA
import Derived.Test.YtiikndppckjmhaaAmW
namespace Go.Proofs.Ytiikndppckjmhaa.Am
set_option autoImplicit false
set_option linter.unusedVariables false
set_option linter.unusedSimpArgs false
set_option maxRecDepth 10000
set_option pp.maxSteps 3000
set_option pp.proofs false
/-- a thread: where it is, and who calls it; of each slot who is in it -/
structure Th where
  stk : List (Nat × Nat)
  sl : List Nat
structure Cfg where
  ths : List Th
  own : List Nat
def encFr (f : Nat × Nat) : List I := [.int .i64 (f.1 : Nat), .int .i64 (f.2 : Nat)]
def sl8 (s : List Nat) : List I := [.int .i64 (s.getD 0 0 : Nat), .int .i64 (s.getD 1 0 : Nat), .int .i64 (s.getD 2 0 : Nat), .int .i64 (s.getD 3 0 : Nat), .int .i64 (s.getD 4 0 : Nat), .int .i64 (s.getD 5 0 : Nat), .int .i64 (s.getD 6 0 : Nat), .int .i64 (s.getD 7 0 : Nat)]
def ow16 (o : List Nat) : List I := [.int .i64 (o.getD 0 0 : Nat), .int .i64 (o.getD 1 0 : Nat), .int .i64 (o.getD 2 0 : Nat), .int .i64 (o.getD 3 0 : Nat), .int .i64 (o.getD 4 0 : Nat), .int .i64 (o.getD 5 0 : Nat), .int .i64 (o.getD 6 0 : Nat), .int .i64 (o.getD 7 0 : Nat),
  .int .i64 (o.getD 8 0 : Nat), .int .i64 (o.getD 9 0 : Nat), .int .i64 (o.getD 10 0 : Nat), .int .i64 (o.getD 11 0 : Nat), .int .i64 (o.getD 12 0 : Nat), .int .i64 (o.getD 13 0 : Nat), .int .i64 (o.getD 14 0 : Nat), .int .i64 (o.getD 15 0 : Nat)]
def encTh (t : Th) : List I := .sl (t.stk.map encFr) :: sl8 t.sl
def cfgI (c : Cfg) : List I := .sl (c.ths.map encTh) :: ow16 c.own
def cfgV (c : Cfg) : V := .agg ((cfgI c).map .i)
def cfgB (c : Cfg) : Ob := .row 0 17 false [(cfgI c).map .i]
def thAt (c : Cfg) (t : Int) : Option Th := if 0 ≤ t then c.ths[t.toNat]? else none
def lives (c : Cfg) (t : Int) : Bool := match thAt c t with | some th => decide (0 < th.stk.length) | none => false
theorem lives_some {c : Cfg} {t : Nat} {th : Th} (h : c.ths[t]? = some th) : lives c (t : Int) = decide (0 < th.stk.length) := by
  simp [lives, thAt, h]
theorem thAt_nat {c : Cfg} (t : Nat) : thAt c (t : Int) = c.ths[t]? := by simp [thAt]
theorem lives_none {c : Cfg} {t : Int} (h : ¬ (0 ≤ t ∧ t < c.ths.length)) : lives c t = false := by
  unfold lives thAt
  by_cases h0 : 0 ≤ t
  · rw [if_pos h0, List.getElem?_eq_none (by omega)]
  · rw [if_neg h0]
theorem encTh_get {c : Cfg} {t : Nat} {th : Th} (h : c.ths[t]? = some th) : (c.ths.map encTh).getD ((t : Nat) : Int).toNat [] = encTh th := by
  rw [Int.toNat_natCast]; simp [List.getD_eq_getElem?_getD, h]
theorem lt_some {α : Type} {l : List α} {i : Nat} {x : α} (h : l[i]? = some x) : i < l.length := (List.getElem?_eq_some_iff.1 h).1
set_option maxHeartbeats 1000000 in
theorem lives_ok (c : Cfg) (hc : c.ths.length ≤ 1000) (t : Int) : CallW Try.prog G0 32 [cfgV c, .i (.int .i64 t)] [] (fun r st' => r = .i (.bool (lives c t)) ∧ st' = []) := by
  refine call_of_bodyF 0 (Nat.le_refl _) Try.func32 rfl (fun a w => Try.call32 a w) (wpx_ok (own := own0) _ _ _ ?_)
  repeat ((conv => whnf); first | refine Br.t ?_ | refine Br.f ?_ | refine ⟨rfl, ?_⟩)
  conv => whnf
  refine Br.mk (fun h0 => ?_) (fun h0 => ?_)
  · have h0 : 0 ≤ t := by simpa using h0
    obtain ⟨a, rfl⟩ : ∃ a : Nat, t = (a : Int) := ⟨t.toNat, by omega⟩
    repeat ((conv => whnf); first | refine Br.t ?_ | refine Br.f ?_ | refine ⟨rfl, ?_⟩)
    conv => whnf
    refine Br.mk (fun h1 => ?_) (fun h1 => ?_)
    · have h1 : a < c.ths.length := by simpa using h1
      obtain ⟨th, hth⟩ : ∃ th, c.ths[a]? = some th := ⟨_, List.getElem?_eq_getElem h1⟩
      rw [lives_some hth]
      repeat ((conv => whnf); first | refine Br.t ?_ | refine Br.f ?_ | refine ⟨rfl, ?_⟩)
      conv => whnf
      rw [encTh_get hth]
      refine ⟨⟨by omega, by simp; omega, rfl⟩, ?_⟩
      repeat ((conv => whnf); first | refine Br.t ?_ | refine Br.f ?_ | refine ⟨rfl, ?_⟩)
      conv => whnf
      refine fin (target := []) rfl (Nat.zero_le _) (by simp) ?_ rfl
      simp
    · have h1 : c.ths.length ≤ a := by simpa using h1
      rw [lives_none (by omega)]
      repeat ((conv => whnf); first | refine Br.t ?_ | refine Br.f ?_ | refine ⟨rfl, ?_⟩)
      conv => whnf
      refine fin (target := []) rfl (Nat.zero_le _) (by simp) rfl rfl
  · have h0 : ¬ 0 ≤ t := by simpa using h0
    rw [lives_none (by omega)]
    repeat ((conv => whnf); first | refine Br.t ?_ | refine Br.f ?_ | refine ⟨rfl, ?_⟩)
    conv => whnf
    refine fin (target := []) rfl (Nat.zero_le _) (by simp) rfl rfl
/-- what a config of a program that may be is like -/
structure OkTh (p : Pg) (n : Nat) (t : Th) : Prop where
  h : t.stk.length ≤ p.fs.length
  fr : ∀ f ∈ t.stk, ∃ L, p.fs[f.1]? = some L ∧ f.2 < L.length
  sl : t.sl.length = 8
  slv : ∀ x ∈ t.sl, x ≤ n
  ch : ∀ (i : Nat) (a b : Nat × Nat), t.stk[i]? = some a → t.stk[i + 1]? = some b → E p.fs a.1 b.1
structure OkC (p : Pg) (c : Cfg) : Prop where
  n : 1 ≤ c.ths.length ∧ c.ths.length ≤ 8
  th : ∀ t ∈ c.ths, OkTh p c.ths.length t
  own : c.own.length = 16
  ownv : ∀ x ∈ c.own, x ≤ 8
def nd0 : Nd := (0, 0, 0, 0)
def lastF (l : List (Nat × Nat)) : Nat × Nat := l.getLast?.getD (0, 0)
/-- the node where a thread is -/
def ndAt (p : Pg) (c : Cfg) (t : Int) : Nd := match thAt c t with
  | some th => (p.fs.getD (lastF th.stk).1 []).getD (lastF th.stk).2 nd0
  | none => nd0
def atN (p : Pg) (c : Cfg) (t : Int) : Nd := if lives c t = true then ndAt p c t else nd0
theorem last_get {α : Type} (l : List α) (h : 0 < l.length) : ∃ x, l.getLast? = some x ∧ l[l.length - 1]? = some x ∧ x ∈ l := by
  refine ⟨l[l.length - 1], ?_, List.getElem?_eq_getElem (by omega), List.getElem_mem _⟩
  rw [List.getLast?_eq_getElem?]
  exact List.getElem?_eq_getElem (by omega)
theorem i64_pred {n : Nat} (h : 0 < n) (h2 : n ≤ 1000) : IntKind.i64.wrap ((n : Int) - 1) = ((n - 1 : Nat) : Int) := by
  rw [i64_id (by omega) (by omega)]; omega
theorem cfgB_cl (c : Cfg) (m : Nat) : (cfgB c).cl m := by
  intro cs hcs
  simp only [List.mem_singleton] at hcs
  subst hcs
  rfl
set_option maxHeartbeats 1000000 in
theorem at_ok (p : Pg) (hp : PgOk p) (c : Cfg) (hc : OkC p c) (t : Int) : CallW Try.prog G0 36 [cfgV c, pgV p, .i (.int .i64 t)] [] (fun r st' => r = .tup [ndV (atN p c t), .i (.bool (lives c t))] ∧ st' = []) := by
  refine call_of_bodyF 0 (Nat.le_refl _) Try.func36 rfl (fun a w => Try.call36 a w) (wpx_ok (own := own0) _ _ _ ?_)
  have hn := hc.n.2
  repeat ((conv => whnf); first | refine Br.t ?_ | refine Br.f ?_ | refine ⟨rfl, ?_⟩)
  conv => whnf
  refine CallW.mono ((lives_ok c (by omega) t).pure _ rfl rfl) ?_
  rintro r st' ⟨rfl, rfl⟩
  obtain ⟨q, hq⟩ : ∃ q, q = lives c t := ⟨_, rfl⟩
  have eN : atN p c t = if q = true then ndAt p c t else nd0 := by rw [hq]; rfl
  rw [eN, ← hq]
  cases q with
  | false =>
    repeat ((conv => whnf); first | refine Br.t ?_ | refine Br.f ?_ | refine ⟨rfl, ?_⟩)
    conv => whnf
    refine fin (target := []) rfl (Nat.zero_le _) (by simp) rfl rfl
  | true =>
    rw [if_pos rfl]
    have hr : 0 ≤ t ∧ t < c.ths.length := Classical.byContradiction fun h => by rw [lives_none h] at hq; cases hq
    obtain ⟨a, rfl⟩ : ∃ a : Nat, t = (a : Int) := ⟨t.toNat, by omega⟩
    obtain ⟨th, hth⟩ : ∃ th, c.ths[a]? = some th := ⟨_, List.getElem?_eq_getElem (by omega)⟩
    have hthm : th ∈ c.ths := List.mem_of_getElem? hth
    rw [lives_some hth] at hq
    have hs0 : 0 < th.stk.length := by simpa using hq.symm
    have okh := (hc.th th hthm).h
    have okf := (hc.th th hthm).fr
    have hpn := hp.n.2
    obtain ⟨f, hf1, hf2, hf3⟩ := last_get th.stk hs0
    obtain ⟨L, hL, hfL⟩ := okf f hf3
    have hLm : L ∈ p.fs := List.mem_of_getElem? hL
    have hL64 := (hp.f L hLm).2.1
    obtain ⟨y, hy⟩ : ∃ y, L[f.2]? = some y := ⟨_, List.getElem?_eq_getElem hfL⟩
    have eA : ndAt p c (a : Int) = y := by
      unfold ndAt lastF
      rw [thAt_nat, hth]
      simp only [hf1, Option.getD_some]
      simp [List.getD_eq_getElem?_getD, hL, hy]
    have ef : (th.stk.map encFr).getD ((th.stk.length - 1 : Nat) : Int).toNat [] = encFr f := by
      rw [Int.toNat_natCast]; simp [List.getD_eq_getElem?_getD, hf2]
    have eL : (p.fs.map encF).getD (f.1 : Int).toNat [] = encF L := by
      rw [Int.toNat_natCast]; simp [List.getD_eq_getElem?_getD, hL]
    have ey : (L.map encNd).getD (f.2 : Int).toNat [] = encNd y := by
      rw [Int.toNat_natCast]; simp [List.getD_eq_getElem?_getD, hy]
    rw [eA]
    have hfl := lt_some hL
    repeat ((conv => whnf); first | refine Br.t ?_ | refine Br.f ?_ | refine ⟨rfl, ?_⟩)
    conv => whnf
    refine draw_okG (own := own0) [16, 17] [] [(0, 17), (1, 17), (2, 17), (3, 17), (4, 17), (5, 17), (6, 17), (7, 17), (8, 17), (9, 17), (10, 17), (11, 17), (12, 17), (13, 17), (14, 17), (15, 17)] [] rfl (by kernel_rfl) (by kernel_rfl) (Nat.zero_le _) ?_
    repeat ((conv => whnf); first | refine Br.t ?_ | refine Br.f ?_ | refine ⟨rfl, ?_⟩)
    conv => whnf
    rw [encTh_get hth]
    refine ⟨⟨by omega, by simp; omega, rfl⟩, ?_⟩
    repeat ((conv => whnf); first | refine Br.t ?_ | refine Br.f ?_ | refine ⟨rfl, ?_⟩)
    conv => whnf
    rw [encTh_get hth]
    refine ⟨⟨by omega, by simp; omega, rfl⟩, ?_⟩
    repeat ((conv => whnf); first | refine Br.t ?_ | refine Br.f ?_ | refine ⟨rfl, ?_⟩)
    conv => whnf
    rw [List.length_map, i64_pred hs0 (by omega), ef]
    refine ⟨⟨by omega, by omega, rfl⟩, ?_⟩
    repeat ((conv => whnf); first | refine Br.t ?_ | refine Br.f ?_ | refine ⟨rfl, ?_⟩)
    conv => whnf
    refine ⟨by repeat ((conv => whnf); first | exact trivial | refine ⟨rfl, ?_⟩), by repeat ((conv => whnf); first | exact trivial | refine ⟨by (conv => whnf); first | exact ⟨rfl, rfl⟩ | exact ⟨rfl, rfl, rfl⟩, ?_⟩), by repeat ((conv => whnf); first | exact trivial | refine ⟨⟨_, rfl⟩, ?_⟩), ?_⟩
    conv => whnf
    refine draw_ok (own := own0) [] [] [] rfl (by kernel_rfl) (Nat.zero_le _) ?_
    repeat ((conv => whnf); first | refine Br.t ?_ | refine Br.f ?_ | refine ⟨rfl, ?_⟩)
    conv => whnf
    refine Br.mk (fun k1 => by simp at k1; omega) (fun k1 => ?_)
    repeat ((conv => whnf); first | refine Br.t ?_ | refine Br.f ?_ | refine ⟨rfl, ?_⟩)
    conv => whnf
    rw [eL]
    refine ⟨⟨by omega, by simp; omega, rfl⟩, ?_⟩
    repeat ((conv => whnf); first | refine Br.t ?_ | refine Br.f ?_ | refine ⟨rfl, ?_⟩)
    conv => whnf
    refine ⟨by repeat ((conv => whnf); first | exact trivial | refine ⟨rfl, ?_⟩), trivial, ?_⟩
    conv => whnf
    refine Br.mk (fun k2 => by simp at k2; omega) (fun k2 => ?_)
    repeat ((conv => whnf); first | refine Br.t ?_ | refine Br.f ?_ | refine ⟨rfl, ?_⟩)
    conv => whnf
    refine draw_ok (own := own0) [10] [] [] rfl (by kernel_rfl) (Nat.zero_le _) ?_
    repeat ((conv => whnf); first | refine Br.t ?_ | refine Br.f ?_ | refine ⟨rfl, ?_⟩)
    conv => whnf
    rw [eL]
    refine ⟨⟨by omega, by simp; omega, rfl⟩, ?_⟩
    repeat ((conv => whnf); first | refine Br.t ?_ | refine Br.f ?_ | refine ⟨rfl, ?_⟩)
    conv => whnf
    rw [ey]
    refine ⟨⟨by omega, by simp; omega, rfl⟩, ?_⟩
    repeat ((conv => whnf); first | refine Br.t ?_ | refine Br.f ?_ | refine ⟨rfl, ?_⟩)
    conv => whnf
    refine ⟨by repeat ((conv => whnf); first | exact trivial | refine ⟨rfl, ?_⟩), trivial, ?_⟩
    conv => whnf
    repeat ((conv => whnf); first | refine Br.t ?_ | refine Br.f ?_ | refine ⟨rfl, ?_⟩)
    conv => whnf
    refine fin (target := []) rfl (Nat.zero_le _) (by simp) rfl rfl
/-- may a thread do a step? -/
def enab (p : Pg) (c : Cfg) (t : Int) : Bool := lives c t && (
  if (ndAt p c t).1 = 3 then decide (c.own.getD (ndAt p c t).2.1.toNat 0 = 0) else
  if (ndAt p c t).1 = 6 then (match thAt c t with | some th => decide (th.sl.getD (ndAt p c t).2.1.toNat 0 = 0) || !lives c (((th.sl.getD (ndAt p c t).2.1.toNat 0 : Nat) : Int) - 1) | none => true) else
  if (ndAt p c t).1 = 5 then decide (c.ths.length < 8) else true)
theorem nd_in {p : Pg} (hp : PgOk p) {c : Cfg} (hc : OkC p c) {t : Int} (h : lives c t = true) : ∃ (a : Nat) (th : Th) (f : Nat × Nat) (L : List Nd), t = (a : Int) ∧ c.ths[a]? = some th ∧ 0 < th.stk.length ∧ th.stk.getLast? = some f ∧ p.fs[f.1]? = some L ∧ L[f.2]? = some (ndAt p c t) ∧ L ∈ p.fs ∧ ndAt p c t ∈ L ∧ mayF p (ndAt p c t) L.length = true := by
  have hr : 0 ≤ t ∧ t < c.ths.length := Classical.byContradiction fun hn => by rw [lives_none hn] at h; cases h
  obtain ⟨a, rfl⟩ : ∃ a : Nat, t = (a : Int) := ⟨t.toNat, by omega⟩
  obtain ⟨th, hth⟩ : ∃ th, c.ths[a]? = some th := ⟨_, List.getElem?_eq_getElem (by omega)⟩
  rw [lives_some hth] at h
  have hs0 : 0 < th.stk.length := by simpa using h
  obtain ⟨f, hf1, hf2, hf3⟩ := last_get th.stk hs0
  obtain ⟨L, hL, hfL⟩ := (hc.th th (List.mem_of_getElem? hth)).fr f hf3
  obtain ⟨y, hy⟩ : ∃ y, L[f.2]? = some y := ⟨_, List.getElem?_eq_getElem hfL⟩
  have eA : ndAt p c (a : Int) = y := by
    unfold ndAt lastF
    rw [thAt_nat, hth]
    simp only [hf1, Option.getD_some]
    simp [List.getD_eq_getElem?_getD, hL, hy]
  have hLm := List.mem_of_getElem? hL
  have hym := List.mem_of_getElem? hy
  exact ⟨a, th, f, L, rfl, hth, hs0, hf1, hL, by rw [eA]; exact hy, hLm, by rw [eA]; exact hym, by rw [eA]; exact (hp.f L hLm).2.2 y hym⟩
/-- the fields of a node that may be, by its kind -/
theorem may_kind {p : Pg} {n : Nd} {z : Int} (h : mayF p n z = true) : 0 ≤ n.1 ∧ n.1 ≤ 9 := by
  obtain ⟨k, a, x, y⟩ := n
  by_cases hk : k < 0 ∨ 9 < k
  · rw [may_none p k a x y z hk] at h; cases h
  · show 0 ≤ k ∧ k ≤ 9
    omega
theorem inB_mx {a b : Int} (h : inB a (mx1 b) = true) : 0 ≤ a ∧ (a < 1 ∨ a < b) := by
  unfold inB mx1 at h
  simp only [Bool.and_eq_true, decide_eq_true_eq] at h
  refine ⟨h.1, ?_⟩
  have := h.2
  split at this <;> omega
theorem may_parts {p : Pg} {n : Nd} {z : Int} (h : mayF p n z = true) : (fieldsF p n.1 z).2.2.2 = true ∧ (0 ≤ n.2.1 ∧ (n.2.1 < 1 ∨ n.2.1 < (fieldsF p n.1 z).1)) ∧ (0 ≤ n.2.2.1 ∧ (n.2.2.1 < 1 ∨ n.2.2.1 < (fieldsF p n.1 z).2.1)) ∧ (0 ≤ n.2.2.2 ∧ (n.2.2.2 < 1 ∨ n.2.2.2 < (fieldsF p n.1 z).2.2.1)) := by
  unfold mayF at h
  simp only [Bool.and_eq_true] at h
  exact ⟨h.1.1.1, inB_mx h.1.1.2, inB_mx h.1.2, inB_mx h.2⟩
theorem may_lock {p : Pg} (hp : PgOk p) {n : Nd} {z : Int} (h : mayF p n z = true) (h3 : n.1 = 3 ∨ n.1 = 4) : 0 ≤ n.2.1 ∧ n.2.1 < 16 := by
  have := hp.l
  obtain ⟨_, h2, _⟩ := may_parts h
  rcases h3 with h3 | h3 <;>
  · rw [h3] at h2
    have e : ∀ k : Int, k = 3 ∨ k = 4 → (fieldsF p k z).1 = p.l := by rintro k (rfl | rfl) <;> rfl
    rw [e _ (by omega)] at h2
    omega
theorem may_join {p : Pg} (hp : PgOk p) {n : Nd} {z : Int} (h : mayF p n z = true) (h3 : n.1 = 6) : 0 ≤ n.2.1 ∧ n.2.1 < 8 := by
  have := hp.s
  obtain ⟨_, h2, _⟩ := may_parts h
  rw [h3] at h2
  have e : (fieldsF p 6 z).1 = p.s := rfl
  rw [e] at h2
  omega
theorem may_spawn {p : Pg} (hp : PgOk p) {n : Nd} {z : Int} (h : mayF p n z = true) (h3 : n.1 = 5) : (0 ≤ n.2.1 ∧ n.2.1 < p.fs.length) ∧ 0 ≤ n.2.2.2 ∧ n.2.2.2 < 8 := by
  have := hp.s
  have := hp.n
  obtain ⟨h0, h2, h4, h5⟩ := may_parts h
  rw [h3] at h2 h5
  have e1 : (fieldsF p 5 z).1 = (p.fs.length : Int) := rfl
  have e2 : (fieldsF p 5 z).2.2.1 = p.s := rfl
  rw [e1] at h2
  rw [e2] at h5
  omega
theorem may_next {p : Pg} {n : Nd} {z : Int} (hz : 0 < z) (h : mayF p n z = true) : 0 ≤ n.2.2.1 ∧ n.2.2.1 < z := by
  have hk := may_kind h
  obtain ⟨_, _, h4, _⟩ := may_parts h
  obtain ⟨k, a, x, y⟩ := n
  simp only at hk h4 ⊢
  rcases kind10 hk.1 hk.2 with rfl | rfl | rfl | rfl | rfl | rfl | rfl | rfl | rfl | rfl
  case inr.inr.inr.inr.inr.inr.inr.inr.inr =>
    have e : (fieldsF p 9 z).2.1 = 0 := rfl
    rw [e] at h4; omega
  all_goals
    have e : ∀ k : Int, k = 0 ∨ k = 1 ∨ k = 2 ∨ k = 3 ∨ k = 4 ∨ k = 5 ∨ k = 6 ∨ k = 7 ∨ k = 8 → (fieldsF p k z).2.1 = z := by rintro k (rfl | rfl | rfl | rfl | rfl | rfl | rfl | rfl | rfl) <;> rfl
    rw [e _ (by omega)] at h4; omega
theorem may_alt {p : Pg} {n : Nd} {z : Int} (hz : 0 < z) (h : mayF p n z = true) (h8 : n.1 = 8) : 0 ≤ n.2.2.2 ∧ n.2.2.2 < z := by
  obtain ⟨_, _, _, h5⟩ := may_parts h
  rw [h8] at h5
  have e : (fieldsF p 8 z).2.2.1 = z := rfl
  rw [e] at h5; omega
end Go.Proofs.Ytiikndppckjmhaa.Am
