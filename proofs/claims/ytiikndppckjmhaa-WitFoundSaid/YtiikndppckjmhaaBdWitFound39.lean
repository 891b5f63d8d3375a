/- Contracts, part 39: texts of this session, one behind the other. -/
import Derived.Test.YtiikndppckjmhaaMkD
import Derived.Test.YtiikndppckjmhaaBdWitFound32
import Derived.Test.YtiikndppckjmhaaAmRf
import Derived.Test.YtiikndppckjmhaaBdWitFound33
import Derived.Test.YtiikndppckjmhaaAmX
/- Contracts: a config's key. -/
namespace Go.Proofs.Ytiikndppckjmhaa.Am
set_option autoImplicit false
set_option linter.unusedVariables false
set_option linter.unusedSimpArgs false
set_option maxRecDepth 10000
set_option pp.maxSteps 3000
set_option pp.proofs false
theorem fOsI {vs : List Ob} {K : List Ob → Prop} (h : K vs) : fOs vs K := by rw [fOs_eq]; exact h
def sl8N (t : Th) : List Nat := (List.range 8).map fun i => t.sl.getD i 0
def frN (l : List (Nat × Nat)) : List Nat := l.flatMap fun f => [f.1, f.2]
def thN (t : Th) : List Nat := t.stk.length :: (frN t.stk ++ sl8N t)
def keyN (c : Cfg) : List Nat := c.ths.flatMap thN ++ (List.range 16).map fun i => c.own.getD i 0
def byN (l : List Nat) : List UInt8 := l.map UInt8.ofNat
def keyS (c : Cfg) : ByteArray := ⟨(byN (keyN c)).toArray⟩
theorem byN_app (a b : List Nat) : byN (a ++ b) = byN a ++ byN b := List.map_append
theorem u8w {n : Nat} (h : n < 256) : IntKind.u8.wrap (n : Int) = n := by
  simp [IntKind.wrap, IntKind.signed, IntKind.bits]; omega
theorem k1_ok (st : List Ob) (b : Nat) (go : Option Nat) (bs : List UInt8) (n : Nat) (hn : n < 256) (hl : bs.length + 1 ≤ 140737488355328) :
    CallK Try.prog G0 115 [.i (.int .i64 (n : Nat)), .i (.bp b)] st (some (.bld b go bs)) (fun r st' k' => r = .tup [] ∧ st' = st ∧ ∃ go', k' = some (.bld b go' (bs ++ [UInt8.ofNat n]))) := by
  refine call_of_bodyK Try.func115 rfl (fun a w => Try.call115 a w) (kx_ok (own := own0) _ _ _ _ ?_)
  conv => whnf
  refine fOsI ?_
  conv => whnf
  rw [u8w hn]
  refine fOsI ?_
  conv => whnf
  refine (wbK G0 st b go bs n hn hl).mono ?_
  rintro r st' k' ⟨rfl, rfl, go', rfl⟩
  conv => whnf
  refine fOsI ?_
  conv => whnf
  exact ⟨rfl, rfl, go', rfl⟩
def kyF (b : Nat) : V := .fn (.func 115) [] [.i (.bp b)]
def kyS (c : Cfg) (b i : Nat) (x : List (Nat × V)) : List V := mkS 62 ([(1, .ptr 0 0 0 0), (3, .i (.bp b)), (4, kyF b), (15, .i (.sl (c.ths.map encTh))), (16, .i (.int .i64 c.ths.length)), (17, .i (.int .i64 i))] ++ x)
def thB (t : Th) : Ob := .row 0 9 false [(encTh t).map .i]
theorem thB_cl (t : Th) (m : Nat) : (thB t).cl m := by intro cs hcs; simp only [List.mem_singleton] at hcs; subst hcs; rfl
theorem ky2_cl (c : Cfg) (t : Th) (m : Nat) : ∀ o ∈ [cfgB c, thB t], o.cl m := by
  intro o ho
  simp only [List.mem_cons, List.not_mem_nil, or_false] at ho
  rcases ho with rfl | rfl
  · exact cfgB_cl c m
  · exact thB_cl t m
theorem ky1_cl (c : Cfg) (m : Nat) : ∀ o ∈ [cfgB c], o.cl m := by
  intro o ho
  simp only [List.mem_singleton] at ho
  subst ho
  exact cfgB_cl c m
set_option maxHeartbeats 1000000 in
theorem ky_stk (c : Cfg) (th : Th) (b i : Nat) (go : Option Nat) (bs : List UInt8) (hh : th.stk.length ≤ 16) (hf : ∀ f ∈ th.stk, f.1 < 256 ∧ f.2 < 256) (hl : bs.length ≤ 1000000) :
    KW Try.prog G0 0 (.loop (lp Try.f110 1)) (fun e k' s => e = .exit 2 ∧ s = ⟨kyS c b i [(6, .ptr 1 0 0 0)], [cfgB c, thB th]⟩ ∧ ∃ go', k' = some (.bld b go' (bs ++ byN (frN th.stk)))) ⟨kyS c b i [(6, .ptr 1 0 0 0), (27, .i (.sl (th.stk.map encFr))), (28, .i (.int .i64 th.stk.length)), (29, .i (.int .i64 0))], [cfgB c, thB th]⟩ (some (.bld b go bs)) := by
  refine KW.weak (kloop2 (fun j g => ⟨kyS c b i [(6, .ptr 1 0 0 0), (27, .i (.sl (th.stk.map encFr))), (28, .i (.int .i64 th.stk.length)), (29, .i (.int .i64 j))], [cfgB c, thB th]⟩) (fun j g => some (.bld b g (bs ++ byN (frN (th.stk.take j))))) (fun j => j ≤ th.stk.length) (fun j => th.stk.length - j) 0 go (Nat.zero_le _) (Le.refl _ _) (by simp [frN, byN]) (fun j g hx => kx_ok (own := own0) _ _ _ _ ?_))
  have ej : IntKind.i64.wrap ((j : Int) + 1) = ((j + 1 : Nat) : Int) := i64_id (by omega) (by omega)
  repeat ((conv => whnf); first | refine Br.t ?_ | refine Br.f ?_ | refine ⟨rfl, ?_⟩)
  conv => whnf
  refine Br.mk (fun g0 => ?_) (fun g0 => ?_)
  · have g0 : j < th.stk.length := by simp at g0; omega
    obtain ⟨f, hfj⟩ : ∃ f, th.stk[j]? = some f := ⟨_, List.getElem?_eq_getElem g0⟩
    have hfm : f ∈ th.stk := List.mem_of_getElem? hfj
    have ef : (th.stk.map encFr).getD ((j : Int)).toNat [] = encFr f := by
      rw [Int.toNat_natCast]; simp [List.getD_eq_getElem?_getD, hfj]
    have et : frN (th.stk.take (j + 1)) = frN (th.stk.take j) ++ [f.1, f.2] := by
      rw [List.take_add_one, hfj]; simp [frN]
    have hlen : (byN (frN (th.stk.take j))).length ≤ 2 * j := by
      simp only [byN, frN, List.length_map, List.length_flatMap]
      simp only [List.length_cons, List.length_nil, List.map_const', List.sum_replicate_nat, List.length_take]
      omega
    repeat ((conv => whnf); first | refine Br.t ?_ | refine Br.f ?_ | refine ⟨rfl, ?_⟩)
    conv => whnf
    rw [ef]
    refine ⟨⟨by omega, by simp; omega, rfl⟩, ?_⟩
    repeat ((conv => whnf); first | refine Br.t ?_ | refine Br.f ?_ | refine ⟨rfl, ?_⟩)
    conv => whnf
    refine (k1_ok _ b g _ f.1 (hf f hfm).1 (by simp only [List.length_append]; omega)).mono ?_
    rintro r st' k' ⟨rfl, rfl, go1, rfl⟩
    repeat ((conv => whnf); first | refine Br.t ?_ | refine Br.f ?_ | refine ⟨rfl, ?_⟩)
    conv => whnf
    refine (k1_ok _ b go1 _ f.2 (hf f hfm).2 (by simp only [List.length_append, List.length_singleton]; omega)).mono ?_
    rintro r st' k' ⟨rfl, rfl, go2, rfl⟩
    repeat ((conv => whnf); first | refine Br.t ?_ | refine Br.f ?_ | refine ⟨rfl, ?_⟩)
    conv => whnf
    refine ⟨j + 1, go2, g0, by omega, Le.back (fun _ => 0) (by intro id hid; rfl) (Nat.zero_le _) rfl (ky2_cl c th _) (by simp [leS, kyS, kyF, mkS, V.up, V.up.upAll, ej]) rfl, ?_⟩
    rw [et, byN_app]
    simp [byN]
  · have g0 : j = th.stk.length := by simp at g0; omega
    subst g0
    repeat ((conv => whnf); first | refine Br.t ?_ | refine Br.f ?_ | refine ⟨rfl, ?_⟩)
    conv => whnf
    exact ⟨⟨kyS c b i [(6, .ptr 1 0 0 0)], [cfgB c, thB th]⟩, Le.slots (by simp [leS, kyS, kyF, mkS]), rfl, rfl, g, by rw [List.take_length]⟩
set_option maxHeartbeats 1000000 in
theorem ky_sl (c : Cfg) (th : Th) (b i : Nat) (go : Option Nat) (bs : List UInt8) (hv : ∀ x ∈ th.sl, x ≤ 8) (hl : bs.length ≤ 1000000) :
    KW Try.prog G0 0 (.loop (lp Try.f110 2)) (fun e k' s => e = .exit 4 ∧ s = ⟨kyS c b i [(6, .ptr 1 0 0 0)], [cfgB c, thB th]⟩ ∧ ∃ go', k' = some (.bld b go' (bs ++ byN (sl8N th)))) ⟨kyS c b i [(6, .ptr 1 0 0 0), (43, .agg ((sl8 th.sl).map .i)), (44, .i (.int .i64 0))], [cfgB c, thB th]⟩ (some (.bld b go bs)) := by
  refine KW.weak (kloop2 (fun j g => ⟨kyS c b i [(6, .ptr 1 0 0 0), (43, .agg ((sl8 th.sl).map .i)), (44, .i (.int .i64 j))], [cfgB c, thB th]⟩) (fun j g => some (.bld b g (bs ++ byN ((List.range j).map fun i => th.sl.getD i 0)))) (fun j => j ≤ 8) (fun j => 8 - j) 0 go (Nat.zero_le _) (Le.refl _ _) (by simp [byN]) (fun j g hx => kx_ok (own := own0) _ _ _ _ ?_))
  have ej : IntKind.i64.wrap ((j : Int) + 1) = ((j + 1 : Nat) : Int) := i64_id (by omega) (by omega)
  repeat ((conv => whnf); first | refine Br.t ?_ | refine Br.f ?_ | refine ⟨rfl, ?_⟩)
  conv => whnf
  refine Br.mk (fun g0 => ?_) (fun g0 => ?_)
  · have g0 : j < 8 := by simp at g0; omega
    have ev : ((sl8 th.sl).map V.i).getD ((j : Int).toNat * szA Try.prog 3) .undef = .i (.int .i64 (th.sl.getD j 0 : Nat)) := by
      rw [show szA Try.prog 3 = 1 by rfl, Int.toNat_natCast, Nat.mul_one]
      have h8 : j = 0 ∨ j = 1 ∨ j = 2 ∨ j = 3 ∨ j = 4 ∨ j = 5 ∨ j = 6 ∨ j = 7 := by omega
      rcases h8 with rfl | rfl | rfl | rfl | rfl | rfl | rfl | rfl <;> rfl
    have hlt : th.sl.getD j 0 < 256 := by
      have := getD_le hv j; omega
    repeat ((conv => whnf); first | refine Br.t ?_ | refine Br.f ?_ | refine ⟨rfl, ?_⟩)
    conv => whnf
    rw [ev]
    refine ⟨⟨⟨by omega, by omega⟩, blt_ok (by rw [show szA Try.prog 3 = 1 by rfl]; simp [sl8]; omega)⟩, ?_⟩
    repeat ((conv => whnf); first | refine Br.t ?_ | refine Br.f ?_ | refine ⟨rfl, ?_⟩)
    conv => whnf
    refine (k1_ok _ b g _ (th.sl.getD j 0) hlt (by simp only [List.length_append, byN, List.length_map, List.length_range]; omega)).mono ?_
    rintro r st' k' ⟨rfl, rfl, go1, rfl⟩
    repeat ((conv => whnf); first | refine Br.t ?_ | refine Br.f ?_ | refine ⟨rfl, ?_⟩)
    conv => whnf
    refine ⟨j + 1, go1, g0, by omega, Le.back (fun _ => 0) (by intro id hid; rfl) (Nat.zero_le _) rfl (ky2_cl c th _) (by simp [leS, kyS, kyF, mkS, V.up, V.up.upAll, ej, sl8]) rfl, ?_⟩
    rw [List.range_succ, List.map_append, byN_app]
    simp [byN]
  · have g0 : j = 8 := by simp at g0; omega
    subst g0
    repeat ((conv => whnf); first | refine Br.t ?_ | refine Br.f ?_ | refine ⟨rfl, ?_⟩)
    conv => whnf
    exact ⟨⟨kyS c b i [(6, .ptr 1 0 0 0)], [cfgB c, thB th]⟩, Le.slots (by simp [leS, kyS, kyF, mkS]), rfl, rfl, g, rfl⟩
def koS (b : Nat) (x : List (Nat × V)) : List V := mkS 62 ([(3, .i (.bp b)), (4, kyF b)] ++ x)
set_option maxHeartbeats 1000000 in
theorem ky_own (c : Cfg) (b : Nat) (go : Option Nat) (bs : List UInt8) (hv : ∀ x ∈ c.own, x ≤ 8) (hl : bs.length ≤ 1000000) :
    KW Try.prog G0 0 (.loop (lp Try.f110 3)) (fun e k' s => e = .exit 6 ∧ s = ⟨koS b [], [cfgB c]⟩ ∧ ∃ go', k' = some (.bld b go' (bs ++ byN ((List.range 16).map fun i => c.own.getD i 0)))) ⟨koS b [(53, .agg ((ow16 c.own).map .i)), (54, .i (.int .i64 0))], [cfgB c]⟩ (some (.bld b go bs)) := by
  refine KW.weak (kloop2 (fun j g => ⟨koS b [(53, .agg ((ow16 c.own).map .i)), (54, .i (.int .i64 j))], [cfgB c]⟩) (fun j g => some (.bld b g (bs ++ byN ((List.range j).map fun i => c.own.getD i 0)))) (fun j => j ≤ 16) (fun j => 16 - j) 0 go (Nat.zero_le _) (Le.refl _ _) (by simp [byN]) (fun j g hx => kx_ok (own := own0) _ _ _ _ ?_))
  have ej : IntKind.i64.wrap ((j : Int) + 1) = ((j + 1 : Nat) : Int) := i64_id (by omega) (by omega)
  repeat ((conv => whnf); first | refine Br.t ?_ | refine Br.f ?_ | refine ⟨rfl, ?_⟩)
  conv => whnf
  refine Br.mk (fun g0 => ?_) (fun g0 => ?_)
  · have g0 : j < 16 := by simp at g0; omega
    have ev : ((ow16 c.own).map V.i).getD ((j : Int).toNat * szA Try.prog 3) .undef = .i (.int .i64 (c.own.getD j 0 : Nat)) := by
      rw [show szA Try.prog 3 = 1 by rfl, Int.toNat_natCast, Nat.mul_one]
      exact ow_get c.own g0
    have hlt : c.own.getD j 0 < 256 := by
      have := getD_le hv j; omega
    repeat ((conv => whnf); first | refine Br.t ?_ | refine Br.f ?_ | refine ⟨rfl, ?_⟩)
    conv => whnf
    rw [ev]
    refine ⟨⟨⟨by omega, by omega⟩, blt_ok (by rw [show szA Try.prog 3 = 1 by rfl]; simp [ow16]; omega)⟩, ?_⟩
    repeat ((conv => whnf); first | refine Br.t ?_ | refine Br.f ?_ | refine ⟨rfl, ?_⟩)
    conv => whnf
    refine (k1_ok _ b g _ (c.own.getD j 0) hlt (by simp only [List.length_append, byN, List.length_map, List.length_range]; omega)).mono ?_
    rintro r st' k' ⟨rfl, rfl, go1, rfl⟩
    repeat ((conv => whnf); first | refine Br.t ?_ | refine Br.f ?_ | refine ⟨rfl, ?_⟩)
    conv => whnf
    refine ⟨j + 1, go1, g0, by omega, Le.back (fun _ => 0) (by intro id hid; rfl) (Nat.zero_le _) rfl (ky1_cl c _) (by simp [leS, koS, kyF, mkS, V.up, V.up.upAll, ej, ow16]) rfl, ?_⟩
    rw [List.range_succ, List.map_append, byN_app]
    simp [byN]
  · have g0 : j = 16 := by simp at g0; omega
    subst g0
    repeat ((conv => whnf); first | refine Br.t ?_ | refine Br.f ?_ | refine ⟨rfl, ?_⟩)
    conv => whnf
    exact ⟨⟨koS b [], [cfgB c]⟩, Le.slots (by simp [leS, koS, kyF, mkS]), rfl, rfl, g, rfl⟩
end Go.Proofs.Ytiikndppckjmhaa.Am

/- Contracts: a config's key: all of it; keys tell configs apart. -/
namespace Go.Proofs.Ytiikndppckjmhaa.Am
set_option autoImplicit false
set_option linter.unusedVariables false
set_option linter.unusedSimpArgs false
set_option maxRecDepth 10000
set_option pp.maxSteps 3000
set_option pp.proofs false
/-- small enough for bytes -/
structure Sml (c : Cfg) : Prop where
  n : c.ths.length ≤ 8
  th : ∀ t ∈ c.ths, t.stk.length ≤ 16 ∧ (∀ f ∈ t.stk, f.1 < 256 ∧ f.2 < 256) ∧ (∀ x ∈ t.sl, x ≤ 8) ∧ t.sl.length = 8
  own : ∀ x ∈ c.own, x ≤ 8
  ol : c.own.length = 16
theorem sml_of {p : Pg} (hp : PgOk p) {c : Cfg} (hc : OkC p c) : Sml c := by
  refine ⟨hc.n.2, fun t ht => ?_, hc.ownv, hc.own⟩
  have h := hc.th t ht
  have hn := hp.n.2
  refine ⟨by have := h.h; omega, fun f hf => ?_, fun x hx => by have := h.slv x hx; have := hc.n.2; omega, h.sl⟩
  obtain ⟨L, hL, hl⟩ := h.fr f hf
  have := lt_some hL
  have := (hp.f L (List.mem_of_getElem? hL)).2.1
  omega
theorem frN_len (l : List (Nat × Nat)) : (frN l).length = 2 * l.length := by
  induction l with
  | nil => rfl
  | cons x l ih => simp only [frN, List.flatMap_cons, List.length_append, List.length_cons, List.length_nil] at ih ⊢; omega
theorem thN_len {t : Th} : (thN t).length = 9 + 2 * t.stk.length := by
  simp only [thN, List.length_cons, List.length_append, frN_len, sl8N, List.length_map, List.length_range]; omega
theorem thNs_len : ∀ (l : List Th), (∀ t ∈ l, t.stk.length ≤ 16) → (l.flatMap thN).length ≤ 41 * l.length
  | [], _ => by simp
  | t :: l, h => by
    have h1 := thNs_len l fun u hu => h u (List.mem_cons_of_mem _ hu)
    have h2 := h t List.mem_cons_self
    simp only [List.flatMap_cons, List.length_append, thN_len, List.length_cons]; omega
set_option maxHeartbeats 1000000 in
theorem ky_out (c : Cfg) (hc : Sml c) (b : Nat) (go : Option Nat) :
    KW Try.prog G0 0 (.loop (lp Try.f110 0)) (fun e k' s => e = .exit 0 ∧ s = ⟨koS b [(1, .ptr 0 0 0 0)], [cfgB c]⟩ ∧ ∃ go', k' = some (.bld b go' (byN (c.ths.flatMap thN)))) ⟨kyS c b 0 [], [cfgB c]⟩ (some (.bld b go [])) := by
  refine KW.weak (kloop2 (fun i g => ⟨kyS c b i [], [cfgB c]⟩) (fun i g => some (.bld b g (byN ((c.ths.take i).flatMap thN)))) (fun i => i ≤ c.ths.length) (fun i => c.ths.length - i) 0 go (Nat.zero_le _) (Le.refl _ _) (by simp [byN]) (fun i g hx => kx_ok (own := own0) _ _ _ _ ?_))
  have hn := hc.n
  have ei : IntKind.i64.wrap ((i : Int) + 1) = ((i + 1 : Nat) : Int) := i64_id (by omega) (by omega)
  repeat ((conv => whnf); first | refine Br.t ?_ | refine Br.f ?_ | refine ⟨rfl, ?_⟩)
  conv => whnf
  refine Br.mk (fun g0 => ?_) (fun g0 => ?_)
  · have g0 : i < c.ths.length := by simp at g0; omega
    obtain ⟨th, hth⟩ : ∃ th, c.ths[i]? = some th := ⟨_, List.getElem?_eq_getElem g0⟩
    obtain ⟨q1, q2, q3, q4⟩ := hc.th th (List.mem_of_getElem? hth)
    have ef := encTh_get hth
    have et : (c.ths.take (i + 1)).flatMap thN = (c.ths.take i).flatMap thN ++ thN th := by
      rw [List.take_add_one, hth]; simp
    have hlen : (byN ((c.ths.take i).flatMap thN)).length ≤ 41 * i := by
      have := thNs_len (c.ths.take i) fun t ht => (hc.th t (List.mem_of_mem_take ht)).1
      simp only [byN, List.length_map]
      have h2 : (c.ths.take i).length ≤ i := by simp; omega
      omega
    have h16 : (byN (frN th.stk)).length ≤ 32 := by simp only [byN, List.length_map, frN_len]; omega
    repeat ((conv => whnf); first | refine Br.t ?_ | refine Br.f ?_ | refine ⟨rfl, ?_⟩)
    conv => whnf
    rw [ef]
    refine ⟨⟨by omega, by simp; omega, rfl⟩, ?_⟩
    repeat ((conv => whnf); first | refine Br.t ?_ | refine Br.f ?_ | refine ⟨rfl, ?_⟩)
    conv => whnf
    have el : (th.stk.map encFr).length = th.stk.length := by simp
    refine (show CallK Try.prog G0 115 [.i (.int .i64 ((th.stk.map encFr).length : Nat)), .i (.bp b)] _ _ _ from (k1_ok _ b g _ (th.stk.map encFr).length (by rw [el]; omega) (by omega)).mono ?_)
    rintro r st' k' ⟨rfl, rfl, go1, rfl⟩
    repeat ((conv => whnf); first | refine Br.t ?_ | refine Br.f ?_ | refine ⟨rfl, ?_⟩)
    conv => whnf
    rw [el]
    refine KW.le (Le.slots (sl' := kyS c b i [(6, .ptr 1 0 0 0), (27, .i (.sl (th.stk.map encFr))), (28, .i (.int .i64 th.stk.length)), (29, .i (.int .i64 0))]) (by simp [leS, kyS, kyF, mkS])) ((ky_stk c th b i go1 _ q1 q2 (by simp only [List.length_append, List.length_singleton]; omega)).mono ?_)
    rintro e k' s ⟨rfl, rfl, go2, rfl⟩
    repeat ((conv => whnf); first | refine Br.t ?_ | refine Br.f ?_ | refine ⟨rfl, ?_⟩)
    conv => whnf
    refine KW.le (Le.slots (sl' := kyS c b i [(6, .ptr 1 0 0 0), (43, .agg ((sl8 th.sl).map .i)), (44, .i (.int .i64 0))]) (by simp [leS, kyS, kyF, mkS, sl8])) ((ky_sl c th b i go2 _ q3 (by simp only [List.length_append, List.length_singleton]; omega)).mono ?_)
    rintro e k' s ⟨rfl, rfl, go3, rfl⟩
    repeat ((conv => whnf); first | refine Br.t ?_ | refine Br.f ?_ | refine ⟨rfl, ?_⟩)
    conv => whnf
    refine ⟨i + 1, go3, g0, by omega, Le.back (fun _ => 0) (by intro id hid; rfl) (Nat.zero_le _) rfl (ky1_cl c _) (by simp [leS, kyS, kyF, mkS, V.up, V.up.upAll, ei]) rfl, ?_⟩
    rw [et, byN_app, thN]
    simp [byN, List.append_assoc]
  · have g0 : i = c.ths.length := by simp at g0; omega
    subst g0
    repeat ((conv => whnf); first | refine Br.t ?_ | refine Br.f ?_ | refine ⟨rfl, ?_⟩)
    conv => whnf
    exact ⟨⟨koS b [(1, .ptr 0 0 0 0)], [cfgB c]⟩, Le.slots (by simp [leS, koS, kyS, kyF, mkS]), rfl, rfl, g, by rw [List.take_length]⟩
set_option maxHeartbeats 1000000 in
theorem key_ok (c : Cfg) (hc : Sml c) : CallW Try.prog G0 110 [cfgV c] [] (fun r st' => r = .i (.str (keyS c)) ∧ st' = []) := by
  refine call_of_bodyKF 0 (Nat.le_refl _) Try.func110 rfl (fun a w => Try.call110 a w) (kx_ok (own := own0) _ _ _ _ ?_)
  repeat ((conv => whnf); first | refine Br.t ?_ | refine Br.f ?_ | refine ⟨rfl, ?_⟩)
  conv => whnf
  intro b
  repeat ((conv => whnf); first | refine Br.t ?_ | refine Br.f ?_ | refine ⟨rfl, ?_⟩)
  conv => whnf
  refine KW.le (Le.slots (sl' := kyS c b 0 []) (by simp [leS, kyS, kyF, mkS]; rfl)) ((ky_out c hc b none).mono ?_)
  rintro e k' s ⟨rfl, rfl, go1, rfl⟩
  repeat ((conv => whnf); first | refine Br.t ?_ | refine Br.f ?_ | refine ⟨rfl, ?_⟩)
  conv => whnf
  have h41 := thNs_len c.ths fun t ht => (hc.th t ht).1
  have hn := hc.n
  have hlb : (byN (c.ths.flatMap thN)).length ≤ 328 := by simp only [byN, List.length_map]; omega
  refine KW.le (Le.slots (sl' := koS b [(53, .agg ((ow16 c.own).map .i)), (54, .i (.int .i64 0))]) (by simp [leS, koS, kyF, mkS, ow16])) ((ky_own c b go1 _ hc.own (by omega)).mono ?_)
  rintro e k' s ⟨rfl, rfl, go2, rfl⟩
  repeat ((conv => whnf); first | refine Br.t ?_ | refine Br.f ?_ | refine ⟨rfl, ?_⟩)
  conv => whnf
  refine (bsK G0 _ b go2 _ (by
    intro h
    have := congrArg List.length h
    simp only [List.length_append, byN, List.length_map, List.length_range, List.length_nil] at this
    omega) (by simp only [List.length_append, byN, List.length_map, List.length_range] at hlb ⊢; omega)).mono ?_
  rintro r st' k' ⟨rfl, rfl, rfl⟩
  repeat ((conv => whnf); first | refine Br.t ?_ | refine Br.f ?_ | refine ⟨rfl, ?_⟩)
  conv => whnf
  refine fin (target := []) rfl (Nat.zero_le _) (by simp) ?_ rfl
  rw [← byN_app]
  rfl
end Go.Proofs.Ytiikndppckjmhaa.Am

/- Keys tell configs apart. -/
namespace Go.Proofs.Ytiikndppckjmhaa.Am
set_option autoImplicit false
set_option linter.unusedVariables false
set_option linter.unusedSimpArgs false
theorem range_getD {l : List Nat} {n : Nat} (h : l.length = n) : (List.range n).map (fun i => l.getD i 0) = l := by
  apply List.ext_getElem
  · simp [h]
  · intro i h1 h2
    simp [List.getD_eq_getElem?_getD, h2]
theorem frN_inj : ∀ (a b : List (Nat × Nat)), frN a = frN b → a = b
  | [], [], _ => rfl
  | [], y :: b, h => by simp [frN] at h
  | x :: a, [], h => by simp [frN] at h
  | x :: a, y :: b, h => by
    simp only [frN, List.flatMap_cons, List.cons_append, List.nil_append, List.cons.injEq] at h
    obtain ⟨h1, h2, h3⟩ := h
    have := frN_inj a b h3
    rw [this, Prod.ext h1 h2]
theorem thN_inj {a b : Th} (ha : a.sl.length = 8) (hb : b.sl.length = 8) {r s : List Nat} (h : thN a ++ r = thN b ++ s) : a = b ∧ r = s := by
  simp only [thN, List.cons_append, List.cons.injEq, List.append_assoc] at h
  obtain ⟨h1, h2⟩ := h
  obtain ⟨h3, h4⟩ := List.append_inj h2 (by rw [frN_len, frN_len, h1])
  obtain ⟨h5, h6⟩ := List.append_inj h4 (by simp [sl8N])
  have e1 := frN_inj _ _ h3
  have e2 : a.sl = b.sl := by rw [← range_getD ha, ← range_getD hb]; exact h5
  cases a; cases b
  simp only at e1 e2
  exact ⟨by rw [e1, e2], h6⟩
theorem thNs_inj : ∀ (a b : List Th) (r s : List Nat), (∀ t ∈ a, t.sl.length = 8) → (∀ t ∈ b, t.sl.length = 8) → r.length = s.length → a.flatMap thN ++ r = b.flatMap thN ++ s → a = b ∧ r = s
  | [], [], r, s, _, _, _, h => ⟨rfl, by simpa using h⟩
  | [], y :: b, r, s, _, _, hl, h => by
    have := congrArg List.length h
    simp only [List.flatMap_nil, List.nil_append, List.flatMap_cons, List.length_append, thN_len] at this; omega
  | x :: a, [], r, s, _, _, hl, h => by
    have := congrArg List.length h
    simp only [List.flatMap_nil, List.nil_append, List.flatMap_cons, List.length_append, thN_len] at this; omega
  | x :: a, y :: b, r, s, ha, hb, hl, h => by
    simp only [List.flatMap_cons, List.append_assoc] at h
    obtain ⟨h1, h2⟩ := thN_inj (ha x List.mem_cons_self) (hb y List.mem_cons_self) h
    obtain ⟨h3, h4⟩ := thNs_inj a b r s (fun t ht => ha t (List.mem_cons_of_mem _ ht)) (fun t ht => hb t (List.mem_cons_of_mem _ ht)) hl h2
    exact ⟨by rw [h1, h3], h4⟩
theorem byN_inj : ∀ (a b : List Nat), (∀ x ∈ a, x < 256) → (∀ x ∈ b, x < 256) → byN a = byN b → a = b
  | [], [], _, _, _ => rfl
  | [], y :: b, _, _, h => by simp [byN] at h
  | x :: a, [], _, _, h => by simp [byN] at h
  | x :: a, y :: b, ha, hb, h => by
    simp only [byN, List.map_cons, List.cons.injEq] at h
    obtain ⟨h1, h2⟩ := h
    have h3 := byN_inj a b (fun z hz => ha z (List.mem_cons_of_mem _ hz)) (fun z hz => hb z (List.mem_cons_of_mem _ hz)) h2
    have hx := ha x List.mem_cons_self
    have hy := hb y List.mem_cons_self
    have h4 := congrArg UInt8.toNat h1
    simp only [UInt8.toNat_ofNat'] at h4
    rw [h3, show x = y by omega]
theorem keyN_lt {c : Cfg} (hc : Sml c) : ∀ x ∈ keyN c, x < 256 := by
  intro x hx
  simp only [keyN, List.mem_append, List.mem_flatMap, List.mem_map, List.mem_range] at hx
  rcases hx with ⟨t, ht, hx⟩ | ⟨i, _, rfl⟩
  · obtain ⟨q1, q2, q3, q4⟩ := hc.th t ht
    simp only [thN, List.mem_cons, List.mem_append, frN, List.mem_flatMap, sl8N, List.mem_map, List.mem_range] at hx
    rcases hx with rfl | ⟨f, hf, hx⟩ | ⟨i, _, rfl⟩
    · omega
    · have := q2 f hf
      simp only [List.mem_cons, List.not_mem_nil, or_false] at hx
      rcases hx with rfl | rfl <;> omega
    · have := getD_le q3 i; omega
  · have := getD_le hc.own i; omega
theorem keyS_inj {c d : Cfg} (hc : Sml c) (hd : Sml d) (h : keyS c = keyS d) : c = d := by
  have h1 : byN (keyN c) = byN (keyN d) := by
    have := congrArg (fun s => s.data.toList) h
    simpa [keyS] using this
  have h2 := byN_inj _ _ (keyN_lt hc) (keyN_lt hd) h1
  obtain ⟨h3, h4⟩ := thNs_inj _ _ _ _ (fun t ht => (hc.th t ht).2.2.2) (fun t ht => (hd.th t ht).2.2.2) (by simp) h2
  rw [range_getD hc.ol, range_getD hd.ol] at h4
  cases c; cases d
  simp only at h3 h4
  rw [h3, h4]
end Go.Proofs.Ytiikndppckjmhaa.Am

/- Contracts: a config is added to a search. -/
namespace Go.Proofs.Ytiikndppckjmhaa.Am
set_option autoImplicit false
set_option linter.unusedVariables false
set_option linter.unusedSimpArgs false
set_option maxRecDepth 10000
set_option pp.maxSteps 3000
set_option pp.proofs false
theorem W.kk {P : Program} {G : Gl} {n : Nat} {c : Code} {Q : Exit → Km → S → Prop} {s : S} {k : Km} (h : W P G n c (fun e s' => Q e k s') s) : KW P G n c Q s k :=
  (W.k k h).mono fun e k' s' ⟨hk, hq⟩ => by rw [hk]; exact hq
abbrev Pk := Int × Bool
abbrev Stt := Cfg × Int × Pk
abbrev Sk := Bf Cfg Pk
def encSt (x : Stt) : List I := cfgI x.1 ++ (.int .i64 x.2.1 :: encP x.2.2)
def stV (x : Stt) : V := .agg ((encSt x).map .i)
/-- a search: its program, its map, its configs, how many there may be, whether one was left out -/
def seB (p : Pg) (l v n : Nat) (most : Int) (left : Bool) : Ob := .row 0 8 false [(encP4 p).map .i ++ [.i (.mp l), .ref 3 v 0 n, .i (.int .i64 most), .i (.bool left)]]
def alR (v : Nat) (L : List Stt) : Ob := .row v 20 false (lift (L.map encSt))
def keysL (L : List Stt) : List ByteArray := L.map fun x => keyS x.1
def seR (p : Pg) (c0 : Cfg) (l v : Nat) (most : Int) (s : Sk) : List Ob := [pgB p, cfgB c0, seB p l v s.all.length most s.left, alR v s.all]
theorem alR_cl (v : Nat) (L : List Stt) (m : Nat) : (alR v L).cl m := row_cl v 20 (L.map encSt) m _ (by simp [alR])
theorem seR_cl (p : Pg) (c0 : Cfg) (l v : Nat) (most : Int) (s : Sk) (m : Nat) (hm : 4 ≤ m) : ∀ o ∈ seR p c0 l v most s, o.cl m := by
  intro o ho
  simp only [seR, List.mem_cons, List.not_mem_nil, or_false] at ho
  rcases ho with rfl | rfl | rfl | rfl
  · exact pgB_cl p m
  · exact cfgB_cl c0 m
  · intro cs hcs
    simp only [List.mem_singleton] at hcs
    subst hcs
    simp [encP4, V.cl, V.cl.clAll]
    omega
  · exact alR_cl v _ m
theorem keys_mem {L : List Stt} (hL : ∀ y ∈ L, Sml y.1) {c : Cfg} (hc : Sml c) : keyS c ∈ keysL L ↔ c ∈ L.map (·.1) := by
  constructor
  · intro h
    simp only [keysL, List.mem_map] at h
    obtain ⟨y, hy, e⟩ := h
    exact List.mem_map.2 ⟨y, hy, keyS_inj (hL y hy) hc e⟩
  · intro h
    obtain ⟨y, hy, rfl⟩ := List.mem_map.1 h
    exact List.mem_map.2 ⟨y, hy, rfl⟩
theorem addB_in {most : Int} {L : List Stt} {lf : Bool} {x : Stt} (h : x.1 ∈ L.map (·.1)) : addB most ⟨L, lf⟩ x = ⟨L, lf⟩ := by unfold addB; exact if_pos h
theorem addB_full {most : Int} {L : List Stt} {lf : Bool} {x : Stt} (h : x.1 ∉ L.map (·.1)) (hf : most ≤ (L.length : Int)) : addB most ⟨L, lf⟩ x = ⟨L, true⟩ := by unfold addB; exact (if_neg h).trans (if_pos hf)
theorem addB_new {most : Int} {L : List Stt} {lf : Bool} {x : Stt} (h : x.1 ∉ L.map (·.1)) (hf : ¬ most ≤ (L.length : Int)) : addB most ⟨L, lf⟩ x = ⟨L ++ [x], lf⟩ := by unfold addB; exact (if_neg h).trans (if_neg hf)
/-- a config is added where some rows lie behind the search's -/
def addK (X : List Ob) : Prop := ∀ (p : Pg) (c0 : Cfg) (l : Nat) (most : Int) (s : Sk) (x : Stt) (hx : Sml x.1) (hL : ∀ y ∈ s.all, Sml y.1) (hn : s.all.length ≤ 100000),
    CallK Try.prog G0 94 [.ptr 2 0 0 0, stV x] (seR p c0 l 1 most s ++ X) (some (.map l (keysL s.all))) (fun r st' k' => r = .tup [] ∧ ∃ v', st' = seR p c0 l (v' + 1) most (addB most s x) ++ X ∧ k' = some (.map l (keysL (addB most s x).all)))
set_option maxHeartbeats 2000000 in
theorem add4 : addK [] := by
  intro p c0 l most s x hx hL hn
  rw [List.append_nil]
  refine CallK.cut (K := fun st' k' => ∃ v', st' = seR p c0 l (v' + 1) most (addB most s x) ++ [] ∧ k' = some (.map l (keysL (addB most s x).all))) 4 (Nat.le_refl _) (call_of_bodyK Try.func94 rfl (fun a w => Try.call94 a w) (kx_ok (own := own0) _ _ _ _ ?_))
  have CL : ∀ (v : Nat) (s : Sk), ∀ o ∈ seR p c0 l v most s ++ [], o.cl 4 := fun v s => by rw [List.append_nil]; exact seR_cl p c0 l v most s 4 (Nat.le_refl _)
  obtain ⟨L, lf⟩ := s
  have hn : L.length ≤ 100000 := hn
  have hmem := keys_mem (L := L) hL hx
  have hk := key_ok x.1 hx
  repeat ((conv => whnf); first | refine Br.t ?_ | refine Br.f ?_ | refine ⟨rfl, ?_⟩)
  conv => whnf
  refine ((hk.pure _ rfl rfl).k _).mono ?_
  rintro r st' k' ⟨rfl, rfl, rfl⟩
  repeat ((conv => whnf); first | refine Br.t ?_ | refine Br.f ?_ | refine ⟨rfl, ?_⟩)
  conv => whnf
  intro b hb
  cases b with
  | true =>
    rw [addB_in (hmem.1 (hb.1 rfl))]
    repeat ((conv => whnf); first | refine Br.t ?_ | refine Br.f ?_ | refine ⟨rfl, ?_⟩)
    conv => whnf
    exact ⟨Nat.le_succ _, _, rfl, CL 1 ⟨L, lf⟩, 0, rfl, rfl⟩
  | false =>
    have hni : x.1 ∉ L.map (·.1) := fun h => by have := hb.2 (hmem.2 h); cases this
    repeat ((conv => whnf); first | refine Br.t ?_ | refine Br.f ?_ | refine ⟨rfl, ?_⟩)
    conv => whnf
    refine W.kk (draw_ok (own := own0) [] [] [] rfl (by kernel_rfl) (Nat.le_succ _) ?_)
    repeat ((conv => whnf); first | refine Br.t ?_ | refine Br.f ?_ | refine ⟨rfl, ?_⟩)
    conv => whnf
    refine ⟨by repeat ((conv => whnf); first | exact trivial | refine ⟨rfl, ?_⟩), trivial, ?_⟩
    conv => whnf
    repeat ((conv => whnf); first | refine Br.t ?_ | refine Br.f ?_ | refine ⟨rfl, ?_⟩)
    conv => whnf
    refine Br.mk (fun g0 => ?_) (fun g0 => ?_)
    · have g0 : most ≤ (L.length : Int) := by simpa using g0
      rw [addB_full hni g0]
      repeat ((conv => whnf); first | refine Br.t ?_ | refine Br.f ?_ | refine ⟨rfl, ?_⟩)
      conv => whnf
      exact ⟨Nat.le_succ _, _, rfl, CL 1 ⟨L, true⟩, 0, rfl, rfl⟩
    · have g0 : ¬ most ≤ (L.length : Int) := by simpa using g0
      rw [addB_new hni g0]
      repeat ((conv => whnf); first | refine Br.t ?_ | refine Br.f ?_ | refine ⟨rfl, ?_⟩)
      conv => whnf
      refine ⟨fun h => hni (hmem.1 h), ?_⟩
      repeat ((conv => whnf); first | refine Br.t ?_ | refine Br.f ?_ | refine ⟨rfl, ?_⟩)
      conv => whnf
      refine W.kk (draw_ok (own := own0) [7, 10] [(0, 10)] [] rfl (by kernel_rfl) (Nat.le_succ _) ?_)
      repeat ((conv => whnf); first | refine Br.t ?_ | refine Br.f ?_ | refine ⟨rfl, ?_⟩)
      conv => whnf
      refine ⟨⟨by intro cs hcs; simp at hcs; subst hcs; rfl, by simp [lift], by show (L.length + 1) * 176 ≤ _; omega, len_mx (by simp [lift]; omega)⟩, ?_⟩
      repeat ((conv => whnf); first | refine Br.t ?_ | refine Br.f ?_ | refine ⟨rfl, ?_⟩)
      conv => whnf
      refine ⟨by repeat ((conv => whnf); first | exact trivial | refine ⟨rfl, ?_⟩), by repeat ((conv => whnf); first | exact trivial | refine ⟨by (conv => whnf); first | exact ⟨rfl, rfl⟩ | exact ⟨rfl, rfl, rfl⟩, ?_⟩), ?_⟩
      conv => whnf
      repeat ((conv => whnf); first | refine Br.t ?_ | refine Br.f ?_ | refine ⟨rfl, ?_⟩)
      conv => whnf
      refine ⟨Nat.le_succ _, _, ?_, CL 2 ⟨L ++ [x], lf⟩, 1, rfl, ?_⟩
      · simp only [seR, seB, alR, List.length_append, List.length_singleton, List.map_append, lift_app, List.map_cons, List.map_nil]
        rfl
      · simp [keysL]
/-- rows that a step's pick is kept in -/
def nxX (c : Cfg) (y : Nd) (x : Pk) : List Ob := [cfgB c, ndB' y, .row 0 2 false [(encP x).map .i]]
set_option maxHeartbeats 2000000 in
theorem add7 (c : Cfg) (y : Nd) (z : Pk) : addK (nxX c y z) := by
  intro p c0 l most s x hx hL hn
  refine CallK.cut (K := fun st' k' => ∃ v', st' = seR p c0 l (v' + 1) most (addB most s x) ++ nxX c y z ∧ k' = some (.map l (keysL (addB most s x).all))) 7 (Nat.le_refl _) (call_of_bodyK Try.func94 rfl (fun a w => Try.call94 a w) (kx_ok (own := own0) _ _ _ _ ?_))
  have CL : ∀ (v : Nat) (s : Sk), ∀ o ∈ seR p c0 l v most s ++ nxX c y z, o.cl 7 := fun v s o ho => by
    rw [List.mem_append] at ho
    rcases ho with ho | ho
    · exact seR_cl p c0 l v most s 7 (by decide) o ho
    · simp only [nxX, List.mem_cons, List.not_mem_nil, or_false] at ho
      rcases ho with rfl | rfl | rfl
      · exact cfgB_cl c 7
      · intro cs hcs; simp only [List.mem_singleton] at hcs; subst hcs; rfl
      · intro cs hcs; simp only [List.mem_singleton] at hcs; subst hcs; rfl
  obtain ⟨L, lf⟩ := s
  have hn : L.length ≤ 100000 := hn
  have hmem := keys_mem (L := L) hL hx
  have hk := key_ok x.1 hx
  repeat ((conv => whnf); first | refine Br.t ?_ | refine Br.f ?_ | refine ⟨rfl, ?_⟩)
  conv => whnf
  refine ((hk.pure _ rfl rfl).k _).mono ?_
  rintro r st' k' ⟨rfl, rfl, rfl⟩
  repeat ((conv => whnf); first | refine Br.t ?_ | refine Br.f ?_ | refine ⟨rfl, ?_⟩)
  conv => whnf
  intro b hb
  cases b with
  | true =>
    rw [addB_in (hmem.1 (hb.1 rfl))]
    repeat ((conv => whnf); first | refine Br.t ?_ | refine Br.f ?_ | refine ⟨rfl, ?_⟩)
    conv => whnf
    exact ⟨Nat.le_succ _, _, rfl, CL 1 ⟨L, lf⟩, 0, rfl, rfl⟩
  | false =>
    have hni : x.1 ∉ L.map (·.1) := fun h => by have := hb.2 (hmem.2 h); cases this
    repeat ((conv => whnf); first | refine Br.t ?_ | refine Br.f ?_ | refine ⟨rfl, ?_⟩)
    conv => whnf
    refine W.kk (draw_ok (own := own0) [] [] [] rfl (by kernel_rfl) (Nat.le_succ _) ?_)
    repeat ((conv => whnf); first | refine Br.t ?_ | refine Br.f ?_ | refine ⟨rfl, ?_⟩)
    conv => whnf
    refine ⟨by repeat ((conv => whnf); first | exact trivial | refine ⟨rfl, ?_⟩), trivial, ?_⟩
    conv => whnf
    repeat ((conv => whnf); first | refine Br.t ?_ | refine Br.f ?_ | refine ⟨rfl, ?_⟩)
    conv => whnf
    refine Br.mk (fun g0 => ?_) (fun g0 => ?_)
    · have g0 : most ≤ (L.length : Int) := by simpa using g0
      rw [addB_full hni g0]
      repeat ((conv => whnf); first | refine Br.t ?_ | refine Br.f ?_ | refine ⟨rfl, ?_⟩)
      conv => whnf
      exact ⟨Nat.le_succ _, _, rfl, CL 1 ⟨L, true⟩, 0, rfl, rfl⟩
    · have g0 : ¬ most ≤ (L.length : Int) := by simpa using g0
      rw [addB_new hni g0]
      repeat ((conv => whnf); first | refine Br.t ?_ | refine Br.f ?_ | refine ⟨rfl, ?_⟩)
      conv => whnf
      refine ⟨fun h => hni (hmem.1 h), ?_⟩
      repeat ((conv => whnf); first | refine Br.t ?_ | refine Br.f ?_ | refine ⟨rfl, ?_⟩)
      conv => whnf
      refine W.kk (draw_ok (own := own0) [7, 10] [(0, 10)] [] rfl (by kernel_rfl) (Nat.le_succ _) ?_)
      repeat ((conv => whnf); first | refine Br.t ?_ | refine Br.f ?_ | refine ⟨rfl, ?_⟩)
      conv => whnf
      refine ⟨⟨by intro cs hcs; simp at hcs; subst hcs; rfl, by simp [lift], by show (L.length + 1) * 176 ≤ _; omega, len_mx (by simp [lift]; omega)⟩, ?_⟩
      repeat ((conv => whnf); first | refine Br.t ?_ | refine Br.f ?_ | refine ⟨rfl, ?_⟩)
      conv => whnf
      refine ⟨by repeat ((conv => whnf); first | exact trivial | refine ⟨rfl, ?_⟩), by repeat ((conv => whnf); first | exact trivial | refine ⟨by (conv => whnf); first | exact ⟨rfl, rfl⟩ | exact ⟨rfl, rfl, rfl⟩, ?_⟩), ?_⟩
      conv => whnf
      repeat ((conv => whnf); first | refine Br.t ?_ | refine Br.f ?_ | refine ⟨rfl, ?_⟩)
      conv => whnf
      refine ⟨Nat.le_succ _, _, ?_, CL 2 ⟨L ++ [x], lf⟩, 1, rfl, ?_⟩
      · simp only [seR, seB, alR, List.length_append, List.length_singleton, List.map_append, lift_app, List.map_cons, List.map_nil]
        rfl
      · simp [keysL]
theorem seR_up (p : Pg) (c0 : Cfg) (l v k : Nat) (most : Int) (s : Sk) (X : List Ob) (hX : upSt (fun id => if id = 3 then k else 0) 4 X = X) : upSt (fun id => if id = 3 then k else 0) 0 (seR p c0 l v most s ++ X) = seR p c0 l (v + k) most s ++ X := by
  simp only [seR, List.cons_append, List.nil_append, upSt, hX]
  simp [Ob.up, pgB, cfgB, seB, alR, V.up, V.up.upAll, encP4]
/-- whatever the version -/
theorem addV {X : List Ob} (hX : ∀ k, upSt (fun id => if id = 3 then k else 0) 4 X = X) (h : addK X) (p : Pg) (c0 : Cfg) (l v : Nat) (most : Int) (s : Sk) (x : Stt) (hx : Sml x.1) (hL : ∀ y ∈ s.all, Sml y.1) (hn : s.all.length ≤ 100000) :
    CallK Try.prog G0 94 [.ptr 2 0 0 0, stV x] (seR p c0 l (v + 1) most s ++ X) (some (.map l (keysL s.all))) (fun r st' k' => r = .tup [] ∧ ∃ v', st' = seR p c0 l (v' + 1) most (addB most s x) ++ X ∧ k' = some (.map l (keysL (addB most s x).all))) := by
  have := (h p c0 l most s x hx hL hn).vers (fun id => if id = 3 then v else 0)
  rw [seR_up _ _ _ _ _ _ _ _ (hX v), Nat.add_comm 1 v] at this
  have ea : [V.ptr 2 0 0 0, stV x].map (V.up fun id => if id = 3 then v else 0) = [.ptr 2 0 0 0, stV x] := by
    simp [V.up, stV]
  rw [ea] at this
  refine this.mono ?_
  rintro r st' k' ⟨r0, st0, ⟨rfl, v', rfl, rfl⟩, rfl, rfl⟩
  exact ⟨rfl, v' + v, by rw [seR_up _ _ _ _ _ _ _ _ (hX v), Nat.add_right_comm], rfl⟩
end Go.Proofs.Ytiikndppckjmhaa.Am

/- Contracts: all that a config goes on to is added. -/
namespace Go.Proofs.Ytiikndppckjmhaa.Am
set_option autoImplicit false
set_option linter.unusedVariables false
set_option linter.unusedSimpArgs false
set_option maxRecDepth 10000
set_option pp.maxSteps 3000
set_option pp.proofs false
def stp (p : Pg) (c : Cfg) (x : Pk) : Cfg := stepC p c x.1 x.2
def waysOf (y : Nd) : List Bool := if y.1 = 8 then [false, true] else [false]
def picksT (p : Pg) (c : Cfg) (t : Nat) : List Pk := if enab p c (t : Int) = true then (waysOf (atN p c (t : Int))).map fun w => ((t : Int), w) else []
def picksL (p : Pg) (c : Cfg) : Nat → List Pk
  | 0 => []
  | t + 1 => picksL p c t ++ picksT p c t
def picksOf (p : Pg) (c : Cfg) : List Pk := picksL p c c.ths.length
section
variable {C X : Type}
theorem addB_len (most : Int) (s : Bf C X) (x : C × Int × X) : s.all.length ≤ (addB most s x).all.length ∧ (addB most s x).all.length ≤ s.all.length + 1 := by
  unfold addB
  split
  · omega
  · split
    · simp
    · simp
theorem nextB_len (most : Int) (step : C → X → C) (i : Nat) (c : C) : ∀ (xs : List X) (s : Bf C X), (nextB most step i c xs s).all.length ≤ s.all.length + xs.length
  | [], s => Nat.le_refl _
  | x :: xs, s => by
    have h1 := nextB_len most step i c xs (addB most s (step c x, (i : Int), x))
    have h2 := (addB_len most s (step c x, (i : Int), x)).2
    simp only [nextB, List.foldl_cons, List.length_cons] at h1 ⊢
    omega
theorem addB_all {most : Int} {s : Bf C X} {x : C × Int × X} (Pr : C × Int × X → Prop) (h : ∀ y ∈ s.all, Pr y) (hx : Pr x) : ∀ y ∈ (addB most s x).all, Pr y := by
  unfold addB
  split
  · exact h
  · split
    · exact h
    · intro y hy
      simp only [List.mem_append, List.mem_singleton] at hy
      rcases hy with hy | rfl
      · exact h y hy
      · exact hx
theorem nextB_all {most : Int} {step : C → X → C} {i : Nat} {c : C} (Pr : C × Int × X → Prop) : ∀ (xs : List X) (s : Bf C X), (∀ y ∈ s.all, Pr y) → (∀ x ∈ xs, Pr (step c x, (i : Int), x)) → ∀ y ∈ (nextB most step i c xs s).all, Pr y
  | [], s, h, _ => h
  | x :: xs, s, h, hx => nextB_all Pr xs _ (addB_all Pr h (hx x List.mem_cons_self)) fun z hz => hx z (List.mem_cons_of_mem _ hz)
theorem nextB_app (most : Int) (step : C → X → C) (i : Nat) (c : C) (xs ys : List X) (s : Bf C X) : nextB most step i c (xs ++ ys) s = nextB most step i c ys (nextB most step i c xs s) := by
  simp [nextB, List.foldl_append]
end
theorem waysOf_len (y : Nd) : (waysOf y).length ≤ 2 := by unfold waysOf; split <;> decide
theorem picksT_len (p : Pg) (c : Cfg) (t : Nat) : (picksT p c t).length ≤ 2 := by
  unfold picksT
  split
  · rw [List.length_map]; exact waysOf_len _
  · exact Nat.zero_le _
theorem picksL_len (p : Pg) (c : Cfg) : ∀ t, (picksL p c t).length ≤ 2 * t
  | 0 => Nat.le_refl _
  | t + 1 => by
    have h1 := picksL_len p c t
    have h2 := picksT_len p c t
    simp only [picksL, List.length_append]; omega
mutual
theorem upZ : ∀ v : V, V.up (fun _ => 0) v = v
  | .i _ => rfl
  | .ref _ _ _ _ => rfl
  | .ptr _ _ _ _ => rfl
  | .iptr _ _ => rfl
  | .fn f a b => by simp only [V.up]; rw [upZs a, upZs b]
  | .nilf => rfl
  | .agg cs => by simp only [V.up]; rw [upZs cs]
  | .tup cs => by simp only [V.up]; rw [upZs cs]
  | .nils => rfl
  | .undef => rfl
theorem upZs : ∀ vs : List V, V.up.upAll (fun _ => 0) vs = vs
  | [] => rfl
  | v :: vs => by simp only [V.up.upAll]; rw [upZ v, upZs vs]
end
theorem upStZ : ∀ (st : List Ob) (k : Nat), upSt (fun _ => 0) k st = st
  | [], _ => rfl
  | o :: st, k => by
    rw [upSt, upStZ st]
    congr 1
    cases o with
    | dead => rfl
    | row a b c es =>
      simp only [Ob.up, Nat.add_zero]
      rw [List.map_congr_left (g := id) fun cs _ => upZs cs, List.map_id]
/-- behind a round: rows that the round has made are forgotten -/
theorem Le.cut {n : Nat} {sl : List V} {st : List Ob} {s : S} (hn : n ≤ s.st.length) (hs : V.cl.clAll s.st.length s.sl = true) (ho : ∀ o ∈ s.st, o.cl s.st.length) (h1 : leS sl s.sl) (h2 : st.take s.st.length = s.st) : Le n ⟨sl, st⟩ s :=
  Le.back (fun _ => 0) (fun _ _ => rfl) hn hs ho (by rw [List.map_congr_left (g := id) fun v _ => upZ v, List.map_id]; exact h1) (by rw [upStZ]; exact h2)
/-- slots -/
def nxS (i n t : Nat) (x : List (Nat × V)) : List V := mkS 72 ([(0, .ptr 2 0 0 0), (1, .i (.int .i64 i)), (4, .ptr 4 0 0 0), (21, .i (.int .i64 n)), (22, .i (.int .i64 t))] ++ x)
theorem nxX_up (c : Cfg) (y : Nd) (x : Pk) (k : Nat) : upSt (fun id => if id = 3 then k else 0) 4 (nxX c y x) = nxX c y x := by
  simp [nxX, upSt, Ob.up, cfgB, ndB', V.up, V.up.upAll, encNd, encP]
theorem nx5_cl (p : Pg) (c0 c : Cfg) (l v : Nat) (most : Int) (s : Sk) (m : Nat) (hm : 4 ≤ m) : ∀ o ∈ seR p c0 l v most s ++ [cfgB c], o.cl m := by
  intro o ho
  rw [List.mem_append] at ho
  rcases ho with ho | ho
  · exact seR_cl p c0 l v most s m hm o ho
  · simp only [List.mem_singleton] at ho
    subst ho
    exact cfgB_cl c m
theorem nx6_cl (p : Pg) (c0 c : Cfg) (y : Nd) (l v : Nat) (most : Int) (s : Sk) (m : Nat) (hm : 4 ≤ m) : ∀ o ∈ seR p c0 l v most s ++ [cfgB c, ndB' y], o.cl m := by
  intro o ho
  rw [List.mem_append] at ho
  rcases ho with ho | ho
  · exact seR_cl p c0 l v most s m hm o ho
  · simp only [List.mem_cons, List.not_mem_nil, or_false] at ho
    rcases ho with rfl | rfl
    · exact cfgB_cl c m
    · intro cs hcs; simp only [List.mem_singleton] at hcs; subst hcs; rfl
def waysI : List (List I) := [[.bool false], [.bool true]]
def nyS (i n t w : Nat) : List V := nxS i n t [(5, .i (.int .i64 t)), (6, .ptr 5 0 0 0), (43, .i (.sl waysI)), (44, .i (.int .i64 2)), (45, .i (.int .i64 w))]
def bothW (t : Nat) : List Pk := [((t : Int), false), ((t : Int), true)]
/-- both ways of a thread -/
def nx_in (p : Pg) (c0 : Cfg) (c : Cfg) (y : Nd) (l : Nat) (most : Int) (i t : Nat) (s0 : Sk) (v0 : Nat) : Prop :=
    KW Try.prog G0 4 (.loop (lp Try.f96 1)) (fun e k' s => (e = .exit 1 ∨ e = .exit 2) ∧ ∃ v, s = ⟨nxS i c.ths.length t [], seR p c0 l (v + 1) most (nextB most (stp p) i c ((waysOf y).map fun w => ((t : Int), w)) s0) ++ [cfgB c]⟩ ∧ k' = some (.map l (keysL (nextB most (stp p) i c ((waysOf y).map fun w => ((t : Int), w)) s0).all))) ⟨nyS i c.ths.length t 0, seR p c0 l (v0 + 1) most s0 ++ [cfgB c, ndB' y]⟩ (some (.map l (keysL s0.all)))
set_option maxHeartbeats 4000000 in
theorem nx_in_ok (p : Pg) (hp : PgOk p) (c0 : Cfg) (c : Cfg) (hc : OkC p c) (y : Nd) (l : Nat) (most : Int) (i t : Nat) (hi : i ≤ 100000) (ht : t ≤ 8) (s0 : Sk) (v0 : Nat) (hL : ∀ z ∈ s0.all, OkC p z.1) (hn : s0.all.length ≤ 99990) : nx_in p c0 c y l most i t s0 v0 := by
  unfold nx_in
  refine KW.weak (kloop2 (fun w v => ⟨nyS i c.ths.length t w, seR p c0 l (v + 1) most (nextB most (stp p) i c ((bothW t).take w) s0) ++ [cfgB c, ndB' y]⟩) (fun w _ => some (.map l (keysL (nextB most (stp p) i c ((bothW t).take w) s0).all))) (fun w => w ≤ 2 ∧ (y.1 ≠ 8 → w ≤ 1)) (fun w => 2 - w) 0 v0 ⟨Nat.zero_le _, fun _ => Nat.zero_le _⟩ (Le.refl _ _) rfl (fun w v hx => kx_ok (own := own0) _ _ _ _ ?_))
  have hcw := sml_of hp hc
  have hLs : ∀ (xs : List Pk), ∀ z ∈ (nextB most (stp p) i c xs s0).all, OkC p z.1 := fun xs => nextB_all (fun z => OkC p z.1) xs s0 hL fun x _ => stepC_ok hp hc x.1 x.2
  have hLm : ∀ (xs : List Pk), ∀ z ∈ (nextB most (stp p) i c xs s0).all, Sml z.1 := fun xs z hz => sml_of hp (hLs xs z hz)
  have hLn : ∀ (xs : List Pk), xs.length ≤ 2 → (nextB most (stp p) i c xs s0).all.length ≤ 99992 := fun xs hx => by
    have := nextB_len most (stp p) i c xs s0; omega
  obtain ⟨hw1, hw2⟩ := hx
  have hst := fun b => semstep p hp c hc (t : Int) b
  have hA := fun (b : Bool) (xs : List Pk) (hx : xs.length ≤ 2) => addV (fun k => nxX_up c y ((t : Int), b) k) (add7 c y ((t : Int), b)) p c0 l v most (nextB most (stp p) i c xs s0) (stp p c ((t : Int), b), (i : Int), ((t : Int), b)) (sml_of hp (stepC_ok hp hc _ _)) (hLm _) (by have := hLn xs hx; omega)
  have h012 : w = 0 ∨ w = 1 ∨ w = 2 := by omega
  rcases h012 with rfl | rfl | rfl
  · repeat ((conv => whnf); first | refine Br.t ?_ | refine Br.f ?_ | refine ⟨rfl, ?_⟩)
    conv => whnf
    refine ⟨⟨by decide, by decide, rfl⟩, ?_⟩
    repeat ((conv => whnf); first | refine Br.t ?_ | refine Br.f ?_ | refine ⟨rfl, ?_⟩)
    conv => whnf
    refine kdraw_last (own := own0) (m := 11) rfl rfl (by kernel_rfl) rfl ?_
    refine draw_okA (own := own0) [] [] [(cfgV (stepC p c (t : Int) false), seR p c0 l (v + 1) most (nextB most (stp p) i c ((bothW t).take 0) s0) ++ nxX c y ((t : Int), false))] (by kernel_rfl) (by show 4 ≤ 7; decide) ?_
    repeat ((conv => whnf); first | refine Br.t ?_ | refine Br.f ?_ | refine ⟨rfl, ?_⟩)
    conv => whnf
    refine ⟨(hst false).pure _ rfl rfl, ?_⟩
    repeat ((conv => whnf); first | refine Br.t ?_ | refine Br.f ?_ | refine ⟨rfl, ?_⟩)
    conv => whnf
    refine ⟨by repeat ((conv => whnf); first | exact trivial | refine ⟨rfl, ?_⟩), trivial, ?_⟩
    conv => whnf
    refine ⟨rfl, ?_⟩
    repeat ((conv => whnf); first | refine Br.t ?_ | refine Br.f ?_ | refine ⟨rfl, ?_⟩)
    conv => whnf
    refine (hA false ((bothW t).take 0) (by show 0 ≤ 2; omega)).mono ?_
    rintro r st' k' ⟨rfl, v', rfl, rfl⟩
    repeat ((conv => whnf); first | refine Br.t ?_ | refine Br.f ?_ | refine ⟨rfl, ?_⟩)
    conv => whnf
    refine ⟨1, v', ⟨by omega, fun _ => by omega⟩, by omega, Le.cut (by show 4 ≤ 6; decide) rfl (nx6_cl p c0 c y l (v' + 1) most _ _ (by show 4 ≤ 6; decide)) (by simp [leS, nyS, nxS, mkS]; try exact i64_id (by decide) (by decide)) rfl, rfl⟩
  · repeat ((conv => whnf); first | refine Br.t ?_ | refine Br.f ?_ | refine ⟨rfl, ?_⟩)
    conv => whnf
    refine ⟨⟨by decide, by decide, rfl⟩, ?_⟩
    repeat ((conv => whnf); first | refine Br.t ?_ | refine Br.f ?_ | refine ⟨rfl, ?_⟩)
    conv => whnf
    refine Br.mk (fun g0 => ?_) (fun g0 => ?_)
    · have h8 : y.1 ≠ 8 := by simpa using g0
      have ew : (waysOf y).map (fun w => ((t : Int), w)) = (bothW t).take 1 := by unfold waysOf; rw [if_neg h8]; rfl
      rw [ew]
      repeat ((conv => whnf); first | refine Br.t ?_ | refine Br.f ?_ | refine ⟨rfl, ?_⟩)
      conv => whnf
      refine ⟨_, ?_, .inl rfl, v, rfl, rfl⟩
      exact Le.cut (by show 4 ≤ 5; decide) rfl (nx5_cl p c0 c l (v + 1) most _ _ (by show 4 ≤ 5; decide)) (by simp [leS, nyS, nxS, mkS]) rfl
    · have h8 : y.1 = 8 := by simpa using g0
      repeat ((conv => whnf); first | refine Br.t ?_ | refine Br.f ?_ | refine ⟨rfl, ?_⟩)
      conv => whnf
      refine kdraw_last (own := own0) (m := 11) rfl rfl (by kernel_rfl) rfl ?_
      refine draw_okA (own := own0) [] [] [(cfgV (stepC p c (t : Int) true), seR p c0 l (v + 1) most (nextB most (stp p) i c ((bothW t).take 1) s0) ++ nxX c y ((t : Int), true))] (by kernel_rfl) (by show 4 ≤ 7; decide) ?_
      repeat ((conv => whnf); first | refine Br.t ?_ | refine Br.f ?_ | refine ⟨rfl, ?_⟩)
      conv => whnf
      refine ⟨(hst true).pure _ rfl rfl, ?_⟩
      repeat ((conv => whnf); first | refine Br.t ?_ | refine Br.f ?_ | refine ⟨rfl, ?_⟩)
      conv => whnf
      refine ⟨by repeat ((conv => whnf); first | exact trivial | refine ⟨rfl, ?_⟩), trivial, ?_⟩
      conv => whnf
      refine ⟨rfl, ?_⟩
      repeat ((conv => whnf); first | refine Br.t ?_ | refine Br.f ?_ | refine ⟨rfl, ?_⟩)
      conv => whnf
      refine (hA true ((bothW t).take 1) (by show 1 ≤ 2; omega)).mono ?_
      rintro r st' k' ⟨rfl, v', rfl, rfl⟩
      repeat ((conv => whnf); first | refine Br.t ?_ | refine Br.f ?_ | refine ⟨rfl, ?_⟩)
      conv => whnf
      refine ⟨2, v', ⟨by omega, fun h => absurd h8 h⟩, by omega, Le.cut (by show 4 ≤ 6; decide) rfl (nx6_cl p c0 c y l (v' + 1) most _ _ (by show 4 ≤ 6; decide)) (by simp [leS, nyS, nxS, mkS]; try exact i64_id (by decide) (by decide)) rfl, rfl⟩
  · have h8 : y.1 = 8 := Classical.byContradiction fun h => by have := hw2 h; omega
    have ew : (waysOf y).map (fun w => ((t : Int), w)) = (bothW t).take 2 := by unfold waysOf; rw [if_pos h8]; rfl
    rw [ew]
    repeat ((conv => whnf); first | refine Br.t ?_ | refine Br.f ?_ | refine ⟨rfl, ?_⟩)
    conv => whnf
    refine ⟨_, ?_, .inr rfl, v, rfl, rfl⟩
    exact Le.cut (by show 4 ≤ 5; decide) rfl (nx5_cl p c0 c l (v + 1) most _ _ (by show 4 ≤ 5; decide)) (by simp [leS, nyS, nxS, mkS]) rfl
end Go.Proofs.Ytiikndppckjmhaa.Am

/- Contracts: all that a config goes on to is added: all threads. -/
namespace Go.Proofs.Ytiikndppckjmhaa.Am
set_option autoImplicit false
set_option linter.unusedVariables false
set_option linter.unusedSimpArgs false
set_option maxRecDepth 10000
set_option pp.maxSteps 3000
set_option pp.proofs false
set_option maxHeartbeats 4000000 in
theorem nx_out (p : Pg) (hp : PgOk p) (c0 : Cfg) (c : Cfg) (hc : OkC p c) (l : Nat) (most : Int) (i : Nat) (hi : i ≤ 100000) (s0 : Sk) (v0 : Nat) (hL : ∀ z ∈ s0.all, OkC p z.1) (hn : s0.all.length ≤ 99900) :
    KW Try.prog G0 4 (.loop (lp Try.f96 0)) (fun e k' s => e = .exit 0 ∧ ∃ v, s = ⟨nxS i c.ths.length c.ths.length [], seR p c0 l (v + 1) most (nextB most (stp p) i c (picksOf p c) s0) ++ [cfgB c]⟩ ∧ k' = some (.map l (keysL (nextB most (stp p) i c (picksOf p c) s0).all))) ⟨nxS i c.ths.length 0 [], seR p c0 l (v0 + 1) most s0 ++ [cfgB c]⟩ (some (.map l (keysL s0.all))) := by
  refine KW.weak (kloop2 (fun t v => ⟨nxS i c.ths.length t [], seR p c0 l (v + 1) most (nextB most (stp p) i c (picksL p c t) s0) ++ [cfgB c]⟩) (fun t _ => some (.map l (keysL (nextB most (stp p) i c (picksL p c t) s0).all))) (fun t => t ≤ c.ths.length) (fun t => c.ths.length - t) 0 v0 (Nat.zero_le _) (Le.refl _ _) rfl (fun t v hx => kx_ok (own := own0) _ _ _ _ ?_))
  have h8 := hc.n.2
  repeat ((conv => whnf); first | refine Br.t ?_ | refine Br.f ?_ | refine ⟨rfl, ?_⟩)
  conv => whnf
  refine Br.mk (fun g => ?_) (fun g => ?_)
  · have g : t < c.ths.length := by simpa using g
    have ce := enabled_ok p hp c hc (t : Int)
    have ca := at_ok p hp c hc (t : Int)
    obtain ⟨y, hy⟩ : ∃ y, y = atN p c (t : Int) := ⟨_, rfl⟩
    obtain ⟨q, hq⟩ : ∃ q, q = enab p c (t : Int) := ⟨_, rfl⟩
    have eT : nextB most (stp p) i c (picksL p c (t + 1)) s0 = nextB most (stp p) i c (if q = true then (waysOf y).map fun w => ((t : Int), w) else []) (nextB most (stp p) i c (picksL p c t) s0) := by
      rw [picksL, nextB_app, picksT, hq, hy]
    obtain ⟨s1, hs1⟩ : ∃ s1, s1 = nextB most (stp p) i c (picksL p c t) s0 := ⟨_, rfl⟩
    have hL1 : ∀ z ∈ s1.all, OkC p z.1 := by rw [hs1]; exact nextB_all (fun z => OkC p z.1) _ s0 hL fun x _ => stepC_ok hp hc x.1 x.2
    have hn1 : s1.all.length ≤ 99990 := by
      have h1 := nextB_len most (stp p) i c (picksL p c t) s0
      have h2 := picksL_len p c t
      rw [← hs1] at h1; omega
    rw [← hs1] at eT ⊢
    rw [← hq] at ce
    rw [← hy] at ca
    repeat ((conv => whnf); first | refine Br.t ?_ | refine Br.f ?_ | refine ⟨rfl, ?_⟩)
    conv => whnf
    refine W.kk (draw_ok (own := own0) [] [] [(.i (.bool q), seR p c0 l (v + 1) most s1 ++ [cfgB c])] rfl (by kernel_rfl) (by show 4 ≤ 5; decide) ?_)
    repeat ((conv => whnf); first | refine Br.t ?_ | refine Br.f ?_ | refine ⟨rfl, ?_⟩)
    conv => whnf
    refine ⟨ce.pure _ rfl rfl, ?_⟩
    repeat ((conv => whnf); first | refine Br.t ?_ | refine Br.f ?_ | refine ⟨rfl, ?_⟩)
    conv => whnf
    refine ⟨by repeat ((conv => whnf); first | exact trivial | refine ⟨rfl, ?_⟩), trivial, ?_⟩
    conv => whnf
    cases q with
    | false =>
      rw [if_neg (by simp)] at eT
      repeat ((conv => whnf); first | refine Br.t ?_ | refine Br.f ?_ | refine ⟨rfl, ?_⟩)
      conv => whnf
      refine ⟨t + 1, v, by omega, by omega, Le.cut (by show 4 ≤ 5; decide) rfl (nx5_cl p c0 c l (v + 1) most _ _ (by show 4 ≤ 5; decide)) (by simp [leS, nxS, mkS]; exact i64_id (by omega) (by omega)) ?_, ?_⟩
      · rw [eT]; rfl
      · rw [eT]
        try rfl
    | true =>
      rw [if_pos rfl] at eT
      obtain ⟨lv, hlv⟩ : ∃ lv, lv = lives c (t : Int) := ⟨_, rfl⟩
      rw [← hlv] at ca
      repeat ((conv => whnf); first | refine Br.t ?_ | refine Br.f ?_ | refine ⟨rfl, ?_⟩)
      conv => whnf
      refine W.kk (draw_okG (own := own0) [10, 11] [(6, 11), (9, 13)] [(0, 11), (1, 11), (2, 11), (3, 11), (4, 11), (5, 11), (7, 11), (8, 11), (9, 11)] [(.tup [ndV y, .i (.bool lv)], seR p c0 l (v + 1) most s1 ++ [cfgB c])] rfl (by kernel_rfl) (by kernel_rfl) (by show 4 ≤ 5; decide) ?_)
      repeat ((conv => whnf); first | refine Br.t ?_ | refine Br.f ?_ | refine ⟨rfl, ?_⟩)
      conv => whnf
      refine ⟨ca.pure _ rfl rfl, ?_⟩
      repeat ((conv => whnf); first | refine Br.t ?_ | refine Br.f ?_ | refine ⟨rfl, ?_⟩)
      conv => whnf
      refine ⟨by repeat ((conv => whnf); first | exact trivial | refine ⟨rfl, ?_⟩), ?_, by repeat ((conv => whnf); first | exact trivial | refine ⟨⟨_, rfl⟩, ?_⟩), ?_⟩
      · repeat ((conv => whnf); first | exact trivial | refine ⟨by (conv => whnf); first | exact ⟨rfl, rfl⟩ | exact ⟨rfl, rfl, rfl⟩ | exact ca.pure _ rfl rfl, ?_⟩)
      conv => whnf
      repeat ((conv => whnf); first | refine Br.t ?_ | refine Br.f ?_ | refine ⟨rfl, ?_⟩)
      conv => whnf
      refine KW.le (Le.slots (sl' := nyS i c.ths.length t 0) (by simp [leS, nyS, nxS, mkS, waysI])) ((nx_in_ok p hp c0 c hc y l most i t hi (by omega) s1 v hL1 hn1).mono ?_)
      rintro e k' s ⟨he, v', rfl, rfl⟩
      rcases he with rfl | rfl
      · repeat ((conv => whnf); first | refine Br.t ?_ | refine Br.f ?_ | refine ⟨rfl, ?_⟩)
        conv => whnf
        refine ⟨t + 1, v', by omega, by omega, Le.cut (by show 4 ≤ 5; decide) rfl (nx5_cl p c0 c l (v' + 1) most _ _ (by show 4 ≤ 5; decide)) (by simp [leS, nxS, mkS]; exact i64_id (by omega) (by omega)) ?_, ?_⟩
        · rw [eT]; rfl
        · rw [eT]
          try rfl
      · repeat ((conv => whnf); first | refine Br.t ?_ | refine Br.f ?_ | refine ⟨rfl, ?_⟩)
        conv => whnf
        refine ⟨t + 1, v', by omega, by omega, Le.cut (by show 4 ≤ 5; decide) rfl (nx5_cl p c0 c l (v' + 1) most _ _ (by show 4 ≤ 5; decide)) (by simp [leS, nxS, mkS]; exact i64_id (by omega) (by omega)) ?_, ?_⟩
        · rw [eT]; rfl
        · rw [eT]
          try rfl
  · have g : t = c.ths.length := by simp at g; omega
    subst g
    repeat ((conv => whnf); first | refine Br.t ?_ | refine Br.f ?_ | refine ⟨rfl, ?_⟩)
    conv => whnf
    exact ⟨_, Le.slots (by simp [leS, nxS, mkS]), rfl, v, rfl, rfl⟩
set_option maxHeartbeats 4000000 in
theorem next_ok (p : Pg) (hp : PgOk p) (c0 : Cfg) (l : Nat) (most : Int) (i : Nat) (s0 : Sk) (x : Stt) (hx : s0.all[i]? = some x) (hL : ∀ z ∈ s0.all, OkC p z.1) (hn : s0.all.length ≤ 99900) :
    CallK Try.prog G0 96 [.ptr 2 0 0 0, .i (.int .i64 i)] (seR p c0 l 1 most s0) (some (.map l (keysL s0.all))) (fun r st' k' => r = .tup [] ∧ ∃ v', st' = seR p c0 l (v' + 1) most (nextB most (stp p) i x.1 (picksOf p x.1) s0) ∧ k' = some (.map l (keysL (nextB most (stp p) i x.1 (picksOf p x.1) s0).all))) := by
  refine CallK.cut (K := fun st' k' => ∃ v', st' = seR p c0 l (v' + 1) most (nextB most (stp p) i x.1 (picksOf p x.1) s0) ∧ k' = some (.map l (keysL (nextB most (stp p) i x.1 (picksOf p x.1) s0).all))) 4 (Nat.le_refl _) (call_of_bodyK Try.func96 rfl (fun a w => Try.call96 a w) (kx_ok (own := own0) _ _ _ _ ?_))
  have hil : i < s0.all.length := (List.getElem?_eq_some_iff.1 hx).1
  have hc := hL x (List.mem_of_getElem? hx)
  have ex : (lift (s0.all.map encSt)).getD (0 + ((i : Int)).toNat) [] = (encSt x).map .i := by
    rw [Nat.zero_add, Int.toNat_natCast, lift_getD encSt s0.all hil]
    rw [List.getElem?_eq_getElem hil] at hx
    cases hx; rfl
  repeat ((conv => whnf); first | refine Br.t ?_ | refine Br.f ?_ | refine ⟨rfl, ?_⟩)
  conv => whnf
  refine ⟨⟨by omega, by show (i : Int) < (s0.all.length : Nat); omega⟩, ?_⟩
  repeat ((conv => whnf); first | refine Br.t ?_ | refine Br.f ?_ | refine ⟨rfl, ?_⟩)
  conv => whnf
  rw [ex]
  repeat ((conv => whnf); first | refine Br.t ?_ | refine Br.f ?_ | refine ⟨rfl, ?_⟩)
  conv => whnf
  refine KW.le (Le.slots (sl' := nxS i x.1.ths.length 0 []) (by simp [leS, nxS, mkS])) ((nx_out p hp c0 x.1 hc l most i (by omega) s0 0 hL hn).mono ?_)
  rintro e k' s ⟨rfl, v', rfl, rfl⟩
  repeat ((conv => whnf); first | refine Br.t ?_ | refine Br.f ?_ | refine ⟨rfl, ?_⟩)
  conv => whnf
  exact ⟨Nat.le_succ _, _, rfl, seR_cl p c0 l (v' + 1) most _ 4 (Nat.le_refl _), v', rfl, rfl⟩
end Go.Proofs.Ytiikndppckjmhaa.Am

/- Contracts: the picks that come to a config. -/
namespace Go.Proofs.Ytiikndppckjmhaa.Am
set_option autoImplicit false
set_option linter.unusedVariables false
set_option linter.unusedSimpArgs false
set_option maxRecDepth 10000
set_option pp.maxSteps 3000
set_option pp.proofs false
theorem Le.slE {n : Nat} {sl sl' : List V} {st st' : List Ob} (h : leS sl sl') (e : st = st') : Le n ⟨sl, st⟩ ⟨sl', st'⟩ := by subst e; exact Le.slots h
def pkR (v : Nat) (l : List Pk) : Ob := .row v 2 false (lift (l.map encP))
theorem pkR_cl (v : Nat) (l : List Pk) (m : Nat) : (pkR v l).cl m := row_cl v 2 (l.map encP) m _ (by simp [pkR])
theorem pa_cl (p : Pg) (c0 : Cfg) (l : Nat) (most : Int) (s : Sk) (v w : Nat) (q : List Pk) (m : Nat) (hm : 4 ≤ m) : ∀ o ∈ seR p c0 l v most s ++ [pkR w q], o.cl m := by
  intro o ho
  rw [List.mem_append] at ho
  rcases ho with ho | ho
  · exact seR_cl p c0 l v most s m hm o ho
  · simp only [List.mem_singleton] at ho
    subst ho
    exact pkR_cl w q m
def paS (x : List (Nat × V)) : List V := mkS 61 ([(0, .ptr 2 0 0 0), (4, .nils)] ++ x)
theorem seR_up4 (p : Pg) (c0 : Cfg) (l v : Nat) (most : Int) (s : Sk) (k w : Nat) (q : List Pk) : upSt (fun id => if id = 4 then k else 0) 0 (seR p c0 l v most s ++ [pkR w q]) = seR p c0 l v most s ++ [pkR (w + k) q] := by
  simp [seR, upSt, Ob.up, pgB, cfgB, seB, alR, pkR, V.up, V.up.upAll, encP4]
set_option maxHeartbeats 4000000 in
theorem pa_back (p : Pg) (c0 : Cfg) (l : Nat) (most : Int) (s : Sk) (hn : s.all.length ≤ 99900) {step : Cfg → Pk → Cfg} {picks : Cfg → List Pk} {cc : Cfg} {ii : Nat} (hT : Tree step picks cc ii s.all) (i : Nat) (hi : i < s.all.length) :
    W Try.prog G0 4 (.loop (lp Try.f95 0)) (fun e s' => e = .exit 0 ∧ s' = ⟨paS [(5, .ref 4 1 0 (pathK s.all i).length)], seR p c0 l 1 most s ++ [pkR 1 (pathK s.all i).reverse]⟩) ⟨paS [(1, .i (.int .i64 i)), (5, .nils)], seR p c0 l 1 most s⟩ := by
  refine W.weak (loop_ok (α := Nat × List Pk) (fun x => ⟨paS [(1, .i (.int .i64 x.1)), (5, .ref 4 1 0 x.2.length)], seR p c0 l 1 most s ++ [pkR 1 x.2]⟩) (fun x => x.1 < s.all.length ∧ pathK s.all i = pathK s.all x.1 ++ x.2.reverse) (fun x => x.1) (i, []) ⟨hi, by simp⟩ ((Le.nil (n := 4) 5 2 rfl).trans (Le.slots (by simp [leS, mkS, paS, seR]))) (fun x hx => wpx_ok (own := own0) _ _ _ ?_))
  obtain ⟨k, acc⟩ := x
  obtain ⟨hk, hp⟩ := hx
  have hk : k < s.all.length := hk
  have hp : pathK s.all i = pathK s.all k ++ acc.reverse := hp
  show wpx _ _ _ _ _ _ ⟨paS [(1, .i (.int .i64 k)), (5, .ref 4 1 0 acc.length)], seR p c0 l 1 most s ++ [pkR 1 acc]⟩
  obtain ⟨⟨c, j, x⟩, hx⟩ : ∃ y, s.all[k]? = some y := ⟨_, List.getElem?_eq_getElem hk⟩
  have hal : acc.length ≤ i := by
    have h1 := (path_take hT i hi).1
    rw [hp, List.length_append, List.length_reverse] at h1
    omega
  have ex : (lift (s.all.map encSt)).getD (0 + ((k : Int)).toNat) [] = (encSt (c, j, x)).map .i := by
    rw [Nat.zero_add, Int.toNat_natCast, lift_getD encSt s.all hk]
    rw [List.getElem?_eq_getElem hk] at hx
    rw [Option.some.inj hx]
  repeat ((conv => whnf); first | refine Br.t ?_ | refine Br.f ?_ | refine ⟨rfl, ?_⟩)
  conv => whnf
  refine ⟨⟨by omega, by show (k : Int) < (s.all.length : Nat); omega⟩, ?_⟩
  repeat ((conv => whnf); first | refine Br.t ?_ | refine Br.f ?_ | refine ⟨rfl, ?_⟩)
  conv => whnf
  rw [ex]
  repeat ((conv => whnf); first | refine Br.t ?_ | refine Br.f ?_ | refine ⟨rfl, ?_⟩)
  conv => whnf
  refine Br.mk (fun g => ?_) (fun g => ?_)
  · have g : 0 ≤ j := by simpa using g
    obtain ⟨m, rfl⟩ : ∃ m : Nat, j = m := ⟨j.toNat, by omega⟩
    have hps := pathK_step hT hx (by omega)
    have hmk : m < k := by
      rcases hT.ent k c m x hx with ⟨_, h1, _⟩ | ⟨_, _, h2, _⟩
      · omega
      · simpa using h2
    repeat ((conv => whnf); first | refine Br.t ?_ | refine Br.f ?_ | refine ⟨rfl, ?_⟩)
    conv => whnf
    refine ⟨⟨by omega, by show (k : Int) < (s.all.length : Nat); omega⟩, ?_⟩
    repeat ((conv => whnf); first | refine Br.t ?_ | refine Br.f ?_ | refine ⟨rfl, ?_⟩)
    conv => whnf
    rw [ex]
    repeat ((conv => whnf); first | refine Br.t ?_ | refine Br.f ?_ | refine ⟨rfl, ?_⟩)
    conv => whnf
    refine ⟨⟨by intro cs hcs; simp at hcs; subst hcs; rfl, by simp [lift], by show (acc.length + 1) * 16 ≤ _; omega, len_mx (by simp [lift]; omega)⟩, ?_⟩
    repeat ((conv => whnf); first | refine Br.t ?_ | refine Br.f ?_ | refine ⟨rfl, ?_⟩)
    conv => whnf
    refine ⟨⟨by omega, by show (k : Int) < (s.all.length : Nat); omega⟩, ?_⟩
    repeat ((conv => whnf); first | refine Br.t ?_ | refine Br.f ?_ | refine ⟨rfl, ?_⟩)
    conv => whnf
    rw [ex]
    repeat ((conv => whnf); first | refine Br.t ?_ | refine Br.f ?_ | refine ⟨rfl, ?_⟩)
    conv => whnf
    refine ⟨(m, acc ++ [x]), ⟨by show m < s.all.length; omega, ?_⟩, hmk, Le.back (fun id => if id = 4 then 1 else 0) (by intro id hid; simp; omega) (by show 4 ≤ 5; decide) rfl (pa_cl p c0 l most s 1 1 (acc ++ [x]) _ (by show 4 ≤ 5; decide)) ?_ ?_⟩
    · show pathK s.all i = pathK s.all m ++ (acc ++ [x]).reverse
      rw [hp, hps, List.reverse_append]
      simp
    · simp [leS, mkS, paS, V.up, lift]
    · rw [seR_up4]
      simp only [pkR, List.map_append, lift_app]
      rfl
  · have g : j < 0 := by simpa using g
    rw [pathK_root hx g, List.nil_append] at hp
    repeat ((conv => whnf); first | refine Br.t ?_ | refine Br.f ?_ | refine ⟨rfl, ?_⟩)
    conv => whnf
    refine ⟨_, Le.slots (sl' := paS [(5, .ref 4 1 0 (pathK s.all i).length)]) (by rw [hp]; simp [leS, mkS, paS]), rfl, ?_⟩
    rw [hp, List.reverse_reverse]
    rfl
/-- turned about, as far as a -/
def revA {α : Type} (d : α) (l : List α) (a : Nat) : List α := (List.range l.length).map fun k => if k < a ∨ l.length ≤ k + a then l.getD (l.length - 1 - k) d else l.getD k d
theorem revA_len {α : Type} (d : α) (l : List α) (a : Nat) : (revA d l a).length = l.length := by simp [revA]
theorem revA_get {α : Type} (d : α) (l : List α) (a : Nat) {k : Nat} (hk : k < l.length) : (revA d l a)[k]? = some (if k < a ∨ l.length ≤ k + a then l.getD (l.length - 1 - k) d else l.getD k d) := by
  simp [revA, hk]
theorem revA_0 {α : Type} (d : α) (l : List α) : revA d l 0 = l := by
  apply List.ext_getElem?
  intro k
  by_cases hk : k < l.length
  · rw [revA_get d l 0 hk, if_neg (by omega)]
    simp [List.getD_eq_getElem?_getD, hk]
  · rw [List.getElem?_eq_none (by rw [revA_len]; omega), List.getElem?_eq_none (by omega)]
theorem revA_end {α : Type} (d : α) (l : List α) (a : Nat) (h : l.length ≤ 2 * a + 1) (ha : a ≤ l.length) : revA d l a = l.reverse := by
  apply List.ext_getElem?
  intro k
  by_cases hk : k < l.length
  · rw [revA_get d l a hk, List.getElem?_reverse hk]
    by_cases hc : k < a ∨ l.length ≤ k + a
    · rw [if_pos hc]
      simp only [List.getD_eq_getElem?_getD]
      rw [List.getElem?_eq_getElem (by omega)]; rfl
    · rw [if_neg hc]
      have : k = l.length - 1 - k := by omega
      simp only [List.getD_eq_getElem?_getD]
      rw [← this, List.getElem?_eq_getElem hk]; rfl
  · rw [List.getElem?_eq_none (by rw [revA_len]; omega), List.getElem?_eq_none (by simp; omega)]
theorem revA_step {α : Type} (d : α) (l : List α) (a : Nat) (h : 2 * a + 1 < l.length) : ((revA d l a).set a (l.getD (l.length - 1 - a) d)).set (l.length - 1 - a) (l.getD a d) = revA d l (a + 1) := by
  apply List.ext_getElem?
  intro k
  by_cases hk : k < l.length
  · rw [revA_get d l (a + 1) hk]
    by_cases h1 : k = l.length - 1 - a
    · subst h1
      rw [List.getElem?_set_self (by simp [revA_len]; omega), if_pos (by omega)]
      rw [show l.length - 1 - (l.length - 1 - a) = a by omega]
    · rw [List.getElem?_set_ne (Ne.symm h1)]
      by_cases h2 : k = a
      · subst h2
        rw [List.getElem?_set_self (by simp [revA_len]; omega), if_pos (by omega)]
      · rw [List.getElem?_set_ne (Ne.symm h2), revA_get d l a hk]
        by_cases hc : k < a ∨ l.length ≤ k + a
        · rw [if_pos hc, if_pos (by omega)]
        · rw [if_neg hc, if_neg (by omega)]
  · rw [List.getElem?_eq_none (by simp [revA_len]; omega), List.getElem?_eq_none (by rw [revA_len]; omega)]
def pk0 : Pk := (0, false)
theorem pk_get (l : List Pk) {k : Nat} (hk : k < l.length) : (lift (l.map encP)).getD k [] = (encP (l.getD k pk0)).map .i := by
  rw [lift_getD encP l hk]
  simp [List.getD_eq_getElem?_getD, hk]
set_option maxHeartbeats 4000000 in
theorem pa_rev (p : Pg) (c0 : Cfg) (l : Nat) (most : Int) (s : Sk) (q : List Pk) (hq : q.length ≤ 99900) :
    W Try.prog G0 4 (.loop (lp Try.f95 1)) (fun e s' => e = .exit 2 ∧ s' = ⟨paS [(5, .ref 4 1 0 q.length)], seR p c0 l 1 most s ++ [pkR 1 q.reverse]⟩) ⟨paS [(5, .ref 4 1 0 q.length), (6, .i (.int .i64 0)), (7, .i (.int .i64 ((q.length : Int) - 1)))], seR p c0 l 1 most s ++ [pkR 1 q]⟩ := by
  refine W.weak (loop_ok (α := Nat) (fun a => ⟨paS [(5, .ref 4 1 0 q.length), (6, .i (.int .i64 a)), (7, .i (.int .i64 ((q.length : Int) - 1 - a)))], seR p c0 l 1 most s ++ [pkR 1 (revA pk0 q a)]⟩) (fun a => 2 * a ≤ q.length + 1 ∧ a ≤ q.length) (fun a => q.length + 1 - a) 0 ⟨by omega, by omega⟩ (Le.slE (by simp [leS, mkS, paS]) (by rw [revA_0])) (fun a ha => wpx_ok (own := own0) _ _ _ ?_))
  obtain ⟨ha, ha2⟩ := ha
  repeat ((conv => whnf); first | refine Br.t ?_ | refine Br.f ?_ | refine ⟨rfl, ?_⟩)
  conv => whnf
  refine Br.mk (fun g => ?_) (fun g => ?_)
  · have g : (a : Int) < (q.length : Int) - 1 - a := by simpa using g
    have hb : ((q.length : Int) - 1 - a) = ((q.length - 1 - a : Nat) : Int) := by omega
    have hrl := revA_len pk0 q a
    have ga : (revA pk0 q a).getD a pk0 = q.getD a pk0 := by
      rw [List.getD_eq_getElem?_getD, revA_get pk0 q a (by omega), if_neg (by omega)]; rfl
    have gb : (revA pk0 q a).getD (q.length - 1 - a) pk0 = q.getD (q.length - 1 - a) pk0 := by
      rw [List.getD_eq_getElem?_getD, revA_get pk0 q a (by omega), if_neg (by omega)]; rfl
    have e1 : (lift ((revA pk0 q a).map encP)).getD (0 + ((a : Int)).toNat) [] = (encP (q.getD a pk0)).map .i := by
      rw [Nat.zero_add, Int.toNat_natCast, pk_get _ (by omega), ga]
    have e2 : (lift ((revA pk0 q a).map encP)).getD (0 + (((q.length - 1 - a : Nat) : Int)).toNat) [] = (encP (q.getD (q.length - 1 - a) pk0)).map .i := by
      rw [Nat.zero_add, Int.toNat_natCast, pk_get _ (by omega), gb]
    rw [hb]
    repeat ((conv => whnf); first | refine Br.t ?_ | refine Br.f ?_ | refine ⟨rfl, ?_⟩)
    conv => whnf
    refine draw_ok (own := own0) [13, 15] [(2, 15), (3, 15)] [] rfl (by kernel_rfl) (by show 4 ≤ 5; decide) ?_
    repeat ((conv => whnf); first | refine Br.t ?_ | refine Br.f ?_ | refine ⟨rfl, ?_⟩)
    conv => whnf
    refine ⟨⟨by omega, by omega⟩, ?_⟩
    repeat ((conv => whnf); first | refine Br.t ?_ | refine Br.f ?_ | refine ⟨rfl, ?_⟩)
    conv => whnf
    rw [e2]
    repeat ((conv => whnf); first | refine Br.t ?_ | refine Br.f ?_ | refine ⟨rfl, ?_⟩)
    conv => whnf
    refine ⟨⟨by omega, by omega⟩, ?_⟩
    repeat ((conv => whnf); first | refine Br.t ?_ | refine Br.f ?_ | refine ⟨rfl, ?_⟩)
    conv => whnf
    rw [e1]
    repeat ((conv => whnf); first | refine Br.t ?_ | refine Br.f ?_ | refine ⟨rfl, ?_⟩)
    conv => whnf
    refine ⟨⟨by omega, by omega⟩, ?_⟩
    repeat ((conv => whnf); first | refine Br.t ?_ | refine Br.f ?_ | refine ⟨rfl, ?_⟩)
    conv => whnf
    refine ⟨by rw [e1]; rfl, ?_⟩
    repeat ((conv => whnf); first | refine Br.t ?_ | refine Br.f ?_ | refine ⟨rfl, ?_⟩)
    conv => whnf
    rw [e1]
    refine ⟨⟨by omega, by omega⟩, ?_⟩
    have e3 : ((lift ((revA pk0 q a).map encP)).set (0 + ((a : Int)).toNat) (putCells ((encP (q.getD a pk0)).map V.i) 0 ((encP (q.getD (q.length - 1 - a) pk0)).map V.i))).getD (0 + (((q.length - 1 - a : Nat) : Int)).toNat) [] = (encP (q.getD (q.length - 1 - a) pk0)).map .i := by
      rw [← e2]
      simp only [List.getD_eq_getElem?_getD]
      rw [List.getElem?_set_ne (by simp; omega)]
    repeat ((conv => whnf); first | refine Br.t ?_ | refine Br.f ?_ | refine ⟨rfl, ?_⟩)
    conv => whnf
    refine ⟨by erw [e3]; rfl, ?_⟩
    repeat ((conv => whnf); first | refine Br.t ?_ | refine Br.f ?_ | refine ⟨rfl, ?_⟩)
    conv => whnf
    refine ⟨by repeat ((conv => whnf); first | exact trivial | refine ⟨rfl, ?_⟩), by repeat ((conv => whnf); first | exact trivial | refine ⟨by (conv => whnf); first | exact ⟨rfl, rfl⟩ | exact ⟨rfl, rfl, rfl⟩, ?_⟩), ?_⟩
    conv => whnf
    repeat ((conv => whnf); first | refine Br.t ?_ | refine Br.f ?_ | refine ⟨rfl, ?_⟩)
    conv => whnf
    refine ⟨a + 1, ⟨by omega, by omega⟩, by omega, Le.slE (by simp [leS, mkS, paS]; exact ⟨i64_id (by omega) (by omega), by rw [i64_id (by omega) (by omega)]; omega⟩) ?_⟩
    have e4 : ((lift ((revA pk0 q a).map encP)).set (0 + ((a : Int)).toNat) (putCells ((encP (q.getD a pk0)).map V.i) 0 ((encP (q.getD (q.length - 1 - a) pk0)).map V.i))).set (0 + (((q.length - 1 - a : Nat) : Int)).toNat) (putCells (((lift ((revA pk0 q a).map encP)).set (0 + ((a : Int)).toNat) (putCells ((encP (q.getD a pk0)).map V.i) 0 ((encP (q.getD (q.length - 1 - a) pk0)).map V.i))).getD (0 + (((q.length - 1 - a : Nat) : Int)).toNat) []) 0 ((encP (q.getD a pk0)).map V.i)) = lift ((revA pk0 q (a + 1)).map encP) := by
      rw [e3]
      show ((lift ((revA pk0 q a).map encP)).set (0 + ((a : Int)).toNat) ((encP (q.getD (q.length - 1 - a) pk0)).map V.i)).set (0 + (((q.length - 1 - a : Nat) : Int)).toNat) ((encP (q.getD a pk0)).map V.i) = _
      rw [Nat.zero_add, Nat.zero_add, Int.toNat_natCast, Int.toNat_natCast, lift_set, lift_set, revA_step _ _ _ (by omega)]
    exact congrArg (fun es => [pgB p, cfgB c0, seB p l 1 s.all.length most s.left, alR 1 s.all, Ob.row 1 2 false es]) e4
  · have g : ¬ (a : Int) < (q.length : Int) - 1 - a := by simpa using g
    repeat ((conv => whnf); first | refine Br.t ?_ | refine Br.f ?_ | refine ⟨rfl, ?_⟩)
    conv => whnf
    refine ⟨_, Le.slots (sl' := paS [(5, .ref 4 1 0 q.length)]) (by simp [leS, mkS, paS]), rfl, ?_⟩
    rw [revA_end pk0 q a (by omega) ha2]
    rfl
set_option maxHeartbeats 4000000 in
theorem path_ok (p : Pg) (c0 : Cfg) (l : Nat) (most : Int) (s : Sk) (hn : s.all.length ≤ 99900) {step : Cfg → Pk → Cfg} {picks : Cfg → List Pk} {cc : Cfg} {ii : Nat} (hT : Tree step picks cc ii s.all) (i : Nat) (hi : i < s.all.length) :
    CallW Try.prog G0 95 [.ptr 2 0 0 0, .i (.int .i64 i)] (seR p c0 l 1 most s) (fun r st' => r = .i (.sl ((pathK s.all i).map encP)) ∧ st' = seR p c0 l 1 most s) := by
  refine call_of_bodyF 4 (Nat.le_refl _) Try.func95 rfl (fun a w => Try.call95 a w) (wpx_ok (own := own0) _ _ _ ?_)
  have hpl := (path_take hT i hi).1
  repeat ((conv => whnf); first | refine Br.t ?_ | refine Br.f ?_ | refine ⟨rfl, ?_⟩)
  conv => whnf
  refine W.le (Le.slots (sl' := paS [(1, .i (.int .i64 i)), (5, .nils)]) (by simp [leS, mkS, paS])) ((pa_back p c0 l most s hn hT i hi).mono ?_)
  rintro e s' ⟨rfl, rfl⟩
  repeat ((conv => whnf); first | refine Br.t ?_ | refine Br.f ?_ | refine ⟨rfl, ?_⟩)
  conv => whnf
  rw [i64_id (n := ((pathK s.all i).length : Int) - 1) (by omega) (by omega)]
  refine W.le (Le.slots (sl' := paS [(5, .ref 4 1 0 (pathK s.all i).reverse.length), (6, .i (.int .i64 0)), (7, .i (.int .i64 (((pathK s.all i).reverse.length : Int) - 1)))]) (by simp [leS, mkS, paS])) ((pa_rev p c0 l most s (pathK s.all i).reverse (by simp; omega)).mono ?_)
  rintro e s' ⟨rfl, rfl⟩
  rw [List.reverse_reverse]
  repeat ((conv => whnf); first | refine Br.t ?_ | refine Br.f ?_ | refine ⟨rfl, ?_⟩)
  conv => whnf
  refine ⟨Nat.le_refl _, rfl, (pathK s.all i).map encP, rfl, ?_⟩
  refine fin (target := seR p c0 l 1 most s) rfl (Nat.le_succ _) (seR_cl p c0 l 1 most s 4 (Nat.le_refl _)) ?_ rfl
  simp [List.take_of_length_le]
end Go.Proofs.Ytiikndppckjmhaa.Am

/- Contracts: a search. -/
namespace Go.Proofs.Ytiikndppckjmhaa.Am
set_option autoImplicit false
set_option linter.unusedVariables false
set_option linter.unusedSimpArgs false
set_option maxRecDepth 10000
set_option pp.maxSteps 3000
set_option pp.proofs false
def badC (p : Pg) (c : Cfg) : Bool := (firstR (touches p c)).isSome
def st0K : Stt := (cfg0, -1, ((0 : Int), false))
noncomputable def s00 (most : Int) : Sk := addB most ⟨[], false⟩ st0K
noncomputable def findP (p : Pg) (most : Int) : Sk × Option Nat := findB most (stp p) (picksOf p) (badC p) 2000 0 (s00 most)
noncomputable def findR (p : Pg) (most : Int) : List Pk × Int := match (findP p most).2 with
  | some i => (pathK (findP p most).1.all i, 1)
  | none => ([], if (findP p most).1.left = true then 0 else 2)
theorem s00_inv (p : Pg) (most : Int) : Fnv most (stp p) (picksOf p) (badC p) cfg0 0 (s00 most) := by
  have key : ∀ s : Sk, (s = ⟨[], true⟩ ∧ most ≤ 0) ∨ (s = ⟨[st0K], false⟩ ∧ ¬ most ≤ 0) → Fnv most (stp p) (picksOf p) (badC p) cfg0 0 s := by
    rintro s (⟨rfl, h⟩ | ⟨rfl, h⟩)
    · exact ⟨⟨by simp, fun k c j x hk => by simp at hk, fun k k' c c' j j' x x' hk => by simp at hk⟩, by show (0 : Int) ≤ _; omega, fun _ => h, fun k c j x hk => by omega, fun k c j x hk => by omega⟩
    · refine ⟨⟨by simp, fun k c j x hk => ?_, fun k k' c c' j j' x x' hk hk' _ => ?_⟩, by show (1 : Int) ≤ _; omega, (fun h => by cases h), fun k c j x hk => by omega, fun k c j x hk => by omega⟩
      · cases k with
        | zero => simp [st0K] at hk; exact .inl ⟨rfl, hk.2.1.symm, hk.1.symm⟩
        | succ k => simp at hk
      · cases k with
        | zero => cases k' with
          | zero => simp [st0K] at hk hk'; omega
          | succ k' => simp at hk'
        | succ k => simp at hk
  apply key
  unfold s00 addB
  rw [if_neg (by simp [Bf.cs])]
  by_cases h : most ≤ 0
  · rw [if_pos (by simpa using h)]; exact .inl ⟨rfl, h⟩
  · rw [if_neg (by simpa using h)]; exact .inr ⟨rfl, h⟩
/-- entries are configs that may be -/
theorem inv_ok {p : Pg} (hp : PgOk p) {most : Int} {i : Nat} {s : Sk} (h : Fnv most (stp p) (picksOf p) (badC p) cfg0 i s) : ∀ z ∈ s.all, OkC p z.1 := by
  have key : ∀ (k : Nat) (c : Cfg) (j : Int) (x : Pk), s.all[k]? = some (c, j, x) → OkC p c := by
    intro k
    induction k using Nat.strongRecOn with
    | _ k ih =>
      intro c j x hk
      rcases h.tree.ent k c j x hk with ⟨_, _, rfl⟩ | ⟨_, _, h2, _, c', j', x', h3, _, rfl⟩
      · exact cfg0_ok hp
      · exact stepC_ok hp (ih _ h2 c' j' x' h3) _ _
  intro z hz
  obtain ⟨k, hk⟩ := List.getElem?_of_mem hz
  obtain ⟨c, j, x⟩ := z
  exact key k c j x hk
def fdS (most : Int) (i : Nat) (x : List (Nat × V)) : List V := mkS 67 ([(1, .i (.int .i64 most)), (2, .ptr 0 0 0 0), (7, .ptr 1 0 0 0), (9, .ptr 2 0 0 0), (10, .i (.int .i64 i))] ++ x)
theorem seR_up3 (p : Pg) (c0 : Cfg) (l v k : Nat) (most : Int) (s : Sk) : upSt (fun id => if id = 3 then k else 0) 0 (seR p c0 l v most s) = seR p c0 l (v + k) most s := by
  have := seR_up p c0 l v k most s [] rfl
  simpa using this
/-- what a loop of Find comes to -/
def fdQ (p : Pg) (most : Int) (l : Nat) : Exit → Km → S → Prop := fun e k' s => (e = .ret ∧ ∃ (i : Nat) (s1 : Sk), findP p most = (s1, some i) ∧ s = ⟨mkS 67 [(4, .i (.sl ((pathK s1.all i).map encP))), (5, .i (.int .i64 1)), (6, .i (.int .i64 0))], seR p cfg0 l 1 most s1⟩) ∨
  (e = .exit 0 ∧ ∃ s1 : Sk, findP p most = (s1, none) ∧ s = ⟨mkS 67 [(9, .ptr 2 0 0 0)], seR p cfg0 l 1 most s1⟩)
set_option maxHeartbeats 4000000 in
theorem fd_loop (p : Pg) (hp : PgOk p) (most : Int) (hm : most ≤ 1900) (l : Nat) :
    KW Try.prog G0 0 (.loop (lp Try.f65 0)) (fdQ p most l) ⟨fdS most 0 [], seR p cfg0 l 1 most (s00 most)⟩ (some (.map l (keysL (s00 most).all))) := by
  refine KW.weak (kloop_ok (α := Nat × Sk) (fun x => ⟨fdS most x.1 [], seR p cfg0 l 1 most x.2⟩) (fun x => some (.map l (keysL x.2.all))) (fun x => Fnv most (stp p) (picksOf p) (badC p) cfg0 x.1 x.2 ∧ x.1 ≤ x.2.all.length ∧ x.1 ≤ 1900 ∧ findP p most = findB most (stp p) (picksOf p) (badC p) (2000 - x.1) x.1 x.2) (fun x => 2000 - x.1) (0, s00 most) ⟨s00_inv p most, Nat.zero_le _, Nat.zero_le _, rfl⟩ (Le.refl _ _) rfl (fun x hx => kx_ok (own := own0) _ _ _ _ ?_))
  obtain ⟨i, s⟩ := x
  obtain ⟨hI, hi, hi2, hf⟩ := hx
  show kx _ _ _ _ _ _ (some (.map l (keysL s.all))) ⟨fdS most i [], seR p cfg0 l 1 most s⟩
  have hI : Fnv most (stp p) (picksOf p) (badC p) cfg0 i s := hI
  have hf : findP p most = findB most (stp p) (picksOf p) (badC p) (2000 - i) i s := hf
  have hok := inv_ok hp hI
  have hroom : (s.all.length : Int) ≤ max most 0 := hI.room
  have hi : i ≤ s.all.length := hi
  have hlen : s.all.length ≤ 1900 := by omega
  repeat ((conv => whnf); first | refine Br.t ?_ | refine Br.f ?_ | refine ⟨rfl, ?_⟩)
  conv => whnf
  refine Br.mk (fun g => ?_) (fun g => ?_)
  · have g : i < s.all.length := by simpa using g
    obtain ⟨⟨c, j, x⟩, hx⟩ : ∃ y, s.all[i]? = some y := ⟨_, List.getElem?_eq_getElem g⟩
    have hc : OkC p c := hok _ (List.mem_of_getElem? hx)
    have ex : (lift (s.all.map encSt)).getD (0 + ((i : Int)).toNat) [] = (encSt (c, j, x)).map .i := by
      rw [Nat.zero_add, Int.toNat_natCast, lift_getD encSt s.all g]
      rw [List.getElem?_eq_getElem g] at hx
      rw [Option.some.inj hx]
    obtain ⟨f, hfu⟩ : ∃ f, 2000 - i = f + 1 := ⟨2000 - i - 1, by omega⟩
    have hff : findB most (stp p) (picksOf p) (badC p) (2000 - i) i s = if badC p c = true then (s, some i) else findB most (stp p) (picksOf p) (badC p) (2000 - (i + 1)) (i + 1) (nextB most (stp p) i c (picksOf p c) s) := by
      rw [hfu, show 2000 - (i + 1) = f by omega]
      simp only [findB, hx]
    have hfi := first_ok p hp c hc
    obtain ⟨o, ho⟩ : ∃ o, o = firstR (touches p c) := ⟨_, rfl⟩
    have hb : badC p c = o.isSome := by rw [ho]; rfl
    rw [← ho] at hfi
    repeat ((conv => whnf); first | refine Br.t ?_ | refine Br.f ?_ | refine ⟨rfl, ?_⟩)
    conv => whnf
    refine W.kk (draw_ok (own := own0) [] [] [(.tup (firstT o), seR p cfg0 l 1 most s)] rfl (by kernel_rfl) (Nat.zero_le _) ?_)
    repeat ((conv => whnf); first | refine Br.t ?_ | refine Br.f ?_ | refine ⟨rfl, ?_⟩)
    conv => whnf
    refine ⟨⟨by omega, by show (i : Int) < (s.all.length : Nat); omega⟩, ?_⟩
    repeat ((conv => whnf); first | refine Br.t ?_ | refine Br.f ?_ | refine ⟨rfl, ?_⟩)
    conv => whnf
    rw [ex]
    repeat ((conv => whnf); first | refine Br.t ?_ | refine Br.f ?_ | refine ⟨rfl, ?_⟩)
    conv => whnf
    refine ⟨hfi.pure _ rfl (by cases o <;> rfl), ?_⟩
    cases o with
    | some xy =>
      obtain ⟨a, b⟩ := xy
      rw [hb, if_pos (by rfl), ← hf] at hff
      repeat ((conv => whnf); first | refine Br.t ?_ | refine Br.f ?_ | refine ⟨rfl, ?_⟩)
      conv => whnf
      refine ⟨by repeat ((conv => whnf); first | exact trivial | refine ⟨rfl, ?_⟩), trivial, ?_⟩
      conv => whnf
      repeat ((conv => whnf); first | refine Br.t ?_ | refine Br.f ?_ | refine ⟨rfl, ?_⟩)
      conv => whnf
      refine ((path_ok p cfg0 l most s (by omega) hI.tree i g).k _).mono ?_
      rintro r st' k' ⟨rfl, rfl, rfl⟩
      repeat ((conv => whnf); first | refine Br.t ?_ | refine Br.f ?_ | refine ⟨rfl, ?_⟩)
      conv => whnf
      exact ⟨⟨mkS 67 [(4, .i (.sl ((pathK s.all i).map encP))), (5, .i (.int .i64 1)), (6, .i (.int .i64 0))], seR p cfg0 l 1 most s⟩, Le.slots (by simp [leS, mkS]), .inl ⟨rfl, i, s, hff, rfl⟩⟩
    | none =>
      rw [hb, if_neg (by simp), ← hf] at hff
      repeat ((conv => whnf); first | refine Br.t ?_ | refine Br.f ?_ | refine ⟨rfl, ?_⟩)
      conv => whnf
      refine ⟨by repeat ((conv => whnf); first | exact trivial | refine ⟨rfl, ?_⟩), trivial, ?_⟩
      conv => whnf
      repeat ((conv => whnf); first | refine Br.t ?_ | refine Br.f ?_ | refine ⟨rfl, ?_⟩)
      conv => whnf
      refine (next_ok p hp cfg0 l most i s (c, j, x) hx hok (by omega)).mono ?_
      rintro r st' k' ⟨rfl, v', rfl, rfl⟩
      repeat ((conv => whnf); first | refine Br.t ?_ | refine Br.f ?_ | refine ⟨rfl, ?_⟩)
      conv => whnf
      have hn := inv_next hI hx (by rw [hb]; rfl)
      have hil : i + 1 ≤ (nextB most (stp p) i c (picksOf p c) s).all.length := by
        have hm := next_mid (most := most) (step := stp p) (c0 := cfg0) hx (picksOf p c) [] s (fun y hy => hy) ⟨hI.tree.up, hI.room, hI.full, List.prefix_refl _, fun _ => rfl, fun h => h, fun y hy => by cases hy⟩
        have := hm.pre.length_le
        rw [List.nil_append] at hm
        omega
      refine ⟨(i + 1, nextB most (stp p) i c (picksOf p c) s), ⟨hn, hil, by omega, hff⟩, by show 2000 - (i + 1) < 2000 - i; omega, Le.down (fun id => if id = 3 then v' else 0) (fun id hid => by omega) (by simp [leS, fdS, mkS, V.up]; exact i64_id (by omega) (by omega)) ?_, rfl⟩
      rw [seR_up3, Nat.add_comm 1 v']
      rfl
  · have g : i = s.all.length := by simp at g; omega
    have hff : findB most (stp p) (picksOf p) (badC p) (2000 - i) i s = (s, none) := by
      obtain ⟨f, hfu⟩ : ∃ f, 2000 - i = f + 1 := ⟨2000 - i - 1, by omega⟩
      rw [hfu]
      simp only [findB]
      rw [List.getElem?_eq_none (by omega)]
    repeat ((conv => whnf); first | refine Br.t ?_ | refine Br.f ?_ | refine ⟨rfl, ?_⟩)
    conv => whnf
    exact ⟨⟨mkS 67 [(9, .ptr 2 0 0 0)], seR p cfg0 l 1 most s⟩, Le.slots (by simp [leS, fdS, mkS]), .inr ⟨rfl, s, hf.trans hff, rfl⟩⟩
/-- what a search answers -/
noncomputable def findV (p : Pg) (most : Int) : List Pk × Int × Int := if (chk p).2.2 = 0 then ((findR p most).1, (findR p most).2, 0) else ([], 0, (chk p).2.2)
noncomputable def findT (p : Pg) (most : Int) : V := .tup [.i (.sl ((findV p most).1.map encP)), .i (.int .i64 (findV p most).2.1), .i (.int .i64 (findV p most).2.2)]
theorem addV4 (p : Pg) (c0 : Cfg) (l : Nat) (most : Int) (s : Sk) (x : Stt) (hx : Sml x.1) (hL : ∀ y ∈ s.all, Sml y.1) (hn : s.all.length ≤ 100000) :
    CallK Try.prog G0 94 [.ptr 2 0 0 0, stV x] (seR p c0 l 1 most s) (some (.map l (keysL s.all))) (fun r st' k' => r = .tup [] ∧ ∃ v', st' = seR p c0 l (v' + 1) most (addB most s x) ∧ k' = some (.map l (keysL (addB most s x).all))) := by
  have := add4 p c0 l most s x hx hL hn
  rw [List.append_nil] at this
  refine this.mono ?_
  rintro r st' k' ⟨rfl, v', rfl, rfl⟩
  exact ⟨rfl, v', List.append_nil _, rfl⟩
def seN (p : Pg) (l : Nat) (most : Int) : List Ob := [pgB p, cfgB cfg0, .row 0 8 false [(encP4 p).map .i ++ [.i (.mp l), .nils, .i (.int .i64 most), .i (.bool false)]]]
theorem seN_le (p : Pg) (l : Nat) (most : Int) (args : List V) : Le 3 ⟨args, seN p l most⟩ ⟨args, seR p cfg0 l 1 most ⟨[], false⟩⟩ := by
  refine (Le.nilCell (n := 3) 2 0 5 20 (st := seN p l most) rfl rfl rfl).trans ?_
  exact Le.refl _ _
set_option maxHeartbeats 4000000 in
theorem find_ok (p : Pg) (hp0 : okPg p) (most : Int) (hm : most ≤ 1900) : CallW Try.prog G0 65 [pgV p, .i (.int .i64 most)] [] (fun r st' => r = findT p most ∧ st' = []) := by
  refine call_of_bodyKF 0 (Nat.le_refl _) Try.func65 rfl (fun a w => Try.call65 a w) (kx_ok (own := own0) _ _ _ _ ?_)
  have c0 := start_ok p hp0
  by_cases h0 : (chk p).2.2 = 0
  · have hp := chk_zero h0
    have es : startC p = cfg0 := by unfold startC; rw [if_pos h0]
    rw [es, h0] at c0
    have ef : findV p most = ((findR p most).1, (findR p most).2, 0) := by unfold findV; rw [if_pos h0]
    repeat ((conv => whnf); first | refine Br.t ?_ | refine Br.f ?_ | refine ⟨rfl, ?_⟩)
    conv => whnf
    refine ((c0.pure _ rfl rfl).k _).mono ?_
    rintro r st' k' ⟨rfl, rfl, rfl⟩
    repeat ((conv => whnf); first | refine Br.t ?_ | refine Br.f ?_ | refine ⟨rfl, ?_⟩)
    conv => whnf
    intro l
    repeat ((conv => whnf); first | refine Br.t ?_ | refine Br.f ?_ | refine ⟨rfl, ?_⟩)
    conv => whnf
    refine CallK.le (st2 := seR p cfg0 l 1 most ⟨[], false⟩) (args2 := [.ptr 2 0 0 0, stV st0K]) (seN_le p l most _) ((addV4 p cfg0 l most ⟨[], false⟩ st0K (sml_of hp (cfg0_ok hp)) (fun y hy => by cases hy) (Nat.zero_le _)).mono ?_) (by show 3 ≤ 4; decide)
    rintro r st' k' ⟨rfl, v', rfl, rfl⟩
    repeat ((conv => whnf); first | refine Br.t ?_ | refine Br.f ?_ | refine ⟨rfl, ?_⟩)
    conv => whnf
    refine KW.le (Le.down (s := ⟨fdS most 0 [], seR p cfg0 l 1 most (s00 most)⟩) (fun id => if id = 3 then v' else 0) (fun id hid => absurd hid (Nat.not_lt_zero _)) (by simp [leS, fdS, mkS, V.up]) (by rw [seR_up3, Nat.add_comm 1 v']; rfl)) ((fd_loop p hp most hm l).mono ?_)
    rintro e k' s (⟨rfl, i, s1, hf, rfl⟩ | ⟨rfl, s1, hf, rfl⟩)
    · have er : findR p most = (pathK s1.all i, 1) := by unfold findR; rw [hf]
      rw [er] at ef
      repeat ((conv => whnf); first | refine Br.t ?_ | refine Br.f ?_ | refine ⟨rfl, ?_⟩)
      conv => whnf
      refine fin (target := []) rfl (Nat.zero_le _) (by simp) ?_ rfl
      unfold findT
      rw [ef]
    · have er : findR p most = ([], if s1.left = true then 0 else 2) := by unfold findR; rw [hf]
      rw [er] at ef
      obtain ⟨L1, lf1⟩ := s1
      cases lf1 with
      | true =>
        rw [if_pos rfl] at ef
        repeat ((conv => whnf); first | refine Br.t ?_ | refine Br.f ?_ | refine ⟨rfl, ?_⟩)
        conv => whnf
        refine fin (target := []) rfl (Nat.zero_le _) (by simp) ?_ rfl
        unfold findT
        rw [ef]
        rfl
      | false =>
        rw [if_neg (by simp)] at ef
        repeat ((conv => whnf); first | refine Br.t ?_ | refine Br.f ?_ | refine ⟨rfl, ?_⟩)
        conv => whnf
        refine fin (target := []) rfl (Nat.zero_le _) (by simp) ?_ rfl
        unfold findT
        rw [ef]
        rfl
  · have es : startC p = cfgZ := by unfold startC; rw [if_neg h0]
    rw [es] at c0
    have ef : findV p most = ([], 0, (chk p).2.2) := by unfold findV; rw [if_neg h0]
    repeat ((conv => whnf); first | refine Br.t ?_ | refine Br.f ?_ | refine ⟨rfl, ?_⟩)
    conv => whnf
    refine ((c0.pure _ rfl rfl).k _).mono ?_
    rintro r st' k' ⟨rfl, rfl, rfl⟩
    repeat ((conv => whnf); first | refine Br.t ?_ | refine Br.f ?_ | refine ⟨rfl, ?_⟩)
    conv => whnf
    refine Br.mk (fun _ => ?_) (fun k => absurd h0 (by simpa using k))
    repeat ((conv => whnf); first | refine Br.t ?_ | refine Br.f ?_ | refine ⟨rfl, ?_⟩)
    conv => whnf
    refine fin (target := []) rfl (Nat.zero_le _) (by simp) ?_ rfl
    unfold findT
    rw [ef]
    rfl
end Go.Proofs.Ytiikndppckjmhaa.Am

/- Contracts: the example of the search; what is found comes to a race: SeekTrue. -/
namespace Go.Proofs.Ytiikndppckjmhaa.Am
set_option autoImplicit false
set_option linter.unusedVariables false
set_option linter.unusedSimpArgs false
set_option maxRecDepth 10000
set_option pp.maxSteps 3000
set_option pp.proofs false
theorem findP_inv (p : Pg) (most : Int) (hm : most ≤ 1900) : ∃ i, Fnv most (stp p) (picksOf p) (badC p) cfg0 i (findP p most).1 ∧ i ≤ (findP p most).1.all.length ∧
    (((findP p most).2 = some i ∧ ∃ c j x, (findP p most).1.all[i]? = some (c, j, x) ∧ badC p c = true) ∨ ((findP p most).2 = none ∧ i = (findP p most).1.all.length)) :=
  find_inv 2000 0 (s00 most) (s00_inv p most) (by omega) (Nat.zero_le _)
theorem u16_mod (w : Nat) (n : Nat) (hw : w < 65536) : (IntKind.i64.wrap (w : Int)).tmod (n : Int) = ((w % n : Nat) : Int) := by
  rw [i64_id (by omega) (by omega), Int.tmod_eq_emod_of_nonneg (by omega)]; simp
theorem findV_e {p : Pg} (h : (chk p).2.2 ≠ 0) (most : Int) : findV p most = ([], 0, (chk p).2.2) := by unfold findV; rw [if_neg h]
theorem findV_f {p : Pg} (h : (chk p).2.2 = 0) {most : Int} {i : Nat} (hf : (findP p most).2 = some i) : findV p most = (pathK (findP p most).1.all i, 1, 0) := by unfold findV findR; rw [if_pos h, hf]
theorem findV_n {p : Pg} (h : (chk p).2.2 = 0) {most : Int} (hf : (findP p most).2 = none) : findV p most = ([], if (findP p most).1.left = true then 0 else 2, 0) := by unfold findV findR; rw [if_pos h, hf]
end Go.Proofs.Ytiikndppckjmhaa.Am

/- WitFound: what is found is a witness. -/
namespace Go.Proofs.Ytiikndppckjmhaa.Am
set_option autoImplicit false
set_option linter.unusedVariables false
set_option linter.unusedSimpArgs false
set_option maxRecDepth 10000
set_option pp.maxSteps 3000
set_option pp.proofs false
theorem picksL_lt {p : Pg} {c : Cfg} {x : Pk} : ∀ n, x ∈ picksL p c n → 0 ≤ x.1 ∧ x.1 < n
  | 0, h => by cases h
  | n + 1, h => by
    rw [picksL, List.mem_append] at h
    rcases h with h | h
    · have := picksL_lt n h; omega
    · unfold picksT at h
      split at h
      · simp only [List.mem_map] at h
        obtain ⟨w, _, rfl⟩ := h
        simp only; omega
      · cases h
/-- the way of what is found: how long, whose picks; and behind it is a race -/
theorem found_way {p : Pg} (hp : PgOk p) (most : Int) (hm : most ≤ 1900) {i : Nat} (h : (findP p most).2 = some i) : ((pathK (findP p most).1.all i).length : Int) ≤ max most 0 ∧ (∀ x ∈ pathK (findP p most).1.all i, okP x = true) ∧
    badC p (runC p cfg0 (pathK (findP p most).1.all i)) = true := by
  obtain ⟨i', hI, hi, ⟨h1, c, j, x, h2, h3⟩ | ⟨h1, _⟩⟩ := findP_inv p most hm
  · rw [h] at h1
    cases h1
    have hil := (List.getElem?_eq_some_iff.1 h2).1
    obtain ⟨q1, ⟨j', x', q2⟩, q3⟩ := path_take hI.tree i hil
    have hr := hI.room
    refine ⟨by omega, fun y hy => ?_, ?_⟩
    · obtain ⟨m, hm'⟩ := List.getElem?_of_mem hy
      obtain ⟨k', g1, g2, z, g3, g4⟩ := q3 m (List.getElem?_eq_some_iff.1 hm').1
      rw [hm'] at g3; cases g3
      have hlt := picksL_lt _ g4
      have hc : OkC p (runC p cfg0 (pathK (findP p most).1.all k')) := runC_ok hp _ (cfg0_ok hp)
      have h8 : (runC p cfg0 (pathK (findP p most).1.all k')).ths.length ≤ 8 := hc.n.2
      have hlt2 : y.1 < ((runC p cfg0 (pathK (findP p most).1.all k')).ths.length : Nat) := hlt.2
      unfold okP
      simp
      omega
    · rw [h2] at q2
      simp only [Option.some.injEq, Prod.mk.injEq] at q2
      have : badC p (runB (stp p) cfg0 (pathK (findP p most).1.all i)) = true := by rw [← q2.1]; exact h3
      exact this
  · rw [h] at h1; cases h1
set_option maxHeartbeats 4000000 in
theorem witfound (p : Pg) (hp0 : okPg p) (w : Nat) (hw : w < 65536) : CallW Try.prog G0 24 [pgV p, .i (.int .u16 (w : Nat))] [] (fun r st' => r = .i (.bool true) ∧ st' = []) := by
  refine call_of_bodyF 0 (Nat.le_refl _) Try.func24 rfl (fun a w => Try.call24 a w) (wpx_ok (own := own0) _ _ _ ?_)
  repeat ((conv => whnf); first | refine Br.t ?_ | refine Br.f ?_ | refine ⟨rfl, ?_⟩)
  conv => whnf
  refine CallW.mono (awake10.pure _ rfl rfl) ?_
  rintro r st' ⟨rfl, rfl⟩
  repeat ((conv => whnf); first | refine Br.t ?_ | refine Br.f ?_ | refine ⟨rfl, ?_⟩)
  conv => whnf
  refine CallW.mono ((small16 p hp0).pure _ rfl rfl) ?_
  rintro r st' ⟨rfl, rfl⟩
  repeat ((conv => whnf); first | refine Br.t ?_ | refine Br.f ?_ | refine ⟨rfl, ?_⟩)
  conv => whnf
  refine Br.mk (fun z => ?_) (fun z => ?_)
  · repeat ((conv => whnf); first | refine Br.t ?_ | refine Br.f ?_ | refine ⟨rfl, ?_⟩)
    conv => whnf
    refine CallW.mono (awake10.pure _ rfl rfl) ?_
    rintro r st' ⟨rfl, rfl⟩
    repeat ((conv => whnf); first | refine Br.t ?_ | refine Br.f ?_ | refine ⟨rfl, ?_⟩)
    conv => whnf
    refine fin (target := []) rfl (Nat.zero_le _) (by simp) rfl rfl
  repeat ((conv => whnf); first | refine Br.t ?_ | refine Br.f ?_ | refine ⟨rfl, ?_⟩)
  conv => whnf
  have em : (IntKind.i64.wrap (w : Int)).tmod 600 = ((w % 600 : Nat) : Int) := u16_mod w 600 hw
  have hlt := Nat.mod_lt w (show 600 > 0 by decide)
  refine ⟨by decide, ?_⟩
  rw [em]
  have hmost : ((w % 600 : Nat) : Int) ≤ 600 := by omega
  have cf := find_ok p hp0 ((w % 600 : Nat) : Int) (by omega)
  generalize ((w % 600 : Nat) : Int) = most at cf hmost
  unfold findT at cf
  by_cases h0 : (chk p).2.2 = 0
  · have hp := chk_zero h0
    cases hf : (findP p most).2 with
    | some i =>
      obtain ⟨hl, hok, hbad⟩ := found_way hp most (by omega) hf
      rw [findV_f h0 hf] at cf
      generalize pathK (findP p most).1.all i = L at cf hl hok hbad
      have hL : L.length ≤ 600 := by omega
      have hs : codeS L = 0 := by unfold codeS; rw [if_neg (by omega), if_pos (List.all_eq_true.2 hok)]
      have co := wOf_ok p hp0 L (by omega)
      have ef : ofW p L = firstR (touches p (runC p cfg0 L)) := by unfold ofW; rw [if_pos ⟨hs, h0⟩]
      rw [ef] at co
      unfold badC at hbad
      cases hfr : firstR (touches p (runC p cfg0 L)) with
      | none => rw [hfr] at hbad; cases hbad
      | some xy =>
        obtain ⟨x, y⟩ := xy
        have ch := wholds_ok p hp0 L (by omega) (x.1 : Nat) (y.1 : Nat) x.2.1
        rw [of_holds h0 hs hfr] at ch
        rw [hfr] at co
        repeat ((conv => whnf); first | refine Br.t ?_ | refine Br.f ?_ | refine ⟨rfl, ?_⟩)
        conv => whnf
        refine CallW.mono (cf.pure _ rfl rfl) ?_
        rintro r st' ⟨rfl, rfl⟩
        repeat ((conv => whnf); first | refine Br.t ?_ | refine Br.f ?_ | refine ⟨rfl, ?_⟩)
        conv => whnf
        refine CallW.mono (co.pure _ rfl rfl) ?_
        rintro r st' ⟨rfl, rfl⟩
        repeat ((conv => whnf); first | refine Br.t ?_ | refine Br.f ?_ | refine ⟨rfl, ?_⟩)
        conv => whnf
        refine CallW.mono (ch.pure _ rfl rfl) ?_
        rintro r st' ⟨rfl, rfl⟩
        repeat ((conv => whnf); first | refine Br.t ?_ | refine Br.f ?_ | refine ⟨rfl, ?_⟩)
        conv => whnf
        refine fin (target := []) rfl (Nat.zero_le _) (by simp) rfl rfl
    | none =>
      rw [findV_n h0 hf] at cf
      generalize (findP p most).1.left = lf at cf
      cases lf with
      | true =>
        rw [if_pos rfl] at cf
        repeat ((conv => whnf); first | refine Br.t ?_ | refine Br.f ?_ | refine ⟨rfl, ?_⟩)
        conv => whnf
        refine CallW.mono (cf.pure _ rfl rfl) ?_
        rintro r st' ⟨rfl, rfl⟩
        repeat ((conv => whnf); first | refine Br.t ?_ | refine Br.f ?_ | refine ⟨rfl, ?_⟩)
        conv => whnf
        refine fin (target := []) rfl (Nat.zero_le _) (by simp) rfl rfl
      | false =>
        rw [if_neg (by simp)] at cf
        repeat ((conv => whnf); first | refine Br.t ?_ | refine Br.f ?_ | refine ⟨rfl, ?_⟩)
        conv => whnf
        refine CallW.mono (cf.pure _ rfl rfl) ?_
        rintro r st' ⟨rfl, rfl⟩
        repeat ((conv => whnf); first | refine Br.t ?_ | refine Br.f ?_ | refine ⟨rfl, ?_⟩)
        conv => whnf
        refine fin (target := []) rfl (Nat.zero_le _) (by simp) rfl rfl
  · rw [findV_e h0] at cf
    repeat ((conv => whnf); first | refine Br.t ?_ | refine Br.f ?_ | refine ⟨rfl, ?_⟩)
    conv => whnf
    refine CallW.mono (cf.pure _ rfl rfl) ?_
    rintro r st' ⟨rfl, rfl⟩
    repeat ((conv => whnf); first | refine Br.t ?_ | refine Br.f ?_ | refine ⟨rfl, ?_⟩)
    conv => whnf
    refine Br.mk (fun _ => ?_) (fun k => absurd h0 (by simpa using k))
    repeat ((conv => whnf); first | refine Br.t ?_ | refine Br.f ?_ | refine ⟨rfl, ?_⟩)
    conv => whnf
    refine fin (target := []) rfl (Nat.zero_le _) (by simp) rfl rfl
end Go.Proofs.Ytiikndppckjmhaa.Am
