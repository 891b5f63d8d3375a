/- The logic with one map beside the store: drawn regions whose last operation has to do with the map; ends that are cut. -/
import Derived.Test.YtiikndppckjmhaaMkB
namespace Go.Proofs.Ytiikndppckjmhaa.Am
set_option autoImplicit false
set_option linter.unusedVariables false
set_option linter.unusedSimpArgs false
section
variable {P : Program} {G : Gl} {own : Tmp → Bool} {D : Nat → Prop}
/-- the last operation comes behind all others, and stands under no guard; guards are of earlier ones -/
def lastOK (ops : Array Oper) : Bool :=
  let m := ops.size - 1
  let B := befs ops.toList
  decide (0 < ops.size) && ((List.range m).all fun j => aft B m j) &&
  ((List.range ops.size).all fun k => match ops[k]? with | some o => (o.after.toList.all fun e => !Region.binds .any e || decide (e.on < k)) && (match o.guard with | some (j, _) => decide (j < m) | none => true) && (k != m || o.guard.isNone) | none => true)
theorem wpOpQ {Q Q' : Exit → Act → World → Prop} (hQ : ∀ e a w, e ≠ .normal → Q e a w → Q' e a w) (hl : LetsOut Q → LetsOut Q') {o : Oper} {a : Act} {w : World} {K K' : Act → World → Prop} (hk : ∀ a w, K a w → K' a w) (h : o.wp P a w K Q) : o.wp P a w K' Q' := by
  unfold Oper.wp at *
  generalize (execOp a.eval o).run P w = r at *
  cases r with
  | ok n w' =>
    cases n <;> simp only [Oper.upon] at h ⊢ <;>
      first
        | exact hk _ _ h
        | exact Calls.mono h (fun e w'' he => by
            cases e with
            | returned v => exact hk _ _ he
            | panicked c => exact hQ _ _ _ (by simp) he
            | outgrown => exact hl he)
        | exact Rows.mono h (fun _ _ he => hk _ _ he)
  | halt x w' => cases x <;> simp only [Oper.upon] at h ⊢ <;> first | exact hQ _ _ _ (by simp) h | exact h
theorem any_last {ops : Array Oper} {m : Nat} {o : Oper} (hs : ops.size = m + 1) (hoo : ops[m]? = some o) (hlast : lastOK ops = true) {Q1 Q : Exit → Act → World → Prop} (hN : ∀ e a w, e ≠ .normal → ¬ Q1 e a w) (hQ : ∀ a w, Q1 .normal a w → o.wp P a w (Q .normal) Q) :
    ∀ (fuel : Nat) (listed : Array Bool) (a : Act) (w : World), listed.size = m → (∀ (k : Nat) (o : Oper) (e : Edge), ops[k]? = some o → listed.getD k false = true → e ∈ o.after → Region.binds .any e = true → listed.getD e.on false = true) →
      wpAny P .any ops.pop Q1 fuel listed a w → wpAny P .any ops Q (fuel + 1) (listed.push false) a w := by
  have hm : ops.size - 1 = m := by omega
  simp only [lastOK, Bool.and_eq_true, hm] at hlast
  obtain ⟨⟨_, h1⟩, h2⟩ := hlast
  have hg : ∀ (k : Nat) (o : Oper), ops[k]? = some o → (∀ e ∈ o.after, Region.binds .any e = true → e.on < k) ∧ (∀ j b, o.guard = some (j, b) → j < m) ∧ (k = m → o.guard = none) := by
    intro k o' hk
    have := all_range h2 (Array.getElem?_eq_some_iff.1 hk).1
    simp only [hk, Bool.and_eq_true] at this
    obtain ⟨⟨a1, a2⟩, a3⟩ := this
    refine ⟨fun e he hb => ?_, fun j b hjb => ?_, fun hkm => ?_⟩
    · have := List.all_eq_true.1 a1 e (by simpa using he)
      simpa [hb] using this
    · rw [hjb] at a2; simpa using a2
    · subst hkm; simpa using a3
  have hlets : ¬ LetsOut Q1 := fun h => by obtain ⟨a, w, hx⟩ := h; exact hN _ _ _ (by simp) hx
  have hpop : ∀ k, k < m → ops.pop[k]? = ops[k]? := fun k hk => by simp [Array.getElem?_pop, hs]; omega
  have hps : ops.pop.size = m := by simp [hs]
  have get1 : ∀ (listed : Array Bool) (k : Nat) (d : Bool), listed.size = m → k < m → (listed.push false).getD k d = listed.getD k d := fun listed k d hl hk => by
    have : k ≠ listed.size := by omega
    simp [Array.getD_eq_getD_getElem?, Array.getElem?_push, this]
  -- who is ready
  have rdy : ∀ (listed : Array Bool) (k : Nat), listed.size = m → k < m → (k ∈ Region.ready .any ops (listed.push false) ↔ k ∈ Region.ready .any ops.pop listed) := by
    intro listed k hl hk
    rw [mem_ready, mem_ready, get1 listed k true hl hk, hpop k hk]
    refine and_congr Iff.rfl (exists_congr fun o' => and_congr_right fun ho' => forall_congr' fun e => ⟨fun h he hb => ?_, fun h he hb => ?_⟩)
    · have := h he hb; rwa [get1 listed e.on false hl (by have := (hg k o' ho').1 e he hb; omega)] at this
    · rw [get1 listed e.on false hl (by have := (hg k o' ho').1 e he hb; omega)]; exact h he hb
  have rdm : ∀ (listed : Array Bool), listed.size = m → (∀ (k : Nat) (o : Oper) (e : Edge), ops[k]? = some o → listed.getD k false = true → e ∈ o.after → Region.binds .any e = true → listed.getD e.on false = true) → (m ∈ Region.ready .any ops (listed.push false) ↔ ∀ k, k < m → listed.getD k false = true) := by
    intro listed hl hd
    rw [mem_ready]
    constructor
    · rintro ⟨_, o', ho', ha⟩ k hk
      rw [hoo] at ho'; cases ho'
      have hb := all_range h1 hk
      have hdc := fun (j : Nat) (o' : Oper) (e : Edge) (hj : ops[j]? = some o') (hT : listed.getD j false = true) (he : e ∈ o'.after) (hb' : Region.binds .any e = true) => hd j o' e hj hT he hb'
      have := befs_ok (fun j => j = m ∨ listed.getD j false = true) _ ops.toList rfl (fun j o' e hj hT he hbe => by
        have hj' : ops[j]? = some o' := by simpa using hj
        rcases hT with rfl | hT
        · rw [hoo] at hj'; cases hj'
          have := ha e he hbe
          rw [get1 listed e.on false hl ((hg _ _ hoo).1 e he hbe)] at this
          exact .inr this
        · exact .inr (hdc j o' e hj' hT he hbe)) m k hb (.inl rfl)
      rcases this with h | h
      · omega
      · exact h
    · intro hall
      refine ⟨by simp [Array.getD_eq_getD_getElem?, Array.getElem?_push, ← hl], o, hoo, fun e he hb => ?_⟩
      have hlt := (hg m o hoo).1 e he hb
      rw [get1 listed e.on false hl hlt]; exact hall _ hlt
  have alldone : ∀ (listed : Array Bool), listed.size = m → Region.ready .any ops.pop listed = [] → ∀ k, k < m → listed.getD k false = true := by
    intro listed hl hnil k
    induction k using Nat.strongRecOn with
    | ind k ihk =>
      intro hk
      rcases Bool.eq_false_or_eq_true (listed.getD k false) with h | h
      · exact h
      · have hko : ∃ o', ops[k]? = some o' := ⟨_, Array.getElem?_eq_getElem (by omega)⟩
        obtain ⟨o', ho'⟩ := hko
        have : k ∈ Region.ready .any ops.pop listed := mem_ready.2 ⟨by
          rw [← h]; simp [Array.getD_eq_getD_getElem?, hl, hk], o', by rw [hpop k hk]; exact ho', fun e he hb => ihk e.on ((hg k o' ho').1 e he hb) (by have := (hg k o' ho').1 e he hb; omega)⟩
        rw [hnil] at this; cases this
  -- nothing is left behind the last one
  have none_left : ∀ (fuel : Nat) (listed : Array Bool) (a : Act) (w : World), (∀ k, k < m + 1 → listed.getD k true = true) → Q .normal a w → wpAny P .any ops Q fuel listed a w := by
    intro fuel listed a w hall hq
    have hr : Region.ready .any ops listed = [] := by
      cases hc : Region.ready .any ops listed with
      | nil => rfl
      | cons i is =>
        have hi : i ∈ Region.ready .any ops listed := by rw [hc]; simp
        obtain ⟨q1, o', q2, _⟩ := mem_ready.1 hi
        have := hall i (by have := (Array.getElem?_eq_some_iff.1 q2).1; omega)
        rw [this] at q1; cases q1
    cases fuel with
    | zero => exact ⟨hr, hq⟩
    | succ fuel => exact ⟨fun _ => hq, fun i hi => by rw [hr] at hi; cases hi⟩
  have fin : ∀ (fuel : Nat) (listed : Array Bool) (a : Act) (w : World), listed.size = m → (∀ k, k < m → listed.getD k false = true) → Q1 .normal a w → ∀ i ∈ Region.ready .any ops (listed.push false), wpOp P ops Q i (wpAny P .any ops Q fuel ((listed.push false).setIfInBounds i true)) a w := by
    intro fuel listed a w hl hall hq i hi
    have hil : i < m + 1 := by obtain ⟨_, o', q, _⟩ := mem_ready.1 hi; have := (Array.getElem?_eq_some_iff.1 q).1; omega
    have him : i = m := by
      rcases Nat.lt_or_ge i m with h | h
      · obtain ⟨q, _⟩ := mem_ready.1 hi
        rw [get1 listed i true hl h] at q
        have := hall i h
        simp [Array.getD_eq_getD_getElem?, hl, h] at q this
        rw [this] at q; cases q
      · omega
    subst him
    unfold wpOp
    simp only [hoo]
    rw [if_pos (by simp [Region.wanted, (hg _ _ hoo).2.2 rfl])]
    refine .inl (wpOpQ (fun e a w _ h => h) (fun h => h) (fun a' w' hq' => ?_) (hQ a w hq))
    refine none_left fuel _ a' w' (fun k hk => ?_) hq'
    by_cases hki : k = i
    · subst hki; simp [Array.getD_eq_getD_getElem?, hl]
    · rw [getD_set_ne true (Ne.symm hki), get1 listed k true hl (by omega)]
      have := hall k (by omega)
      simp only [Array.getD_eq_getD_getElem?] at this ⊢
      rw [Array.getElem?_eq_getElem (by omega)] at this ⊢
      exact this
  intro fuel
  induction fuel with
  | zero =>
    intro listed a w hl hd h
    have hall := alldone listed hl h.1
    have hmem := (rdm listed hl hd).2 hall
    exact ⟨fun hn => absurd hmem (by rw [hn]; simp), fin 0 listed a w hl hall h.2⟩
  | succ fuel ih =>
    intro listed a w hl hd h
    by_cases hnil : Region.ready .any ops.pop listed = []
    · have hall := alldone listed hl hnil
      have hmem := (rdm listed hl hd).2 hall
      exact ⟨fun hn => absurd hmem (by rw [hn]; simp), fin (fuel + 1) listed a w hl hall (h.1 hnil)⟩
    · obtain ⟨i0, hi0⟩ := List.exists_mem_of_ne_nil _ hnil
      have hi0m : i0 < m := by obtain ⟨_, o', q, _⟩ := mem_ready.1 hi0; have := (Array.getElem?_eq_some_iff.1 q).1; omega
      have hnm : m ∉ Region.ready .any ops (listed.push false) := fun hc => by
        have := (rdm listed hl hd).1 hc i0 hi0m
        obtain ⟨q, _⟩ := mem_ready.1 hi0
        simp [Array.getD_eq_getD_getElem?, hl, hi0m] at q this
        rw [this] at q; cases q
      refine ⟨fun hn => absurd ((rdy listed i0 hl hi0m).2 hi0) (by rw [hn]; simp), fun i hi => ?_⟩
      have hil : i < m + 1 := by obtain ⟨_, o', q, _⟩ := mem_ready.1 hi; have := (Array.getElem?_eq_some_iff.1 q).1; omega
      have him : i < m := by
        rcases Nat.lt_or_ge i m with h | h
        · exact h
        · have : i = m := by omega
          subst this; exact absurd hi hnm
      have hi' := (rdy listed i hl him).1 hi
      have hstep := h.2 i hi'
      obtain ⟨q1, o', q2, q3⟩ := mem_ready.1 hi'
      rw [hpop i him] at q2
      have hset : (listed.push false).setIfInBounds i true = (listed.setIfInBounds i true).push false := by
        apply Array.ext_getElem?
        intro j
        simp only [Array.getElem?_setIfInBounds, Array.getElem?_push, Array.size_push, Array.size_setIfInBounds, hl]
        by_cases hj : i = j
        · subst hj; simp [hl, him, show ¬ i = m by omega, show i < m + 1 by omega]
        · by_cases hjm : j = m
          · subst hjm; simp [hj, hl]
          · simp [hj, hjm]
      have hdown' : ∀ (k : Nat) (o : Oper) (e : Edge), ops[k]? = some o → (listed.setIfInBounds i true).getD k false = true → e ∈ o.after → Region.binds .any e = true → (listed.setIfInBounds i true).getD e.on false = true := by
        intro k o2 e hk hT he hb
        by_cases hik : i = k
        · subst hik
          rw [q2] at hk; cases hk
          exact getD_set_true (q3 e he hb)
        · rw [getD_set_ne false hik] at hT
          exact getD_set_true (hd k o2 e hk hT he hb)
      have hy : ∀ j b, o'.guard = some (j, b) → yielded ops.pop a.tmps j = yielded ops a.tmps j := fun j b hjb => by
        unfold yielded; rw [hpop j ((hg i o' q2).2.1 j b hjb)]
      have hw : Region.wanted o' (yielded ops.pop a.tmps) = Region.wanted o' (yielded ops a.tmps) := by
        unfold Region.wanted
        cases hgd : o'.guard with
        | none => rfl
        | some jb => obtain ⟨j, b⟩ := jb; simp only [hy j b hgd]
      have hkk : ∀ a' w', wpAny P .any ops.pop Q1 fuel (listed.setIfInBounds i true) a' w' → wpAny P .any ops Q (fuel + 1) ((listed.push false).setIfInBounds i true) a' w' := fun a' w' hx => by
        rw [hset]; exact ih _ a' w' (by simpa using hl) hdown' hx
      unfold wpOp at hstep ⊢
      rw [hpop i him] at hstep
      simp only [q2] at hstep ⊢
      rw [hw] at hstep
      split at hstep
      · rename_i hwt
        rw [if_pos hwt]
        rcases hstep with hstep | ⟨_, hx⟩
        · exact .inl (wpOpQ (fun e a w he hx => absurd hx (hN e a w he)) (fun hx => absurd hx hlets) hkk hstep)
        · exact absurd hx hlets
      · rename_i hwt
        rw [if_neg hwt]
        exact hkk _ _ hstep
/-- a drawn region whose last operation has to do with the map -/
theorem kdraw_last {n id : Nat} {ops : Array Oper} {o : Oper} {m : Nat} (hs : ops.size = m + 1) (hoo : ops[m]? = some o) (hlast : lastOK ops = true) (hm : P.follows .mixedOrders = true) {Q : Exit → Km → S → Prop} {s : S} {k : Km}
    (hA : WA P G n ops.pop (fun e s' => e = .normal ∧ opk P G own o (Q .normal) k s') s) : KW P G n (.region id ops true) Q s k := by
  refine ⟨fun D μ a w hn hg hr hJ => wp_region_any hm ?_⟩
  have h := hA.out D μ a w hn hg hr
  have hps : ops.pop.size = m := by simp [hs]
  rw [hps] at h
  have := any_last (P := P) hs hoo hlast (Q1 := fun e a' w' => Post D n μ s.st w (fun s' => e = .normal ∧ opk P G own o (Q .normal) k s') a' w') (Q := fun e a' w' => PostK G D n μ s.st k w (Q e) a' w') (fun e a w he hx => by obtain ⟨s', μ', ⟨h1, _⟩, _⟩ := hx; exact he h1)
    (fun a' w' hx => by
      obtain ⟨s', μ', ⟨_, h1⟩, h2, h3, h4⟩ := hx
      refine Oper.wp_mono (fun a2 w2 hp => ?_) (opk_ok h1 (hg.keep h3) h2 (hJ.fr hr.st h3))
      obtain ⟨s2, μ2, k2, D2, q, hK, hg2, hr2, hJ2, hf2, he2⟩ := hp
      exact ⟨s2, μ2, k2, D2, q.1 |> fun x => ⟨x, fun g hgl hd => q.2 g (Nat.lt_of_lt_of_le hgl h3.size) hd⟩, hK, hg2, hr2, hJ2, h3.k.trans hf2, h4.trans (he2.mono h4.1)⟩)
    m (Array.replicate m false) a _ (by simp) (fun k o e _ hl => by
      have : (Array.replicate m false).getD k false = false := by simp [Array.getD_eq_getD_getElem?, Array.getElem?_replicate]; split <;> rfl
      rw [this] at hl; cases hl) h
  rw [hs]
  have e : Array.replicate (m + 1) false = (Array.replicate m false).push false := by rw [Array.replicate_succ]
  rw [e]
  exact this
/-- an end that is cut -/
theorem CallK.cut {f : FuncId} {args : List V} {st : List Ob} {k : Km} {K : List Ob → Km → Prop} (m : Nat) (hm : st.length ≤ m) (h : CallK P G f args st k (fun r st' k' => r = .tup [] ∧ m ≤ st'.length ∧ ∃ st2, st'.take m = st2 ∧ (∀ o ∈ st2, o.cl m) ∧ K st2 k')) : CallK P G f args st k (fun r st' k' => r = .tup [] ∧ K st' k') := by
  refine ⟨h.enter, fun D μ w args' hg ha hs hJ => (h.calls D μ w args' hg ha hs hJ).mono fun e w' he => ?_⟩
  obtain ⟨r, r', st', μ', k', D', rfl, q, ⟨rfl, h1, st2, rfl, h2, h3⟩, hv, hs', hJ', hf, hev⟩ := he
  have hst : st'.take m ++ st'.drop m = st' := List.take_append_drop m st'
  have hlen : (st'.take m).length = m := by simp; omega
  have hs2 : srel D' μ' (st'.take m ++ st'.drop m) w' := by rw [hst]; exact hs'
  obtain ⟨r1, r2, r3, _⟩ := short_ok hs2 (by rw [hlen]; exact h2) (n := st.length) (by rw [hlen]; exact hm)
  rw [hst] at r2 r3
  refine ⟨.tup [], r', st'.take m, μ', k', D', rfl, q, ⟨rfl, h3⟩, ?_, r1, hJ', hf.trans r2.k, hev.trans r3⟩
  cases hv with | tup _ cs' h1 h2 => exact .tup [] cs' h1 (by simp)
/-- a contract over a state that says less -/
theorem CallK.le {f : FuncId} {args args2 : List V} {st st2 : List Ob} {k : Km} {K : V → List Ob → Km → Prop} (hl : Le st.length ⟨args, st⟩ ⟨args2, st2⟩) (h : CallK P G f args2 st2 k K) (hn : st.length ≤ st2.length) : CallK P G f args st k K := by
  refine ⟨h.enter, fun D μ w args' hg ha hs hJ => ?_⟩
  obtain ⟨μ1, r1, f1, e1⟩ := hl D μ { tmps := args', defers := [] } w (Nat.le_refl _) ⟨rfl, ha, hs⟩
  refine (h.calls D μ1 w args' (hg.keep f1) r1.sl r1.st (hJ.fr hs f1)).mono fun e w' he => ?_
  obtain ⟨r, r', st', μ', k', D', rfl, q, hK, hv, hs', hJ', hf, hev⟩ := he
  exact ⟨r, r', st', μ', k', D', rfl, q, hK, hv, hs', hJ', f1.k.trans hf, e1.trans (hev.mono hn)⟩
end
end Go.Proofs.Ytiikndppckjmhaa.Am
