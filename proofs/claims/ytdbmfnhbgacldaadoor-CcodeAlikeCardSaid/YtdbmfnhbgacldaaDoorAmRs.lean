/- The logic: drawn regions whose changes of the store are not in one order. -/
import Derived.Test.YtdbmfnhbgacldaaDoorAmRg
namespace Go.Proofs.YtdbmfnhbgacldaaDoor.Am
set_option autoImplicit false
set_option linter.unusedVariables false
set_option linter.unusedSimpArgs false
section
variable {P : Program} {G : Gl} {own : Tmp → Bool} {D : Nat → Prop}
/-- what a drawn region needs of its own order: nothing reads what comes later, each slot has one writer, what is read is bound to its writer -/
def ordP (ops : Array Oper) (C : List Nat) : Bool :=
  let B := befs ops.toList
  let R := List.range ops.size
  (R.all fun k => match ops[k]? with | some o => o.after.toList.all fun e => !Region.binds .any e || decide (e.on < k) | none => true) &&
  (R.all fun k => R.all fun j => j == k || (dstOf ops j).isNone || dstOf ops j != dstOf ops k) &&
  (R.all fun k => (looks ops k).all fun t => R.all fun j => j == k || dstOf ops j != some t || (if j < k then aft B k j else aft B j k)) &&
  (C.all fun c => decide (c < ops.size))
theorem any_orderP {n id : Nat} {ops : Array Oper} {C : List Nat} (hm : P.follows .mixedOrders = true) (ho : ordP ops C = true) {R : Type} (don : R → Nat → Bool) (σ : R → List Ob) (r0 : R) {tr : Nat → S} {vs : Nat → V}
    (htr : ∀ (k : Nat) (o : Oper), ops[k]? = some o → tr (k + 1) = (tr k).put o.dst (vs k) (tr (k + 1)).st)
    (h0 : σ r0 = (tr 0).st) (hd0 : ∀ c ∈ C, don r0 c = false)
    (hC : ∀ (k : Nat) (o : Oper), ops[k]? = some o → k ∈ C → ∀ r, don r k = false → (∀ c ∈ C, c ≠ k → aft (befs ops.toList) k c = true → don r c = true) → (∀ c ∈ C, aft (befs ops.toList) c k = true → don r c = false) → ∃ r', (∀ c ∈ C, don r' c = (c == k || don r c)) ∧ Doz P G own ops o ⟨(tr k).sl, σ r⟩ (vs k) (σ r'))
    (hR : ∀ (k : Nat) (o : Oper), ops[k]? = some o → k ∉ C → ∀ r, (∀ c ∈ C, aft (befs ops.toList) k c = true → don r c = true) → (∀ c ∈ C, aft (befs ops.toList) c k = true → don r c = false) → Doz P G own ops o ⟨(tr k).sl, σ r⟩ (vs k) (σ r))
    (hend : ∀ r, (∀ c ∈ C, don r c = true) → σ r = (tr ops.size).st)
    {Q : Exit → S → Prop} (hQ : Q .normal (tr ops.size)) (hn : n ≤ (tr 0).st.length) : W P G n (.region id ops true) Q (tr 0) := by
  simp only [ordP, Bool.and_eq_true] at ho
  obtain ⟨⟨⟨o1, o2⟩, o3⟩, o6⟩ := ho
  have down : ∀ (k : Nat) (o : Oper) (e : Edge), ops[k]? = some o → e ∈ o.after → Region.binds .any e = true → e.on < k := by
    intro k o e hk he hb
    have hlt : k < ops.size := (Array.getElem?_eq_some_iff.1 hk).1
    have := all_range o1 hlt
    simp only [hk, List.all_eq_true] at this
    have := this e (by simpa using he)
    simpa [hb] using this
  have dstEq : ∀ (k : Nat) (o : Oper), ops[k]? = some o → dstOf ops k = o.dst := fun k o hk => by simp [dstOf, hk]
  have dist : ∀ (k j : Nat) (o o' : Oper) (d : Tmp), ops[k]? = some o → ops[j]? = some o' → o.dst = some d → o'.dst = some d → k = j := by
    intro k j o o' d hk hj hd hd'
    have hlt : k < ops.size := (Array.getElem?_eq_some_iff.1 hk).1
    have hlt' : j < ops.size := (Array.getElem?_eq_some_iff.1 hj).1
    have := all_range (all_range o2 hlt) hlt'
    simp [dstEq k o hk, dstEq j o' hj, hd, hd'] at this
    exact this.symm
  have data : ∀ (k : Nat) (o : Oper) (t : Tmp) (j : Nat) (o' : Oper), ops[k]? = some o → t ∈ o.looksAt ops → ops[j]? = some o' → o'.dst = some t → j = k ∨ (j < k ∧ aft (befs ops.toList) k j = true) ∨ (k < j ∧ aft (befs ops.toList) j k = true) := by
    intro k o t j o' hk ht hj hd
    have hlt : k < ops.size := (Array.getElem?_eq_some_iff.1 hk).1
    have hlt' : j < ops.size := (Array.getElem?_eq_some_iff.1 hj).1
    have h3 := all_range o3 hlt
    simp only [looks, hk] at h3
    have := all_range (List.all_eq_true.1 h3 t ht) hlt'
    simp only [dstEq j o' hj, hd] at this
    by_cases h1 : j = k
    · exact .inl h1
    · by_cases h2 : j < k
      · right; left; simpa [h1, h2] using this
      · right; right; simp [h1, h2] at this; exact ⟨by omega, this⟩
  have hCn : ∀ c ∈ C, c < ops.size := fun c hc => by simpa using List.all_eq_true.1 o6 c hc
  -- the text's order
  have hstep : ∀ k, k < ops.size → ∃ o, ops[k]? = some o := fun k hk => ⟨_, Array.getElem?_eq_getElem hk⟩
  have slen : ∀ k, k ≤ ops.size → (tr k).sl.length = (tr 0).sl.length := by
    intro k
    induction k with
    | zero => intro _; rfl
    | succ k ih =>
      intro hk
      obtain ⟨o, ho⟩ := hstep k (by omega)
      rw [htr k o ho, ← ih (by omega)]
      simp only [S.put]
      split <;> simp
  have stepSl : ∀ (k : Nat) (o : Oper) (t : Tmp), ops[k]? = some o → o.dst ≠ some t → (tr (k + 1)).sl.getD t .undef = (tr k).sl.getD t .undef := by
    intro k o t ho hd
    rw [htr k o ho]
    simp only [S.put]
    split
    · rename_i d hdd
      have : d ≠ t := fun e => hd (by rw [hdd, e])
      simp only [List.getD_eq_getElem?_getD]
      rw [getElem?_set_ne' this]
    · rfl
  have keepSl : ∀ (t : Tmp) (d k : Nat), k + d ≤ ops.size → (∀ (j : Nat) (o : Oper), k ≤ j → j < k + d → ops[j]? = some o → o.dst ≠ some t) → (tr (k + d)).sl.getD t .undef = (tr k).sl.getD t .undef := by
    intro t d
    induction d with
    | zero => intro k _ _; rfl
    | succ d ih =>
      intro k hk hn
      obtain ⟨o, ho⟩ := hstep (k + d) (by omega)
      have := stepSl (k + d) o t ho (hn _ _ (by omega) (by omega) ho)
      rw [← ih k (by omega) fun j o h1 h2 h3 => hn j o h1 (by omega) h3]
      exact this
  have keepSl' : ∀ (t : Tmp) (k r : Nat), k ≤ r → r ≤ ops.size → (∀ (j : Nat) (o : Oper), k ≤ j → j < r → ops[j]? = some o → o.dst ≠ some t) → (tr r).sl.getD t .undef = (tr k).sl.getD t .undef := by
    intro t k r h1 h2 h3
    obtain ⟨d, rfl⟩ : ∃ d, r = k + d := ⟨r - k, by omega⟩
    exact keepSl t d k h2 h3
  refine ⟨fun D μ0 a0 w0 hn0 hg0 hr0 => wp_region_any hm ?_⟩
  suffices H : ∀ (fuel : Nat) (listed : Array Bool) (s : S) (r : R) (μ : Mu) (a : Act) (w : World), listed.size = ops.size →
      ((List.range ops.size).countP fun j => !listed.getD j true) ≤ fuel →
      (∀ (k : Nat) (o : Oper) (e : Edge), ops[k]? = some o → listed.getD k false = true → e ∈ o.after → Region.binds .any e = true → listed.getD e.on false = true) →
      s.sl.length = (tr 0).sl.length →
      (∀ (k : Nat) (o : Oper) (d : Tmp), ops[k]? = some o → listed.getD k false = true → o.dst = some d → s.sl.getD d .undef = (tr (k + 1)).sl.getD d .undef) →
      (∀ (t : Tmp), (∀ (k : Nat) (o : Oper), ops[k]? = some o → listed.getD k false = true → o.dst ≠ some t) → s.sl.getD t .undef = (tr 0).sl.getD t .undef) →
      (∀ c ∈ C, listed.getD c false = don r c) → s.st = σ r →
      n ≤ s.st.length → GOk D G μ s.st w → Rel D μ s a w → Fr μ0 (tr 0).st w0 μ s.st w → Ev n μ0 (tr 0).st μ s.st →
      wpAny P .any ops (fun e a' w' => Post D n μ0 (tr 0).st w0 (Q e) a' w') fuel listed a w by
    have hfr : Fr μ0 (tr 0).st w0 μ0 (tr 0).st { w0 with drawn := w0.drawn + 1 } := ⟨rfl, rfl, rfl, Nat.le_refl _, fun g hg => ⟨rfl, hg.2⟩⟩
    have hq : ∀ g, qd D μ0 (tr 0).st w0 g → qd D μ0 (tr 0).st { w0 with drawn := w0.drawn + 1 } g ∧ ({ w0 with drawn := w0.drawn + 1 } : World).heap[g]? = w0.heap[g]? := hfr.qd
    have hrel : Rel D μ0 (tr 0) a0 { w0 with drawn := w0.drawn + 1 } := by
      refine ⟨hr0.dfr, ⟨hr0.sl.1, fun j v hj => (hr0.sl.2 j v hj).keep (Ev.refl (Nat.le_refl _)) hq⟩, ⟨hr0.st.dom, fun i ver sz ro es hi => ?_, hr0.st.inj⟩⟩
      rcases hr0.st.row i ver sz ro es hi with h | ⟨g, m, cur, T, lo, hi', b1, b2, b3, b4, b5, b6, b7, b8, b9⟩
      · exact .inl h
      · exact .inr ⟨g, m, cur, T, lo, hi', b1, b2, b3, b4, b5, fun i cs j v x y => (b6 i cs j v x y).keep (Ev.refl (Nat.le_refl _)) hq, fun h => (hq g (b7 h)).1, b8, b9⟩
    have hf0 : ∀ k, (Array.replicate ops.size false).getD k false = false := fun k => by simp [Array.getD_eq_getD_getElem?, Array.getElem?_replicate]; split <;> rfl
    refine H ops.size _ (tr 0) r0 μ0 a0 _ (by simp) (Nat.le_trans List.countP_le_length (by simp)) (fun k o e _ hl => by rw [hf0] at hl; cases hl) rfl (fun k o d _ hl => by rw [hf0] at hl; cases hl) (fun t _ => rfl)
      (fun c hc => by rw [hf0, hd0 c hc]) h0.symm hn0 (hg0.keep hfr) hrel hfr (Ev.refl hn)
  intro fuel
  induction fuel with
  | zero => ?_
  | succ fuel ih => ?_
  all_goals
    intro listed s r μ a w hls hcnt hdown hsl hlist hbase hch hst hns hg hrel hfr hev
    have lt_false : ∀ k, k < ops.size → listed.getD k true = listed.getD k false := fun k hk => by simp [Array.getD_eq_getD_getElem?, hls, hk]
    -- nothing left to do: all is done
    have hdone : Region.ready .any ops listed = [] → Post D n μ0 (tr 0).st w0 (Q .normal) a w := by
      intro hnil
      have hall : ∀ k, k < ops.size → listed.getD k false = true := by
        intro k
        induction k using Nat.strongRecOn with
        | ind k ihk =>
          intro hk
          rcases Bool.eq_false_or_eq_true (listed.getD k false) with h | h
          · exact h
          · obtain ⟨o, ho⟩ := hstep k hk
            have : k ∈ Region.ready .any ops listed := mem_ready.2 ⟨by rw [lt_false k hk]; exact h, o, ho, fun e he hb => ihk e.on (down k o e ho he hb) (by have := down k o e ho he hb; omega)⟩
            rw [hnil] at this; cases this
      have : s = tr ops.size := by
        have e1 : s.st = (tr ops.size).st := by rw [hst]; exact hend r fun c hc => by rw [← hch c hc]; exact hall c (hCn c hc)
        have e2 : s.sl = (tr ops.size).sl := by
          apply List.ext_getElem (by rw [hsl, slen _ (Nat.le_refl _)])
          intro t h1 h2
          have : s.sl.getD t .undef = (tr ops.size).sl.getD t .undef := by
            by_cases hx : ∃ (k : Nat) (o : Oper), ops[k]? = some o ∧ o.dst = some t
            · obtain ⟨k, o, ho, hd⟩ := hx
              have hk : k < ops.size := (Array.getElem?_eq_some_iff.1 ho).1
              rw [hlist k o t ho (hall k hk) hd]
              refine (keepSl' t (k + 1) ops.size (by omega) (Nat.le_refl _) fun j o' h1 h2 ho' hd' => ?_).symm
              have := dist k j o o' t ho ho' hd hd'
              omega
            · rw [hbase t fun k o ho _ hd => hx ⟨k, o, ho, hd⟩]
              exact (keepSl' t 0 ops.size (Nat.zero_le _) (Nat.le_refl _) fun j o' _ _ ho' hd' => hx ⟨j, o', ho', hd'⟩).symm
          simpa [List.getD_eq_getElem?_getD, h1, h2] using this
        revert e1 e2
        cases s; cases tr ops.size
        rintro rfl rfl
        rfl
      subst this
      exact ⟨_, μ, hQ, hrel, hfr, hev⟩
  · refine ⟨?_, ?_⟩
    · cases hc : Region.ready .any ops listed with
      | nil => rfl
      | cons i is =>
        have hi : i ∈ Region.ready .any ops listed := by rw [hc]; simp
        obtain ⟨h1, o, h2, _⟩ := mem_ready.1 hi
        have hlt : i < ops.size := (Array.getElem?_eq_some_iff.1 h2).1
        have h0 : ((List.range ops.size).countP fun j => !listed.getD j true) = 0 := Nat.le_zero.1 hcnt
        rw [List.countP_eq_zero] at h0
        have := h0 i (List.mem_range.2 hlt)
        rw [h1] at this
        simp at this
    · refine hdone ?_
      cases hc : Region.ready .any ops listed with
      | nil => rfl
      | cons i is =>
        have hi : i ∈ Region.ready .any ops listed := by rw [hc]; simp
        obtain ⟨h1, o, h2, _⟩ := mem_ready.1 hi
        have hlt : i < ops.size := (Array.getElem?_eq_some_iff.1 h2).1
        have h0 : ((List.range ops.size).countP fun j => !listed.getD j true) = 0 := Nat.le_zero.1 hcnt
        rw [List.countP_eq_zero] at h0
        have := h0 i (List.mem_range.2 hlt)
        rw [h1] at this
        simp at this
  · refine ⟨hdone, fun i hi => ?_⟩
    obtain ⟨hun, o, ho, haft⟩ := mem_ready.1 hi
    have hlt : i < ops.size := (Array.getElem?_eq_some_iff.1 ho).1
    have hunf : listed.getD i false = false := by rw [← lt_false i hlt]; exact hun
    have hafter : ∀ c, c ≠ i → aft (befs ops.toList) i c = true → listed.getD c false = true := fun c hci hc => by
      have := befs_ok (fun j => j = i ∨ listed.getD j false = true) _ ops.toList rfl (fun k o' e hk hT he hb => by
        have hk' : ops[k]? = some o' := by simpa using hk
        rcases hT with rfl | hT
        · rw [ho] at hk'; cases hk'
          exact .inr (haft e he hb)
        · exact .inr (hdown k o' e hk' hT he hb)) i c hc (.inl rfl)
      rcases this with h | h
      · exact absurd h hci
      · exact h
    have hbehind : ∀ c, aft (befs ops.toList) c i = true → listed.getD c false = false := fun c hc => by
      rcases Bool.eq_false_or_eq_true (listed.getD c false) with h | h
      · have := befs_ok (fun j => listed.getD j false = true) _ ops.toList rfl (fun k o' e hk hT he hb => hdown k o' e (by simpa using hk) hT he hb) c i hc h
        rw [hunf] at this; cases this
      · exact h
    have hput := htr i o ho
    -- what the operation reads is as in the text's order
    have hsame : ∀ t ∈ o.looksAt ops, (tr i).sl.getD t .undef = s.sl.getD t .undef := by
      intro t ht
      by_cases hx : ∃ (j : Nat) (o' : Oper), ops[j]? = some o' ∧ o'.dst = some t
      · obtain ⟨j, o', hj, hd⟩ := hx
        have hjl : j < ops.size := (Array.getElem?_eq_some_iff.1 hj).1
        have other : ∀ k o2, ops[k]? = some o2 → o2.dst = some t → k = j := fun k o2 hk hd2 => dist k j o2 o' t hk hj hd2 hd
        rcases data i o t j o' ho ht hj hd with rfl | ⟨hlt', ha⟩ | ⟨hlt', ha⟩
        · rw [hbase t fun k o2 hk hl hd2 => by have := other k o2 hk hd2; subst this; rw [hunf] at hl; cases hl]
          exact keepSl' t 0 j (Nat.zero_le _) (Nat.le_of_lt hlt) fun k o2 _ h2 hk hd2 => by have := other k o2 hk hd2; omega
        · rw [hlist j o' t hj (hafter j (by omega) ha) hd]
          exact keepSl' t (j + 1) i (by omega) (Nat.le_of_lt hlt) fun k o2 h1 h2 hk hd2 => by have := other k o2 hk hd2; omega
        · rw [hbase t fun k o2 hk hl hd2 => by have := other k o2 hk hd2; subst this; rw [hbehind k ha] at hl; cases hl]
          exact keepSl' t 0 i (Nat.zero_le _) (Nat.le_of_lt hlt) fun k o2 _ h2 hk hd2 => by have := other k o2 hk hd2; omega
      · rw [hbase t fun k o2 hk _ hd2 => hx ⟨k, o2, hk, hd2⟩]
        exact keepSl' t 0 i (Nat.zero_le _) (Nat.le_of_lt hlt) fun k o2 _ _ hk hd2 => hx ⟨k, o2, hk, hd2⟩
    -- the operation, here
    obtain ⟨r', hch', hd2⟩ : ∃ r', (∀ c ∈ C, (listed.setIfInBounds i true).getD c false = don r' c) ∧ Doz P G own ops o ⟨(tr i).sl, σ r⟩ (vs i) (σ r') := by
      by_cases hiC : i ∈ C
      · obtain ⟨r', h1, h2⟩ := hC i o ho hiC r (by rw [← hch i hiC]; exact hunf) (fun c hc hci ha => by rw [← hch c hc]; exact hafter c hci ha) (fun c hc ha => by rw [← hch c hc]; exact hbehind c ha)
        refine ⟨r', fun c hc => ?_, h2⟩
        rw [h1 c hc]
        by_cases hci : c = i
        · subst hci
          simp [Array.getD_eq_getD_getElem?, hls, hlt]
        · rw [getD_set_ne false (Ne.symm hci), hch c hc]
          simp [hci]
      · refine ⟨r, fun c hc => ?_, hR i o ho hiC r (fun c hc ha => by rw [← hch c hc]; exact hafter c (fun e => hiC (e ▸ hc)) ha) (fun c hc ha => by rw [← hch c hc]; exact hbehind c ha)⟩
        have hci : c ≠ i := fun e => hiC (e ▸ hc)
        rw [getD_set_ne false (Ne.symm hci)]
        exact hch c hc
    have hd3 : Doz P G own ops o s (vs i) (σ r') := by
      have := hd2.congr (sl2 := s.sl) hsame
      rw [← hst] at this
      exact this
    refine hd3.step ho hns hg hrel fun μ' a' w' hg' hrel' hfr' hev' => ?_
    have hdst : ∀ d, o.dst = some d → (s.put o.dst (vs i) (σ r')).sl.getD d .undef = (tr (i + 1)).sl.getD d .undef := by
      intro d hd
      rw [hput]
      simp only [S.put, hd, List.getD_eq_getElem?_getD]
      by_cases hdl : d < s.sl.length
      · rw [getElem?_set_eq' hdl, getElem?_set_eq' (by rw [slen i (Nat.le_of_lt hlt), ← hsl]; exact hdl)]
      · rw [List.getElem?_eq_none (by simpa using hdl), List.getElem?_eq_none (by rw [List.length_set, slen i (Nat.le_of_lt hlt), ← hsl]; exact Nat.le_of_not_lt hdl)]
    have hoth : ∀ t, o.dst ≠ some t → (s.put o.dst (vs i) (σ r')).sl.getD t .undef = s.sl.getD t .undef := by
      intro t ht
      simp only [S.put]
      split
      · rename_i d hd
        have : d ≠ t := fun e => ht (by rw [hd, e])
        simp only [List.getD_eq_getElem?_getD]
        rw [getElem?_set_ne' this]
      · rfl
    refine ih _ (s.put o.dst (vs i) (σ r')) r' μ' a' w' (by simpa using hls) ?_ ?_ ?_ ?_ ?_ hch' rfl (Nat.le_trans hns hev'.1) hg' hrel' (hfr.trans hfr') (hev.trans (hev'.mono hns))
    · have := cnt_lt (l := List.range ops.size) (i := i) (p := fun j => !listed.getD j true) (q := fun j => !(listed.setIfInBounds i true).getD j true) (List.mem_range.2 hlt) (by simp only [hun]; rfl) (by simp [Array.getD_eq_getD_getElem?, hls, hlt]) (fun j hj => by
        by_cases hij : i = j
        · subst hij; simp [Array.getD_eq_getD_getElem?, hls, hlt] at hj
        · rwa [getD_set_ne true hij] at hj)
      omega
    · intro k o' e hk hl he hb
      by_cases hik : i = k
      · subst hik
        rw [ho] at hk; cases hk
        exact getD_set_true (haft e he hb)
      · rw [getD_set_ne false hik] at hl
        exact getD_set_true (hdown k o' e hk hl he hb)
    · rw [← hsl]; simp only [S.put]; split <;> simp
    · intro k o' d hk hl hd
      by_cases hik : i = k
      · subst hik
        rw [ho] at hk; cases hk
        exact hdst d hd
      · rw [getD_set_ne false hik] at hl
        rw [hoth d fun e => hik (dist i k o o' d ho hk e hd)]
        exact hlist k o' d hk hl hd
    · intro t ht
      rw [hoth t (ht i o ho (by simp [Array.getD_eq_getD_getElem?, hls, hlt]))]
      refine hbase t fun k o' hk hl => ?_
      by_cases hik : i = k
      · subst hik; rw [hunf] at hl; cases hl
      · exact ht k o' hk (by rw [getD_set_ne false hik]; exact hl)

/-- phases: which changes are done, and the store then: as behind so many operations in the text's order, or told -/
abbrev Ph := List Nat × Option Nat × List Ob
def phDon (PH : List Ph) (r c : Nat) : Bool := match PH[r]? with | some p => p.1.contains c | none => false
def phSt (PH : List Ph) (hist : List (S × V)) (s : S) (r : Nat) : List Ob := match PH[r]? with | some (_, some j, _) => (trOf hist s j).st | some (_, none, st) => st | none => []
def phOK (ops : Array Oper) (C : List Nat) (PH : List Ph) (LC : List (Nat × Nat × Nat)) (LR : List (Nat × Nat)) (rend : Nat) : Bool :=
  let B := befs ops.toList
  let RS := List.range PH.length
  decide (0 < PH.length) && (C.all fun c => !phDon PH 0 c) &&
  (C.all fun k => RS.all fun r => phDon PH r k || !(C.all fun c => c == k || !aft B k c || phDon PH r c) || !(C.all fun c => !aft B c k || !phDon PH r c) || (LC.any fun (k', r1, r2) => k' == k && r1 == r && decide (r2 < PH.length) && C.all fun c => phDon PH r2 c == (c == k || phDon PH r c))) &&
  ((List.range ops.size).all fun k => C.contains k || RS.all fun r => !(C.all fun c => !aft B k c || phDon PH r c) || !(C.all fun c => !aft B c k || !phDon PH r c) || LR.contains (k, r)) &&
  (RS.all fun r => !(C.all fun c => phDon PH r c) || r == rend)
def chkC (P : Program) (G : Gl) (own : Tmp → Bool) (ops : Array Oper) (PH : List Ph) (hist : List (S × V)) (s : S) : List (Nat × Nat × Nat) → Prop
  | [] => True
  | (k, r, r') :: L => (match ops[k]? with | some o => Doz P G own ops o ⟨(trOf hist s k).sl, phSt PH hist s r⟩ (vsOf hist k) (phSt PH hist s r') | none => True) ∧ chkC P G own ops PH hist s L
def chkR (P : Program) (G : Gl) (own : Tmp → Bool) (ops : Array Oper) (PH : List Ph) (hist : List (S × V)) (s : S) : List (Nat × Nat) → Prop
  | [] => True
  | (k, r) :: L => (match ops[k]? with | some o => Doz P G own ops o ⟨(trOf hist s k).sl, phSt PH hist s r⟩ (vsOf hist k) (phSt PH hist s r) | none => True) ∧ chkR P G own ops PH hist s L
theorem chkC_ok {ops : Array Oper} {PH : List Ph} {hist : List (S × V)} {s : S} : ∀ {L : List (Nat × Nat × Nat)}, chkC P G own ops PH hist s L → ∀ k r r', (k, r, r') ∈ L → ∀ (o : Oper), ops[k]? = some o → Doz P G own ops o ⟨(trOf hist s k).sl, phSt PH hist s r⟩ (vsOf hist k) (phSt PH hist s r')
  | [], _, k, r, r', hm, _, _ => by simp at hm
  | (k0, r0, r1) :: L, h, k, r, r', hm, o, ho => by
    simp only [List.mem_cons] at hm
    rcases hm with hm | hm
    · cases hm
      have := h.1
      simpa only [ho] using this
    · exact chkC_ok h.2 k r r' hm o ho
theorem chkR_ok {ops : Array Oper} {PH : List Ph} {hist : List (S × V)} {s : S} : ∀ {L : List (Nat × Nat)}, chkR P G own ops PH hist s L → ∀ k r, (k, r) ∈ L → ∀ (o : Oper), ops[k]? = some o → Doz P G own ops o ⟨(trOf hist s k).sl, phSt PH hist s r⟩ (vsOf hist k) (phSt PH hist s r)
  | [], _, k, r, hm, _, _ => by simp at hm
  | (k0, r0) :: L, h, k, r, hm, o, ho => by
    simp only [List.mem_cons] at hm
    rcases hm with hm | hm
    · cases hm
      have := h.1
      simpa only [ho] using this
    · exact chkR_ok h.2 k r hm o ho
theorem draw_ph {n id : Nat} {ops : Array Oper} (C : List Nat) (PH : List Ph) (LC : List (Nat × Nat × Nat)) (LR : List (Nat × Nat)) (rend : Nat) (res : List (V × List Ob)) {Q : Exit → S → Prop} {s : S} (hm : P.follows .mixedOrders = true) (ho : ordP ops C = true) (hp : phOK ops C PH LC LR rend = true) (hn : n ≤ s.st.length)
    (h : drawx P G own ops ops.toList res [] (fun hist s' => phSt PH hist.reverse s' 0 = (trOf hist.reverse s' 0).st ∧ phSt PH hist.reverse s' rend = s'.st ∧ chkC P G own ops PH hist.reverse s' LC ∧ chkR P G own ops PH hist.reverse s' LR ∧ Q .normal s') s) : W P G n (.region id ops true) Q s := by
  obtain ⟨hist, s', e1, e2, e3, e4, e5, e6, e7, e8⟩ := drawx_tr ops.toList res [] s (by simp) (Nat.zero_le _) (fun j o hj => by simp at hj) h
  have e0 : trOf hist.reverse s' 0 = s := by rw [e2]; simp [trOf]
  have elast : trOf hist.reverse s' ops.size = s' := by rw [← e1, ← List.length_reverse, trOf_last]
  simp only [phOK, Bool.and_eq_true, decide_eq_true_eq] at hp
  obtain ⟨⟨⟨⟨p1, p2⟩, p3⟩, p4⟩, p5⟩ := hp
  have := any_orderP (tr := trOf hist.reverse s') (vs := vsOf hist.reverse) (id := id) (n := n) (Q := Q) (own := own) (R := { r : Nat // r < PH.length }) hm ho (fun r c => phDon PH r.1 c) (fun r => phSt PH hist.reverse s' r.1) ⟨0, p1⟩
    (fun k o hk => (e3 k o (by rw [List.length_reverse, e1]; exact (Array.getElem?_eq_some_iff.1 hk).1) hk).2) e4
    (fun c hc => by simpa using List.all_eq_true.1 p2 c hc)
    (fun k o hk hkC r hd ha hb => by
      have h3 := List.all_eq_true.1 (List.all_eq_true.1 p3 k hkC) r.1 (List.mem_range.2 r.2)
      simp only [Bool.or_eq_true, Bool.not_eq_true', List.any_eq_true] at h3
      rcases h3 with ((h3 | h3) | h3) | ⟨⟨k', r1, r2⟩, hm, h3⟩
      · rw [hd] at h3; cases h3
      · exfalso
        have : (C.all fun c => c == k || !aft (befs ops.toList) k c || phDon PH r.1 c) = true := List.all_eq_true.2 fun c hc => by
          by_cases hck : c = k
          · simp [hck]
          · cases hq : aft (befs ops.toList) k c with
            | false => simp
            | true => simp [ha c hc hck hq]
        rw [this] at h3; cases h3
      · exfalso
        have : (C.all fun c => !aft (befs ops.toList) c k || !phDon PH r.1 c) = true := List.all_eq_true.2 fun c hc => by
          cases hq : aft (befs ops.toList) c k with
          | false => simp
          | true => simp [hb c hc hq]
        rw [this] at h3; cases h3
      · simp only [Bool.and_eq_true, beq_iff_eq, decide_eq_true_eq] at h3
        obtain ⟨⟨⟨rfl, rfl⟩, h4⟩, h5⟩ := h3
        refine ⟨⟨r2, h4⟩, fun c hc => by simpa using List.all_eq_true.1 h5 c hc, chkC_ok e6 _ _ _ hm o hk⟩)
    (fun k o hk hkC r ha hb => by
      have h3 := List.all_eq_true.1 p4 k (List.mem_range.2 (Array.getElem?_eq_some_iff.1 hk).1)
      simp only [Bool.or_eq_true, List.contains_eq_mem, decide_eq_true_eq, hkC, false_or] at h3
      have h3 := List.all_eq_true.1 h3 r.1 (List.mem_range.2 r.2)
      simp only [Bool.or_eq_true, Bool.not_eq_true', List.contains_eq_mem, decide_eq_true_eq] at h3
      rcases h3 with (h3 | h3) | h3
      · exfalso
        have : (C.all fun c => !aft (befs ops.toList) k c || phDon PH r.1 c) = true := List.all_eq_true.2 fun c hc => by
          cases hq : aft (befs ops.toList) k c with
          | false => simp
          | true => simp [ha c hc hq]
        rw [this] at h3; cases h3
      · exfalso
        have : (C.all fun c => !aft (befs ops.toList) c k || !phDon PH r.1 c) = true := List.all_eq_true.2 fun c hc => by
          cases hq : aft (befs ops.toList) c k with
          | false => simp
          | true => simp [hb c hc hq]
        rw [this] at h3; cases h3
      · exact chkR_ok e7 _ _ h3 o hk)
    (fun r hall => by
      have h3 := List.all_eq_true.1 p5 r.1 (List.mem_range.2 r.2)
      have : (C.all fun c => phDon PH r.1 c) = true := List.all_eq_true.2 hall
      rw [this] at h3
      have : r.1 = rend := by simpa using h3
      show phSt PH hist.reverse s' r.1 = _
      rw [this, e5, elast])
    (by rw [elast]; exact e8) (by rw [e0]; exact hn)
  rwa [e0] at this
end
end Go.Proofs.YtdbmfnhbgacldaaDoor.Am
