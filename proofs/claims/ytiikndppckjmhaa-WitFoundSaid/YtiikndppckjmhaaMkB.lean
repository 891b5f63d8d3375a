/- The logic with one map beside the store: operations and codes do what they are said to. -/
import Derived.Test.YtiikndppckjmhaaMkA
import Derived.Test.YtiikndppckjmhaaBdWitFound32
namespace Go.Proofs.Ytiikndppckjmhaa.Am
set_option autoImplicit false
set_option linter.unusedVariables false
set_option linter.unusedSimpArgs false
section
variable {P : Program} {G : Gl} {own : Tmp → Bool} {D : Nat → Prop}
/-- what an operation comes to, with a map -/
def PostO (P : Program) (G : Gl) (D : Nat → Prop) (μ : Mu) (s : S) (k : Km) (w : World) (K : Km → S → Prop) (a' : Act) (w' : World) : Prop :=
  ∃ s' μ' k' D', Sub D' D w ∧ K k' s' ∧ GOk D' G μ' s'.st w' ∧ Rel D' μ' s' a' w' ∧ KJ k' D' w' ∧ FrK k k' μ s.st w μ' s'.st w' ∧ Ev s.st.length μ s.st μ' s'.st
theorem opk_ok {o : Oper} {K : Km → S → Prop} {s : S} {k : Km} (h : opk P G own o K k s) {μ : Mu} {a : Act} {w : World} (hg : GOk D G μ s.st w) (hr : Rel D μ s a w) (hJ : KJ k D w) {Q : Exit → Act → World → Prop} :
    o.wp P a w (PostO P G D μ s k w K) Q := by
  have plain : opx P G own o (K k) s → o.wp P a w (PostO P G D μ s k w K) Q := fun hx => by
    refine Oper.wp_mono (fun a' w' ⟨s', μ', hK, hg', hr', hf', he'⟩ => ?_) (opx_ok hx (Nat.zero_le _) hg hr)
    exact ⟨s', μ', k, D, Sub.refl D w, hK, hg', hr', hJ.fr hr.st hf', hf'.k, he'⟩
  -- the map's block changes alone
  have upd : ∀ (l : Nat) (M M' : List ByteArray) (o' : Obj) (v : V) (y : Value), k = some (.map l M) → (∀ μ st Q w, vrel μ st Q w v y) → mapHas (w.putObj l o') l M' → K (some (.map l M')) (s.put o.dst v s.st) → PostO P G D μ s k w K (a.put o.dst y) (w.putObj l o') := by
    rintro l M M' o' v y rfl hv hm hK
    have hl : ¬ D l := hJ.nd l rfl
    have hq := qd_putObj (μ := μ) (st := s.st) (w := w) (o := o') hl
    have hf : FrK (some (.map l M)) (some (.map l M')) μ s.st w μ s.st (w.putObj l o') := ⟨frx_putObj rfl, fun g _ h => h⟩
    refine ⟨s.put o.dst v s.st, μ, some (.map l M'), D, Sub.refl D w, hK, ?_, hr.putX (hv _ _ _ _) (srel_putObj hl hr.st) hq (Ev.refl (Nat.le_refl _)) o.dst, ⟨fun g hg => by have hg : g = l := hg; rw [hg]; exact hl, hm⟩, by simpa [S.put] using hf, by simpa [S.put] using Ev.refl (Nat.le_refl _)⟩
    have := hg.keepK hf hJ (Sub.refl D w)
    simpa [S.put] using this
  -- a new block beside the store
  have fresh : ∀ (ob : Obj) (c : Kc) (v : V) (y : Value), k = none → (∀ μ st Q w, vrel μ st Q w v y) → (∀ g, kxx (some c) g → g = w.heap.size) → KH (some c) (w.alloc ob) → K (some c) (s.put o.dst v s.st) → PostO P G D μ s k w K (a.put o.dst y) (w.alloc ob) := by
    rintro ob c v y rfl hv hx hh hK
    have sz : (w.alloc ob).heap.size = w.heap.size + 1 := World.size_alloc _ _
    have hold : ∀ j, j < w.heap.size → (w.alloc ob).heap[j]? = w.heap[j]? := fun j hj => Go.RowKit.Below.heap_alloc _ _ j hj
    obtain ⟨D1, hD1⟩ : ∃ D1 : Nat → Prop, D1 = fun g => D g ∧ g ≠ w.heap.size := ⟨_, rfl⟩
    have hsub : Sub D1 D w := by subst hD1; exact ⟨fun g hg => hg.1, fun g hg hd => ⟨hd, by omega⟩⟩
    have hq : ∀ g, Am.qd D μ s.st w g → Am.qd D1 μ s.st (w.alloc ob) g ∧ (w.alloc ob).heap[g]? = w.heap[g]? := fun g hg => ⟨⟨⟨by rw [sz]; have := hg.1.1; omega, hg.1.2⟩, hsub.2 g hg.1.1 hg.2⟩, hold g hg.1.1⟩
    have hs1 : srel D1 μ s.st (w.alloc ob) := by
      have hs := hr.st
      refine ⟨fun j hj => by subst hD1; exact ⟨hs.dom j (by rw [sz] at hj; omega), by rw [sz] at hj; omega⟩, fun id ver sz' ro es hi => ?_, hs.inj⟩
      rcases hs.row id ver sz' ro es hi with h1 | ⟨j, m, cur, T, lo, hi', b1, b2, b3, b4, b5, b6, b7, b8, b9⟩
      · exact .inl h1
      · exact .inr ⟨j, m, cur, T, lo, hi', b1, (hold j (row_lt b2)).trans b2, b3, b4, b5, fun i cs j' v x y => (b6 i cs j' v x y).keep (Ev.refl (Nat.le_refl _)) hq, fun h => (hq j (b7 h)).1, hsub.2 j (row_lt b2) b8, b9⟩
    have hf : FrK none (some c) μ s.st w μ s.st (w.alloc ob) := ⟨⟨rfl, rfl, rfl, by rw [sz]; omega, fun g _ hp => ⟨hold g hp.1, hp.2⟩⟩, fun g hg hk => by have := hx g hk; omega⟩
    refine ⟨s.put o.dst v s.st, μ, some c, D1, hsub, hK, ?_, hr.putX (hv _ _ _ _) hs1 hq (Ev.refl (Nat.le_refl _)) o.dst, ⟨fun g hk hd => by subst hD1; exact hd.2 (hx g hk), hh⟩, by simpa [S.put] using hf, by simpa [S.put] using Ev.refl (Nat.le_refl _)⟩
    have := hg.keepK hf hJ hsub
    simpa [S.put] using this
  unfold opk at h
  split at h
  · rename_i t ho
    split at h
    · -- a map is made
      have h := h w.heap.size
      rw [fS_eq] at h
      have hrun : (execOp a.eval o).run P w = .ok (.value (.map (some w.heap.size))) (w.alloc (.map #[] 0)) := by
        unfold execOp; rw [ho]; simp [Instr.makeMap]
      unfold Oper.wp
      rw [hrun]
      exact fresh _ (.map w.heap.size []) _ _ rfl (fun _ _ _ _ => .i (.mp _)) (fun g hg => hg) ⟨#[], 0, (MapKept.heap_alloc w _).1, rfl⟩ h
    · exact h.elim
  · rename_i t ho
    split at h
    · rename_i ht
      obtain ⟨rfl, htt⟩ : k = none ∧ t = bldT := by
        unfold isBld at ht
        split at ht
        · cases ht
        · exact ⟨rfl, Nat.eq_of_beq_eq_true ht⟩
      subst htt
      have hbb := h.1
      have h := h.2 w.heap.size
      rw [fS_eq] at h
      have hrun : (execOp a.eval o).run P w = .ok (.value (.pointer (some ⟨w.heap.size, 0, none⟩))) (w.alloc (.cells #[.pointer none, .slice none 0 0] bldT)) := by
        unfold execOp; rw [ho]; simp only [Sem.run_bind, run_bld hbb, Result.andThen_ok, Sem.run_pure]
      unfold Oper.wp
      rw [hrun]
      refine fresh _ (.bld w.heap.size none []) _ _ rfl (fun _ _ _ _ => .i (.bp _)) (fun g hg => by rcases hg with hg | hg; exact hg; cases hg) ?_ h
      exact ⟨.pointer none, .slice none 0 0, .inl rfl, (MapKept.heap_alloc w _).1, ⟨rfl, .inl ⟨rfl, rfl⟩⟩, rfl, by simp⟩
    · exact plain h
  · rename_i t x i ho
    split at h
    · rename_i l c l' M e1 e2
      obtain ⟨rfl, ht, h⟩ := h
      have v1 := ev_ok hg hr x
      have v2 := ev_ok hg hr i
      rw [e1] at v1
      rw [e2] at v2
      generalize hy1 : a.eval x = y1 at v1
      generalize hy2 : a.eval i = y2 at v2
      cases v1 with | i v1 => cases v1 with | mp =>
      cases v2 with | i v2 => cases v2 with | str =>
      obtain ⟨b, hb, hrun⟩ := run_look (P := P) ht hJ.has c
      have h := h b hb
      rw [fS_eq] at h
      have hrun : (execOp a.eval o).run P w = .ok (.value (.bool b)) w := by
        unfold execOp; rw [ho]; simp only [hy1, hy2, Sem.run_bind, hrun, Result.andThen_ok, Sem.run_pure]
      unfold Oper.wp
      rw [hrun]
      refine ⟨s.put o.dst (.i (.bool b)) s.st, μ, _, D, Sub.refl D w, h, by simpa [S.put] using hg, hr.put (.i (.bool b)) hr.st (Fr.refl _ _ _) (Ev.refl (Nat.le_refl _)) o.dst, hJ, by simpa [S.put] using FrK.refl _ _ _ _, by simpa [S.put] using Ev.refl (Nat.le_refl _)⟩
    · exact h.elim
  · rename_i t x i v ho
    split at h
    · rename_i l c l' M e1 e2 e3
      obtain ⟨rfl, ht, hc, h⟩ := h
      have v1 := ev_ok hg hr x
      have v2 := ev_ok hg hr i
      have v3 := ev_ok hg hr v
      rw [e1] at v1
      rw [e2] at v2
      rw [e3] at v3
      generalize hy1 : a.eval x = y1 at v1
      generalize hy2 : a.eval i = y2 at v2
      generalize hy3 : a.eval v = y3 at v3
      cases v1 with | i v1 => cases v1 with | mp =>
      cases v2 with | i v2 => cases v2 with | str =>
      cases v3 with | i v3 => cases v3 with | bool =>
      obtain ⟨o', hrun, hm⟩ := run_upd (P := P) ht hJ.has c hc
      rw [fS_eq] at h
      have hrun : (execOp a.eval o).run P w = .ok .skip (w.putObj l o') := by
        unfold execOp; rw [ho]; simp only [hy1, hy2, hy3, Sem.run_bind, hrun, Result.andThen_ok, Sem.run_pure]
      unfold Oper.wp
      rw [hrun]
      exact upd l M _ o' (.tup []) Go.undef rfl (fun _ _ _ _ => .tup [] #[] rfl (by simp)) hm h
    · exact h.elim
  · rename_i f args ats ho
    split at h
    · rename_i fid first captured hf
      rw [fVs'_eq] at h
      obtain ⟨hcall, hC⟩ := h
      have hfv := ev_ok hg hr f
      rw [hf] at hfv
      generalize hfy : a.eval f = fy at hfv
      cases hfv with
      | fn _ _ _ fs' cs' h1 h2 h3 h4 =>
      have hargs := args_ok (ev_ok hg hr) args
      have hall : vrels μ s.st (Am.qd D μ s.st w) w (first ++ (args.toList.map (ev G s.sl) ++ captured)) (fs' ++ args.map a.eval ++ cs') := by
        refine ⟨by simp [h1, h2, Nat.add_assoc], fun j v hj => ?_⟩
        rw [Array.append_assoc]
        by_cases hj1 : j < first.length
        · rw [List.getElem?_append_left hj1] at hj
          have := h3 j v hj
          rw [Array.getD_eq_getD_getElem?] at this ⊢
          rwa [Array.getElem?_append_left (by omega)]
        · rw [List.getElem?_append_right (by omega)] at hj
          rw [Array.getD_eq_getD_getElem?, Array.getElem?_append_right (by omega), h1]
          by_cases hj2 : j - first.length < args.size
          · rw [List.getElem?_append_left (by simpa using hj2)] at hj
            have := hargs.2 _ v hj
            rw [Array.getD_eq_getD_getElem?] at this
            rwa [Array.getElem?_append_left (by simpa using hj2)]
          · rw [List.getElem?_append_right (by simp; omega)] at hj
            rw [Array.getElem?_append_right (by simp; omega)]
            have := h4 _ v hj
            rw [Array.getD_eq_getD_getElem?] at this
            simpa using this
      unfold Oper.wp execOp
      simp only [ho]
      have hrun : (do let d ← resolve a.eval { callee := .value f, args := args, argTypes := ats } o.type; invoke d.target d.args).run P w = .ok (.enter fid (fs' ++ args.map a.eval ++ cs')) w := by
        simp only [resolve, hfy, Deferred.ofValue, Sem.run_bind, Sem.run_pure, Result.andThen_ok, invoke]
        exact hcall _ w
      rw [hrun]
      refine (hC D μ w _ hg hall hr.st hJ).mono fun e w' he => ?_
      obtain ⟨r, r', st', μ', k', D', rfl, q, hK, hv, hs', hJ', hf', he'⟩ := he
      rw [fW_eq, fS_eq] at hK
      refine ⟨s.put o.dst r st', μ', k', D', q, hK, ?_, hr.putX hv hs' (hf'.qd hJ q) he' o.dst, hJ', by simpa [S.put] using hf', by simpa [S.put] using he'⟩
      have := hg.keepK hf' hJ q
      simpa [S.put] using this
    · exact h.elim
  · exact plain h
def opsk (P : Program) (G : Gl) (own : Tmp → Bool) (ops : Array Oper) : List Oper → (Km → S → Prop) → Km → S → Prop
  | [], K, k, s => K k s
  | o :: rest, K, k, s => match o.guard with
    | none => opk P G own o (opsk P G own ops rest K) k s
    | some (j, want) => match guardA ops s.sl j with
      | some (d, some b) => Br b
          (fS (s.told d true) fun s => match want with | true => opk P G own o (opsk P G own ops rest K) k s | false => fS (s.put o.dst (.tup []) s.st) (opsk P G own ops rest K k))
          (fS (s.told d false) fun s => match want with | true => fS (s.put o.dst (.tup []) s.st) (opsk P G own ops rest K k) | false => opk P G own o (opsk P G own ops rest K) k s)
      | some (_, none) => fS (s.put o.dst (.tup []) s.st) (opsk P G own ops rest K k)
      | none => False
def PostK (G : Gl) (D : Nat → Prop) (n : Nat) (μ : Mu) (st : List Ob) (k : Km) (w : World) (Φ : Km → S → Prop) (a' : Act) (w' : World) : Prop :=
  ∃ s' μ' k' D', Sub D' D w ∧ Φ k' s' ∧ GOk D' G μ' s'.st w' ∧ Rel D' μ' s' a' w' ∧ KJ k' D' w' ∧ FrK k k' μ st w μ' s'.st w' ∧ Ev n μ st μ' s'.st
theorem PostK.trans {n : Nat} {D1 : Nat → Prop} {μ μ1 : Mu} {st st1 : List Ob} {k k1 : Km} {w w1 : World} {Φ : Km → S → Prop} {a' : Act} {w' : World} (hs : Sub D1 D w) (hf : FrK k k1 μ st w μ1 st1 w1) (he : Ev n μ st μ1 st1) (h : PostK G D1 n μ1 st1 k1 w1 Φ a' w') : PostK G D n μ st k w Φ a' w' := by
  obtain ⟨s', μ', k', D', h1, h2, hg, h3, h4, h5, h6⟩ := h
  exact ⟨s', μ', k', D', hs.trans h1 hf.fr.size, h2, hg, h3, h4, hf.trans h5, he.trans h6⟩
theorem PostK.mono {n : Nat} {μ : Mu} {st : List Ob} {k : Km} {w : World} {Φ Ψ : Km → S → Prop} {a' : Act} {w' : World} (h : PostK G D n μ st k w Φ a' w') (hk : ∀ k s, Φ k s → Ψ k s) : PostK G D n μ st k w Ψ a' w' := by
  obtain ⟨s', μ', k', D', h1, h2, h3⟩ := h
  exact ⟨s', μ', k', D', h1, hk _ _ h2, h3⟩
/-- a code, with a map beside the store -/
structure KW (P : Program) (G : Gl) (n : Nat) (c : Code) (Q : Exit → Km → S → Prop) (s : S) (k : Km) : Prop where
  out : ∀ (D : Nat → Prop) μ a w, n ≤ s.st.length → GOk D G μ s.st w → Rel D μ s a w → KJ k D w → c.wp P (fun e a' w' => PostK G D n μ s.st k w (Q e) a' w') a w
theorem W.k {n : Nat} {c : Code} {Q : Exit → S → Prop} {s : S} (k : Km) (h : W P G n c Q s) : KW P G n c (fun e k' s' => k' = k ∧ Q e s') s k := by
  refine ⟨fun D μ a w hn hg hr hJ => wp_mono (h.out D μ a w hn hg hr) fun e a' w' hp => ?_⟩
  obtain ⟨s', μ', h1, h2, h3, h4⟩ := hp
  exact ⟨s', μ', k, D, Sub.refl D w, ⟨rfl, h1⟩, hg.keep h3, h2, hJ.fr hr.st h3, h3.k, h4⟩
theorem KW.mono {n : Nat} {c : Code} {Q Q' : Exit → Km → S → Prop} {s : S} {k : Km} (h : KW P G n c Q s k) (hq : ∀ e k s, Q e k s → Q' e k s) : KW P G n c Q' s k :=
  ⟨fun D μ a w hn hg hr hJ => wp_mono (h.out D μ a w hn hg hr hJ) fun e a' w' hp => hp.mono (hq e)⟩
theorem KW.le {n : Nat} {c : Code} {Q : Exit → Km → S → Prop} {s s' : S} {k : Km} (h : Le n s s') (hk : KW P G n c Q s' k) : KW P G n c Q s k := by
  refine ⟨fun D μ a w hn hg hr hJ => ?_⟩
  obtain ⟨μ1, r1, f1, e1⟩ := h D μ a w hn hr
  exact wp_mono (hk.out D μ1 a w e1.1 (hg.keep f1) r1 (hJ.fr hr.st f1)) fun e a' w' hp => PostK.trans (Sub.refl D w) f1.k e1 hp
theorem KW.weak {n : Nat} {c : Code} {Q : Exit → Km → S → Prop} {s : S} {k : Km} (h : KW P G n c (fun e k' s' => ∃ s'', Le n s' s'' ∧ Q e k' s'') s k) : KW P G n c Q s k := by
  refine ⟨fun D μ a w hn hg hr hJ => wp_mono (h.out D μ a w hn hg hr hJ) fun e a' w' hp => ?_⟩
  obtain ⟨s', μ', k', D', h1, ⟨s'', hl, hQ⟩, hg', h2, h3, h4, h5⟩ := hp
  obtain ⟨μ2, r2, f2, e2⟩ := hl D' μ' a' w' h5.1 h2
  exact ⟨s'', μ2, k', D', h1, hQ, hg'.keep f2, r2, h3.fr h2.st f2, h4.trans f2.k, h5.trans e2⟩
/-- the weakest state that a code needs -/
def kx (P : Program) (G : Gl) (own : Tmp → Bool) (n : Nat) : Code → (Exit → Km → S → Prop) → Km → S → Prop
  | .skip, Q, k, s => Q .normal k s
  | .label _, Q, k, s => Q .normal k s
  | .seq a b, Q, k, s => kx P G own n a (fun e k' s' => match e with | .normal => kx P G own n b Q k' s' | e => Q e k' s') k s
  | .cond c a b, Q, k, s => match ev G s.sl c with
    | .i (.bool t) => Br t (kx P G own n a Q k s) (kx P G own n b Q k s)
    | _ => False
  | .block id c, Q, k, s => kx P G own n c (fun e k' s' => match e with | .exit id' => if id' = id then Q .normal k' s' else Q (.exit id') k' s' | e => Q e k' s') k s
  | .loop c, Q, k, s => KW P G n (.loop c) Q s k
  | .exit id, Q, k, s => Q (.exit id) k s
  | .ret, Q, k, s => Q .ret k s
  | .scope c, Q, k, s => kx P G own n c (fun e k' s' => match e with | .goto _ => False | e => Q e k' s') k s
  | .region id ops false, Q, k, s => opsk P G own ops ops.toList (Q .normal) k s
  | .region id ops true, Q, k, s => KW P G n (.region id ops true) Q s k
  | _, _, _, _ => False
theorem opsk_ok {n : Nat} {ops : Array Oper} {K : Km → S → Prop} {Q' : Exit → Km → S → Prop} (hQ : ∀ k s, K k s → Q' .normal k s) :
    ∀ (l : List Oper) (i : Nat) (s : S) (k : Km), ops.toList.drop i = l → opsk P G own ops l K k s → ∀ (D : Nat → Prop) (μ : Mu) (a : Act) (w : World), n ≤ s.st.length → GOk D G μ s.st w → Rel D μ s a w → KJ k D w →
    ∀ (D0 : Nat → Prop) (μ0 : Mu) (st0 : List Ob) (k0 : Km) (w0 : World), Sub D D0 w0 → FrK k0 k μ0 st0 w0 μ s.st w → Ev n μ0 st0 μ s.st → wpOps P ops (fun e a' w' => PostK G D0 n μ0 st0 k0 w0 (Q' e) a' w') (List.range' i l.length) a w
  | [], i, s, k, hl, h, D, μ, a, w, hn, hg, hr, hJ, D0, μ0, st0, k0, w0, hs, hf, he => ⟨s, μ, k, D, hs, hQ _ _ h, hg, hr, hJ, hf, he⟩
  | o :: rest, i, s, k, hl, h, D, μ, a, w, hn, hg, hr, hJ, D0, μ0, st0, k0, w0, hs, hf, he => by
    have hi : ops[i]? = some o := by
      have : ops.toList[i]? = some o := by
        have := congrArg (·[0]?) hl
        simpa [List.getElem?_drop] using this
      simpa using this
    have hl' : ops.toList.drop (i + 1) = rest := by
      have := congrArg (List.drop 1) hl
      simpa [List.drop_drop, Nat.add_comm] using this
    rw [List.length_cons, List.range'_succ]
    simp only [wpOps, hi]
    have doit : opk P G own o (opsk P G own ops rest K) k s → o.wp P a w (wpOps P ops (fun e a' w' => PostK G D0 n μ0 st0 k0 w0 (Q' e) a' w') (List.range' (i + 1) rest.length)) (fun e a' w' => PostK G D0 n μ0 st0 k0 w0 (Q' e) a' w') := by
      intro hx
      refine Oper.wp_mono (fun a' w' ⟨s', μ', k', D', q, hK, hg', hr', hJ', hf', he'⟩ => ?_) (opk_ok hx hg hr hJ)
      exact opsk_ok hQ rest (i + 1) s' k' hl' hK D' μ' a' w' (Nat.le_trans hn he'.1) hg' hr' hJ' D0 μ0 st0 k0 w0 (hs.trans q hf.fr.size) (hf.trans hf') (he.trans (he'.mono hn))
    have skip : opsk P G own ops rest K k (s.put o.dst (.tup []) s.st) → wpOps P ops (fun e a' w' => PostK G D0 n μ0 st0 k0 w0 (Q' e) a' w') (List.range' (i + 1) rest.length) (a.put o.dst Go.undef) w :=
      fun hx => opsk_ok hQ rest (i + 1) _ k hl' hx D μ _ w (by simpa [S.put] using hn) (by simpa [S.put] using hg) (hr.skip o.dst) hJ D0 μ0 st0 k0 w0 hs (by simpa [S.put] using hf) (by simpa [S.put] using he)
    simp only [opsk] at h
    cases hgd : o.guard with
    | none =>
      simp only [hgd] at h
      rw [if_pos (by simp [Region.wanted, hgd])]
      exact .inl (doit h)
    | some jw =>
      obtain ⟨j, want⟩ := jw
      simp only [hgd] at h
      split at h
      · rename_i d b hb
        obtain ⟨hy, ht⟩ := yielded_eq hr hb
        have hx : if b = want then opk P G own o (opsk P G own ops rest K) k s else opsk P G own ops rest K k (s.put o.dst (.tup []) s.st) := by
          cases b with
          | true =>
            have := h.yes rfl
            rw [fS_eq, ht true rfl] at this
            cases want with
            | true => simpa using this
            | false => simpa [fS_eq] using this
          | false =>
            have := h.no rfl
            rw [fS_eq, ht false rfl] at this
            cases want with
            | true => simpa [fS_eq] using this
            | false => simpa using this
        by_cases hbw : b = want
        · rw [if_pos (by simp [Region.wanted, hgd, hy, hbw])]
          rw [if_pos hbw] at hx
          exact .inl (doit hx)
        · rw [if_neg (by simp [Region.wanted, hgd, hy, hbw])]
          rw [if_neg hbw] at hx
          exact skip hx
      · rename_i d hb
        obtain ⟨hy, _⟩ := yielded_eq hr hb
        rw [if_neg (by simp [Region.wanted, hgd, hy])]
        rw [fS_eq] at h
        exact skip h
      · exact h.elim
theorem postk_here {n : Nat} {μ : Mu} {s : S} {a : Act} {w : World} {k : Km} {Φ : Km → S → Prop} (h : Φ k s) (hn : n ≤ s.st.length) (hg : GOk D G μ s.st w) (hr : Rel D μ s a w) (hJ : KJ k D w) : PostK G D n μ s.st k w Φ a w :=
  ⟨s, μ, k, D, Sub.refl D w, h, hg, hr, hJ, FrK.refl _ _ _ _, Ev.refl hn⟩
theorem kx_ok {n : Nat} : ∀ (c : Code) (Q : Exit → Km → S → Prop) (s : S) (k : Km), kx P G own n c Q k s → KW P G n c Q s k := by
  intro c
  induction c with
  | skip => intro Q s k h; exact ⟨fun D μ a w hn hg hr hJ => wp_skip (postk_here h hn hg hr hJ)⟩
  | label l => intro Q s k h; exact ⟨fun D μ a w hn hg hr hJ => wp_label (postk_here h hn hg hr hJ)⟩
  | seq x y ihx ihy =>
    intro Q s k h
    refine ⟨fun D μ a w hn hg hr hJ => wp_seq (wp_mono ((ihx _ s k h).out D μ a w hn hg hr hJ) fun e a' w' hp => ?_)⟩
    obtain ⟨s', μ', k', D', q, h1, hg', h2, h3, h4, h5⟩ := hp
    cases e with
    | normal => exact wp_mono ((ihy _ s' k' h1).out D' μ' a' w' h5.1 hg' h2 h3) fun e a'' w'' hp => PostK.trans q h4 h5 hp
    | _ => exact ⟨s', μ', k', D', q, h1, hg', h2, h3, h4, h5⟩
  | cond x c1 c2 ih1 ih2 =>
    intro Q s k h
    refine ⟨fun D μ a w hn hg hr hJ => ?_⟩
    unfold kx at h
    split at h
    · rename_i t ht
      have hv := ev_ok hg hr x
      rw [ht] at hv
      have hx : a.eval x = .bool t := by
        generalize a.eval x = y at hv
        cases hv with | i h => cases h; rfl
      cases t with
      | true => exact wp_cond_true hx ((ih1 _ s k (h.yes rfl)).out D μ a w hn hg hr hJ)
      | false => exact wp_cond_false hx ((ih2 _ s k (h.no rfl)).out D μ a w hn hg hr hJ)
    · exact h.elim
  | block id c ih =>
    intro Q s k h
    refine ⟨fun D μ a w hn hg hr hJ => wp_block (wp_mono ((ih _ s k h).out D μ a w hn hg hr hJ) fun e a' w' hp => ?_)⟩
    obtain ⟨s', μ', k', D', q, h1, h2⟩ := hp
    cases e with
    | exit id' =>
      simp only [Exit.inBlock]
      simp only at h1
      split
      · rename_i hid; rw [if_pos hid] at h1; exact ⟨s', μ', k', D', q, h1, h2⟩
      · rename_i hid; rw [if_neg hid] at h1; exact ⟨s', μ', k', D', q, h1, h2⟩
    | _ => exact ⟨s', μ', k', D', q, h1, h2⟩
  | loop c ih => intro Q s k h; exact h
  | rangeFunc => intro Q s k h; exact h.elim
  | exit id => intro Q s k h; exact ⟨fun D μ a w hn hg hr hJ => wp_exit (postk_here h hn hg hr hJ)⟩
  | scope c ih =>
    intro Q s k h
    refine ⟨fun D μ a w hn hg hr hJ => wp_scope_straight (wp_mono ((ih _ s k h).out D μ a w hn hg hr hJ) fun e a' w' hp => ?_)⟩
    obtain ⟨s', μ', k', D', q, h1, h2⟩ := hp
    cases e with
    | goto l => exact h1.elim
    | _ => exact ⟨s', μ', k', D', q, h1, h2⟩
  | goto l => intro Q s k h; exact h.elim
  | ret => intro Q s k h; exact ⟨fun D μ a w hn hg hr hJ => wp_ret (postk_here h hn hg hr hJ)⟩
  | refuse why => intro Q s k h; exact h.elim
  | region id ops d =>
    intro Q s k h
    cases d with
    | true => exact h
    | false =>
      refine ⟨fun D μ a w hn hg hr hJ => wp_region ?_⟩
      rw [List.range_eq_range']
      have hl : ops.size = ops.toList.length := by simp
      rw [hl]
      exact opsk_ok (fun k s h => h) ops.toList 0 s k rfl h D μ a w hn hg hr hJ D μ s.st k w (Sub.refl D w) (FrK.refl _ _ _ _) (Ev.refl hn)
/-- a loop: a family of states -/
theorem kloop_ok {n : Nat} {α : Type} (I : α → S) (J : α → Km) (Inv : α → Prop) (m : α → Nat) (x0 : α) {c : Code} {Q : Exit → Km → S → Prop} {s : S} {k : Km} (hi : Inv x0) (h0 : Le n s (I x0)) (hk0 : k = J x0)
    (round : ∀ x, Inv x → KW P G n c (fun e k' s' => match e with | .normal => ∃ y, Inv y ∧ m y < m x ∧ Le n s' (I y) ∧ k' = J y | e => Q e k' s') (I x) (J x)) : KW P G n (.loop c) Q s k := by
  classical
  subst hk0
  refine ⟨fun D μ a w hn hg hr hJ => ?_⟩
  let R : α → Act → World → Prop := fun x a' w' => Inv x ∧ ∃ μ' D', Sub D' D w ∧ GOk D' G μ' (I x).st w' ∧ Rel D' μ' (I x) a' w' ∧ KJ (J x) D' w' ∧ FrK (J x0) (J x) μ s.st w μ' (I x).st w' ∧ Ev n μ s.st μ' (I x).st
  let JJ : Act → World → Prop := fun a' w' => ∃ x, R x a' w'
  let ok : Act → World → Nat → Prop := fun a' w' k => ∃ x, R x a' w' ∧ m x = k
  let meas : Act → World → Nat := fun a' w' => if h : ∃ k, ok a' w' k then Classical.choose (least_of _ h) else 0
  obtain ⟨μ1, r1, f1, e1⟩ := h0 D μ a w hn hr
  refine wp_loop JJ meas ⟨x0, hi, μ1, D, Sub.refl D w, hg.keep f1, r1, hJ.fr hr.st f1, f1.k, e1⟩ ?_
  rintro a1 w1 ⟨x1, hx1⟩
  have hex : ∃ k, ok a1 w1 k := ⟨m x1, x1, hx1, rfl⟩
  obtain ⟨x, ⟨hix, μx, Dx, sx, gx, rx, jx, fx, ex⟩, hmx⟩ := (Classical.choose_spec (least_of _ hex)).1
  have hm1 : meas a1 w1 = Classical.choose (least_of _ hex) := dif_pos hex
  refine wp_mono ((round x hix).out Dx μx a1 w1 ex.1 gx rx jx) fun e a2 w2 hp => ?_
  obtain ⟨s', μ', k', D', q1, h1, hg', h2, h3, h4, h5⟩ := hp
  cases e with
  | normal =>
    obtain ⟨y, hiy, hlt, hle, rfl⟩ := h1
    obtain ⟨μy, ry, fy, ey⟩ := hle D' μ' a2 w2 h5.1 h2
    have hR : R y a2 w2 := ⟨hiy, μy, D', sx.trans q1 fx.fr.size, hg'.keep fy, ry, h3.fr h2.st fy, (fx.trans h4).trans fy.k, (ex.trans h5).trans ey⟩
    refine ⟨⟨y, hR⟩, ?_⟩
    have hex2 : ∃ k, ok a2 w2 k := ⟨m y, y, hR, rfl⟩
    have hm2 : meas a2 w2 = Classical.choose (least_of _ hex2) := dif_pos hex2
    have := (Classical.choose_spec (least_of _ hex2)).2 (m y) ⟨y, hR, rfl⟩
    rw [hm1, hm2]
    omega
  | _ => exact ⟨s', μ', k', D', sx.trans q1 fx.fr.size, h1, hg', h2, h3, fx.trans h4, ex.trans h5⟩
/-- what a body must come to -/
def retK (P : Program) (fn : Func) (K : V → List Ob → Km → Prop) : Exit → Km → S → Prop
  | .normal, k, s | .ret, k, s => match resA P s.st s.sl fn.results.toList with
    | some (p, vs) => sdAnd p (fW (resV vs) fun r => K r s.st k)
    | none => False
  | _, _, _ => False
/-- a function's contract out of its body -/
theorem call_of_bodyK {f : FuncId} {fn : Func} {c : Code} {args : List V} {st : List Ob} {k : Km} {K : V → List Ob → Km → Prop} (hf : P.funcs[f]? = some fn) (hb : fn.body = some c) (hcall : ∀ args' w0, (callFunc f args').run P w0 = .ok (.enter f args') w0)
    (h : KW P G st.length c (retK P fn K) ⟨args ++ List.replicate (fn.ntmps - args.length) .undef, st⟩ k) : CallK P G f args st k K := by
  refine ⟨hcall, fun D μ w args' hg ha hs hJ => calls_of_wp hf hb ?_⟩
  have hrel : Rel D μ ⟨args ++ List.replicate (fn.ntmps - args.length) .undef, st⟩ { tmps := args' ++ Array.replicate (fn.ntmps - args'.size) Go.undef, defers := [] } w := by
    refine ⟨rfl, ⟨by simp [ha.1], fun j v hj => ?_⟩, hs⟩
    simp only at hj ⊢
    by_cases hjl : j < args.length
    · rw [List.getElem?_append_left hjl] at hj
      have := ha.2 j v hj
      rw [Array.getD_eq_getD_getElem?] at this ⊢
      rwa [Array.getElem?_append_left (by rw [ha.1]; exact hjl)]
    · rw [List.getElem?_append_right (by omega), List.getElem?_replicate] at hj
      split at hj
      · cases hj; exact .undef _
      · cases hj
  refine wp_mono (h.out D μ _ w (Nat.le_refl _) hg hrel hJ) fun e a' w' hp => ?_
  obtain ⟨s', μ', k', D', q, h1, hg', h2, h3, h4, h5⟩ := hp
  have fin : (match resA P s'.st s'.sl fn.results.toList with | some (p, vs) => sdAnd p (fW (resV vs) fun r => K r s'.st k') | none => False) →
      a'.defers = [] ∧ ∃ v, (results fn a'.tmps).run P w' = .ok v w' ∧ ∃ r r' st' μ' k' D', Ending.returned v = .returned r' ∧ Sub D' D w ∧ K r st' k' ∧ vrel μ' st' (Am.qd D' μ' st' w') w' r r' ∧ srel D' μ' st' w' ∧ KJ k' D' w' ∧ FrK k k' μ st w μ' st' w' ∧ Ev st.length μ st μ' st' := by
    intro hm
    split at hm
    · rename_i p vs hres
      obtain ⟨m1, m2⟩ := sdAnd_ok hm
      rw [fW_eq] at m2
      obtain ⟨y, hy, hv⟩ := results_ok (P := P) h2 hres m1
      exact ⟨h2.dfr, y, hy, resV vs, y, s'.st, μ', k', D', rfl, q, m2, hv, h2.st, h3, h4, h5⟩
    · exact hm.elim
  cases e with
  | normal => exact fin h1
  | ret => exact fin h1
  | _ => exact h1.elim
/-- slots' results told as data, the first m rows kept -/
theorem call_of_bodyKF {f : FuncId} {fn : Func} {c : Code} {args : List V} {st : List Ob} {K : V → List Ob → Prop} (m : Nat) (hm : st.length ≤ m) (hf : P.funcs[f]? = some fn) (hb : fn.body = some c) (hcall : ∀ args' w0, (callFunc f args').run P w0 = .ok (.enter f args') w0)
    (h : KW P G st.length c (fun e _ s => retF P fn m K e s) ⟨args ++ List.replicate (fn.ntmps - args.length) .undef, st⟩ none) : CallW P G f args st K := by
  refine frz_call m hm (CallK.out (call_of_bodyK hf hb hcall (h.mono fun e k s hq => ?_)))
  cases e <;> exact hq
end
end Go.Proofs.Ytiikndppckjmhaa.Am
