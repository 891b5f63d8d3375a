/- Texts AzA AzB AzC AzD AzE AzF AzG of this session, one behind the other. -/
import Derived.Test.YtiikndppckjmhaaAmW
import Derived.RangeFuncRecord
import Derived.RangeFuncCalls
import Derived.RangeFuncLeaves
/- The logic for ranges over functions: frames of rounds; what may change beside the store. -/
namespace Go.Proofs.Ytiikndppckjmhaa.Am
set_option autoImplicit false
set_option linter.unusedVariables false
set_option linter.unusedSimpArgs false
/-- no limits, but a frame's round -/
abbrev Fro (ro : Option Nat) : Fence := { Fence.wide with round := ro }
theorem fenced_ro (P : Program) (ro : Option Nat) : Machine.fenced P (Fro ro) = Machine.fenced P Fence.wide := rfl
theorem calls_ro {P : Program} {ro : Option Nat} {n : Nat} {f : FuncId} {args : Array Value} {w : World} {R : Ending → World → Prop} (h : Calls P f args w R) : CallsIn (Fro ro) n P f args w R :=
  (callsIn_wide (n := n)).2 h
/-- what was nobody's to change is as it was, but for records X -/
structure FrX (X : Nat → Prop) (μ : Mu) (st : List Ob) (w : World) (μ' : Mu) (st' : List Ob) (w' : World) : Prop where
  os : w'.os = w.os
  tape : w'.tape = w.tape
  output : w'.output = w.output
  size : w.heap.size ≤ w'.heap.size
  prot : ∀ g, ¬ X g → prot μ st w g → w'.heap[g]? = w.heap[g]? ∧ ¬ live μ' st' g
theorem Fr.x {X : Nat → Prop} {μ μ' : Mu} {st st' : List Ob} {w w' : World} (h : Fr μ st w μ' st' w') : FrX X μ st w μ' st' w' := ⟨h.os, h.tape, h.output, h.size, fun g _ hg => h.prot g hg⟩
theorem FrX.refl (X : Nat → Prop) (μ : Mu) (st : List Ob) (w : World) : FrX X μ st w μ st w := (Fr.refl μ st w).x
theorem FrX.trans {X : Nat → Prop} {μ μ' μ'' : Mu} {st st' st'' : List Ob} {w w' w'' : World} (h : FrX X μ st w μ' st' w') (k : FrX X μ' st' w' μ'' st'' w'') : FrX X μ st w μ'' st'' w'' := by
  refine ⟨k.os.trans h.os, k.tape.trans h.tape, k.output.trans h.output, Nat.le_trans h.size k.size, fun g hx hg => ?_⟩
  obtain ⟨e1, l1⟩ := h.prot g hx hg
  obtain ⟨e2, l2⟩ := k.prot g hx ⟨Nat.lt_of_lt_of_le hg.1 h.size, l1⟩
  exact ⟨e2.trans e1, l2⟩
theorem FrX.qd {X D D' : Nat → Prop} {μ μ' : Mu} {st st' : List Ob} {w w' : World} (h : FrX X μ st w μ' st' w') (hD : ∀ g, X g → ¬ D g) : ∀ g, qd D μ st w g → qd D μ' st' w' g ∧ w'.heap[g]? = w.heap[g]? := by
  intro g hg
  obtain ⟨e, l⟩ := h.prot g (fun hx => hD g hx hg.2) hg.1
  exact ⟨⟨⟨Nat.lt_of_lt_of_le hg.1.1 h.size, l⟩, hg.2⟩, e⟩
theorem qd_mono {D D' : Nat → Prop} (hD : ∀ g, D' g → D g) {μ : Mu} {st : List Ob} {w : World} : ∀ g, qd D' μ st w g → qd D μ st w g ∧ w.heap[g]? = w.heap[g]? := fun g h => ⟨⟨h.1, hD g h.2⟩, rfl⟩
theorem vrel_mono {D D' : Nat → Prop} (hD : ∀ g, D' g → D g) {μ : Mu} {st : List Ob} {w : World} {x : V} {y : Value} (h : vrel μ st (qd D' μ st w) w x y) : vrel μ st (qd D μ st w) w x y := h.keep (Ev.refl (Nat.le_refl _)) (qd_mono hD)
theorem srel_mono {D D' : Nat → Prop} (hD : ∀ g, D' g → D g) {μ : Mu} {st : List Ob} {w : World} (hd : ∀ g, w.heap.size ≤ g → D g) (h : srel D' μ st w) : srel D μ st w := by
  refine ⟨hd, fun id ver sz ro es hi => ?_, h.inj⟩
  rcases h.row id ver sz ro es hi with h1 | ⟨g, m, cur, T, lo, hi', b1, b2, b3, b4, b5, b6, b7, b8, b9⟩
  · exact .inl h1
  · exact .inr ⟨g, m, cur, T, lo, hi', b1, b2, b3, b4, b5, fun i cs j v x y => vrel_mono hD (b6 i cs j v x y), fun h => (qd_mono hD g (b7 h)).1, hD g b8, b9⟩
/-- a part of memory grows smaller by what no row or data lies in: blocks that are new, or no cells -/
theorem live_cells {D : Nat → Prop} {μ : Mu} {st : List Ob} {w : World} (hs : srel D μ st w) {g : Nat} (h : live μ st g) : ∃ cur T lo hi, w.heap[g]? = some (.cells cur T (lo, hi)) := by
  obtain ⟨id, ver, sz, es, m, h1, h2⟩ := h
  rcases hs.row id ver sz false es h1 with ⟨_, h3⟩ | ⟨g', m', cur, T, lo, hi, h3, h4, _⟩
  · rw [h3] at h2; cases h2
  · rw [h3] at h2
    obtain ⟨rfl, rfl⟩ := Prod.mk.inj (Option.some.inj h2)
    exact ⟨_, _, _, _, h4⟩
/-- marks of loops among deferred calls: nothing is deferred in their rounds -/
def Mk (D : Nat → Prop) (B : Nat) (w : World) : List Deferred → Prop
  | [] => True
  | d :: ds => (∃ r, d.target = .collected r ∧ B ≤ r ∧ ¬ D r ∧ w.heap[r]? = some (.deferred (some [])) ∧ ∀ d' ∈ ds, d'.target ≠ .collected r) ∧ Mk D B w ds
theorem Mk.keep {D D' : Nat → Prop} {B : Nat} {w w' : World} (hD : ∀ g, D' g → D g) (hk : ∀ r, ¬ D r → w.heap[r]? = some (.deferred (some [])) → w'.heap[r]? = some (.deferred (some []))) : ∀ {ds : List Deferred}, Mk D B w ds → Mk D' B w' ds
  | [], _ => trivial
  | d :: ds, h => by
    obtain ⟨⟨r, h1, h2, h3, h4, h5⟩, h6⟩ := h
    exact ⟨⟨r, h1, h2, fun k => h3 (hD r k), hk r h3 h4, h5⟩, h6.keep hD hk⟩
/-- a state, its frame's own deferred calls apart -/
structure RelM (D : Nat → Prop) (B : Nat) (μ : Mu) (s : S) (a : Act) (w : World) : Prop where
  rel : Rel D μ s { a with defers := [] } w
  mks : Mk D B w a.defers
theorem frx_mk {X D : Nat → Prop} {B : Nat} {μ μ' : Mu} {st st' : List Ob} {w w' : World} (hs : srel D μ st w) (hX : ∀ g, X g → w.heap[g]? ≠ some (.deferred (some []))) (h : FrX X μ st w μ' st' w') {ds : List Deferred} (hm : Mk D B w ds) : Mk D B w' ds :=
  hm.keep (fun _ h => h) fun r _ hr => by
    have hl : ¬ live μ st r := fun k => by obtain ⟨_, _, _, _, e⟩ := live_cells hs k; rw [hr] at e; cases e
    rw [(h.prot r (fun hx => hX r hx hr) ⟨row_lt hr, hl⟩).1]
    exact hr
end Go.Proofs.Ytiikndppckjmhaa.Am

/- The logic for ranges over functions: operations and codes in a frame of any kind. -/
namespace Go.Proofs.Ytiikndppckjmhaa.Am
set_option autoImplicit false
set_option linter.unusedVariables false
set_option linter.unusedSimpArgs false
section
variable {P : Program} {G : Gl} {own : Tmp → Bool} {D : Nat → Prop}
theorem opx_nd {o : Oper} {K : S → Prop} {s : S} (h : opx P G own o K s) : ∀ c, o.op ≠ .defer c := by
  intro c hc
  unfold opx at h
  rw [hc] at h
  simp [opA, nilA] at h
theorem put_defers (a : Act) (d : Option Tmp) (v : Value) : ({ (a.put d v) with defers := [] } : Act) = ({ a with defers := [] } : Act).put d v ∧ (a.put d v).defers = a.defers := by
  cases d <;> exact ⟨rfl, rfl⟩
theorem eval_defers (a : Act) : ({ a with defers := [] } : Act).eval = a.eval := rfl
theorem op_ro {ro : Option Nat} {n : Nat} {o : Oper} {K : S → Prop} {s : S} (h : opx P G own o K s) {μ : Mu} {a : Act} {w : World} (hg : GOk D G μ s.st w) (hr : Rel D μ s { a with defers := [] } w) {next : Act → World → Prop} {Q : Exit → Act → World → Prop}
    (hnext : ∀ s' μ' a' w', K s' → GOk D G μ' s'.st w' → Rel D μ' s' { a' with defers := [] } w' → a'.defers = a.defers → Fr μ s.st w μ' s'.st w' → Ev s.st.length μ s.st μ' s'.st → next a' w') : o.wpIn (Fro ro) n P a w next Q := by
  have h1 := opx_ok h (n := 0) (Nat.zero_le _) hg hr (Q := fun _ _ _ => False)
  refine ⟨fun f _ => trivial, ?_⟩
  rw [Oper.semAt_eq _ _ _ (opx_nd h)]
  unfold Oper.wp at h1
  rw [eval_defers] at h1
  generalize (execOp a.eval o).run P w = r at h1
  have fin : ∀ v w', (∃ s' μ', K s' ∧ GOk D G μ' s'.st w' ∧ Rel D μ' s' (({ a with defers := [] } : Act).put o.dst v) w' ∧ Fr μ s.st w μ' s'.st w' ∧ Ev s.st.length μ s.st μ' s'.st) → next (a.put o.dst v) w' := by
    rintro v w' ⟨s', μ', k1, k2, k3, k4, k5⟩
    exact hnext s' μ' _ w' k1 k2 (by rw [(put_defers a o.dst v).1]; exact k3) (put_defers a o.dst v).2 k4 k5
  cases r with
  | ok x w1 =>
    cases x with
    | value v => exact fin v w1 h1
    | skip => exact fin _ w1 h1
    | enter f args =>
      refine ⟨fun h => Bool.noConfusion h, calls_ro (h1.mono fun e w2 he => ?_)⟩
      cases e with
      | returned v => exact fin v w2 he
      | panicked chain => exact he.elim
      | outgrown => obtain ⟨_, _, hx⟩ := he; exact hx.elim
    | row r args => exact ⟨fun h => Bool.noConfusion h, fun c cs _ => let ⟨v, w', r, s⟩ := h1 c cs; ⟨v, w', fin v w' r, stepsIn_wide.2 s⟩⟩
    | defer d =>
      obtain ⟨s', μ', k1, k2, k3, k4, k5⟩ := h1
      have := k3.dfr
      cases hd : o.dst <;> rw [hd] at this <;> simp [Act.put] at this
    | _ => exact h1.elim
  | halt e w1 =>
    cases e with
    | panic v => exact h1.elim
    | _ => exact h1.elim
/-- a smaller part of memory, alike below what was there -/
def Sub (D' D : Nat → Prop) (w : World) : Prop := (∀ g, D' g → D g) ∧ ∀ g, g < w.heap.size → D g → D' g
theorem Sub.refl (D : Nat → Prop) (w : World) : Sub D D w := ⟨fun _ h => h, fun _ _ h => h⟩
theorem Sub.trans {D D' D'' : Nat → Prop} {w w' : World} (h : Sub D' D w) (k : Sub D'' D' w') (hs : w.heap.size ≤ w'.heap.size) : Sub D'' D w := ⟨fun g hg => h.1 g (k.1 g hg), fun g hg hd => k.2 g (Nat.lt_of_lt_of_le hg hs) (h.2 g hg hd)⟩
theorem FrX.qd' {X D D' : Nat → Prop} {μ μ' : Mu} {st st' : List Ob} {w w' : World} (h : FrX X μ st w μ' st' w') (hD : ∀ g, X g → ¬ D g) (hs : Sub D' D w) : ∀ g, Am.qd D μ st w g → Am.qd D' μ' st' w' g ∧ w'.heap[g]? = w.heap[g]? := fun g hg => by
  obtain ⟨h1, h2⟩ := h.qd (D := D) (D' := D) hD g hg
  exact ⟨⟨h1.1, hs.2 g hg.1.1 hg.2⟩, h2⟩
theorem Rel.putX {D' : Nat → Prop} {μ μ' : Mu} {s : S} {a : Act} {w w' : World} (h : Rel D μ s a w) {st' : List Ob} {v : V} {y : Value} (hv : vrel μ' st' (Am.qd D' μ' st' w') w' v y) (hs : srel D' μ' st' w') (hq : ∀ g, Am.qd D μ s.st w g → Am.qd D' μ' st' w' g ∧ w'.heap[g]? = w.heap[g]?) (he : Ev s.st.length μ s.st μ' st')
    (dst : Option Tmp) : Rel D' μ' (s.put dst v st') (a.put dst y) w' := by
  have hk : ∀ x y, vrel μ s.st (Am.qd D μ s.st w) w x y → vrel μ' st' (Am.qd D' μ' st' w') w' x y := fun x y hx => hx.keep he hq
  cases dst with
  | none => exact ⟨h.dfr, ⟨h.sl.1, fun j v hj => hk _ _ (h.sl.2 j v hj)⟩, hs⟩
  | some d =>
    refine ⟨h.dfr, ⟨by simp [S.put, Act.put, h.sl.1], fun j u hj => ?_⟩, hs⟩
    simp only [S.put] at hj
    simp only [Act.put]
    by_cases hjd : d = j
    · subst hjd
      have hl := lt_of_get? hj
      simp only [List.length_set] at hl
      rw [getElem?_set_eq' hl] at hj
      cases hj
      have : d < a.tmps.size := by rw [h.sl.1]; exact hl
      show vrel μ' st' (Am.qd D' μ' st' w') w' _ _
      simpa [Array.getD_eq_getD_getElem?, this] using hv
    · rw [getElem?_set_ne' hjd] at hj
      have := hk _ _ (h.sl.2 j u hj)
      show vrel μ' st' (Am.qd D' μ' st' w') w' _ _
      simpa [Array.getD_eq_getD_getElem?, Array.getElem?_setIfInBounds, hjd] using this

theorem live_D {μ : Mu} {st : List Ob} {w : World} (hs : srel D μ st w) {g : Nat} (h : live μ st g) : D g := by
  obtain ⟨id, ver, sz, es, m, h1, h2⟩ := h
  rcases hs.row id ver sz false es h1 with ⟨_, h3⟩ | ⟨g', m', cur, T, lo, hi, h3, _, _, _, _, _, _, h4, _⟩
  · rw [h3] at h2; cases h2
  · rw [h3] at h2
    obtain ⟨rfl, rfl⟩ := Prod.mk.inj (Option.some.inj h2)
    exact h4
/-- what stands beside a store: records that may change, what holds of them by the pending jump -/
structure Cx where
  m : Nat
  X : Nat → Prop
  J : Option Code → (Nat → Prop) → Mu → List Ob → World → Prop
/-- what holds beside a store stays, when a store changes -/
structure Cx.Good (cx : Cx) : Prop where
  keep : ∀ p D μ st w μ' st' w', (∀ g, cx.X g → ¬ D g) → srel D μ st w → cx.J p D μ st w → FrX cx.X μ st w μ' st' w' → (∀ g, cx.X g → w'.heap[g]? = w.heap[g]?) → Ev cx.m μ st μ' st' → cx.J p D μ' st' w'
  lt : ∀ p D μ st w, cx.J p D μ st w → ∀ g, cx.X g → g < w.heap.size
  dfb : ∀ p D μ st w, cx.J p D μ st w → ∀ g, cx.X g → w.heap[g]? ≠ some (.deferred (some []))
def PostZ (cx : Cx) (B : Nat) (D : Nat → Prop) (n : Nat) (μ : Mu) (st : List Ob) (w : World) (Φ : S → Option Code → Prop) (a' : Act) (w' : World) : Prop :=
  ∃ s' μ' p' D', Sub D' D w ∧ Φ s' p' ∧ RelM D' B μ' s' a' w' ∧ cx.J p' D' μ' s'.st w' ∧ FrX cx.X μ st w μ' s'.st w' ∧ Ev n μ st μ' s'.st
theorem PostZ.trans {cx : Cx} {B n : Nat} {D D1 : Nat → Prop} {μ μ1 : Mu} {st st1 : List Ob} {w w1 : World} {Φ : S → Option Code → Prop} {a' : Act} {w' : World} (hs : Sub D1 D w) (hf : FrX cx.X μ st w μ1 st1 w1) (he : Ev n μ st μ1 st1) (h : PostZ cx B D1 n μ1 st1 w1 Φ a' w') : PostZ cx B D n μ st w Φ a' w' := by
  obtain ⟨s', μ', p', D', h1, h2, h3, h4, h5, h6⟩ := h
  exact ⟨s', μ', p', D', hs.trans h1 hf.size, h2, h3, h4, hf.trans h5, he.trans h6⟩
/-- a code in a frame of any kind, with records beside the store -/
structure Z (P : Program) (G : Gl) (ro : Option Nat) (cx : Cx) (n : Nat) (c : Code) (Q : Exit → S → Option Code → Prop) (s : S) (p : Option Code) : Prop where
  out : ∀ D μ a w B, (∀ g, cx.X g → ¬ D g) → B ≤ w.heap.size → n ≤ s.st.length → RelM D B μ s a w → cx.J p D μ s.st w → c.wpIn (Fro ro) 0 P (fun e a' w' => PostZ cx B D n μ s.st w (Q e) a' w') a w
abbrev Yt := Nat → List V → List Ob → (Bool → List Ob → Option Code → Prop) → Prop
/-- a call of yield is what it is said to be -/
def YOK (P : Program) (ro : Option Nat) (cx : Cx) (Y : Yt) : Prop := ∀ l args st Kb, Y l args st Kb → ∀ D μ w args', (∀ g, cx.X g → ¬ D g) → vrels μ st (Am.qd D μ st w) w args args' → srel D μ st w → cx.J none D μ st w →
  ∃ fn tmps assign body, (Instr.yield l args').run P w = .ok (.round l fn tmps assign body) w ∧ RoundIn (Fro ro) 0 P l fn tmps assign body w (fun e w' => ∃ b st' μ' p' D', e = .returned (.bool b) ∧ Sub D' D w ∧ Kb b st' p' ∧ srel D' μ' st' w' ∧ cx.J p' D' μ' st' w' ∧ FrX cx.X μ st w μ' st' w' ∧ Ev st.length μ st μ' st')
def opz (P : Program) (G : Gl) (own : Tmp → Bool) (Y : Yt) (o : Oper) (K : S → Option Code → Prop) (s : S) (p : Option Code) : Prop :=
  match o.op with
  | .call ⟨.value f, args, _⟩ => match ev G s.sl f with
    | .fn (.yield l) [] [] => match p with
      | none => Y l (args.toList.map (ev G s.sl)) s.st (fun b st' p' => fS (s.put o.dst (.i (.bool b)) st') fun s => K s p')
      | some _ => False
    | _ => opx P G own o (fun s => K s p) s
  | _ => opx P G own o (fun s => K s p) s
theorem opz_ok {ro : Option Nat} {cx : Cx} (hcx : cx.Good) {Y : Yt} (hY : YOK P ro cx Y) (hG : ∀ g, G g = none) {B : Nat} {o : Oper} {K : S → Option Code → Prop} {s : S} {p : Option Code} (h : opz P G own Y o K s p) {μ : Mu} {a : Act} {w : World} (hm : cx.m ≤ s.st.length) (hX : ∀ g, cx.X g → ¬ D g) (hr : RelM D B μ s a w) (hJ : cx.J p D μ s.st w)
    {next : Act → World → Prop} {Q : Exit → Act → World → Prop} (hnext : ∀ s' μ' p' D' a' w', Sub D' D w → K s' p' → RelM D' B μ' s' a' w' → cx.J p' D' μ' s'.st w' → FrX cx.X μ s.st w μ' s'.st w' → Ev s.st.length μ s.st μ' s'.st → next a' w') : o.wpIn (Fro ro) 0 P a w next Q := by
  have gok : ∀ D μ st w, GOk D G μ st w := fun D μ st w g cs hg => by rw [hG] at hg; cases hg
  have plain : opx P G own o (fun s => K s p) s → o.wpIn (Fro ro) 0 P a w next Q := fun hx =>
    op_ro hx (gok D μ s.st w) hr.rel fun s' μ' a' w' k1 k2 k3 k4 k5 k6 =>
      hnext s' μ' p D a' w' (Sub.refl D w) k1 ⟨k3, by rw [k4]; exact frx_mk hr.rel.st (hcx.dfb p D μ s.st w hJ) (Fr.x (X := cx.X) k5) hr.mks⟩ (hcx.keep p D μ s.st w μ' s'.st w' hX hr.rel.st hJ k5.x (fun g hg => (k5.prot g ⟨hcx.lt p D μ s.st w hJ g hg, fun hl => hX g hg (live_D hr.rel.st hl)⟩).1) (k6.mono hm)) k5.x k6
  unfold opz at h
  split at h
  · rename_i f args ats ho
    split at h
    · rename_i l hf
      split at h
      · have hfv := ev_ok (gok D μ s.st w) hr.rel f
        rw [hf] at hfv
        generalize hfy : ({ a with defers := [] } : Act).eval f = fy at hfv
        cases hfv with
        | fn _ _ _ fs' cs' h1 h2 h3 h4 =>
        have e1 : fs' = #[] := Array.eq_empty_of_size_eq_zero h1
        have e2 : cs' = #[] := Array.eq_empty_of_size_eq_zero h2
        subst e1 e2
        have hargs := args_ok (ev_ok (gok D μ s.st w) hr.rel) args
        obtain ⟨fn, tmps, assign, body, hy, hround⟩ := hY _ _ _ _ h D μ w _ hX hargs hr.rel.st hJ
        refine ⟨fun f _ => trivial, ?_⟩
        rw [Oper.semAt_eq _ _ _ (fun c hc => by rw [ho] at hc; cases hc)]
        have hrun : (execOp a.eval o).run P w = .ok (.round l fn tmps assign body) w := by
          unfold execOp
          rw [ho]
          have hfy' : a.eval f = .func (.yield l) #[] #[] := hfy
          simp only [resolve, hfy', Deferred.ofValue, Sem.run_bind, Sem.run_pure, Result.andThen_ok, invoke]
          rw [eval_defers] at hy
          simpa using hy
        rw [hrun]
        refine ⟨fun h => Bool.noConfusion h, hround.mono ?_⟩
        rintro e w' ⟨b, st', μ', p', D', rfl, k1, k2, k3, k4, k5, k6⟩
        rw [fS_eq] at k2
        have hrel : Rel D' μ' (s.put o.dst (.i (.bool b)) st') (({ a with defers := [] } : Act).put o.dst (.bool b)) w' := by
          exact hr.rel.putX (.i (.bool b)) k3 (k5.qd' hX k1) k6 o.dst
        refine hnext _ μ' p' D' _ w' k1 k2 ⟨by rw [(put_defers a o.dst _).1]; exact hrel, by
          rw [(put_defers a o.dst _).2]
          exact (frx_mk hr.rel.st (hcx.dfb none D μ s.st w hJ) k5 hr.mks).keep k1.1 fun r _ h => h⟩ (by simpa [S.put] using k4) (by simpa [S.put] using k5) (by simpa [S.put] using k6)
      · exact h.elim
    · exact plain h
  · exact plain h
end
end Go.Proofs.Ytiikndppckjmhaa.Am

/- The logic for ranges over functions: codes in a frame of any kind. -/
namespace Go.Proofs.Ytiikndppckjmhaa.Am
set_option autoImplicit false
set_option linter.unusedVariables false
set_option linter.unusedSimpArgs false
def opsz (P : Program) (G : Gl) (own : Tmp → Bool) (Y : Yt) (ops : Array Oper) : List Oper → (S → Option Code → Prop) → S → Option Code → Prop
  | [], K, s, p => K s p
  | o :: rest, K, s, p => match o.guard with
    | none => opz P G own Y o (opsz P G own Y ops rest K) s p
    | some (j, want) => match guardA ops s.sl j with
      | some (d, some b) => Br b
          (fS (s.told d true) fun s => match want with | true => opz P G own Y o (opsz P G own Y ops rest K) s p | false => fS (s.put o.dst (.tup []) s.st) fun s => opsz P G own Y ops rest K s p)
          (fS (s.told d false) fun s => match want with | true => fS (s.put o.dst (.tup []) s.st) (fun s => opsz P G own Y ops rest K s p) | false => opz P G own Y o (opsz P G own Y ops rest K) s p)
      | some (_, none) => fS (s.put o.dst (.tup []) s.st) fun s => opsz P G own Y ops rest K s p
      | none => False
/-- the weakest state that a code needs -/
def zx (P : Program) (G : Gl) (own : Tmp → Bool) (Y : Yt) (ro : Option Nat) (cx : Cx) (n : Nat) : Code → (Exit → S → Option Code → Prop) → S → Option Code → Prop
  | .skip, Q, s, p => Q .normal s p
  | .label _, Q, s, p => Q .normal s p
  | .seq a b, Q, s, p => zx P G own Y ro cx n a (fun e s' p' => match e with | .normal => zx P G own Y ro cx n b Q s' p' | e => Q e s' p') s p
  | .cond c a b, Q, s, p => match ev G s.sl c with
    | .i (.bool t) => Br t (zx P G own Y ro cx n a Q s p) (zx P G own Y ro cx n b Q s p)
    | _ => False
  | .block id c, Q, s, p => zx P G own Y ro cx n c (fun e s' p' => match e with | .exit id' => if id' = id then Q .normal s' p' else Q (.exit id') s' p' | e => Q e s' p') s p
  | .loop c, Q, s, p => Z P G ro cx n (.loop c) Q s p
  | .exit id, Q, s, p => Q (.exit id) s p
  | .ret, Q, s, p => Q .ret s p
  | .region id ops false, Q, s, p => opsz P G own Y ops ops.toList (Q .normal) s p
  | .rangeFunc g ps as c, Q, s, p => Z P G ro cx n (.rangeFunc g ps as c) Q s p
  | _, _, _, _ => False
section
variable {P : Program} {G : Gl} {own : Tmp → Bool} {ro : Option Nat} {cx : Cx} {Y : Yt} {B n : Nat}
theorem opsz_ok (hcx : cx.Good) (hY : YOK P ro cx Y) (hG : ∀ g, G g = none) {ops : Array Oper} {K : S → Option Code → Prop} {Q' : Exit → S → Option Code → Prop} (hQ : ∀ s p, K s p → Q' .normal s p) (hm : cx.m ≤ n) :
    ∀ (l : List Oper) (i : Nat) (s : S) (p : Option Code), ops.toList.drop i = l → opsz P G own Y ops l K s p → ∀ (D : Nat → Prop) (μ : Mu) (a : Act) (w : World), (∀ g, cx.X g → ¬ D g) → n ≤ s.st.length → RelM D B μ s a w → cx.J p D μ s.st w →
    ∀ (D0 : Nat → Prop) (μ0 : Mu) (st0 : List Ob) (w0 : World), Sub D D0 w0 → FrX cx.X μ0 st0 w0 μ s.st w → Ev n μ0 st0 μ s.st → wpOpsIn (Fro ro) 0 P ops (fun e a' w' => PostZ cx B D0 n μ0 st0 w0 (Q' e) a' w') (List.range' i l.length) a w
  | [], i, s, p, hl, h, D, μ, a, w, hX, hn, hr, hJ, D0, μ0, st0, w0, hs, hf, he => ⟨s, μ, p, D, hs, hQ _ _ h, hr, hJ, hf, he⟩
  | o :: rest, i, s, p, hl, h, D, μ, a, w, hX, hn, hr, hJ, D0, μ0, st0, w0, hs, hf, he => by
    have hi : ops[i]? = some o := by
      have : ops.toList[i]? = some o := by
        have := congrArg (·[0]?) hl
        simpa [List.getElem?_drop] using this
      simpa using this
    have hl' : ops.toList.drop (i + 1) = rest := by
      have := congrArg (List.drop 1) hl
      simpa [List.drop_drop, Nat.add_comm] using this
    rw [List.length_cons, List.range'_succ]
    simp only [wpOpsIn, hi]
    have doit : opz P G own Y o (opsz P G own Y ops rest K) s p → o.wpIn (Fro ro) 0 P a w (wpOpsIn (Fro ro) 0 P ops (fun e a' w' => PostZ cx B D0 n μ0 st0 w0 (Q' e) a' w') (List.range' (i + 1) rest.length)) (fun e a' w' => PostZ cx B D0 n μ0 st0 w0 (Q' e) a' w') := fun hx =>
      opz_ok hcx hY hG hx (Nat.le_trans hm hn) hX hr hJ fun s' μ' p' D' a' w' k1 k2 k3 k4 k5 k6 =>
        opsz_ok hcx hY hG hQ hm rest (i + 1) s' p' hl' k2 D' μ' a' w' (fun g hg hd => hX g hg (k1.1 g hd)) (Nat.le_trans hn k6.1) k3 k4 D0 μ0 st0 w0 (hs.trans k1 hf.size) (hf.trans k5) (he.trans (k6.mono hn))
    have skip : opsz P G own Y ops rest K (s.put o.dst (.tup []) s.st) p → wpOpsIn (Fro ro) 0 P ops (fun e a' w' => PostZ cx B D0 n μ0 st0 w0 (Q' e) a' w') (List.range' (i + 1) rest.length) (a.put o.dst Go.undef) w := fun hx =>
      opsz_ok hcx hY hG hQ hm rest (i + 1) _ p hl' hx D μ _ w hX (by simpa [S.put] using hn) ⟨by rw [(put_defers a o.dst _).1]; exact hr.rel.skip o.dst, by rw [(put_defers a o.dst _).2]; exact hr.mks⟩ (by simpa [S.put] using hJ) D0 μ0 st0 w0 hs (by simpa [S.put] using hf) (by simpa [S.put] using he)
    simp only [opsz] at h
    cases hgd : o.guard with
    | none =>
      simp only [hgd] at h
      rw [if_pos (by simp [Region.wanted, hgd])]
      exact doit h
    | some jw =>
      obtain ⟨j, want⟩ := jw
      simp only [hgd] at h
      split at h
      · rename_i d b hb
        obtain ⟨hy, ht⟩ := yielded_eq hr.rel hb
        have hy : yielded ops a.tmps j = some b := hy
        have hx : if b = want then opz P G own Y o (opsz P G own Y ops rest K) s p else opsz P G own Y ops rest K (s.put o.dst (.tup []) s.st) p := by
          cases b with
          | true =>
            have := h.yes rfl
            rw [fS_eq, ht true rfl] at this
            cases want with
            | true => simpa using this
            | false => simpa [fS_eq] using this
          | false =>
            have := h.no rfl
            rw [fS_eq, ht false rfl] at this
            cases want with
            | true => simpa [fS_eq] using this
            | false => simpa using this
        by_cases hbw : b = want
        · rw [if_pos (by simp [Region.wanted, hgd, hy, hbw])]
          rw [if_pos hbw] at hx
          exact doit hx
        · rw [if_neg (by simp [Region.wanted, hgd, hy, hbw])]
          rw [if_neg hbw] at hx
          exact ⟨fun _ _ => trivial, skip hx⟩
      · rename_i d hb
        obtain ⟨hy, _⟩ := yielded_eq hr.rel hb
        have hy : yielded ops a.tmps j = none := hy
        rw [if_neg (by simp [Region.wanted, hgd, hy])]
        rw [fS_eq] at h
        exact ⟨fun _ _ => trivial, skip h⟩
      · exact h.elim
theorem postz_here {D : Nat → Prop} {μ : Mu} {s : S} {a : Act} {w : World} {p : Option Code} {Φ : S → Option Code → Prop} (h : Φ s p) (hn : n ≤ s.st.length) (hr : RelM D B μ s a w) (hJ : cx.J p D μ s.st w) : PostZ cx B D n μ s.st w Φ a w :=
  ⟨s, μ, p, D, Sub.refl D w, h, hr, hJ, FrX.refl _ _ _ _, Ev.refl hn⟩
theorem PostZ.mono {D : Nat → Prop} {μ : Mu} {st : List Ob} {a : Act} {w w' : World} {Φ Ψ : S → Option Code → Prop} (h : PostZ cx B D n μ st w Φ a w') (hk : ∀ s p, Φ s p → Ψ s p) : PostZ cx B D n μ st w Ψ a w' := by
  obtain ⟨s', μ', p', D', h1, h2, h3⟩ := h
  exact ⟨s', μ', p', D', h1, hk _ _ h2, h3⟩
theorem zx_ok (hcx : cx.Good) (hY : YOK P ro cx Y) (hG : ∀ g, G g = none) (hm : cx.m ≤ n) : ∀ (c : Code) (Q : Exit → S → Option Code → Prop) (s : S) (p : Option Code), zx P G own Y ro cx n c Q s p → Z P G ro cx n c Q s p := by
  intro c
  induction c with
  | skip => intro Q s p h; exact ⟨fun D μ a w B hX hB hn hr hJ => wpIn_skip (postz_here h hn hr hJ)⟩
  | label l => intro Q s p h; exact ⟨fun D μ a w B hX hB hn hr hJ => wpIn_label (postz_here h hn hr hJ)⟩
  | seq x y ihx ihy =>
    intro Q s p h
    refine ⟨fun D μ a w B hX hB hn hr hJ => wpIn_seq (wpIn_mono ((ihx _ s p h).out D μ a w B hX hB hn hr hJ) fun e a' w' hp => ?_)⟩
    obtain ⟨s', μ', p', D', h1, h2, h3, h4, h5, h6⟩ := hp
    cases e with
    | normal => exact wpIn_mono ((ihy _ s' p' h2).out D' μ' a' w' B (fun g hg hd => hX g hg (h1.1 g hd)) (Nat.le_trans hB h5.size) h6.1 h3 h4) fun e a'' w'' hp => PostZ.trans h1 h5 h6 hp
    | _ => exact ⟨s', μ', p', D', h1, h2, h3, h4, h5, h6⟩
  | cond x c1 c2 ih1 ih2 =>
    intro Q s p h
    refine ⟨fun D μ a w B hX hB hn hr hJ => ?_⟩
    unfold zx at h
    split at h
    · rename_i t ht
      have hv := ev_ok (G := G) (fun g cs hg => by rw [hG] at hg; cases hg) hr.rel x
      rw [ht] at hv
      have hx : a.eval x = .bool t := by
        have hx : ({ a with defers := [] } : Act).eval x = .bool t := by
          generalize ({ a with defers := [] } : Act).eval x = y at hv
          cases hv with | i h => cases h; rfl
        exact hx
      cases t with
      | true => exact wpIn_cond_true hx ((ih1 _ s p (h.yes rfl)).out D μ a w B hX hB hn hr hJ)
      | false => exact wpIn_cond_false hx ((ih2 _ s p (h.no rfl)).out D μ a w B hX hB hn hr hJ)
    · exact h.elim
  | block id c ih =>
    intro Q s p h
    refine ⟨fun D μ a w B hX hB hn hr hJ => wpIn_block (wpIn_mono ((ih _ s p h).out D μ a w B hX hB hn hr hJ) fun e a' w' hp => ?_)⟩
    obtain ⟨s', μ', p', D', h1, h2, h3, h4, h5, h6⟩ := hp
    cases e with
    | exit id' =>
      simp only [Exit.inBlock]
      simp only at h2
      split
      · rename_i hid; rw [if_pos hid] at h2; exact ⟨s', μ', p', D', h1, h2, h3, h4, h5, h6⟩
      · rename_i hid; rw [if_neg hid] at h2; exact ⟨s', μ', p', D', h1, h2, h3, h4, h5, h6⟩
    | _ => exact ⟨s', μ', p', D', h1, h2, h3, h4, h5, h6⟩
  | loop c ih => intro Q s p h; exact h
  | rangeFunc => intro Q s p h; exact h
  | exit id => intro Q s p h; exact ⟨fun D μ a w B hX hB hn hr hJ => wpIn_exit (postz_here h hn hr hJ)⟩
  | scope c ih => intro Q s p h; exact h.elim
  | goto l => intro Q s p h; exact h.elim
  | ret => intro Q s p h; exact ⟨fun D μ a w B hX hB hn hr hJ => wpIn_ret (postz_here h hn hr hJ)⟩
  | refuse why => intro Q s p h; exact h.elim
  | region id ops d =>
    intro Q s p h
    cases d with
    | true => exact h.elim
    | false =>
      refine ⟨fun D μ a w B hX hB hn hr hJ => wpIn_region ?_⟩
      rw [List.range_eq_range']
      have hl : ops.size = ops.toList.length := by simp
      rw [hl]
      exact opsz_ok hcx hY hG (fun s p h => h) hm ops.toList 0 s p rfl h D μ a w hX hn hr hJ D μ s.st w (Sub.refl D w) (FrX.refl _ _ _ _) (Ev.refl hn)
end
end Go.Proofs.Ytiikndppckjmhaa.Am

/- The logic for ranges over functions: iterators and their rounds. -/
namespace Go.Proofs.Ytiikndppckjmhaa.Am
set_option autoImplicit false
set_option linter.unusedVariables false
set_option linter.unusedSimpArgs false
section
variable {P : Program} {G : Gl} {D : Nat → Prop}
theorem qd_putObj {μ : Mu} {st : List Ob} {w : World} {l : Nat} {o : Obj} (hl : ¬ D l) : ∀ g, qd D μ st w g → qd D μ st (w.putObj l o) g ∧ (w.putObj l o).heap[g]? = w.heap[g]? := fun g hg =>
  ⟨⟨⟨by rw [World.putObj_size]; exact hg.1.1, hg.1.2⟩, hg.2⟩, World.putObj_heap_other (k := g) (fun e => hl (by rw [← e]; exact hg.2))⟩
theorem srel_putObj {μ : Mu} {st : List Ob} {w : World} {l : Nat} {o : Obj} (hl : ¬ D l) (h : srel D μ st w) : srel D μ st (w.putObj l o) := by
  refine ⟨fun g hg => h.dom g (by rw [World.putObj_size] at hg; exact hg), fun id ver sz ro es hi => ?_, h.inj⟩
  rcases h.row id ver sz ro es hi with h1 | ⟨g, m, cur, T, lo, hi', b1, b2, b3, b4, b5, b6, b7, b8, b9⟩
  · exact .inl h1
  · exact .inr ⟨g, m, cur, T, lo, hi', b1, (World.putObj_heap_other (k := g) (fun e => hl (by rw [← e]; exact b8))).trans b2, b3, b4, b5, fun i cs j v x y => (b6 i cs j v x y).keep (Ev.refl (Nat.le_refl _)) (qd_putObj hl), fun h => (qd_putObj hl g (b7 h)).1, b8, b9⟩
theorem vrels_keep {D' : Nat → Prop} {μ μ' : Mu} {st st' : List Ob} {w w' : World} (he : Ev st.length μ st μ' st') (hq : ∀ g, qd D μ st w g → qd D' μ' st' w' g ∧ w'.heap[g]? = w.heap[g]?) {vs : List V} {ys : Array Value} (h : vrels μ st (qd D μ st w) w vs ys) : vrels μ' st' (qd D' μ' st' w') w' vs ys :=
  ⟨h.1, fun j v hj => (h.2 j v hj).keep he hq⟩
theorem rel_putObj {μ : Mu} {s : S} {a : Act} {w : World} {l : Nat} {o : Obj} (hl : ¬ D l) (h : Rel D μ s a w) : Rel D μ s a (w.putObj l o) :=
  ⟨h.dfr, vrels_keep (Ev.refl (Nat.le_refl _)) (qd_putObj hl) h.sl, srel_putObj hl h.st⟩
theorem frx_putObj {X : Nat → Prop} {μ : Mu} {st : List Ob} {w : World} {l : Nat} {o : Obj} (hx : X l) : FrX X μ st w μ st (w.putObj l o) :=
  ⟨rfl, rfl, rfl, Nat.le_of_eq World.putObj_size.symm, fun g hg hp => ⟨World.putObj_heap_other (k := g) (fun e => hg (by rw [e]; exact hx)), hp.2⟩⟩
theorem FrX.new {X : Nat → Prop} {μ0 μ : Mu} {st0 st : List Ob} {w0 w : World} {r : Nat} {o : Obj} (h : FrX X μ0 st0 w0 μ st w) (hr : w0.heap.size ≤ r) : FrX X μ0 st0 w0 μ st (w.putObj r o) :=
  ⟨h.os, h.tape, h.output, by rw [World.putObj_size]; exact h.size, fun g hg hp => ⟨(World.putObj_heap_other (fun e => by have := hp.1; omega)).trans (h.prot g hg hp).1, (h.prot g hg hp).2⟩⟩
theorem Mk.put {B : Nat} {w : World} {r : Nat} {o : Obj} : ∀ {ds : List Deferred}, (∀ d' ∈ ds, d'.target ≠ .collected r) → Mk D B w ds → Mk D B (w.putObj r o) ds
  | [], _, _ => trivial
  | d :: ds, hn, ⟨⟨r', h1, h2, h3, h4, h5⟩, h6⟩ =>
    ⟨⟨r', h1, h2, h3, by rw [World.putObj_heap_other (fun e => hn d List.mem_cons_self (by rw [h1, e]))]; exact h4, h5⟩, h6.put fun d' hd => hn d' (List.mem_cons_of_mem _ hd)⟩
theorem leaves_ok {ro : Option Nat} {n B : Nat} {fn : Func} {tmps : Array Value} {R : Ending → World → Prop} {T : World → Prop} (hT : ∀ w r o, T w → B ≤ r → ¬ D r → T (w.putObj r o)) (hfin : ∀ w, T w → ∃ v, (results fn tmps).run P w = .ok v w ∧ R (.returned v) w) :
    ∀ (ds : List Deferred) (w : World), T w → Mk D B w ds → LeavesInM (Fro ro) n P fn tmps R ds .returning w
  | [], w, ht, _ => hfin w ht
  | d :: ds, w, ht, ⟨⟨r, h1, h2, h3, h4, h5⟩, h6⟩ => ⟨by simp, .inl ⟨r, _, h1, run_takeDeferred h4, leaves_ok hT hfin ds _ (hT w r _ ht h2 h3) (h6.put h5)⟩⟩
/-- a loop's record, by the pending jump -/
def recP (rec : Loop) (p : Option Code) : Loop := { rec with state := if p.isNone then .ready else .done, pending := p }
def ItJ (l m : Nat) (rec : Loop) (outSl : List V) : Option Code → (Nat → Prop) → Mu → List Ob → World → Prop := fun p D μ st w =>
  ¬ D l ∧ w.heap[l]? = some (.loop (recP rec p)) ∧ m ≤ st.length ∧ vrels μ (st.take m) (qd D μ st w) w outSl rec.tmps
def cxIt (l m : Nat) (rec : Loop) (outSl : List V) : Cx := ⟨m, fun g => g = l, ItJ l m rec outSl⟩
theorem ev_take {m : Nat} {μ μ' : Mu} {st st' : List Ob} (h : Ev m μ st μ' st') (hm : m ≤ st.length) : Ev (st.take m).length μ (st.take m) μ' (st'.take m) := by
  have hl : (st.take m).length = m := by simp; omega
  have hl' : (st'.take m).length = m := by have := h.1; simp; omega
  refine ⟨by rw [hl, hl']; exact Nat.le_refl _, fun id hid ver sz ro es hi => ?_⟩
  rw [hl] at hid
  rw [List.getElem?_take, if_pos hid] at hi
  obtain ⟨v, r, e, h1, h2⟩ := h.2 id hid ver sz ro es hi
  exact ⟨v, r, e, by rw [List.getElem?_take, if_pos hid]; exact h1, h2⟩
theorem take_keep {D' : Nat → Prop} {m : Nat} {μ μ' : Mu} {st st' : List Ob} {w w' : World} (hm : m ≤ st.length) (he : Ev m μ st μ' st') (hq : ∀ g, qd D μ st w g → qd D' μ' st' w' g ∧ w'.heap[g]? = w.heap[g]?) {vs : List V} {ys : Array Value} (h : vrels μ (st.take m) (qd D μ st w) w vs ys) : vrels μ' (st'.take m) (qd D' μ' st' w') w' vs ys :=
  ⟨h.1, fun j v hj => (h.2 j v hj).keep (ev_take he hm) hq⟩
theorem take_full {m : Nat} {μ : Mu} {st : List Ob} {Q : Nat → Prop} {w : World} (hm : m ≤ st.length) {vs : List V} {ys : Array Value} (h : vrels μ (st.take m) Q w vs ys) : vrels μ st Q w vs ys := by
  have hl : (st.take m).length = m := by simp; omega
  refine ⟨h.1, fun j v hj => (h.2 j v hj).keep ⟨by rw [hl]; exact hm, fun id hid ver sz ro es hi => ?_⟩ (fun g hg => ⟨hg, rfl⟩)⟩
  rw [hl] at hid
  exact ⟨ver, ro, es, by rw [List.getElem?_take, if_pos hid]; exact hi, Nat.le_refl _, fun h => h, fun _ => ⟨rfl, rfl⟩⟩
theorem cxIt_good (l m : Nat) (rec : Loop) (outSl : List V) : (cxIt l m rec outSl).Good where
  keep := by
    rintro p D μ st w μ' st' w' hX hs ⟨h1, h2, h3, h4⟩ hf hx he
    exact ⟨h1, (hx l rfl).trans h2, he.1, take_keep h3 he (hf.qd (D' := D) hX) h4⟩
  lt := by
    rintro p D μ st w ⟨h1, h2, h3, h4⟩ g rfl
    exact row_lt h2
  dfb := by
    rintro p D μ st w ⟨h1, h2, h3, h4⟩ g rfl h
    rw [h2] at h; cases h
def cxR (l : Nat) (o : Obj) : Cx := ⟨0, fun g => g = l, fun _ D _ _ w => ¬ D l ∧ w.heap[l]? = some o⟩
theorem cxR_good (l : Nat) (rec : Loop) : (cxR l (.loop rec)).Good where
  keep := by
    rintro p D μ st w μ' st' w' hX hs ⟨h1, h2⟩ hf hx he
    exact ⟨h1, (hx l rfl).trans h2⟩
  lt := by
    rintro p D μ st w ⟨h1, h2⟩ g rfl
    exact row_lt h2
  dfb := by
    rintro p D μ st w ⟨h1, h2⟩ g rfl h
    rw [h2] at h; cases h
end
end Go.Proofs.Ytiikndppckjmhaa.Am

/- The logic for ranges over functions: loops; what a round is; an iterator's contract out of its body. -/
namespace Go.Proofs.Ytiikndppckjmhaa.Am
set_option autoImplicit false
set_option linter.unusedVariables false
set_option linter.unusedSimpArgs false
section
variable {P : Program} {G : Gl} {ro : Option Nat} {cx : Cx} {n : Nat}
theorem RelM.le {D : Nat → Prop} {B : Nat} {μ : Mu} {s s' : S} {a : Act} {w : World} (h : Le n s s') (hn : n ≤ s.st.length) (hr : RelM D B μ s a w) : ∃ μ', RelM D B μ' s' a w ∧ Fr μ s.st w μ' s'.st w ∧ Ev n μ s.st μ' s'.st := by
  obtain ⟨μ', r1, f1, e1⟩ := h D μ _ w hn hr.rel
  exact ⟨μ', ⟨r1, hr.mks⟩, f1, e1⟩
theorem Cx.Good.le (hcx : cx.Good) (hm : cx.m ≤ n) {p : Option Code} {D : Nat → Prop} {μ μ' : Mu} {st st' : List Ob} {w : World} (hX : ∀ g, cx.X g → ¬ D g) (hs : srel D μ st w) (hJ : cx.J p D μ st w) (hf : Fr μ st w μ' st' w) (he : Ev n μ st μ' st') : cx.J p D μ' st' w :=
  hcx.keep p D μ st w μ' st' w hX hs hJ hf.x (fun _ _ => rfl) (he.mono hm)
/-- a state that says less -/
theorem Z.le (hcx : cx.Good) (hm : cx.m ≤ n) {c : Code} {Q : Exit → S → Option Code → Prop} {s s' : S} {p : Option Code} (h : Le n s s') (k : Z P G ro cx n c Q s' p) : Z P G ro cx n c Q s p := by
  refine ⟨fun D μ a w B hX hB hn hr hJ => ?_⟩
  obtain ⟨μ', r1, f1, e1⟩ := hr.le h hn
  exact wpIn_mono (k.out D μ' a w B hX hB e1.1 r1 (hcx.le hm hX hr.rel.st hJ f1 e1)) fun e a' w' hp => PostZ.trans (Sub.refl D w) f1.x e1 hp
theorem Z.mono {c : Code} {Q Q' : Exit → S → Option Code → Prop} {s : S} {p : Option Code} (h : Z P G ro cx n c Q s p) (hq : ∀ e s p, Q e s p → Q' e s p) : Z P G ro cx n c Q' s p :=
  ⟨fun D μ a w B hX hB hn hr hJ => wpIn_mono (h.out D μ a w B hX hB hn hr hJ) fun e a' w' hp => hp.mono (hq e)⟩
theorem zloop_ok {α : Type} (hcx : cx.Good) (hm : cx.m ≤ n) (I : α → S) (Inv : α → Prop) (m : α → Nat) (x0 : α) {c : Code} {Q : Exit → S → Option Code → Prop} {s : S} {p : Option Code} (hi : Inv x0) (h0 : Le n s (I x0))
    (round : ∀ x, Inv x → Z P G ro cx n c (fun e s' p' => match e with | .normal => ∃ y, p' = p ∧ Inv y ∧ m y < m x ∧ Le n s' (I y) | e => Q e s' p') (I x) p) : Z P G ro cx n (.loop c) Q s p := by
  classical
  refine ⟨fun D μ a w B hX hB hn hr hJ => ?_⟩
  let R : α → Act → World → Prop := fun x a' w' => Inv x ∧ ∃ μ' D', Sub D' D w ∧ RelM D' B μ' (I x) a' w' ∧ cx.J p D' μ' (I x).st w' ∧ FrX cx.X μ s.st w μ' (I x).st w' ∧ Ev n μ s.st μ' (I x).st
  let J : Act → World → Prop := fun a' w' => ∃ x, R x a' w'
  let ok : Act → World → Nat → Prop := fun a' w' k => ∃ x, R x a' w' ∧ m x = k
  let meas : Act → World → Nat := fun a' w' => if h : ∃ k, ok a' w' k then Classical.choose (least_of _ h) else 0
  obtain ⟨μ1, r1, f1, e1⟩ := hr.le h0 hn
  refine wpIn_loop J meas ⟨x0, hi, μ1, D, Sub.refl D w, r1, hcx.le hm hX hr.rel.st hJ f1 e1, f1.x, e1⟩ ?_
  rintro a1 w1 ⟨x1, hx1⟩
  have hex : ∃ k, ok a1 w1 k := ⟨m x1, x1, hx1, rfl⟩
  obtain ⟨x, ⟨hix, μx, Dx, sx, rx, jx, fx, ex⟩, hmx⟩ := (Classical.choose_spec (least_of _ hex)).1
  have hm1 : meas a1 w1 = Classical.choose (least_of _ hex) := dif_pos hex
  have hXx : ∀ g, cx.X g → ¬ Dx g := fun g hg hd => hX g hg (sx.1 g hd)
  refine wpIn_mono ((round x hix).out Dx μx a1 w1 B hXx (Nat.le_trans hB fx.size) ex.1 rx jx) fun e a2 w2 hp => ?_
  obtain ⟨s', μ', p', D', q1, h1, h2, h3, h4, h5⟩ := hp
  cases e with
  | normal =>
    obtain ⟨y, rfl, hiy, hlt, hle⟩ := h1
    obtain ⟨μy, ry, fy, ey⟩ := h2.le hle h5.1
    have hX' : ∀ g, cx.X g → ¬ D' g := fun g hg hd => hXx g hg (q1.1 g hd)
    have hR : R y a2 w2 := ⟨hiy, μy, D', sx.trans q1 fx.size, ry, hcx.le hm hX' h2.rel.st h3 fy ey, (fx.trans h4).trans fy.x, (ex.trans h5).trans ey⟩
    refine ⟨⟨y, hR⟩, ?_⟩
    have hex2 : ∃ k, ok a2 w2 k := ⟨m y, y, hR, rfl⟩
    have hm2 : meas a2 w2 = Classical.choose (least_of _ hex2) := dif_pos hex2
    have := (Classical.choose_spec (least_of _ hex2)).2 (m y) ⟨y, hR, rfl⟩
    rw [hm1, hm2]
    omega
  | _ => exact ⟨s', μ', p', D', sx.trans q1 fx.size, h1, h2, h3, fx.trans h4, ex.trans h5⟩
/-- slots with what yield hands over -/
def setAll : List Tmp → List V → List V → List V
  | t :: ts, v :: vs, sl => setAll ts vs (sl.set t v)
  | _, _, sl => sl
theorem setAll_ok {D : Nat → Prop} {μ : Mu} {st : List Ob} {w : World} : ∀ (ts : List Tmp) (vs : List V) (ys : List Value) (sl : List V) (tmps : Array Value), ys.length = vs.length → (∀ (j : Nat) (v : V), vs[j]? = some v → vrel μ st (qd D μ st w) w v (ys.getD j Go.undef)) → vrels μ st (qd D μ st w) w sl tmps →
    vrels μ st (qd D μ st w) w (setAll ts vs sl) ((ts.zip ys).foldl (fun tmps (t, a) => tmps.setIfInBounds t a) tmps)
  | [], _, _, sl, tmps, _, _, h => by simpa [setAll] using h
  | t :: ts, [], [], sl, tmps, _, _, h => by simpa [setAll] using h
  | t :: ts, [], y :: ys, sl, tmps, hl, _, h => by simp at hl
  | t :: ts, v :: vs, [], sl, tmps, hl, _, h => by simp at hl
  | t :: ts, v :: vs, y :: ys, sl, tmps, hl, hv, h => by
    simp only [setAll, List.zip_cons_cons, List.foldl_cons]
    refine setAll_ok ts vs ys _ _ (by simpa using hl) (fun j u hj => hv (j + 1) u (by simpa using hj)) ⟨by simp [h.1], fun j u hj => ?_⟩
    by_cases hjd : t = j
    · subst hjd
      have hlt := lt_of_get? hj
      simp only [List.length_set] at hlt
      rw [getElem?_set_eq' hlt] at hj
      cases hj
      have : t < tmps.size := by rw [h.1]; exact hlt
      have hv0 := hv 0 v rfl
      simpa [Array.getD_eq_getD_getElem?, this] using hv0
    · rw [getElem?_set_ne' hjd] at hj
      have := h.2 j u hj
      simpa [Array.getD_eq_getD_getElem?, Array.getElem?_setIfInBounds, hjd] using this
end
end Go.Proofs.Ytiikndppckjmhaa.Am

/- The logic for ranges over functions: rounds are what they are said to be; iterators; the statement. -/
namespace Go.Proofs.Ytiikndppckjmhaa.Am
set_option autoImplicit false
set_option linter.unusedVariables false
set_option linter.unusedSimpArgs false
section
variable {P : Program} {G : Gl} {n : Nat}
/-- a call of yield l: a round of the loop whose record is rec, on slots outSl -/
def YIt (P : Program) (G : Gl) (l : Nat) (rec : Loop) (outSl : List V) : Yt := fun l' args st Kb => l' = l ∧ args.length = rec.params.size ∧
  Z P G (some l) (cxR l (.loop (recP rec none))) st.length rec.assign (fun e s1 _ => e = .normal ∧
    Z P G (some l) (cxR l (.loop { recP rec none with state := .busy })) st.length rec.body (fun e s2 _ => match e with
      | .normal => Kb true s2.st none
      | .ret => Kb false s2.st (some .ret)
      | .exit id => Kb false s2.st (some (.exit id))
      | _ => False) s1 none) ⟨setAll rec.params.toList args outSl, st⟩ none
theorem yit_ok (l m : Nat) (rec : Loop) (outSl : List V) : YOK P none (cxIt l m rec outSl) (YIt P G l rec outSl) := by
  rintro l' args st Kb ⟨rfl, hlen, hZ⟩ D μ w args' hX ha hs ⟨j1, j2, j3, j4⟩
  have hsl := take_full j3 j4
  refine ⟨(recP rec none).fn, _, (recP rec none).assign, (recP rec none).body, run_yield (r := recP rec none) j2 (show args'.size = rec.params.size by rw [ha.1, hlen]), ?_⟩
  have hXr : ∀ o, ∀ g, (cxR l' o).X g → ∀ D', Sub D' D w → ¬ D' g := fun o g hg D' hD' hd => j1 (by have : g = l' := hg; rw [← this]; exact hD'.1 g hd)
  have etm : ((recP rec none).params.zip args').foldl (fun tmps (t, a) => tmps.setIfInBounds t a) (recP rec none).tmps = (rec.params.toList.zip args'.toList).foldl (fun tmps (t, a) => tmps.setIfInBounds t a) rec.tmps := by
    rw [← Array.foldl_toList, Array.toList_zip]
    rfl
  have rel0 : RelM D 0 μ ⟨setAll rec.params.toList args outSl, st⟩ { tmps := ((recP rec none).params.zip args').foldl (fun tmps (t, a) => tmps.setIfInBounds t a) (recP rec none).tmps, defers := [] } w := by
    refine ⟨⟨rfl, ?_, hs⟩, trivial⟩
    simp only
    rw [etm]
    exact setAll_ok _ _ _ _ _ (by simpa using ha.1) (fun j v hj => by have := ha.2 j v hj; rw [Array.getD_eq_getD_getElem?, ← Array.getElem?_toList] at this; exact this) hsl
  refine roundIn_of_wpIn trivial (wpIn_mono (hZ.out D μ _ w 0 (fun g hg => hXr _ g hg D (Sub.refl D w)) (Nat.zero_le _) (Nat.le_refl _) rel0 ⟨j1, j2⟩) fun e a1 w1 hp => ?_)
  obtain ⟨s1, μ1, p1, D1, q1, ⟨rfl, hZ2⟩, r1, ⟨k1, k2⟩, f1, e1⟩ := hp
  refine ⟨_, run_beginRound k2 rfl, ?_⟩
  have hlt1 := row_lt k2
  have hsz2 : (w1.putObj l' (.loop { recP rec none with state := .busy })).heap.size = w1.heap.size := World.putObj_size
  have r1' : RelM D1 0 μ1 s1 a1 (w1.putObj l' (.loop { recP rec none with state := .busy })) := ⟨rel_putObj k1 r1.rel, r1.mks.keep (fun _ h => h) fun r _ hr => by
    rw [World.putObj_heap_other (fun e => by rw [e, k2] at hr; cases hr)]; exact hr⟩
  refine wpIn_mono (hZ2.out D1 μ1 a1 _ 0 (fun g hg => hXr _ g hg D1 q1) (Nat.zero_le _) e1.1 r1' ⟨k1, World.putObj_heap_same hlt1⟩) fun e2 a2 w3 hp2 => ?_
  obtain ⟨s2, μ2, p2, D2, q2, hK, r2, ⟨m1, m2⟩, f2, e2'⟩ := hp2
  have q12 : Sub D2 D w := q1.trans q2 (by rw [hsz2]; exact f1.size)
  have f12 : FrX (fun g => g = l') μ st w μ2 s2.st w3 := (FrX.trans f1 (frx_putObj rfl)).trans f2
  have e12 : Ev st.length μ st μ2 s2.st := e1.trans e2'
  have key : ∀ jump : Option Code, (Kb jump.isNone s2.st jump) → ∃ v w', (Instr.endRound l' jump).run P w3 = .ok v w' ∧ (fun (e : Ending) (w' : World) => ∃ b st' μ' p' D', e = .returned (.bool b) ∧ Sub D' D w ∧ Kb b st' p' ∧ srel D' μ' st' w' ∧ (cxIt l' m rec outSl).J p' D' μ' st' w' ∧ FrX (cxIt l' m rec outSl).X μ st w μ' st' w' ∧ Ev st.length μ st μ' st') (.returned v) w' := fun jump hk => by
    have f3 : FrX (fun g => g = l') μ st w μ2 s2.st (w3.putObj l' (.loop { ({ recP rec none with state := .busy } : Loop) with state := if jump.isNone then .ready else .done, pending := jump })) := f12.trans (frx_putObj rfl)
    refine ⟨_, _, run_endRound jump m2, jump.isNone, s2.st, μ2, jump, D2, rfl, q12, hk, srel_putObj m1 r2.rel.st, ⟨m1, World.putObj_heap_same (row_lt m2), Nat.le_trans j3 e12.1, take_keep j3 (e12.mono j3) (f3.qd' (fun g hg => hX g hg) q12) j4⟩, f3, e12⟩
  cases e2 with
  | normal => exact key none hK
  | ret => exact key (some .ret) hK
  | exit id => exact key (some (.exit id)) hK
  | _ => exact hK.elim
/-- an iterator called with yield l -/
def ItW (P : Program) (l : Nat) (rec : Loop) (outSl : List V) (f : FuncId) (args : List V) (st : List Ob) (K : List Ob → Option Code → Prop) : Prop :=
  ∀ (D : Nat → Prop) μ w args', ¬ D l → vrels μ st (qd D μ st w) w args args' → vrels μ st (qd D μ st w) w outSl rec.tmps → srel D μ st w → w.heap[l]? = some (.loop (recP rec none)) →
    Calls P f args' w (fun e w' => ∃ r' st' μ' p' D', e = .returned r' ∧ Sub D' D w ∧ K st' p' ∧ srel D' μ' st' w' ∧ FrX (fun g => g = l) μ st w μ' st' w' ∧ Ev st.length μ st μ' st' ∧ w'.heap[l]? = some (.loop (recP rec p')))
theorem act_rel {D : Nat → Prop} {μ : Mu} {st : List Ob} {w : World} {args : List V} {args' : Array Value} {k : Nat} (ha : vrels μ st (qd D μ st w) w args args') (hs : srel D μ st w) : Rel D μ ⟨args ++ List.replicate (k - args.length) .undef, st⟩ { tmps := args' ++ Array.replicate (k - args'.size) Go.undef, defers := [] } w := by
  refine ⟨rfl, ⟨by simp [ha.1], fun j v hj => ?_⟩, hs⟩
  simp only at hj ⊢
  by_cases hjl : j < args.length
  · rw [List.getElem?_append_left hjl] at hj
    have := ha.2 j v hj
    rw [Array.getD_eq_getD_getElem?] at this ⊢
    rwa [Array.getElem?_append_left (by rw [ha.1]; exact hjl)]
  · rw [List.getElem?_append_right (by omega), List.getElem?_replicate] at hj
    split at hj
    · cases hj; exact .undef _
    · cases hj
theorem it_of_body {l : Nat} {rec : Loop} {outSl : List V} {f : FuncId} {fn : Func} {c : Code} {args : List V} {st : List Ob} {K : List Ob → Option Code → Prop} (hf : P.funcs[f]? = some fn) (hb : fn.body = some c) (hr0 : fn.results.toList = [])
    (h : Z P G none (cxIt l st.length rec outSl) st.length c (fun e s p => match e with | .normal => K s.st p | .ret => K s.st p | _ => False) ⟨args ++ List.replicate (fn.ntmps - args.length) .undef, st⟩ none) : ItW P l rec outSl f args st K := by
  intro D μ w args' hl ha ho hs hrec
  refine callsIn_wide.1 (callsIn_of_wp_marks (F := Fro none) (n := 0) hf hb trivial ?_ rfl)
  have hX : ∀ g, (cxIt l st.length rec outSl).X g → ¬ D g := fun g hg hd => hl (by have : g = l := hg; rw [← this]; exact hd)
  refine wpIn_mono (h.out D μ _ w w.heap.size hX (Nat.le_refl _) (Nat.le_refl _) ⟨act_rel ha hs, trivial⟩ ⟨hl, hrec, Nat.le_refl _, by rw [List.take_length]; exact ho⟩) fun e a' w' hp => ?_
  obtain ⟨s', μ', p', D', q, hK, r, ⟨m1, m2, m3, m4⟩, f', ev⟩ := hp
  have key : K s'.st p' → LeavesInM (Fro none) 0 P fn a'.tmps (fun e w' => ∃ r' st' μ' p' D', e = .returned r' ∧ Sub D' D w ∧ K st' p' ∧ srel D' μ' st' w' ∧ FrX (fun g => g = l) μ st w μ' st' w' ∧ Ev st.length μ st μ' st' ∧ w'.heap[l]? = some (.loop (recP rec p'))) a'.defers .returning w' := fun hK => by
    refine leaves_ok (D := D') (B := w.heap.size) (T := fun w2 => Rel D' μ' s' { a' with defers := [] } w2 ∧ FrX (fun g => g = l) μ st w μ' s'.st w2 ∧ w2.heap[l]? = some (.loop (recP rec p'))) ?_ ?_ a'.defers w' ⟨r.rel, f', m2⟩ r.mks
    · rintro w2 k o ⟨t1, t2, t3⟩ hB hk
      exact ⟨rel_putObj hk t1, t2.new hB, by rw [World.putObj_heap_other (fun e => by have := row_lt hrec; omega)]; exact t3⟩
    · rintro w2 ⟨t1, t2, t3⟩
      obtain ⟨y, hy, hv⟩ := results_ok (P := P) t1 (fn := fn) (p := none) (vs := []) (by rw [hr0]; rfl) (fun q hq => nomatch hq)
      exact ⟨y, hy, y, s'.st, μ', p', D', rfl, q, hK, t1.st, t2, ev, t3⟩
  cases e with
  | normal => exact key hK
  | ret => exact key hK
  | _ => exact hK.elim
def cx0 : Cx := ⟨0, fun _ => False, fun _ _ _ _ _ => True⟩
theorem cx0_good : cx0.Good where
  keep := fun _ _ _ _ _ _ _ _ _ _ _ _ _ _ => trivial
  lt := fun _ _ _ _ _ _ g h => h.elim
  dfb := fun _ _ _ _ _ _ g h => h.elim
end
end Go.Proofs.Ytiikndppckjmhaa.Am

/- The logic for ranges over functions: the statement; a function that has one. -/
namespace Go.Proofs.Ytiikndppckjmhaa.Am
set_option autoImplicit false
set_option linter.unusedVariables false
set_option linter.unusedSimpArgs false
section
variable {P : Program} {G : Gl} {n : Nat} {st : List Ob}
theorem frz_call {f : FuncId} {args : List V} {K : V → List Ob → Prop} (m : Nat) (hm : st.length ≤ m) (h1 : CallW P G f args st (fun r st => frzW m st r fun r => m ≤ st.length ∧ r.cl m = true ∧ (∀ o ∈ st.take m, o.cl m) ∧ K r (st.take m))) : CallW P G f args st K := by
  refine ⟨h1.enter, fun D μ w args' hg ha hs => (h1.calls D μ w args' hg ha hs).mono fun e w' he => ?_⟩
  obtain ⟨r, r', st', μ', rfl, hK, hv, hs', hf', he'⟩ := he
  have hml : m ≤ st'.length ∨ st'.length < m := by omega
  rcases hml with hml | hml
  · obtain ⟨v', ⟨k1, k2, k3, k4⟩, hv'⟩ := frzW_ok hs' hml hv hK
    have hst : st'.take m ++ st'.drop m = st' := List.take_append_drop m st'
    have hlen : (st'.take m).length = m := by simp; omega
    have hs2 : srel D μ' (st'.take m ++ st'.drop m) w' := by rw [hst]; exact hs'
    obtain ⟨r1, r2, r3, _⟩ := short_ok hs2 (by rw [hlen]; exact k3) (n := st.length) (by rw [hlen]; exact hm)
    rw [hst] at r2 r3
    exact ⟨v', r', st'.take m, μ', rfl, k4, hv' k2, r1, hf'.trans r2, he'.trans r3⟩
  · -- the store is shorter: then nothing is told
    exfalso
    have : ∀ v K, frzW m st' v K → (∀ r, K r → m ≤ st'.length) → False := by
      intro v K hz hk
      have e1 : ∀ v K, frz m st' v K → ∃ r, K r := by
        intro v K h
        unfold frz at h
        split at h
        · obtain ⟨_, h2⟩ := h
          split at h2
          · obtain ⟨_, is, _, h3⟩ := h2; exact ⟨_, h3⟩
          · exact h2.elim
        · exact ⟨_, h⟩
        · exact ⟨_, h⟩
      have e2 : ∀ vs K, frzs m st' vs K → ∃ r, K r := by
        intro vs
        induction vs with
        | nil => intro K h; exact ⟨_, h⟩
        | cons v vs ih => intro K h; obtain ⟨v', h1⟩ := e1 _ _ h; obtain ⟨vs', h2⟩ := ih _ h1; exact ⟨_, h2⟩
      have e3 : ∀ vs K, frzW.frzs2 m st' vs K → ∃ r, K r := by
        intro vs
        induction vs with
        | nil => intro K h; exact ⟨_, h⟩
        | cons v vs ih =>
          intro K h
          unfold frzW.frzs2 at h
          split at h
          · rename_i heq; simp at heq
          · rename_i heq
            simp only [List.cons.injEq] at heq
            obtain ⟨rfl, rfl⟩ := heq
            obtain ⟨v', h1⟩ := e2 _ _ h; obtain ⟨vs', h2⟩ := ih _ h1; exact ⟨_, h2⟩
          · rename_i heq
            simp only [List.cons.injEq] at heq
            obtain ⟨rfl, rfl⟩ := heq
            obtain ⟨v', h1⟩ := e1 _ _ h; obtain ⟨vs', h2⟩ := ih _ h1; exact ⟨_, h2⟩
      unfold frzW at hz
      split at hz
      · obtain ⟨_, h⟩ := e2 _ _ hz; have := hk _ h; omega
      · obtain ⟨_, h⟩ := e3 _ _ hz; have := hk _ h; omega
      · obtain ⟨_, h⟩ := e1 _ _ hz; have := hk _ h; omega
    exact this r _ hK fun r h => h.1
theorem call_of_bodyZ {f : FuncId} {fn : Func} {c : Code} {args : List V} {K : V → List Ob → Prop} (m : Nat) (hm : st.length ≤ m) (hf : P.funcs[f]? = some fn) (hb : fn.body = some c) (hcall : ∀ args' w0, (callFunc f args').run P w0 = .ok (.enter f args') w0)
    (h : Z P G none cx0 st.length c (fun e s _ => retF P fn m K e s) ⟨args ++ List.replicate (fn.ntmps - args.length) .undef, st⟩ none) : CallW P G f args st K := by
  refine frz_call m hm ⟨hcall, fun D μ w args' hg ha hs => callsIn_wide.1 (callsIn_of_wp_marks (F := Fro none) (n := 0) hf hb trivial ?_ rfl)⟩
  refine wpIn_mono (h.out D μ _ w w.heap.size (fun g hg => hg.elim) (Nat.le_refl _) (Nat.le_refl _) ⟨act_rel ha hs, trivial⟩ trivial) fun e a' w' hp => ?_
  obtain ⟨s', μ', p', D', q, hK, r, _, f', ev⟩ := hp
  have hfr : ∀ w2, FrX (fun _ => False) μ st w μ' s'.st w2 → Fr μ st w μ' s'.st w2 := fun w2 t => ⟨t.os, t.tape, t.output, t.size, fun g hg => t.prot g (fun h => h) hg⟩
  have key : (match resA P s'.st s'.sl fn.results.toList with | some (p, vs) => sdAnd p (fW (resV vs) fun r => frzW m s'.st r fun r => m ≤ s'.st.length ∧ r.cl m = true ∧ (∀ o ∈ s'.st.take m, o.cl m) ∧ K r (s'.st.take m)) | none => False) →
      LeavesInM (Fro none) 0 P fn a'.tmps (fun e w' => ∃ r r' st' μ', e = .returned r' ∧ (frzW m st' r fun r => m ≤ st'.length ∧ r.cl m = true ∧ (∀ o ∈ st'.take m, o.cl m) ∧ K r (st'.take m)) ∧ vrel μ' st' (qd D μ' st' w') w' r r' ∧ srel D μ' st' w' ∧ Fr μ st w μ' st' w' ∧ Ev st.length μ st μ' st') a'.defers .returning w' := fun hm' => by
    split at hm'
    · rename_i p vs hres
      obtain ⟨m1, m2⟩ := sdAnd_ok hm'
      rw [fW_eq] at m2
      refine Am.leaves_ok (D := D') (B := w.heap.size) (T := fun w2 => Rel D' μ' s' { a' with defers := [] } w2 ∧ FrX (fun _ => False) μ st w μ' s'.st w2) ?_ ?_ a'.defers w' ⟨r.rel, f'⟩ r.mks
      · rintro w2 k o ⟨t1, t2⟩ hB hk
        exact ⟨rel_putObj hk t1, t2.new hB⟩
      · rintro w2 ⟨t1, t2⟩
        obtain ⟨y, hy, hv⟩ := results_ok (P := P) t1 hres m1
        exact ⟨y, hy, resV vs, y, s'.st, μ', rfl, m2, vrel_mono q.1 hv, srel_mono q.1 (fun g hg => hs.dom g (Nat.le_trans t2.size hg)) t1.st, hfr w2 t2, ev⟩
    · exact hm'.elim
  cases e with
  | normal => exact key hK
  | ret => exact key hK
  | _ => exact hK.elim
/-- the statement: ranging over an iterator -/
theorem zrange {g : Operand} {ps : Array Tmp} {assign body : Code} {Q : Exit → S → Option Code → Prop} {s : S} {f : FuncId} {first captured : List V} {Kit : List Ob → Option Code → Prop} (hG : ∀ g, G g = none) (hg : ev G s.sl g = .fn (.func f) first captured) (enter : ∀ args' w0, (callFunc f args').run P w0 = .ok (.enter f args') w0)
    (hit : ∀ l rec, rec.params = ps → rec.assign = assign → rec.body = body → ItW P l rec s.sl f (first ++ ([.fn (.yield l) [] []] ++ captured)) s.st Kit)
    (hk : ∀ st' p', Kit st' p' → match p' with | none => Q .normal ⟨s.sl, st'⟩ none | some .ret => Q .ret ⟨s.sl, st'⟩ none | some (.exit id) => Q (.exit id) ⟨s.sl, st'⟩ none | _ => False) : Z P G none cx0 n (.rangeFunc g ps assign body) Q s none := by
  refine ⟨fun D μ a w B hX hB hn hr hJ => wpIn_rangeFunc fun fnid _ => ?_⟩
  have hfv := ev_ok (G := G) (fun g cs hg => by rw [hG] at hg; cases hg) hr.rel g
  rw [hg] at hfv
  have hfv : vrel μ s.st (qd D μ s.st w) w (.fn (.func f) first captured) (a.eval g) := hfv
  generalize hfy : a.eval g = fy at hfv
  cases hfv with
  | fn _ _ _ fs' cs' h1 h2 h3 h4 =>
  let rec0 : Loop := { state := .ready, pending := none, fn := fnid, tmps := a.tmps, params := ps, assign, body, defers := w.heap.size }
  let w1 := (w.alloc (.deferred (some []))).alloc (.loop rec0)
  have sz1 : (w.alloc (.deferred (some []))).heap.size = w.heap.size + 1 := World.size_alloc _ _
  have sz2 : w1.heap.size = w.heap.size + 2 := by show ((w.alloc (.deferred (some []))).alloc (.loop rec0)).heap.size = _; rw [World.size_alloc, sz1]
  have hold : ∀ k, k < w.heap.size → w1.heap[k]? = w.heap[k]? := fun k hk => by
    rw [Go.RowKit.Below.heap_alloc _ _ k (by rw [sz1]; omega), Go.RowKit.Below.heap_alloc _ _ k hk]
  have hl : w1.heap[w.heap.size + 1]? = some (.loop rec0) := by rw [← sz1]; exact World.alloc_heap_new _ _
  have hrr : w1.heap[w.heap.size]? = some (.deferred (some [])) := by
    rw [Go.RowKit.Below.heap_alloc _ _ _ (by rw [sz1]; omega)]; exact World.alloc_heap_new _ _
  refine ⟨w.heap.size + 1, [{ target := .collected w.heap.size, args := #[] }], w1, { target := .fn (.func f) cs', args := fs' ++ #[.func (.yield (w.heap.size + 1)) #[] #[]] }, w1, f, fs' ++ #[.func (.yield (w.heap.size + 1)) #[] #[]] ++ cs', w1, run_enterLoop_outer _ _ _ _ _, ?_, fun _ _ => trivial, ?_, fun h => Bool.noConfusion h, ?_⟩
  · simp only [resolve, hfy, Deferred.ofValue, Sem.run_bind, Sem.run_pure, Result.andThen_ok]
    have e : Array.map a.eval #[Operand.const (Value.func (Fn.yield (w.heap.size + 1)) #[] #[])] = #[Value.func (Fn.yield (w.heap.size + 1)) #[] #[]] := by
      rw [List.map_toArray]; rfl
    rw [e]
  · exact enter _ _
  -- a smaller part of memory: without the record and the mark's block
  let D1 : Nat → Prop := fun k => D k ∧ k ≠ w.heap.size ∧ k ≠ w.heap.size + 1
  have hsub : Sub D1 D w := ⟨fun k hk => hk.1, fun k hk hd => ⟨hd, by omega, by omega⟩⟩
  have hq : ∀ k, qd D μ s.st w k → qd D1 μ s.st w1 k ∧ w1.heap[k]? = w.heap[k]? := fun k hk => ⟨⟨⟨by rw [sz2]; have := hk.1.1; omega, hk.1.2⟩, hsub.2 k hk.1.1 hk.2⟩, hold k hk.1.1⟩
  have hs1 : srel D1 μ s.st w1 := by
    have hs := hr.rel.st
    refine ⟨fun k hk => ⟨hs.dom k (by rw [sz2] at hk; omega), by rw [sz2] at hk; omega, by rw [sz2] at hk; omega⟩, fun id ver sz ro es hi => ?_, hs.inj⟩
    rcases hs.row id ver sz ro es hi with h1 | ⟨k, m, cur, T, lo, hi', b1, b2, b3, b4, b5, b6, b7, b8, b9⟩
    · exact .inl h1
    · exact .inr ⟨k, m, cur, T, lo, hi', b1, (hold k (row_lt b2)).trans b2, b3, b4, b5, fun i cs j v x y => (b6 i cs j v x y).keep (Ev.refl (Nat.le_refl _)) hq, fun h => (hq k (b7 h)).1, hsub.2 k (row_lt b2) b8, b9⟩
  have hsl : vrels μ s.st (qd D1 μ s.st w1) w1 s.sl rec0.tmps := vrels_keep (Ev.refl (Nat.le_refl _)) hq hr.rel.sl
  have hargs : vrels μ s.st (qd D1 μ s.st w1) w1 (first ++ ([.fn (.yield (w.heap.size + 1)) [] []] ++ captured)) (fs' ++ #[.func (.yield (w.heap.size + 1)) #[] #[]] ++ cs') := by
    refine ⟨by simp [h1, h2]; omega, fun j v hj => ?_⟩
    rw [Array.append_assoc]
    by_cases hj1 : j < first.length
    · rw [List.getElem?_append_left hj1] at hj
      have := (h3 j v hj).keep (Ev.refl (Nat.le_refl _)) hq
      rw [Array.getD_eq_getD_getElem?] at this ⊢
      rwa [Array.getElem?_append_left (by omega)]
    · rw [List.getElem?_append_right (by omega)] at hj
      rw [Array.getD_eq_getD_getElem?, Array.getElem?_append_right (by omega), h1]
      by_cases hj2 : j - first.length < 1
      · have e0 : j - first.length = 0 := by omega
        rw [e0] at hj ⊢
        simp only [List.cons_append, List.nil_append, List.getElem?_cons_zero, Option.some.injEq] at hj
        subst hj
        rw [Array.getElem?_append_left (by simp)]
        exact .fn _ [] [] #[] #[] rfl rfl (by simp) (by simp)
      · rw [List.getElem?_append_right (by simp; omega)] at hj
        rw [Array.getElem?_append_right (by simp; omega)]
        have := (h4 _ v hj).keep (Ev.refl (Nat.le_refl _)) hq
        rw [Array.getD_eq_getD_getElem?] at this
        simpa using this
  have hcall := hit (w.heap.size + 1) rec0 rfl rfl rfl D1 μ w1 _ (fun h => h.2.2 rfl) hargs hsl hs1 (by rw [hl]; rfl)
  refine calls_ro (hcall.mono fun e w2 he => ?_)
  obtain ⟨r', st', μ', p', D', rfl, q, hK, k1, k2, k3, k4⟩ := he
  have hk' := hk st' p' hK
  refine ⟨_, _, run_endLoop k4 (by cases p' <;> simp [recP]), ?_⟩
  have hnl : ¬ D' (w.heap.size + 1) := fun h => (q.1 _ h).2.2 rfl
  have hnr : ¬ D' w.heap.size := fun h => (q.1 _ h).2.1 rfl
  have qs : Sub D' D w := hsub.trans q (by rw [sz2]; omega)
  have hq2 : ∀ k, qd D1 μ s.st w1 k → qd D' μ' st' w2 k ∧ w2.heap[k]? = w1.heap[k]? := k2.qd' (fun g hg hd => hd.2.2 hg) q
  have hrel2 : Rel D' μ' ⟨s.sl, st'⟩ { a with defers := [] } w2 := ⟨rfl, vrels_keep k3 hq2 hsl, k1⟩
  have hlt2 : w.heap.size + 2 ≤ w2.heap.size := by have := k2.size; rw [sz2] at this; exact this
  obtain ⟨o3, ho3⟩ : ∃ o, o = Obj.loop { (recP rec0 p') with state := .exhausted } := ⟨_, rfl⟩
  have hr2 : w2.heap[w.heap.size]? = some (.deferred (some [])) := by
    rw [(k2.prot w.heap.size (fun h => by have h : w.heap.size = w.heap.size + 1 := h; omega) ⟨by rw [sz2]; omega, fun hlv => by have := live_D hs1 hlv; exact this.2.1 rfl⟩).1]; exact hrr
  have hmold : ∀ r : Nat, w.heap[r]? = some (.deferred (some [])) → w2.heap[r]? = some (.deferred (some [])) := fun r hr' => by
    have hlr := row_lt hr'
    rw [(k2.prot r (fun h => by have h : r = w.heap.size + 1 := h; omega) ⟨by rw [sz2]; omega, fun hlv => by obtain ⟨_, _, _, _, e⟩ := live_cells hr.rel.st hlv; rw [hr'] at e; cases e⟩).1, hold r hlr]
    exact hr'
  have hnew : ∀ d' ∈ a.defers, d'.target ≠ .collected w.heap.size := by
    have : ∀ ds, Mk D B w ds → ∀ d' ∈ ds, d'.target ≠ .collected w.heap.size := by
      intro ds
      induction ds with
      | nil => intro _ d' hd; simp at hd
      | cons d ds ih =>
        rintro ⟨⟨r, e1, _, _, e4, _⟩, h6⟩ d' hd
        rcases List.mem_cons.1 hd with rfl | hd
        · rw [e1]; intro e; cases e; have := row_lt e4; omega
        · exact ih h6 d' hd
    exact this _ hr.mks
  have hM : RelM D' B μ' ⟨s.sl, st'⟩ { a with defers := [{ target := .collected w.heap.size, args := #[] }] ++ a.defers } (w2.putObj (w.heap.size + 1) o3) := by
    refine ⟨rel_putObj hnl hrel2, ⟨⟨w.heap.size, rfl, hB, hnr, by rw [World.putObj_heap_other (by omega)]; exact hr2, hnew⟩, ?_⟩⟩
    exact hr.mks.keep qs.1 fun r _ hr' => by
      have hlr := row_lt hr'
      rw [World.putObj_heap_other (by omega)]; exact hmold r hr'
  have hF : FrX cx0.X μ s.st w μ' st' (w2.putObj (w.heap.size + 1) o3) := by
    refine FrX.new ⟨?_, ?_, ?_, by omega, fun k _ hp => ?_⟩ (by omega)
    · exact k2.os
    · exact k2.tape
    · exact k2.output
    · obtain ⟨e1, e2⟩ := k2.prot k (fun h => by have h : k = w.heap.size + 1 := h; have := hp.1; omega) ⟨by rw [sz2]; have := hp.1; omega, hp.2⟩
      exact ⟨e1.trans (hold k hp.1), e2⟩
  have fin : ∀ e, Q e ⟨s.sl, st'⟩ none → PostZ cx0 B D n μ s.st w (Q e) { a with defers := [{ target := .collected w.heap.size, args := #[] }] ++ a.defers } (w2.putObj (w.heap.size + 1) o3) := fun e hQ =>
    ⟨⟨s.sl, st'⟩, μ', none, D', qs, hQ, hM, trivial, hF, k3.mono hn⟩
  rw [ho3] at fin
  cases p' with
  | none => exact fin .normal hk'
  | some c =>
    cases c with
    | ret => exact wpIn_ret (fin .ret hk')
    | exit id => exact wpIn_exit (fin _ hk')
    | _ => exact hk'.elim
end
end Go.Proofs.Ytiikndppckjmhaa.Am
