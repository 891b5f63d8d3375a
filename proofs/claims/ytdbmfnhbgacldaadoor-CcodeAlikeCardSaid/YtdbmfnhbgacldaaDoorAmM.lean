/- The logic: what code makes of abstract states; its rules for sequences, tests, blocks, loops, regions, calls. -/
import Derived.Test.YtdbmfnhbgacldaaDoorAmL
import Derived.Scope
namespace Go.Proofs.YtdbmfnhbgacldaaDoor.Am
set_option autoImplicit false
set_option linter.unusedVariables false
set_option linter.unusedSimpArgs false

structure S where
  sl : List V
  st : List Ob

abbrev Gl := Nat → Option (List I)   -- variables of the program that nobody changes: what they hold

def ev (G : Gl) (sl : List V) : Operand → V
  | .tmp t => sl.getD t .undef
  | .const v => ofC v
  | .global g => match G g with | some cs => .iptr cs 0 | none => .undef
  | .func f => .fn (.func f) [] []

def GOk (D : Nat → Prop) (G : Gl) (μ : Mu) (st : List Ob) (w : World) : Prop := ∀ g cs, G g = some cs → qd D μ st w g ∧ ∃ xs : Nat → Value, (∀ (j : Nat) (v : I), cs[j]? = some v → w.cell? ⟨g, j, none⟩ = some (xs j)) ∧ ∀ (j : Nat) (v : I), cs[j]? = some v → irel (qd D μ st w) w v (xs j)

structure Rel (D : Nat → Prop) (μ : Mu) (s : S) (a : Act) (w : World) : Prop where
  dfr : a.defers = []
  sl : vrels μ s.st (qd D μ s.st w) w s.sl a.tmps
  st : srel D μ s.st w

def S.put (s : S) (dst : Option Tmp) (v : V) (st' : List Ob) : S := ⟨match dst with | some d => s.sl.set d v | none => s.sl, st'⟩

/-- a call in an abstract store: what it hands back, and what the store is then -/
structure CallW (P : Program) (G : Gl) (f : FuncId) (args : List V) (st : List Ob) (K : V → List Ob → Prop) : Prop where
  enter : ∀ args' w0, (callFunc f args').run P w0 = .ok (.enter f args') w0
  calls : ∀ (D : Nat → Prop) μ w args', GOk D G μ st w → vrels μ st (qd D μ st w) w args args' → srel D μ st w →
    Calls P f args' w (fun e w' => ∃ r r' st' μ', e = .returned r' ∧ K r st' ∧ vrel μ' st' (qd D μ' st' w') w' r r' ∧ srel D μ' st' w' ∧ Fr μ st w μ' st' w' ∧ Ev st.length μ st μ' st')

/-- values, told in full before what follows -/
def fI (x : I) (K : I → Prop) : Prop := match x with
  | .int k n => K (.int k n)
  | .bool b => K (.bool b)
  | .str s => K (.str s)
  | .sl es => K (.sl es)
  | .nilp => K .nilp
  | .mp r => K (.mp r)
  | .bp r => K (.bp r)
def fN (n : Nat) (K : Nat → Prop) : Prop := match n with
  | 0 => K 0
  | 1 => K 1
  | 2 => K 2
  | 3 => K 3
  | 4 => K 4
  | 5 => K 5
  | 6 => K 6
  | 7 => K 7
  | 8 => K 8
  | 9 => K 9
  | 10 => K 10
  | 11 => K 11
  | 12 => K 12
  | 13 => K 13
  | 14 => K 14
  | 15 => K 15
  | n => K n
theorem fN_eq (n : Nat) (K : Nat → Prop) : fN n K = K n := by unfold fN; split <;> rfl
def fM (n : Nat) (K : Nat → Prop) : Prop := match n with
  | 0 => K 0
  | 1 => K 1
  | 2 => K 2
  | 3 => K 3
  | 4 => K 4
  | 5 => K 5
  | 6 => K 6
  | 7 => K 7
  | 8 => K 8
  | 9 => K 9
  | 10 => K 10
  | 11 => K 11
  | 12 => K 12
  | 13 => K 13
  | 14 => K 14
  | 15 => K 15
  | 16 => K 16
  | 17 => K 17
  | 18 => K 18
  | 19 => K 19
  | 20 => K 20
  | n => K n
theorem fM_eq (n : Nat) (K : Nat → Prop) : fM n K = K n := by unfold fM; split <;> rfl
def fV (v : V) (K : V → Prop) : Prop := match v with
  | .i x => fI x fun x => K (.i x)
  | .ref a b c d => fN a fun a => K (.ref a b c d)
  | .ptr a b c d => fN a fun a => K (.ptr a b c d)
  | .iptr a b => K (.iptr a b)
  | .fn f a b => K (.fn f a b)
  | .nilf => K .nilf
  | .agg cs => K (.agg cs)
  | .tup cs => K (.tup cs)
  | .nils => K .nils
  | .undef => K .undef
def fVs : List V → (List V → Prop) → Prop
  | [], K => K []
  | v :: vs, K => fVs vs fun vs => K (v :: vs)
def fVs' : List V → (List V → Prop) → Prop
  | [], K => K []
  | v :: vs, K => fV v fun v => fVs' vs fun vs => K (v :: vs)
def fW (v : V) (K : V → Prop) : Prop := match v with
  | .agg cs => fVs' cs fun cs => K (.agg cs)
  | .tup cs => fVs' cs fun cs => K (.tup cs)
  | v => fV v K
def fO (o : Ob) (K : Ob → Prop) : Prop := match o with
  | .dead => K .dead
  | .row 0 b c es => fM b fun b => match es with
    | [cs] => fVs' cs fun cs => K (.row 0 b c [cs])
    | es => K (.row 0 b c es)
  | .row (a + 1) b c es => fM b fun b => K (.row (a + 1) b c es)
def fOs : List Ob → (List Ob → Prop) → Prop
  | [], K => K []
  | v :: vs, K => fO v fun v => fOs vs fun vs => K (v :: vs)
theorem fI_eq (x : I) (K : I → Prop) : fI x K = K x := by cases x <;> rfl
theorem fV_eq (v : V) (K : V → Prop) : fV v K = K v := by cases v <;> simp [fV, fI_eq, fN_eq]
theorem fVs_eq : ∀ (vs : List V) (K : List V → Prop), fVs vs K = K vs
  | [], K => rfl
  | v :: vs, K => by rw [fVs, fVs_eq vs]
theorem fVs'_eq : ∀ (vs : List V) (K : List V → Prop), fVs' vs K = K vs
  | [], K => rfl
  | v :: vs, K => by rw [fVs', fV_eq, fVs'_eq vs]
theorem fW_eq (v : V) (K : V → Prop) : fW v K = K v := by cases v <;> simp [fW, fV_eq, fVs'_eq]
theorem fO_eq (o : Ob) (K : Ob → Prop) : fO o K = K o := by
  unfold fO
  split
  · rfl
  · rw [fM_eq]
    split
    · rw [fVs'_eq]
    · rfl
  · rw [fM_eq]
theorem fOs_eq : ∀ (vs : List Ob) (K : List Ob → Prop), fOs vs K = K vs
  | [], K => rfl
  | v :: vs, K => by rw [fOs, fO_eq, fOs_eq vs]

/-- a state, told in full -/
def fS (s : S) (K : S → Prop) : Prop := match s with | ⟨sl, st⟩ => fOs st fun st => fVs sl fun sl => K ⟨sl, st⟩
theorem fS_eq (s : S) (K : S → Prop) : fS s K = K s := by cases s; simp [fS, fOs_eq, fVs_eq]

def sdAnd : Option Prop → Prop → Prop
  | none, K => K
  | some p, K => p ∧ K
/-- both ways of a test -/
structure Br (t : Bool) (A B : Prop) : Prop where
  yes : t = true → A
  no : t = false → B
theorem Br.t {A B : Prop} (h : A) : Br true A B := ⟨fun _ => h, (fun h => nomatch h)⟩
theorem Br.f {A B : Prop} (h : B) : Br false A B := ⟨(fun h => nomatch h), fun _ => h⟩

/-- what follows of a state's operation, of one in a region -/
def opx (P : Program) (G : Gl) (own : Tmp → Bool) (o : Oper) (K : S → Prop) (s : S) : Prop :=
  match o.op with
  | .call ⟨.value f, args, _⟩ => match ev G s.sl f with
    | .fn (.func fid) first captured => fVs' (first ++ (args.toList.map (ev G s.sl) ++ captured)) fun as => CallW P G fid as s.st (fun r st' => fW r fun r => fS (s.put o.dst r st') K)
    | _ => False
  | op => match opA P (match o.dst with | some d => own d | none => false) s.st (ev G s.sl) op with
    | some (p, v, st') => sdAnd p (fW v fun v => fS (s.put o.dst v st') K)
    | none => match nilA P (ev G s.sl) op with
      | some (neg, es) => ∀ b : Bool, (es ≠ [] → b = neg) → fS (s.put o.dst (.i (.bool b)) s.st) K
      | none => False

def guardA (ops : Array Oper) (sl : List V) (j : Nat) : Option (Nat × Option Bool) :=
  match (ops[j]?).bind (·.dst) with
  | some d => match sl.getD d .undef with
    | .i (.bool b) => some (d, some b)
    | .tup [] => some (d, none)
    | _ => none
  | none => none
/-- a slot's truth value, now known -/
def S.told (s : S) (d : Nat) (b : Bool) : S := ⟨s.sl.set d (.i (.bool b)), s.st⟩

def opsx (P : Program) (G : Gl) (own : Tmp → Bool) (ops : Array Oper) : List Oper → (S → Prop) → S → Prop
  | [], K, s => K s
  | o :: rest, K, s => match o.guard with
    | none => opx P G own o (opsx P G own ops rest K) s
    | some (j, want) => match guardA ops s.sl j with
      | some (d, some b) => Br b
          (fS (s.told d true) fun s => match want with | true => opx P G own o (opsx P G own ops rest K) s | false => fS (s.put o.dst (.tup []) s.st) (opsx P G own ops rest K))
          (fS (s.told d false) fun s => match want with | true => fS (s.put o.dst (.tup []) s.st) (opsx P G own ops rest K) | false => opx P G own o (opsx P G own ops rest K) s)
      | some (_, none) => fS (s.put o.dst (.tup []) s.st) (opsx P G own ops rest K)
      | none => False

/-- what holds behind, of some abstract state -/
def Post (D : Nat → Prop) (n : Nat) (μ : Mu) (st : List Ob) (w : World) (Φ : S → Prop) (a' : Act) (w' : World) : Prop :=
  ∃ s' μ', Φ s' ∧ Rel D μ' s' a' w' ∧ Fr μ st w μ' s'.st w' ∧ Ev n μ st μ' s'.st

structure W (P : Program) (G : Gl) (n : Nat) (c : Code) (Q : Exit → S → Prop) (s : S) : Prop where
  out : ∀ (D : Nat → Prop) μ a w, n ≤ s.st.length → GOk D G μ s.st w → Rel D μ s a w → c.wp P (fun e a' w' => Post D n μ s.st w (Q e) a' w') a w

section
variable {P : Program} {G : Gl} {own : Tmp → Bool} {D : Nat → Prop}

theorem GOk.keep {μ μ' : Mu} {st st' : List Ob} {w w' : World} (h : GOk D G μ st w) (hf : Fr μ st w μ' st' w') : GOk D G μ' st' w' := by
  intro g cs hg
  obtain ⟨hQ, xs, hw, hr⟩ := h g cs hg
  have hk := hf.qd (D := D)
  exact ⟨(hk _ hQ).1, xs, fun j v hj => by rw [cell_of_heap (hk _ hQ).2]; exact hw j v hj, fun j v hj => (hr j v hj).keep hk⟩

theorem ev_ok {μ : Mu} {s : S} {a : Act} {w : World} (hg : GOk D G μ s.st w) (h : Rel D μ s a w) (x : Operand) : vrel μ s.st (qd D μ s.st w) w (ev G s.sl x) (a.eval x) := by
  cases x with
  | tmp t =>
    show vrel μ s.st _ w (s.sl.getD t .undef) (a.tmps.getD t Go.undef)
    by_cases ht : t < s.sl.length
    · exact h.sl.2 t _ (getD_get? ht)
    · rw [show s.sl.getD t V.undef = .undef by simp [List.getD, Nat.le_of_not_lt ht]]
      exact .undef _
  | const v => exact ofC_ok v
  | global g =>
    show vrel μ s.st _ w (match G g with | some cs => .iptr cs 0 | none => .undef) _
    split
    · rename_i cs hcs
      obtain ⟨hQ, xs, hw, hr⟩ := hg g cs hcs
      have := vrel.iptr (μ := μ) (st := s.st) (Q := qd D μ s.st w) (w := w) cs 0 g 0 xs hQ (fun j v hj => by rw [Nat.zero_add]; exact hw j v hj) hr
      simpa [Act.eval] using this
    · exact .undef _
  | func f => exact .fn (.func f) [] [] #[] #[] rfl rfl (by simp) (by simp)

theorem Rel.put {μ μ' : Mu} {s : S} {a : Act} {w w' : World} (h : Rel D μ s a w) {st' : List Ob} {v : V} {y : Value} (hv : vrel μ' st' (qd D μ' st' w') w' v y) (hs : srel D μ' st' w') (hf : Fr μ s.st w μ' st' w') (he : Ev s.st.length μ s.st μ' st')
    (dst : Option Tmp) : Rel D μ' (s.put dst v st') (a.put dst y) w' := by
  have hk : ∀ x y, vrel μ s.st (qd D μ s.st w) w x y → vrel μ' st' (qd D μ' st' w') w' x y := fun x y hx => hx.keep he hf.qd
  cases dst with
  | none => exact ⟨h.dfr, ⟨h.sl.1, fun j v hj => hk _ _ (h.sl.2 j v hj)⟩, hs⟩
  | some d =>
    refine ⟨h.dfr, ⟨by simp [S.put, Act.put, h.sl.1], fun j u hj => ?_⟩, hs⟩
    simp only [S.put] at hj
    simp only [Act.put]
    by_cases hjd : d = j
    · subst hjd
      have hl := lt_of_get? hj
      simp only [List.length_set] at hl
      rw [getElem?_set_eq' hl] at hj
      cases hj
      have : d < a.tmps.size := by rw [h.sl.1]; exact hl
      show vrel μ' st' (qd D μ' st' w') w' _ _
      simpa [Array.getD_eq_getD_getElem?, this] using hv
    · rw [getElem?_set_ne' hjd] at hj
      have := hk _ _ (h.sl.2 j u hj)
      show vrel μ' st' (qd D μ' st' w') w' _ _
      simpa [Array.getD_eq_getD_getElem?, Array.getElem?_setIfInBounds, hjd] using this

theorem Rel.skip {μ : Mu} {s : S} {a : Act} {w : World} (h : Rel D μ s a w) (dst : Option Tmp) : Rel D μ (s.put dst (.tup []) s.st) (a.put dst Go.undef) w :=
  h.put (.tup [] #[] rfl (by simp)) h.st (Fr.refl _ _ _) (Ev.refl (Nat.le_refl _)) dst

theorem Post.trans {n : Nat} {μ μ1 : Mu} {st st1 : List Ob} {w w1 : World} {Φ : S → Prop} {a' : Act} {w' : World} (hf : Fr μ st w μ1 st1 w1) (he : Ev n μ st μ1 st1) (h : Post D n μ1 st1 w1 Φ a' w') : Post D n μ st w Φ a' w' := by
  obtain ⟨s', μ', h1, h2, h3, h4⟩ := h
  exact ⟨s', μ', h1, h2, hf.trans h3, he.trans h4⟩

theorem sdAnd_ok {p : Option Prop} {X : Prop} (h : sdAnd p X) : sd p ∧ X := by
  cases p with
  | none => exact ⟨(fun q hq => nomatch hq), h⟩
  | some p => exact ⟨(fun q hq => (Option.some.inj hq) ▸ h.1), h.2⟩

theorem opx_ok {n : Nat} {o : Oper} {K : S → Prop} {s : S} (h : opx P G own o K s) {μ : Mu} {a : Act} {w : World} (hn : n ≤ s.st.length) (hg : GOk D G μ s.st w) (hr : Rel D μ s a w) {Q : Exit → Act → World → Prop} :
    o.wp P a w (fun a' w' => ∃ s' μ', K s' ∧ GOk D G μ' s'.st w' ∧ Rel D μ' s' a' w' ∧ Fr μ s.st w μ' s'.st w' ∧ Ev s.st.length μ s.st μ' s'.st) Q := by
  have plain : ∀ ow : Bool, (∃ p v st', opA P ow s.st (ev G s.sl) o.op = some (p, v, st') ∧ sd p ∧ K (s.put o.dst v st')) →
      o.wp P a w (fun a' w' => ∃ s' μ', K s' ∧ GOk D G μ' s'.st w' ∧ Rel D μ' s' a' w' ∧ Fr μ s.st w μ' s'.st w' ∧ Ev s.st.length μ s.st μ' s'.st) Q := by
    rintro ow ⟨p, v, st', h1, hp, hK⟩
    obtain ⟨y, μ', w', h2, h3, h4, h5, h6⟩ := opA_ok (P := P) hr.st (ev_ok hg hr) o h1 hp
    unfold Oper.wp
    rcases h2 with h2 | ⟨h2, rfl⟩
    · rw [h2]; exact ⟨s.put o.dst v st', μ', hK, by simpa [S.put] using hg.keep h5, hr.put h3 h4 h5 h6 o.dst, by simpa [S.put] using h5, by simpa [S.put] using h6⟩
    · rw [h2]; exact ⟨s.put o.dst v st', μ', hK, by simpa [S.put] using hg.keep h5, hr.put h3 h4 h5 h6 o.dst, by simpa [S.put] using h5, by simpa [S.put] using h6⟩
  unfold opx at h
  split at h
  · rename_i f args ats ho
    split at h
    · rename_i fid first captured hf
      rw [fVs'_eq] at h
      obtain ⟨hcall, hC⟩ := h
      have hfv := ev_ok hg hr f
      rw [hf] at hfv
      generalize hfy : a.eval f = fy at hfv
      cases hfv with
      | fn _ _ _ fs' cs' h1 h2 h3 h4 =>
      have hargs := args_ok (ev_ok hg hr) args
      have hall : vrels μ s.st (qd D μ s.st w) w (first ++ (args.toList.map (ev G s.sl) ++ captured)) (fs' ++ args.map a.eval ++ cs') := by
        refine ⟨by simp [h1, h2, Nat.add_assoc], fun j v hj => ?_⟩
        rw [Array.append_assoc]
        by_cases hj1 : j < first.length
        · rw [List.getElem?_append_left hj1] at hj
          have := h3 j v hj
          rw [Array.getD_eq_getD_getElem?] at this ⊢
          rwa [Array.getElem?_append_left (by omega)]
        · rw [List.getElem?_append_right (by omega)] at hj
          rw [Array.getD_eq_getD_getElem?, Array.getElem?_append_right (by omega), h1]
          by_cases hj2 : j - first.length < args.size
          · rw [List.getElem?_append_left (by simpa using hj2)] at hj
            have := hargs.2 _ v hj
            rw [Array.getD_eq_getD_getElem?] at this
            rwa [Array.getElem?_append_left (by simpa using hj2)]
          · rw [List.getElem?_append_right (by simp; omega)] at hj
            rw [Array.getElem?_append_right (by simp; omega)]
            have := h4 _ v hj
            rw [Array.getD_eq_getD_getElem?] at this
            simpa using this
      unfold Oper.wp execOp
      simp only [ho]
      have hrun : (do let d ← resolve a.eval { callee := .value f, args := args, argTypes := ats } o.type; invoke d.target d.args).run P w = .ok (.enter fid (fs' ++ args.map a.eval ++ cs')) w := by
        simp only [resolve, hfy, Deferred.ofValue, Sem.run_bind, Sem.run_pure, Result.andThen_ok, invoke]
        exact hcall _ w
      rw [hrun]
      refine (hC D μ w _ hg hall hr.st).mono fun e w' he => ?_
      obtain ⟨r, r', st', μ', rfl, hK, hv, hs', hf', he'⟩ := he
      rw [fW_eq, fS_eq] at hK
      exact ⟨s.put o.dst r st', μ', hK, by simpa [S.put] using hg.keep hf', hr.put hv hs' hf' he' o.dst, by simpa [S.put] using hf', by simpa [S.put] using he'⟩
    · exact h.elim
  · split at h
    · rename_i p v st' hop
      obtain ⟨h1, h2⟩ := sdAnd_ok h
      rw [fW_eq, fS_eq] at h2
      exact plain _ ⟨p, v, st', hop, h1, h2⟩
    · split at h
      · rename_i neg es hni
        obtain ⟨b, hb, hop⟩ := nilA_ok (P := P) hr.st (ev_ok hg hr) o hni
        have h2 := h b hb
        rw [fS_eq] at h2
        obtain ⟨y, μ', w', h2', h3, h4, h5, h6⟩ := hop
        unfold Oper.wp
        rcases h2' with h2' | ⟨h2', rfl⟩
        · rw [h2']; exact ⟨s.put o.dst _ s.st, μ', h2, by simpa [S.put] using hg.keep h5, hr.put h3 h4 h5 h6 o.dst, by simpa [S.put] using h5, by simpa [S.put] using h6⟩
        · rw [h2']; exact ⟨s.put o.dst _ s.st, μ', h2, by simpa [S.put] using hg.keep h5, hr.put h3 h4 h5 h6 o.dst, by simpa [S.put] using h5, by simpa [S.put] using h6⟩
      · exact h.elim

theorem yielded_eq {μ : Mu} {s : S} {a : Act} {w : World} (hr : Rel D μ s a w) {ops : Array Oper} {j d : Nat} {b : Option Bool} (h : guardA ops s.sl j = some (d, b)) : yielded ops a.tmps j = b ∧ ∀ b', b = some b' → s.told d b' = s := by
  unfold guardA at h
  split at h
  · rename_i d hd
    simp only [yielded, hd, Option.bind_some]
    split at h
    · rename_i b' hb
      cases h
      have hlt : d < s.sl.length := by
        rcases Nat.lt_or_ge d s.sl.length with h | h
        · exact h
        · simp [List.getD, h] at hb
      have hget := getD_get? (d := V.undef) hlt
      have := hr.sl.2 d _ hget
      rw [hb] at this hget
      have hs : d < a.tmps.size := by rw [hr.sl.1]; exact hlt
      rw [getD_of_lt hs]
      generalize a.tmps.getD d Go.undef = y at this
      refine ⟨by cases this with | i h => cases h; rfl, fun b2 hb2 => ?_⟩
      cases hb2
      obtain ⟨sl, st⟩ := s
      simp only [S.told, S.mk.injEq, and_true]
      apply List.ext_getElem?
      intro k
      by_cases hk : d = k
      · subst hk; rw [getElem?_set_eq' hlt]; exact hget.symm
      · rw [getElem?_set_ne' hk]
    · rename_i hb
      cases h
      have hlt : d < s.sl.length := by
        rcases Nat.lt_or_ge d s.sl.length with h | h
        · exact h
        · simp [List.getD, h] at hb
      have := hr.sl.2 d _ (getD_get? (d := V.undef) hlt)
      rw [hb] at this
      have hs : d < a.tmps.size := by rw [hr.sl.1]; exact hlt
      rw [getD_of_lt hs]
      generalize a.tmps.getD d Go.undef = y at this
      refine ⟨by cases this with | tup _ cs' h1 => rfl, fun b2 hb2 => by cases hb2⟩
    · cases h
  · cases h

theorem opsx_ok {n : Nat} {ops : Array Oper} {K : S → Prop} {Q' : Exit → S → Prop} (hQ : ∀ s, K s → Q' .normal s) : ∀ (l : List Oper) (i : Nat) (s : S), ops.toList.drop i = l → opsx P G own ops l K s → ∀ (μ : Mu) (a : Act) (w : World), n ≤ s.st.length → GOk D G μ s.st w → Rel D μ s a w →
    ∀ (μ0 : Mu) (st0 : List Ob) (w0 : World), Fr μ0 st0 w0 μ s.st w → Ev n μ0 st0 μ s.st → wpOps P ops (fun e a' w' => Post D n μ0 st0 w0 (Q' e) a' w') (List.range' i l.length) a w
  | [], i, s, hl, h, μ, a, w, hn, hg, hr, μ0, st0, w0, hf, he => ⟨s, μ, hQ _ h, hr, hf, he⟩
  | o :: rest, i, s, hl, h, μ, a, w, hn, hg, hr, μ0, st0, w0, hf, he => by
    have hi : ops[i]? = some o := by
      have : ops.toList[i]? = some o := by
        have := congrArg (·[0]?) hl
        simpa [List.getElem?_drop] using this
      simpa using this
    have hl' : ops.toList.drop (i + 1) = rest := by
      have := congrArg (List.drop 1) hl
      simpa [List.drop_drop, Nat.add_comm] using this
    rw [List.length_cons, List.range'_succ]
    simp only [wpOps, hi]
    have doit : opx P G own o (opsx P G own ops rest K) s → o.wp P a w (wpOps P ops (fun e a' w' => Post D n μ0 st0 w0 (Q' e) a' w') (List.range' (i + 1) rest.length)) (fun e a' w' => Post D n μ0 st0 w0 (Q' e) a' w') := by
      intro hx
      refine Oper.wp_mono (fun a' w' ⟨s', μ', hK, hg', hr', hf', he'⟩ => ?_) (opx_ok hx hn hg hr)
      exact opsx_ok hQ rest (i + 1) s' hl' hK μ' a' w' (Nat.le_trans hn he'.1) hg' hr' μ0 st0 w0 (hf.trans hf') (he.trans (he'.mono hn))
    have skip : opsx P G own ops rest K (s.put o.dst (.tup []) s.st) → wpOps P ops (fun e a' w' => Post D n μ0 st0 w0 (Q' e) a' w') (List.range' (i + 1) rest.length) (a.put o.dst Go.undef) w :=
      fun hx => opsx_ok hQ rest (i + 1) _ hl' hx μ _ w (by simpa [S.put] using hn) (by simpa [S.put] using hg) (hr.skip o.dst) μ0 st0 w0 (by simpa [S.put] using hf) (by simpa [S.put] using he)
    simp only [opsx] at h
    cases hgd : o.guard with
    | none =>
      simp only [hgd] at h
      rw [if_pos (by simp [Region.wanted, hgd])]
      exact .inl (doit h)
    | some jw =>
      obtain ⟨j, want⟩ := jw
      simp only [hgd] at h
      split at h
      · rename_i d b hb
        obtain ⟨hy, ht⟩ := yielded_eq hr hb
        have hx : if b = want then opx P G own o (opsx P G own ops rest K) s else opsx P G own ops rest K (s.put o.dst (.tup []) s.st) := by
          cases b with
          | true =>
            have := h.yes rfl
            rw [fS_eq, ht true rfl] at this
            cases want with
            | true => simpa using this
            | false => simpa [fS_eq] using this
          | false =>
            have := h.no rfl
            rw [fS_eq, ht false rfl] at this
            cases want with
            | true => simpa [fS_eq] using this
            | false => simpa using this
        by_cases hbw : b = want
        · rw [if_pos (by simp [Region.wanted, hgd, hy, hbw])]
          rw [if_pos hbw] at hx
          exact .inl (doit hx)
        · rw [if_neg (by simp [Region.wanted, hgd, hy, hbw])]
          rw [if_neg hbw] at hx
          exact skip hx
      · rename_i d hb
        obtain ⟨hy, _⟩ := yielded_eq hr hb
        rw [if_neg (by simp [Region.wanted, hgd, hy])]
        rw [fS_eq] at h
        exact skip h
      · exact h.elim

/-- the weakest state that a code needs -/
def wpx (P : Program) (G : Gl) (own : Tmp → Bool) (n : Nat) : Code → (Exit → S → Prop) → S → Prop
  | .skip, Q, s => Q .normal s
  | .label _, Q, s => Q .normal s
  | .seq a b, Q, s => wpx P G own n a (fun e s' => match e with | .normal => wpx P G own n b Q s' | e => Q e s') s
  | .cond c a b, Q, s => match ev G s.sl c with
    | .i (.bool t) => Br t (wpx P G own n a Q s) (wpx P G own n b Q s)
    | _ => False
  | .block id c, Q, s => wpx P G own n c (fun e s' => match e with | .exit id' => if id' = id then Q .normal s' else Q (.exit id') s' | e => Q e s') s
  | .loop c, Q, s => W P G n (.loop c) Q s
  | .exit id, Q, s => Q (.exit id) s
  | .ret, Q, s => Q .ret s
  | .scope c, Q, s => wpx P G own n c (fun e s' => match e with | .goto _ => False | e => Q e s') s
  | .region id ops false, Q, s => opsx P G own ops ops.toList (Q .normal) s
  | .region id ops true, Q, s => W P G n (.region id ops true) Q s
  | _, _, _ => False

theorem wpx_ok {n : Nat} : ∀ (c : Code) (Q : Exit → S → Prop) (s : S), wpx P G own n c Q s → W P G n c Q s := by
  intro c
  induction c with
  | skip => intro Q s h; refine ⟨fun D μ a w hn hg hr => ?_⟩; exact wp_skip ⟨s, μ, h, hr, Fr.refl _ _ _, Ev.refl hn⟩
  | label l => intro Q s h; refine ⟨fun D μ a w hn hg hr => ?_⟩; exact wp_label ⟨s, μ, h, hr, Fr.refl _ _ _, Ev.refl hn⟩
  | seq x y ihx ihy =>
    intro Q s h
    refine ⟨fun D μ a w hn hg hr => ?_⟩
    refine wp_seq (wp_mono ((ihx _ s h).out D μ a w hn hg hr) fun e a' w' hp => ?_)
    obtain ⟨s', μ', h1, h2, h3, h4⟩ := hp
    cases e with
    | normal => exact wp_mono ((ihy _ s' h1).out D μ' a' w' h4.1 (hg.keep h3) h2) fun e a'' w'' hp => Post.trans h3 h4 hp
    | _ => exact ⟨s', μ', h1, h2, h3, h4⟩
  | cond x c1 c2 ih1 ih2 =>
    intro Q s h
    refine ⟨fun D μ a w hn hg hr => ?_⟩
    unfold wpx at h
    split at h
    · rename_i t ht
      have hv := ev_ok hg hr x
      rw [ht] at hv
      have hx : a.eval x = .bool t := by
        generalize a.eval x = y at hv
        cases hv with | i h => cases h; rfl
      cases t with
      | true => exact wp_cond_true hx ((ih1 _ s (h.yes rfl)).out D μ a w hn hg hr)
      | false => exact wp_cond_false hx ((ih2 _ s (h.no rfl)).out D μ a w hn hg hr)
    · exact h.elim
  | block id c ih =>
    intro Q s h
    refine ⟨fun D μ a w hn hg hr => ?_⟩
    refine wp_block (wp_mono ((ih _ s h).out D μ a w hn hg hr) fun e a' w' hp => ?_)
    obtain ⟨s', μ', h1, h2, h3, h4⟩ := hp
    cases e with
    | exit id' =>
      simp only [Exit.inBlock]
      simp only at h1
      split
      · rename_i hid; rw [if_pos hid] at h1; exact ⟨s', μ', h1, h2, h3, h4⟩
      · rename_i hid; rw [if_neg hid] at h1; exact ⟨s', μ', h1, h2, h3, h4⟩
    | _ => exact ⟨s', μ', h1, h2, h3, h4⟩
  | loop c ih => intro Q s h; exact h
  | rangeFunc => intro Q s h; exact h.elim
  | exit id => intro Q s h; refine ⟨fun D μ a w hn hg hr => ?_⟩; exact wp_exit ⟨s, μ, h, hr, Fr.refl _ _ _, Ev.refl hn⟩
  | scope c ih =>
    intro Q s h
    refine ⟨fun D μ a w hn hg hr => ?_⟩
    refine wp_scope_straight (wp_mono ((ih _ s h).out D μ a w hn hg hr) fun e a' w' hp => ?_)
    obtain ⟨s', μ', h1, h2, h3, h4⟩ := hp
    cases e with
    | goto l => exact h1.elim
    | _ => exact ⟨s', μ', h1, h2, h3, h4⟩
  | goto l => intro Q s h; exact h.elim
  | ret => intro Q s h; refine ⟨fun D μ a w hn hg hr => ?_⟩; exact wp_ret ⟨s, μ, h, hr, Fr.refl _ _ _, Ev.refl hn⟩
  | refuse why => intro Q s h; exact h.elim
  | region id ops d =>
    intro Q s h
    cases d with
    | true => exact h
    | false =>
      refine ⟨fun D μ a w hn hg hr => wp_region ?_⟩
      rw [List.range_eq_range']
      have hl : ops.size = ops.toList.length := by simp
      rw [hl]
      exact opsx_ok (fun s h => h) ops.toList 0 s rfl h μ a w hn hg hr μ s.st w (Fr.refl _ _ _) (Ev.refl hn)

/-- results -/
def andO : Prop → Option Prop → Option Prop
  | q, none => some q
  | q, some p => some (q ∧ p)
def resA (P : Program) (st : List Ob) (sl : List V) : List ResultVar → Option (Option Prop × List V)
  | [] => some (none, [])
  | .tmp t :: rs => (resA P st sl rs).map fun (p, vs) => (p, sl.getD t .undef :: vs)
  | .cell a t :: rs => match loadR P st t (sl.getD a .undef), resA P st sl rs with
    | some (q, v), some (p, vs) => some (andO q p, v :: vs)
    | _, _ => none
theorem andO_ok {q : Prop} {p : Option Prop} (h : sd (andO q p)) : q ∧ sd p := by
  cases p with
  | none => exact ⟨h _ rfl, fun q hq => nomatch hq⟩
  | some p => exact ⟨(h _ rfl).1, fun q hq => (Option.some.inj hq) ▸ (h _ rfl).2⟩
def resV : List V → V
  | [v] => v
  | vs => .tup vs

def resOne (tmps : Array Value) : ResultVar → Sem Value
  | .tmp t => pure (tmps.getD t Go.undef)
  | .cell x t => do loadVar t (← asAddr (tmps.getD x Go.undef))

theorem resA_ok {μ : Mu} {s : S} {a : Act} {w : World} (hr : Rel D μ s a w) : ∀ (rs : List ResultVar) (p : Option Prop) (vs : List V), resA P s.st s.sl rs = some (p, vs) → sd p →
    ∃ ys : List Value, (rs.mapM (resOne a.tmps)).run P w = .ok ys w ∧ ys.length = vs.length ∧ ∀ (j : Nat) (v : V), vs[j]? = some v → vrel μ s.st (qd D μ s.st w) w v (ys.getD j Go.undef)
  | [], p, vs, h, hp => by
    simp only [resA, Option.some.injEq, Prod.mk.injEq] at h
    obtain ⟨rfl, rfl⟩ := h
    exact ⟨[], by simp, rfl, by simp⟩
  | .tmp t :: rs, p, vs, h, hp => by
    simp only [resA, Option.map_eq_some_iff] at h
    obtain ⟨⟨p', vs'⟩, h1, h2⟩ := h
    cases h2
    obtain ⟨ys, e1, e2, e3⟩ := resA_ok hr rs p' vs' h1 hp
    refine ⟨a.tmps.getD t Go.undef :: ys, ?_, by simp [e2], fun j v hj => ?_⟩
    · simp only [List.mapM_cons, resOne, Sem.run_bind, Sem.run_pure, Result.andThen_ok, e1]
    · cases j with
      | zero =>
        simp only [List.getElem?_cons_zero, Option.some.injEq] at hj
        subst hj
        exact ev_ok (G := fun _ => none) (by intro g cs h; cases h) hr (.tmp t)
      | succ j => exact e3 j v (by simpa using hj)
  | .cell x t :: rs, p, vs, h, hp => by
    simp only [resA] at h
    split at h
    · rename_i q v p' vs' h1 h2
      cases h
      obtain ⟨hq, hp'⟩ := andO_ok hp
      obtain ⟨ys, e1, e2, e3⟩ := resA_ok hr rs p' vs' h2 hp'
      have hx := ev_ok (G := fun _ => none) (by intro g cs h; cases h) hr (.tmp x)
      obtain ⟨y, hl, hv⟩ := loadR_run (P := P) hr.st h1 hq hx
      have hxa : ∃ ad, a.eval (.tmp x) = .pointer (some ad) := by
        cases ha : a.eval (.tmp x) with
        | pointer ad =>
          cases ad with
          | some ad => exact ⟨ad, rfl⟩
          | none => rw [ha] at hl; simp [Instr.loadAt, Instr.sureAddr] at hl
        | _ => rw [ha] at hl; simp [Instr.loadAt, Instr.sureAddr] at hl
      obtain ⟨ad, hxa⟩ := hxa
      have hl' : (loadVar t ad).run P w = .ok y w := by
        rw [hxa] at hl
        simpa [Instr.loadAt, Instr.sureAddr] using hl
      refine ⟨y :: ys, ?_, by simp [e2], fun j u hj => ?_⟩
      · simp only [List.mapM_cons, resOne, Sem.run_bind]
        rw [show a.tmps.getD x Go.undef = .pointer (some ad) from hxa]
        simp only [asAddr, Sem.run_pure, Result.andThen_ok, hl', e1]
      · cases j with
        | zero =>
          simp only [List.getElem?_cons_zero, Option.some.injEq] at hj
          subst hj
          exact hv
        | succ j => exact e3 j u (by simpa using hj)
    · cases h

theorem results_ok {μ : Mu} {s : S} {a : Act} {w : World} (hr : Rel D μ s a w) {fn : Func} {p : Option Prop} {vs : List V} (h : resA P s.st s.sl fn.results.toList = some (p, vs)) (hp : sd p) :
    ∃ y, (results fn a.tmps).run P w = .ok y w ∧ vrel μ s.st (qd D μ s.st w) w (resV vs) y := by
  obtain ⟨ys, e1, e2, e3⟩ := resA_ok hr _ p vs h hp
  have e4 : (fn.results.mapM (resOne a.tmps)).run P w = .ok ys.toArray w := by
    rw [Array.mapM_eq_mapM_toList, Sem.run_map, e1]
    rfl
  have e5 : (results fn a.tmps).run P w = .ok (if h : ys.toArray.size = 1 then ys.toArray[0] else .tuple ys.toArray) w := by
    have : results fn a.tmps = (do let vs ← fn.results.mapM (resOne a.tmps); pure (if h : vs.size = 1 then vs[0] else .tuple vs)) := by
      unfold results
      congr 1
    rw [this]
    simp only [Sem.run_bind, e4, Result.andThen_ok, Sem.run_pure]
  refine ⟨_, e5, ?_⟩
  match vs, ys, e2, e3 with
  | [v], [y], _, e3 => simpa [resV] using e3 0 v rfl
  | [], [], _, _ => exact .tup [] _ rfl (by simp)
  | v1 :: v2 :: vs, y1 :: y2 :: ys, e2, e3 =>
    rw [dif_neg (by simp)]
    exact .tup _ _ (by simpa using e2) (fun j v hj => by
      have := e3 j v hj
      rw [Array.getD_eq_getD_getElem?, List.getElem?_toArray]
      simpa [List.getD] using this)

/-- what a body must come to -/
def retQ (P : Program) (fn : Func) (K : V → List Ob → Prop) : Exit → S → Prop
  | .normal, s | .ret, s => match resA P s.st s.sl fn.results.toList with
    | some (p, vs) => sdAnd p (fW (resV vs) fun r => K r s.st)
    | none => False
  | _, _ => False

/-- a function's contract out of its body -/
theorem call_of_body {f : FuncId} {fn : Func} {c : Code} {args : List V} {st : List Ob} {K : V → List Ob → Prop} (hf : P.funcs[f]? = some fn) (hb : fn.body = some c) (hcall : ∀ args' w0, (callFunc f args').run P w0 = .ok (.enter f args') w0)
    (h : W P G st.length c (retQ P fn K) ⟨args ++ List.replicate (fn.ntmps - args.length) .undef, st⟩) : CallW P G f args st K := by
  refine ⟨hcall, fun D μ w args' hg ha hs => calls_of_wp hf hb ?_⟩
  have hrel : Rel D μ ⟨args ++ List.replicate (fn.ntmps - args.length) .undef, st⟩ { tmps := args' ++ Array.replicate (fn.ntmps - args'.size) Go.undef, defers := [] } w := by
    refine ⟨rfl, ⟨by simp [ha.1], fun j v hj => ?_⟩, hs⟩
    simp only at hj ⊢
    by_cases hjl : j < args.length
    · rw [List.getElem?_append_left hjl] at hj
      have := ha.2 j v hj
      rw [Array.getD_eq_getD_getElem?] at this ⊢
      rwa [Array.getElem?_append_left (by rw [ha.1]; exact hjl)]
    · rw [List.getElem?_append_right (by omega), List.getElem?_replicate] at hj
      split at hj
      · cases hj; exact .undef _
      · cases hj
  refine wp_mono (h.out D μ _ w (Nat.le_refl _) hg hrel) fun e a' w' hp => ?_
  obtain ⟨s', μ', h1, h2, h3, h4⟩ := hp
  have fin : (match resA P s'.st s'.sl fn.results.toList with | some (p, vs) => sdAnd p (fW (resV vs) fun r => K r s'.st) | none => False) →
      a'.defers = [] ∧ ∃ v, (results fn a'.tmps).run P w' = .ok v w' ∧ ∃ r r' st' μ', Ending.returned v = .returned r' ∧ K r st' ∧ vrel μ' st' (qd D μ' st' w') w' r r' ∧ srel D μ' st' w' ∧ Fr μ st w μ' st' w' ∧ Ev st.length μ st μ' st' := by
    intro hm
    split at hm
    · rename_i p vs hres
      obtain ⟨m1, m2⟩ := sdAnd_ok hm
      rw [fW_eq] at m2
      obtain ⟨y, hy, hv⟩ := results_ok (P := P) h2 hres m1
      exact ⟨h2.dfr, y, hy, resV vs, y, s'.st, μ', rfl, m2, hv, h2.st, h3, h4⟩
    · exact hm.elim
  cases e with
  | normal => exact fin h1
  | ret => exact fin h1
  | _ => exact h1.elim
end
end Go.Proofs.YtdbmfnhbgacldaaDoor.Am
