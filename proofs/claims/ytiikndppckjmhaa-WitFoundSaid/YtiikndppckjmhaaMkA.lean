/- The logic with one map beside the store: what stands there; operations. -/
import Derived.Test.YtiikndppckjmhaaBdWitFound32
import Derived.Test.YtiikndppckjmhaaBuA
import Derived.MapKept
namespace Go.Proofs.Ytiikndppckjmhaa.Am
set_option autoImplicit false
set_option linter.unusedVariables false
set_option linter.unusedSimpArgs false
/-- what stands beside the store: a map, by its block, and the texts that it has; a builder, by its blocks, and its bytes -/
inductive Kc where
  | map (l : Nat) (M : List ByteArray)
  | bld (b : Nat) (go : Option Nat) (bs : List UInt8)
abbrev Km := Option Kc
def kxx (k : Km) (g : Nat) : Prop := match k with | some (.map l _) => g = l | some (.bld b go _) => g = b ∨ go = some g | none => False
def mapHas (w : World) (l : Nat) (M : List ByteArray) : Prop := ∃ es clock, w.heap[l]? = some (.map es clock) ∧ es.toList.map (fun e => (e.key, e.val)) = M.map fun s => (Value.string s, Value.bool true)
def KH (k : Km) (w : World) : Prop := match k with | some (.map l M) => mapHas w l M | some (.bld b go bs) => BIs b go (Lib.byteCells bs) w | none => True
structure KJ (k : Km) (D : Nat → Prop) (w : World) : Prop where
  nd : ∀ g, kxx k g → ¬ D g
  has : KH k w
def kext (k k' : Km) (w : World) : Prop := ∀ g, g < w.heap.size → kxx k' g → kxx k g
theorem kext_refl (k : Km) (w : World) : kext k k w := fun _ _ h => h
theorem BIs.keep {b : Nat} {go : Option Nat} {bs : List Value} {w w' : World} (h : BIs b go bs w) (hk : ∀ g, g = b ∨ go = some g → w'.heap[g]? = w.heap[g]?) : BIs b go bs w' := by
  obtain ⟨p, v, h1, h2, h3, h4, h5⟩ := h
  refine ⟨p, v, h1, by rw [hk b (.inl rfl)]; exact h2, ⟨h3.1, ?_⟩, h4, h5⟩
  rcases h3.2 with q | ⟨g, cap, cur, rfl, q1, q2, q3⟩
  · exact .inl q
  · exact .inr ⟨g, cap, cur, rfl, q1, by rw [hk g (.inr (h4.symm.trans rfl))]; exact q2, q3⟩
theorem KH.lt {k : Km} {w : World} (h : KH k w) : ∀ g, kxx k g → g < w.heap.size := by
  intro g hg
  match k, h, hg with
  | some (.map l M), ⟨es, clock, h2, _⟩, hg => have hg : g = l := hg; rw [hg]; exact row_lt h2
  | some (.bld b go bs), ⟨p, v, h1, h2, h3, h4, h5⟩, hg =>
    rcases hg with rfl | hg
    · exact row_lt h2
    · rcases h3.2 with ⟨rfl, _⟩ | ⟨g', cap, cur, rfl, q1, q2, q3⟩
      · rw [← h4] at hg; cases hg
      · rw [← h4] at hg; cases hg; exact row_lt q2
theorem KH.keep {k : Km} {w w' : World} (h : KH k w) (hk : ∀ g, kxx k g → w'.heap[g]? = w.heap[g]?) : KH k w' := by
  match k, h, hk with
  | none, _, _ => trivial
  | some (.map l M), ⟨es, clock, h2, h3⟩, hk => exact ⟨es, clock, by rw [hk l rfl]; exact h2, h3⟩
  | some (.bld b go bs), h, hk => exact BIs.keep h hk
structure FrK (k k' : Km) (μ : Mu) (st : List Ob) (w : World) (μ' : Mu) (st' : List Ob) (w' : World) : Prop where
  fr : FrX (kxx k) μ st w μ' st' w'
  ext : kext k k' w
theorem FrK.refl (k : Km) (μ : Mu) (st : List Ob) (w : World) : FrK k k μ st w μ st w := ⟨FrX.refl _ _ _ _, kext_refl k w⟩
theorem FrK.trans {k k1 k2 : Km} {μ μ1 μ2 : Mu} {st st1 st2 : List Ob} {w w1 w2 : World} (h : FrK k k1 μ st w μ1 st1 w1) (h2 : FrK k1 k2 μ1 st1 w1 μ2 st2 w2) : FrK k k2 μ st w μ2 st2 w2 := by
  refine ⟨⟨h2.fr.os.trans h.fr.os, h2.fr.tape.trans h.fr.tape, h2.fr.output.trans h.fr.output, Nat.le_trans h.fr.size h2.fr.size, fun g hg hp => ?_⟩, fun g hg hk => h.ext g hg (h2.ext g (Nat.lt_of_lt_of_le hg h.fr.size) hk)⟩
  obtain ⟨e1, l1⟩ := h.fr.prot g hg hp
  obtain ⟨e2, l2⟩ := h2.fr.prot g (fun hk => hg (h.ext g hp.1 hk)) ⟨Nat.lt_of_lt_of_le hp.1 h.fr.size, l1⟩
  exact ⟨e2.trans e1, l2⟩
theorem kD {k : Km} {D : Nat → Prop} {w : World} (h : KJ k D w) : ∀ g, kxx k g → ¬ D g := h.nd
theorem kj0 {D : Nat → Prop} {w : World} : KJ none D w := ⟨fun _ h => h.elim, trivial⟩
theorem KJ.fr {k : Km} {D : Nat → Prop} {μ μ' : Mu} {st st' : List Ob} {w w' : World} (h : KJ k D w) (hs : srel D μ st w) (hf : Fr μ st w μ' st' w') : KJ k D w' :=
  ⟨h.nd, h.has.keep fun g hg => (hf.prot g ⟨h.has.lt g hg, fun hl => h.nd g hg (live_D hs hl)⟩).1⟩
theorem Fr.k {k : Km} {μ μ' : Mu} {st st' : List Ob} {w w' : World} (h : Fr μ st w μ' st' w') : FrK k k μ st w μ' st' w' := ⟨h.x, kext_refl k w⟩
theorem FrK.qd {k k' : Km} {D D' : Nat → Prop} {μ μ' : Mu} {st st' : List Ob} {w w' : World} (h : FrK k k' μ st w μ' st' w') (hJ : KJ k D w) (hs : Sub D' D w) : ∀ g, Am.qd D μ st w g → Am.qd D' μ' st' w' g ∧ w'.heap[g]? = w.heap[g]? := h.fr.qd' (kD hJ) hs
theorem GOk.keepK {k k' : Km} {G : Gl} {D D' : Nat → Prop} {μ μ' : Mu} {st st' : List Ob} {w w' : World} (h : GOk D G μ st w) (hf : FrK k k' μ st w μ' st' w') (hJ : KJ k D w) (hs : Sub D' D w) : GOk D' G μ' st' w' := by
  intro g cs hg
  obtain ⟨hQ, xs, hw, hr⟩ := h g cs hg
  have hk := hf.qd hJ hs
  exact ⟨(hk _ hQ).1, xs, fun j v hj => by rw [cell_of_heap (hk _ hQ).2]; exact hw j v hj, fun j v hj => (hr j v hj).keep hk⟩
/-- a call, with a map beside the store -/
structure CallK (P : Program) (G : Gl) (f : FuncId) (args : List V) (st : List Ob) (k : Km) (K : V → List Ob → Km → Prop) : Prop where
  enter : ∀ args' w0, (callFunc f args').run P w0 = .ok (.enter f args') w0
  calls : ∀ (D : Nat → Prop) μ w args', GOk D G μ st w → vrels μ st (qd D μ st w) w args args' → srel D μ st w → KJ k D w →
    Calls P f args' w (fun e w' => ∃ r r' st' μ' k' D', e = .returned r' ∧ Sub D' D w ∧ K r st' k' ∧ vrel μ' st' (qd D' μ' st' w') w' r r' ∧ srel D' μ' st' w' ∧ KJ k' D' w' ∧ FrK k k' μ st w μ' st' w' ∧ Ev st.length μ st μ' st')
theorem CallW.k {P : Program} {G : Gl} {f : FuncId} {args : List V} {st : List Ob} {K : V → List Ob → Prop} (k : Km) (h : CallW P G f args st K) : CallK P G f args st k (fun r st' k' => k' = k ∧ K r st') := by
  refine ⟨h.enter, fun D μ w args' hg ha hs hJ => (h.calls D μ w args' hg ha hs).mono fun e w' he => ?_⟩
  obtain ⟨r, r', st', μ', rfl, h1, h2, h3, h4, h5⟩ := he
  exact ⟨r, r', st', μ', k, D, rfl, Sub.refl D w, ⟨rfl, h1⟩, h2, h3, hJ.fr hs h4, h4.k, h5⟩
theorem CallK.mono {P : Program} {G : Gl} {f : FuncId} {args : List V} {st : List Ob} {k : Km} {K K' : V → List Ob → Km → Prop} (h : CallK P G f args st k K) (hk : ∀ r st' k', K r st' k' → K' r st' k') : CallK P G f args st k K' := by
  refine ⟨h.enter, fun D μ w args' hg ha hs hJ => (h.calls D μ w args' hg ha hs hJ).mono fun e w' he => ?_⟩
  obtain ⟨r, r', st', μ', k', D', h0, h1, h2, h3⟩ := he
  exact ⟨r, r', st', μ', k', D', h0, h1, hk _ _ _ h2, h3⟩
/-- a call that makes its map itself -/
theorem CallK.out {P : Program} {G : Gl} {f : FuncId} {args : List V} {st : List Ob} {K : V → List Ob → Prop} (h : CallK P G f args st none (fun r st' _ => K r st')) : CallW P G f args st K := by
  refine ⟨h.enter, fun D μ w args' hg ha hs => (h.calls D μ w args' hg ha hs kj0).mono fun e w' he => ?_⟩
  obtain ⟨r, r', st', μ', k', D', rfl, q, h1, h2, h3, h4, h5, h6⟩ := he
  exact ⟨r, r', st', μ', rfl, h1, vrel_mono q.1 h2, srel_mono q.1 (fun g hg => hs.dom g (Nat.le_trans h5.fr.size hg)) h3, ⟨h5.fr.os, h5.fr.tape, h5.fr.output, h5.fr.size, fun g hg => h5.fr.prot g (fun h => h) hg⟩, h6⟩
/-- a map's type: texts to truth values -/
def mapTB (P : Program) (t : TypeId) : Bool := match P.underlying t with
  | some (.map kt et) => (match P.underlying kt with | some .string => true | _ => false) && (match P.info? et with | some i => (match i.zero with | some (.bool false) => true | _ => false) | none => false)
  | _ => false
def bldB (P : Program) : Bool := match P.info? bldT with
  | some i => match i.zero with
    | some (.agg ⟨[.pointer none, .slice none 0 0]⟩) => true
    | _ => false
  | none => false
theorem run_bld {P : Program} (h : bldB P = true) (w : World) : (Instr.alloc bldT true (.tuple #[])).run P w = .ok (.pointer (some ⟨w.heap.size, 0, none⟩)) (w.alloc (.cells #[.pointer none, .slice none 0 0] bldT)) := by
  unfold bldB at h
  split at h
  · rename_i i hi
    split at h
    · rename_i hz
      simp [Instr.alloc, zeroValue, typeInfo, hi, hz, newVar, newRow, Value.cells]
    · cases h
  · cases h
/-- a builder is made where nothing stands beside the store -/
def isBld (k : Km) (t : TypeId) : Bool := match k with
  | some _ => false
  | none => Nat.beq t bldT
def opk (P : Program) (G : Gl) (own : Tmp → Bool) (o : Oper) (K : Km → S → Prop) (k : Km) (s : S) : Prop :=
  match o.op with
  | .makeMap t none => match k with
    | none => ∀ l : Nat, fS (s.put o.dst (.i (.mp l)) s.st) (K (some (.map l [])))
    | some _ => False
  | .alloc t => match isBld k t with
    | true => bldB P = true ∧ ∀ b : Nat, fS (s.put o.dst (.i (.bp b)) s.st) (K (some (.bld b none [])))
    | false => opx P G own o (K k) s
  | .lookup t x i false => match ev G s.sl x, ev G s.sl i, k with
    | .i (.mp l), .i (.str c), some (.map l' M) => l = l' ∧ mapTB P t = true ∧ ∀ b : Bool, (b = true ↔ c ∈ M) → fS (s.put o.dst (.i (.bool b)) s.st) (K (some (.map l' M)))
    | _, _, _ => False
  | .mapUpdate t x i v => match ev G s.sl x, ev G s.sl i, ev G s.sl v, k with
    | .i (.mp l), .i (.str c), .i (.bool true), some (.map l' M) => l = l' ∧ mapTB P t = true ∧ c ∉ M ∧ fS (s.put o.dst (.tup []) s.st) (K (some (.map l' (M ++ [c]))))
    | _, _, _, _ => False
  | .call ⟨.value f, args, _⟩ => match ev G s.sl f with
    | .fn (.func fid) first captured => fVs' (first ++ (args.toList.map (ev G s.sl) ++ captured)) fun ar => CallK P G fid ar s.st k (fun r st' k' => fW r fun r => fS (s.put o.dst r st') (K k'))
    | _ => False
  | _ => opx P G own o (K k) s
section
variable {P : Program} {G : Gl} {own : Tmp → Bool} {D : Nat → Prop}
theorem keys_is {es : List MapEntry} {M : List ByteArray} (h : es.map (fun e => (e.key, e.val)) = M.map fun s => (Value.string s, Value.bool true)) : ∀ e ∈ es, ∃ s ∈ M, e.key = .string s ∧ e.val = .bool true := by
  intro e he
  have : (e.key, e.val) ∈ es.map (fun e => (e.key, e.val)) := List.mem_map.2 ⟨e, he, rfl⟩
  rw [h] at this
  obtain ⟨s, hs, e1⟩ := List.mem_map.1 this
  simp only [Prod.mk.injEq] at e1
  exact ⟨s, hs, e1.1.symm, e1.2.symm⟩
theorem is_key {es : List MapEntry} {M : List ByteArray} (h : es.map (fun e => (e.key, e.val)) = M.map fun s => (Value.string s, Value.bool true)) {c : ByteArray} (hc : c ∈ M) : ∃ e ∈ es, e.key = .string c := by
  have : (Value.string c, Value.bool true) ∈ M.map fun s => (Value.string s, Value.bool true) := List.mem_map.2 ⟨c, hc, rfl⟩
  rw [← h] at this
  obtain ⟨e, he, e1⟩ := List.mem_map.1 this
  simp only [Prod.mk.injEq] at e1
  exact ⟨e, he, e1.1⟩
theorem find_in {es : List MapEntry} {M : List ByteArray} (h : es.map (fun e => (e.key, e.val)) = M.map fun s => (Value.string s, Value.bool true)) (c : ByteArray) :
    (c ∉ M ∧ Instr.findNow .string (.string c) es 0 = some none) ∨ (c ∈ M ∧ ∃ i, Instr.findNow .string (.string c) es 0 = some (some (i, .bool true))) := by
  have hk : ∀ x ∈ es, MapKept.IsKey .string x.key := fun x hx => by obtain ⟨s, _, e, _⟩ := keys_is h x hx; rw [e]; simp [MapKept.IsKey]
  rcases MapKept.findNow_spec (d := .string) (k := .string c) (by simp [MapKept.IsKey]) es 0 hk with ⟨h1, h2⟩ | ⟨j, e, h1, h2, h3⟩
  · refine .inl ⟨fun hc => ?_, h1⟩
    obtain ⟨e, he, e1⟩ := is_key h hc
    exact h2 e he e1
  · obtain ⟨s, hs, e1, e2⟩ := keys_is h e (List.mem_of_getElem? h2)
    rw [h3] at e1
    cases e1
    exact .inr ⟨hs, 0 + j, by rw [h1, e2]⟩
theorem mapT_of {t : TypeId} (h : mapTB P t = true) : ∃ kt et, P.underlying t = some (.map kt et) ∧ P.underlying kt = some .string ∧ ∀ w, (zeroValue et).run P w = .ok (.bool false) w := by
  unfold mapTB at h
  split at h
  · rename_i kt et hu
    simp only [Bool.and_eq_true] at h
    obtain ⟨h1, h2⟩ := h
    refine ⟨kt, et, hu, ?_, fun w => ?_⟩
    · split at h1
      · assumption
      · cases h1
    · split at h2
      · rename_i i hi
        split at h2
        · rename_i hz
          simp [zeroValue, typeInfo, hi, hz]
        · cases h2
      · cases h2
  · cases h
theorem run_look {t : TypeId} (ht : mapTB P t = true) {l : Nat} {M : List ByteArray} {w : World} (h : mapHas w l M) (c : ByteArray) : ∃ b, (b = true ↔ c ∈ M) ∧ (Instr.lookup t (.map (some l)) (.string c) false).run P w = .ok (.bool b) w := by
  obtain ⟨kt, et, hu, hk, hz⟩ := mapT_of ht
  obtain ⟨es, clock, hb, he⟩ := h
  have hc : (Instr.checkKey es.isEmpty 10000 kt (.string c)).run P w = .ok () w := MapKept.run_checkKey (k := .string c) hk (by simp [MapKept.IsKey]) _ 9999
  rcases find_in he c with ⟨h1, h2⟩ | ⟨h1, i, h2⟩
  · refine ⟨false, by simp [h1], ?_⟩
    simp [Instr.lookup, run_underlying hu, MapKept.run_getObj_map hb, hc, MapKept.run_findKey hk h2, Result.andThen, hz]
  · refine ⟨true, by simp [h1], ?_⟩
    simp [Instr.lookup, run_underlying hu, MapKept.run_getObj_map hb, hc, MapKept.run_findKey hk h2, Result.andThen]
theorem run_upd {t : TypeId} (ht : mapTB P t = true) {l : Nat} {M : List ByteArray} {w : World} (h : mapHas w l M) (c : ByteArray) (hc : c ∉ M) :
    ∃ o, (Instr.mapUpdate t (.map (some l)) (.string c) (.bool true)).run P w = .ok () (w.putObj l o) ∧ mapHas (w.putObj l o) l (M ++ [c]) := by
  obtain ⟨kt, et, hu, hk, hz⟩ := mapT_of ht
  obtain ⟨es, clock, hb, he⟩ := h
  have hck : (Instr.checkKey false 10000 kt (.string c)).run P w = .ok () w := MapKept.run_checkKey (k := .string c) hk (by simp [MapKept.IsKey]) _ 9999
  rcases find_in he c with ⟨h1, h2⟩ | ⟨h1, i, h2⟩
  · refine ⟨.map (es.push { key := .string c, val := .bool true, born := clock }) (clock + 1), ?_, es.push { key := .string c, val := .bool true, born := clock }, clock + 1, World.putObj_heap_same (row_lt hb), ?_⟩
    · simp [Instr.mapUpdate, run_underlying hu, MapKept.run_getObj_map hb, hck, MapKept.run_findKey hk h2, Result.andThen, MapKept.run_setObj_map _ hb]
      rfl
    · simp [he]
  · exact absurd h1 hc
end
end Go.Proofs.Ytiikndppckjmhaa.Am
