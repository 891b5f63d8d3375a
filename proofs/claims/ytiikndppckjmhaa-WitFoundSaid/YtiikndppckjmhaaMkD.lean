/- Contracts: a builder's methods, beside the store. -/
import Derived.Test.YtiikndppckjmhaaMkC
namespace Go.Proofs.Ytiikndppckjmhaa.Am
set_option autoImplicit false
set_option linter.unusedVariables false
set_option linter.unusedSimpArgs false
set_option maxRecDepth 10000
set_option pp.maxSteps 3000
set_option pp.proofs false
section
variable {P : Program} {G : Gl} {D : Nat → Prop} {μ : Mu} {st : List Ob} {w w' : World}
/-- what is not the builder's stands: the store is as it was -/
theorem els_keep {b : Nat} {go : Option Nat} {bs : List UInt8} (hs : srel D μ st w) (hJ : KJ (some (.bld b go bs)) D w) (he : Els b go w w') (k' : Km) (hh : KH k' w') (hx : ∀ g, kxx k' g → g < w.heap.size → g = b ∨ go = some g) :
    ∃ D', Sub D' D w ∧ srel D' μ st w' ∧ KJ k' D' w' ∧ FrK (some (.bld b go bs)) k' μ st w μ st w' := by
  have hb : ∀ g, g < w.heap.size → D g → w'.heap[g]? = w.heap[g]? := fun g hg hd => he.block g hg (fun e => hJ.nd g (.inl e) hd) (fun e => hJ.nd g (.inr e.symm) hd)
  obtain ⟨D', hD'⟩ : ∃ D' : Nat → Prop, D' = fun g => D g ∧ (g < w.heap.size ∨ w'.heap.size ≤ g) := ⟨_, rfl⟩
  have hsub : Sub D' D w := by subst hD'; exact ⟨fun g h => h.1, fun g hg hd => ⟨hd, .inl hg⟩⟩
  have hq : ∀ g, Am.qd D μ st w g → Am.qd D' μ st w' g ∧ w'.heap[g]? = w.heap[g]? := fun g hg => ⟨⟨⟨Nat.lt_of_lt_of_le hg.1.1 he.size, hg.1.2⟩, hsub.2 g hg.1.1 hg.2⟩, hb g hg.1.1 hg.2⟩
  refine ⟨D', hsub, ⟨fun g hg => by subst hD'; exact ⟨hs.dom g (Nat.le_trans he.size hg), .inr hg⟩, fun id ver sz ro es hi => ?_, hs.inj⟩, ⟨fun g hg hd => ?_, hh⟩, ⟨⟨he.os, he.tape, he.output, he.size, fun g hg hp => ⟨he.block g hp.1 (fun e => hg (.inl e)) (fun e => hg (.inr e.symm)), hp.2⟩⟩, fun g hg hk => hx g hk hg⟩⟩
  · rcases hs.row id ver sz ro es hi with h1 | ⟨j, m, cur, T, lo, hi', b1, b2, b3, b4, b5, b6, b7, b8, b9⟩
    · exact .inl h1
    · exact .inr ⟨j, m, cur, T, lo, hi', b1, (hb j (row_lt b2) b8).trans b2, b3, b4, b5, fun i cs j' v x y => (b6 i cs j' v x y).keep (Ev.refl (Nat.le_refl _)) hq, fun h => (hq j (b7 h)).1, hsub.2 j (row_lt b2) b8, b9⟩
  · subst hD'
    obtain ⟨hd1, hd2⟩ := hd
    rcases hd2 with hd2 | hd2
    · exact hJ.nd g (hx g hg hd2) hd1
    · have := hh.lt g hg; omega
end
/-- a loop: a family of states in two indexes -/
theorem kloop2 {P : Program} {G : Gl} {n : Nat} {β : Type} (I : Nat → β → S) (J : Nat → β → Km) (Inv : Nat → Prop) (m : Nat → Nat) (x0 : Nat) (y0 : β) {c : Code} {Q : Exit → Km → S → Prop} {s : S} {k : Km} (hi : Inv x0) (h0 : Le n s (I x0 y0)) (hk0 : k = J x0 y0)
    (round : ∀ x y, Inv x → KW P G n c (fun e k' s' => match e with | .normal => ∃ x' y', Inv x' ∧ m x' < m x ∧ Le n s' (I x' y') ∧ k' = J x' y' | e => Q e k' s') (I x y) (J x y)) : KW P G n (.loop c) Q s k :=
  kloop_ok (α := Nat × β) (fun x => I x.1 x.2) (fun x => J x.1 x.2) (fun x => Inv x.1) (fun x => m x.1) (x0, y0) hi h0 hk0 fun x hx => (round x.1 x.2 hx).mono fun e k' s' h => by
    cases e with
    | normal => obtain ⟨x', y', h1, h2, h3, h4⟩ := h; exact ⟨(x', y'), h1, h2, h3, h4⟩
    | _ => exact h
/-- a contract where rows bear greater versions -/
theorem CallK.vers {P : Program} {G : Gl} (d : Nat → Nat) {f : FuncId} {args : List V} {st : List Ob} {k : Km} {K : V → List Ob → Km → Prop} (h : CallK P G f args st k K) :
    CallK P G f (args.map (V.up d)) (upSt d 0 st) k (fun r st' k' => ∃ r0 st0, K r0 st0 k' ∧ r = r0.up d ∧ st' = upSt d 0 st0) := by
  refine ⟨h.enter, fun D μ w args' hg ha hs hJ => ?_⟩
  have ha0 : vrels μ st (Am.qd D μ st w) w args args' := by
    refine ⟨by simpa using ha.1, fun j v hj => ?_⟩
    have := ha.2 j (v.up d) (by simp [hj])
    exact same_qd (fun g hg => up_qd.1 hg) (this.down v rfl)
  refine (h.calls D μ w args' (hg.of_live fun g h => up_live.2 h) ha0 hs.down hJ).mono fun e w' he => ?_
  obtain ⟨r, r', st', μ', k', D', rfl, q, hK, hv, hs', hJ', hf', he'⟩ := he
  refine ⟨_, r', _, μ', k', D', rfl, q, ⟨r, st', hK, rfl, rfl⟩, same_qd (fun g hg => up_qd.2 hg) hv.up, hs'.up, hJ', ⟨?_, hf'.ext⟩, by simpa using he'.up⟩
  exact ⟨hf'.fr.os, hf'.fr.tape, hf'.fr.output, hf'.fr.size, fun g hg hp => by
    obtain ⟨q1, q2⟩ := hf'.fr.prot g hg ⟨hp.1, fun hl => hp.2 (up_live.2 hl)⟩
    exact ⟨q1, fun hl => q2 (up_live.1 hl)⟩⟩
/-- a byte more -/
theorem wbK (G : Gl) (st : List Ob) (b : Nat) (go : Option Nat) (bs : List UInt8) (n : Nat) (hn : n < 256) (hl : bs.length + 1 ≤ 140737488355328) :
    CallK Try.prog G 116 [.i (.bp b), .i (.int .u8 (n : Nat))] st (some (.bld b go bs)) (fun r st' k' => r = .undef ∧ st' = st ∧ ∃ go', k' = some (.bld b go' (bs ++ [UInt8.ofNat n]))) := by
  refine ⟨fun a w => Try.call116 a w, fun D μ w args' hg ha hs hJ => ?_⟩
  obtain ⟨h1, h2⟩ := ha
  obtain ⟨a0, a1, rfl⟩ : ∃ a b, args' = #[a, b] := by
    obtain ⟨l⟩ := args'
    match l, h1 with
    | [a, b], _ => exact ⟨a, b, rfl⟩
  have v0 := h2 0 _ rfl
  have v1 := h2 1 _ rfl
  cases v0 with | i v0 =>
  generalize hy0 : (#[a0, a1] : Array Value).getD 0 Go.undef = y0 at v0
  cases v0 with | bp =>
  cases v1 with | i v1 =>
  generalize hy1 : (#[a0, a1] : Array Value).getD 1 Go.undef = y1 at v1
  cases v1 with | int =>
  have e0 : a0 = .pointer (some ⟨b, 0, none⟩) := hy0
  have e1 : a1 = .int .u8 (n : Nat) := hy1
  subst e0 e1
  refine (wb_ok b go (Lib.byteCells bs) (n : Nat) w hJ.has (by rw [Lib.byteCells_length]; exact hl)).mono ?_
  rintro e w' ⟨rfl, hE, go', hB, hgo⟩
  have hB' : BIs b go' (Lib.byteCells (bs ++ [UInt8.ofNat n])) w' := by
    rw [Lib.byteCells_append]
    have : Lib.byteCells [UInt8.ofNat n] = [.int .u8 (n : Nat)] := by simp [Lib.byteCells, Nat.mod_eq_of_lt hn]
    rw [this]; exact hB
  obtain ⟨D', q1, q2, q3, q4⟩ := els_keep hs hJ hE (some (.bld b go' (bs ++ [UInt8.ofNat n]))) hB' (fun g hg hlt => by
    rcases hg with hg | hg
    · exact .inl hg
    · rcases hgo with rfl | ⟨g', rfl, hge⟩
      · exact .inr hg
      · cases hg; omega)
  exact ⟨.undef, _, st, μ, _, D', rfl, q1, ⟨rfl, rfl, go', rfl⟩, .undef _, q2, q3, q4, Ev.refl (Nat.le_refl _)⟩
/-- the text -/
theorem bsK (G : Gl) (st : List Ob) (b : Nat) (go : Option Nat) (bs : List UInt8) (h0 : bs ≠ []) (hl : bs.length ≤ 140737488355328) :
    CallK Try.prog G 117 [.i (.bp b)] st (some (.bld b go bs)) (fun r st' k' => r = .i (.str ⟨bs.toArray⟩) ∧ st' = st ∧ k' = none) := by
  refine ⟨fun a w => Try.call117 a w, fun D μ w args' hg ha hs hJ => ?_⟩
  obtain ⟨h1, h2⟩ := ha
  obtain ⟨a0, rfl⟩ : ∃ a, args' = #[a] := by
    obtain ⟨l⟩ := args'
    match l, h1 with
    | [a], _ => exact ⟨a, rfl⟩
  have v0 := h2 0 _ rfl
  cases v0 with | i v0 =>
  generalize hy0 : (#[a0] : Array Value).getD 0 Go.undef = y0 at v0
  cases v0 with | bp =>
  have e0 : a0 = .pointer (some ⟨b, 0, none⟩) := hy0
  subst e0
  refine (bstr_ok b go bs w hJ.has h0 hl).mono ?_
  rintro e w' ⟨rfl, hE⟩
  obtain ⟨D', q1, q2, q3, q4⟩ := els_keep hs hJ hE none trivial (fun g hg => hg.elim)
  exact ⟨_, _, st, μ, _, D', rfl, q1, ⟨rfl, rfl, rfl⟩, .i (.str _), q2, q3, q4, Ev.refl (Nat.le_refl _)⟩
end Go.Proofs.Ytiikndppckjmhaa.Am
