/- Contracts: what the laws of the wire share. -/
import Derived.Test.YtdbmfnhbgacldaaDoorWxF
namespace Go.Proofs.YtdbmfnhbgacldaaDoor.Am
set_option autoImplicit false
set_option linter.unusedVariables false
set_option linter.unusedSimpArgs false
set_option maxRecDepth 10000
set_option pp.maxSteps 20000
set_option pp.proofs false
theorem wr_ren (fn : Nat → Nat) (h0 : fn 0 = 0) (h1 : fn 1 = 1) (k : Nat) (zs : List (List I)) : (wr k zs).map (Ob.ren fn) = wr k zs := by
  simp only [wr, List.map_cons, List.map_nil, ren_lift]
  simp [Ob.ren, V.ren.renAll, V.ren, h1]
theorem atW {G : Gl} {f : FuncId} {args : List V} {v : V} {k k' : Nat} {zs zs' : List (List I)} (post : List Ob) (h : CallW Tryd.prog G f args (wr k zs) (fun r st' => r = v ∧ st' = wr k' zs')) (ha : V.cl.clAll 2 args = true) (hv : V.cl 0 v = true) :
    CallW Tryd.prog G f (V.ren.renAll (fm [0, 1] (wr k zs ++ post).length) args) (wr k zs ++ post) (fun r st' => r = v ∧ st' = wr k' zs' ++ post) := by
  refine (CallW.rise (bargs := V.ren.renAll (fm [0, 1] (wr k zs ++ post).length) args) (big := wr k zs ++ post) [0, 1] [] h rfl (by decide) (by simp [wr]) ?_ (wr_cl _ _) (by simp) (renAll_len _ _) (args_ren ha) (.inl rfl)).mono ?_
  · rw [wr_ren _ rfl rfl]
    rfl
  · rintro r st' ⟨r0, s0, ⟨rfl, rfl⟩, rfl, rfl⟩
    rw [wr_ren _ rfl rfl]
    exact ⟨ren_cl0 _ _ hv, by simp [putAll, wr]⟩
/-- a call with a writer that has nothing yet -/
theorem CallW.wr0 {G : Gl} {f : FuncId} {args : List V} {K : V → List Ob → Prop} (h : CallW Tryd.prog G f args (wr 0 []) K) : CallW Tryd.prog G f args Am.wr0 K :=
  CallW.le (Le.nilCell 0 0 0 1 rfl rfl rfl) (by decide) h
abbrev Item := Nat × Int × List Nat × Nat
def encIt (x : Item) : List I := [.int .u8 x.1, .int .i64 x.2.1, .sl (x.2.2.1.map by8), .int .u32 x.2.2.2]
def lg : Nat → List Item → Nat
  | n, [] => n
  | n, x :: r => if n ≤ 600 then lg (n + min x.2.2.1.length 601) r else n
def okIt (x : Item) : Prop := x.1 < 256 ∧ (-9223372036854775808 ≤ x.2.1 ∧ x.2.1 ≤ 9223372036854775807) ∧ (∀ b ∈ x.2.2.1, b < 256) ∧ x.2.2.2 < 4294967296
theorem lg_small : ∀ (l : List Item) (n : Nat), lg n l ≤ 600 → n ≤ 600 ∧ ∀ x ∈ l, x.2.2.1.length ≤ 600
  | [], n, h => ⟨h, by simp⟩
  | x :: r, n, h => by
    rw [lg] at h
    split at h
    · obtain ⟨h1, h2⟩ := lg_small r _ h
      refine ⟨by omega, fun y hy => ?_⟩
      simp only [List.mem_cons] at hy
      rcases hy with rfl | hy
      · omega
      · exact h2 y hy
    · omega
theorem long15 (l : List Item) (hl : l.length ≤ 9223372036854775807) : CallW Tryd.prog G0 15 [.i (.sl (l.map encIt))] [] (fun r st' => r = .i (.bool (decide (600 < lg l.length l))) ∧ st' = []) := by
  refine call_of_bodyF 0 (Nat.le_refl _) Tryd.func15 rfl (fun a w => Tryd.call15 a w) (wpx_ok (own := own0) _ _ _ ?_)
  repeat ((conv => whnf); first | refine Br.t ?_ | refine Br.f ?_ | refine ⟨rfl, ?_⟩)
  conv => whnf
  refine loop_ok (α := Nat × Nat) (fun x => ⟨mkS 28 [(0, .i (.sl (l.map encIt))), (2, .i (.bool false)), (3, .i (.int .i64 x.1)), (4, .i (.int .i64 x.2))], []⟩)
    (fun x => x.1 ≤ 9223372036854775807 ∧ x.2 ≤ l.length ∧ lg x.1 (l.drop x.2) = lg l.length l) (fun x => l.length - x.2) (l.length, 0) ⟨by simp only; omega, Nat.zero_le _, rfl⟩
    (Le.slots (by simp [leS, mkS])) (fun x hx => wpx_ok (own := own0) _ _ _ ?_)
  obtain ⟨n, i⟩ := x
  obtain ⟨h1, h2, h3⟩ := hx
  simp only at h1 h2 h3
  dsimp only
  repeat ((conv => whnf); first | refine Br.t ?_ | refine Br.f ?_ | refine ⟨rfl, ?_⟩)
  conv => whnf
  refine Br.mk (fun g1 => ?_) (fun g1 => ?_)
  · have g1 : i < l.length := by simpa using g1
    obtain ⟨x, hx⟩ : ∃ x, x = l[i] := ⟨_, rfl⟩
    have ex : (l.map encIt).getD (i : Int).toNat [] = encIt x := by rw [hx]; exact getD_enc g1
    have ed : l.drop i = x :: l.drop (i + 1) := by rw [hx]; exact List.drop_eq_getElem_cons g1
    rw [ed, lg] at h3
    repeat ((conv => whnf); first | refine Br.t ?_ | refine Br.f ?_ | refine ⟨rfl, ?_⟩)
    conv => whnf
    refine Br.mk (fun g2 => ?_) (fun g2 => ?_)
    · have g2 : n ≤ 600 := by simp at g2; omega
      rw [if_pos g2] at h3
      repeat ((conv => whnf); first | refine Br.t ?_ | refine Br.f ?_ | refine ⟨rfl, ?_⟩)
      conv => whnf
      rw [ex]
      refine ⟨⟨by omega, by simp; omega, rfl⟩, ?_⟩
      repeat ((conv => whnf); first | refine Br.t ?_ | refine Br.f ?_ | refine ⟨rfl, ?_⟩)
      conv => whnf
      refine ⟨(n + min x.2.2.1.length 601, i + 1), ⟨by simp only; omega, by simp only; omega, h3⟩, by simp only; omega, Le.slots ?_⟩
      simp [leS, mkS]
      refine ⟨?_, i64_id (by omega) (by omega)⟩
      rw [i64_id (by split <;> omega) (by split <;> omega)]
      split <;> omega
    · have g2 : ¬ n ≤ 600 := by simp at g2; omega
      rw [if_neg g2] at h3
      rw [← h3]
      repeat ((conv => whnf); first | refine Br.t ?_ | refine Br.f ?_ | refine ⟨rfl, ?_⟩)
      conv => whnf
      refine fin (target := []) rfl (Nat.zero_le _) (by simp) ?_ rfl
      simp; omega
  · have g1 : i = l.length := by simp at g1; omega
    subst g1
    rw [List.drop_length, lg] at h3
    rw [← h3]
    repeat ((conv => whnf); first | refine Br.t ?_ | refine Br.f ?_ | refine ⟨rfl, ?_⟩)
    conv => whnf
    refine fin (target := []) rfl (Nat.zero_le _) (by simp) ?_ rfl
    simp; omega
theorem ids13 : ids 13 = [0, 2, 3] := by decide
theorem set13 : setN 13 = [3, 0, 2, 3] := by rw [setN, ids13]; simp [putN]
theorem rd3 : Rd.set ⟨[2, 1, 1], 0, 0, 0⟩ 9 = (0, ⟨[2, 1, 1], 2, 2, 5⟩) := rfl
theorem awake14 : CallW Tryd.prog G1 14 [] [] (fun r st' => r = .i (.bool true) ∧ st' = []) := by
  refine call_of_bodyF 0 (Nat.le_refl _) Tryd.func14 rfl (fun a w => Tryd.call14 a w) (wpx_ok (own := own0) _ _ _ ?_)
  repeat ((conv => whnf); first | refine Br.t ?_ | refine Br.f ?_ | refine ⟨rfl, ?_⟩)
  conv => whnf
  have c := set20 0 [] 13 (by decide) (by decide)
  rw [ids13, set13] at c
  refine CallW.mono (CallW.wr0 c) ?_
  rintro r st' ⟨rfl, rfl⟩
  repeat ((conv => whnf); first | refine Br.t ?_ | refine Br.f ?_ | refine ⟨rfl, ?_⟩)
  conv => whnf
  refine CallW.mono ((CallW.fresh _ (new33 [2, 1, 1] (by decide)) rfl).glob) ?_
  rintro r st' ⟨rfl, rfl⟩
  repeat ((conv => whnf); first | refine Br.t ?_ | refine Br.f ?_ | refine ⟨rfl, ?_⟩)
  conv => whnf
  have c2 := set29 ⟨[2, 1, 1], 0, 0, 0⟩ ⟨by decide, by decide, by decide⟩ 9 (by decide)
  rw [rd3] at c2
  refine CallW.mono ((atR [_, _, _] [] c2 rfl rfl).glob) ?_
  rintro r st' ⟨rfl, rfl⟩
  repeat ((conv => whnf); first | refine Br.t ?_ | refine Br.f ?_ | refine ⟨rfl, ?_⟩)
  conv => whnf
  refine CallW.mono ((atW [_, _] (bytes 4 ([3, 0, 2, 3].map by8) (bytes_one _) (by decide)) rfl rfl).glob) ?_
  rintro r st' ⟨rfl, rfl⟩
  repeat ((conv => whnf); first | refine Br.t ?_ | refine Br.f ?_ | refine ⟨rfl, ?_⟩)
  conv => whnf
  refine ⟨isB_ok (isB_map [3, 0, 2, 3]), ?_⟩
  repeat ((conv => whnf); first | refine Br.t ?_ | refine Br.f ?_ | refine ⟨rfl, ?_⟩)
  conv => whnf
  refine CallW.mono ((atR [_, _, _] [] (fault35 ⟨[2, 1, 1], 2, 2, 5⟩) rfl rfl).glob) ?_
  rintro r st' ⟨rfl, rfl⟩
  repeat ((conv => whnf); first | refine Br.t ?_ | refine Br.f ?_ | refine ⟨rfl, ?_⟩)
  conv => whnf
  refine ⟨by kernel_rfl, ?_⟩
  repeat ((conv => whnf); first | refine Br.t ?_ | refine Br.f ?_ | refine ⟨rfl, ?_⟩)
  conv => whnf
  refine fin (target := []) rfl (Nat.zero_le _) (by simp) rfl rfl
def strOf (m : List Nat) : ByteArray := ⟨((lift (m.map by8)).map byteOf).toArray⟩
theorem strOf_app (a b : List Nat) : strOf a ++ strOf b = strOf (a ++ b) := by
  apply ByteArray.ext
  simp [strOf, lift]
theorem strOf_size (a : List Nat) : (strOf a).size = a.length := by
  show (strOf a).data.size = _
  simp [strOf, lift]
def itB (x : Item) : List Nat := if x.1 % 4 = 0 then putN (x.2.1 % 4294967296).toNat else if x.1 % 4 = 1 then x.2.2.1 else if x.1 % 4 = 2 then putN x.2.2.1.length ++ x.2.2.1 else setN x.2.2.2
theorem mod4 {n : Nat} : ((n : Int).tmod 4 == 0) = decide (n % 4 = 0) ∧ ((n : Int).tmod 4 == 1) = decide (n % 4 = 1) ∧ ((n : Int).tmod 4 == 2) = decide (n % 4 = 2) := by
  rw [show (n : Int).tmod 4 = ((n % 4 : Nat) : Int) from rfl]
  refine ⟨?_, ?_, ?_⟩ <;> rw [Bool.eq_iff_iff] <;> simp <;> omega
theorem okIt_of {x : Item} (h : x.1 < 256 ∧ (Lit.int .i64 x.2.1).wf = true ∧ (x.2.2.1.length ≤ Go.maxLen ∧ ∀ b ∈ x.2.2.1, b < 256) ∧ x.2.2.2 < 4294967296) : okIt x := by
  obtain ⟨h1, h2, ⟨h3, h4⟩, h5⟩ := h
  refine ⟨h1, ?_, h4, h5⟩
  simp [Lit.wf, IntKind.min, IntKind.max, IntKind.signed, IntKind.bits] at h2
  omega
theorem setN_len {m : Nat} : (setN m).length ≤ 37 := by
  have h1 := ids_length m
  have h2 := putN_len 4 (ids m).length (by omega)
  rw [setN, List.length_append, flat_len (fun i hi => by have := ids_32 m i hi; omega)]
  omega
theorem itB_len {x : Item} (h : x.2.2.1.length ≤ 600) : (itB x).length ≤ 605 := by
  unfold itB
  have h1 := putN_len 4 (x.2.1 % 4294967296).toNat (by omega)
  have h2 := putN_len 4 x.2.2.1.length (by omega)
  have h3 := setN_len (m := x.2.2.2)
  split
  · omega
  · split
    · omega
    · split
      · rw [List.length_append]; omega
      · omega
theorem items_len : ∀ (l : List Item), (∀ x ∈ l, x.2.2.1.length ≤ 600) → (l.flatMap itB).length ≤ 605 * l.length
  | [], _ => by simp
  | x :: l, h => by
    have h1 := itB_len (h x (by simp))
    have h2 := items_len l (fun y hy => h y (by simp [hy]))
    rw [List.flatMap_cons, List.length_append, List.length_cons]
    omega
end Go.Proofs.YtdbmfnhbgacldaaDoor.Am
