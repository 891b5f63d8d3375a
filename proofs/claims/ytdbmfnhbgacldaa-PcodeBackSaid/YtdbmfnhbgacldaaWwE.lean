/- Contracts: a witness written. -/
import Derived.Test.YtdbmfnhbgacldaaWwD
namespace Go.Proofs.Ytdbmfnhbgacldaa.Am
set_option autoImplicit false
set_option linter.unusedVariables false
set_option linter.unusedSimpArgs false
set_option maxRecDepth 10000
set_option pp.deepTerms false
set_option pp.deepTerms.threshold 6
set_option pp.proofs false
/-- the writer's rows in a store of four: numbers 1 and 3 -/
def wrU (o d : Ob) (k : Nat) (zs : List (List I)) : List Ob := [o, .row 0 1 false [[.ref 3 (k + 1) 0 zs.length]], d, .row (k + 1) 1 false (lift zs)]
theorem args_ren {f : Nat → Nat} {n : Nat} {args : List V} (ha : V.cl.clAll n args = true) {F : List Nat} {big : List Ob} : ∀ (j : Nat) (s v : V), args[j]? = some s → (V.ren.renAll f args)[j]? = some v → (s.cl n = true ∧ v = s.ren f) ∨
    ∃ id ver off len sz ro is, v = .ref id ver off len ∧ id ∈ F ∧ big[id]? = some (.row ver sz ro (lift is)) ∧ s = .i (.sl ((is.drop off).take len)) := by
  intro j s v hs hv
  rw [renAll_get, hs] at hv
  simp only [Option.map_some, Option.some.injEq] at hv
  subst hv
  exact .inl ⟨clAll_get ha j s hs, rfl⟩
theorem up1 {f : FuncId} {args : List V} {v : V} {k k' : Nat} {zs zs' : List (List I)} (o d : Ob) (h : CallW Try.prog G0 f args (wr k zs) (fun r st' => r = v ∧ st' = wr k' zs')) (ha : V.cl.clAll 2 args = true) :
    CallW Try.prog G0 f (V.ren.renAll (fm [1, 3] 4) args) (wrU o d k zs) (fun r st' => r = v.ren (fm [1, 3] 4) ∧ st' = wrU o d k' zs') := by
  refine (CallW.rise (bargs := V.ren.renAll (fm [1, 3] 4) args) (big := wrU o d k zs) [1, 3] [] h rfl (by decide) (by simp [wrU]) ?_ (wr_cl _ _) (by simp) (renAll_len _ _) (args_ren ha) (.inl rfl)).mono ?_
  · simp only [wr, wrU, List.map_cons, List.map_nil, ren_lift]
    rfl
  · rintro r st' ⟨r0, s0, ⟨rfl, rfl⟩, rfl, rfl⟩
    refine ⟨rfl, ?_⟩
    simp only [wr, wrU, List.map_cons, List.map_nil, ren_lift]
    rfl
theorem up0 {f : FuncId} {args : List V} {v : V} {k' : Nat} {zs' : List (List I)} (o d : Ob) (h : CallW Try.prog G0 f args wr0 (fun r st' => r = v ∧ st' = wr k' zs')) (ha : V.cl.clAll 1 args = true) :
    CallW Try.prog G0 f (V.ren.renAll (fm [1] 3) args) [o, .row 0 1 false [[.nils]], d] (fun r st' => r = v.ren (fm [1] 3) ∧ st' = wrU o d k' zs') := by
  refine (CallW.rise (bargs := V.ren.renAll (fm [1] 3) args) (big := [o, .row 0 1 false [[.nils]], d]) [1] [] h rfl (by decide) (by simp) rfl (by simp [wr0, Ob.cl, V.cl.clAll, V.cl]) (by simp) (renAll_len _ _) (args_ren ha) (.inl rfl)).mono ?_
  rintro r st' ⟨r0, s0, ⟨rfl, rfl⟩, rfl, rfl⟩
  refine ⟨rfl, ?_⟩
  simp only [wr, wrU, List.map_cons, List.map_nil, ren_lift]
  rfl
def magic : List (List I) := [by8 97, by8 108, by8 119, by8 49]
def puts (n : Nat) : List (List I) := (putN n).map by8
def headW (xs : List (Int × Bool)) : List (List I) := magic ++ puts xs.length ++ pks xs
def bytesW (xs : List (Int × Bool)) (a b c : Int) : List (List I) := headW xs ++ puts a.toNat ++ puts b.toNat ++ puts c.toNat
theorem one_pks (xs : List (Int × Bool)) : one (pks xs) := by
  intro cs hcs
  simp only [pks, List.mem_map] at hcs
  obtain ⟨n, _, rfl⟩ := hcs
  rfl
theorem one_puts (n : Nat) : one (puts n) := by
  intro cs hcs
  simp only [puts, List.mem_map] at hcs
  obtain ⟨n, _, rfl⟩ := hcs
  rfl
theorem one_app {a b : List (List I)} (h1 : one a) (h2 : one b) : one (a ++ b) := fun cs h => (List.mem_append.1 h).elim (h1 cs) (h2 cs)
theorem one_magic : one magic := by intro cs h; simp [magic] at h; rcases h with rfl | rfl | rfl | rfl <;> rfl
theorem len_puts {n : Nat} (h : n < 4294967296) : (puts n).length ≤ 5 := by simpa [puts] using putN_len 4 n (by omega)
theorem len_head (xs : List (Int × Bool)) (hx : xs.length ≤ 1000000) : (headW xs).length ≤ xs.length + 9 := by
  have := len_puts (n := xs.length) (by omega)
  simp [headW, magic, pks] at this ⊢; omega
theorem okW_nat {a b c : Int} (h : okW a b c = true) : 0 ≤ a ∧ a < 8 ∧ 0 ≤ b ∧ b < 8 ∧ 0 ≤ c ∧ c < 16 ∧ a ≠ b := by
  simp only [okW] at h; simp at h; omega
def zsW (xs : List (Int × Bool)) (a b c : Nat) : Nat → List (List I)
  | 0 => headW xs
  | 1 => headW xs ++ puts a
  | 2 => headW xs ++ puts a ++ puts b
  | _ => headW xs ++ puts a ++ puts b ++ puts c
theorem write11 (xs : List (Int × Bool)) (a b c : Int) (hx : xs.length ≤ 5000) : CallW Try.prog G0 11 [.agg ((encW xs a b c).map .i)] [] (fun r st' => r = .tup [.i (.sl (if codeW xs a b c = 0 then bytesW xs a b c else [])), .i (.int .i64 (codeW xs a b c))] ∧ st' = []) := by
  refine call_of_bodyF 0 (Nat.le_refl _) Try.func11 rfl (fun a w => Try.call11 a w) (wpx_ok (own := fun t => t == 15) _ _ _ ?_)
  repeat ((conv => whnf); first | refine Br.t ?_ | refine Br.f ?_ | refine ⟨rfl, ?_⟩)
  conv => whnf
  refine ((check13 xs a b c (by omega)).pure _ rfl rfl).mono ?_
  rintro r st' ⟨rfl, rfl⟩
  repeat ((conv => whnf); first | refine Br.t ?_ | refine Br.f ?_ | refine ⟨rfl, ?_⟩)
  conv => whnf
  refine Br.mk (fun h => ?_) (fun h => ?_)
  · simp at h
    repeat ((conv => whnf); first | refine Br.t ?_ | refine Br.f ?_ | refine ⟨rfl, ?_⟩)
    conv => whnf
    refine fin (target := []) rfl (Nat.zero_le _) (by simp) ?_ rfl
    simp [h]
  · simp at h
    have hs : codeS xs = 0 := by simp only [codeW] at h; split at h <;> simp_all
    have ho : okW a b c = true := by simp only [codeW, hs, if_true] at h; split at h <;> simp_all
    obtain ⟨a1, a2, b1, b2, c1, c2, hab⟩ := okW_nat ho
    rw [h]
    obtain ⟨a, rfl⟩ := Int.eq_ofNat_of_zero_le a1
    obtain ⟨b, rfl⟩ := Int.eq_ofNat_of_zero_le b1
    obtain ⟨c, rfl⟩ := Int.eq_ofNat_of_zero_le c1
    repeat ((conv => whnf); first | refine Br.t ?_ | refine Br.f ?_ | refine ⟨rfl, ?_⟩)
    conv => whnf
    refine ⟨⟨rfl, by decide⟩, ?_⟩
    repeat ((conv => whnf); first | refine Br.t ?_ | refine Br.f ?_ | refine ⟨rfl, ?_⟩)
    conv => whnf
    refine CallW.mono (up0 _ _ (raw0 magic one_magic (by decide)) rfl) ?_
    rintro r st' ⟨rfl, rfl⟩
    repeat ((conv => whnf); first | refine Br.t ?_ | refine Br.f ?_ | refine ⟨rfl, ?_⟩)
    conv => whnf
    refine ((put25 xs (by omega)).pure _ rfl rfl).mono ?_
    rintro r st' ⟨rfl, rfl⟩
    rw [hs, if_pos rfl]
    repeat ((conv => whnf); first | refine Br.t ?_ | refine Br.f ?_ | refine ⟨rfl, ?_⟩)
    conv => whnf
    have hb : CallW Try.prog G0 26 [.ptr 0 0 0 0, .i (.sl (pks xs))] (wr 0 magic) (fun r st' => r = .tup [] ∧ st' = wr 2 (headW xs)) := by
      have := block 0 magic (pks xs) (one_pks xs) (by simp [pks]; omega) (by decide)
      rw [show (pks xs).length = xs.length by simp [pks]] at this
      exact this
    refine CallW.mono (up1 _ _ hb rfl) ?_
    rintro r st' ⟨rfl, rfl⟩
    repeat ((conv => whnf); first | refine Br.t ?_ | refine Br.f ?_ | refine ⟨rfl, ?_⟩)
    conv => whnf
    have hh := len_head xs (by omega)
    have pa := len_puts (n := a) (by omega)
    have pb := len_puts (n := b) (by omega)
    refine loop_ok (α := Nat) (fun j => ⟨mkS 42 [(5, .ptr 1 0 0 0), (32, .i (.sl [[.int .i64 a], [.int .i64 b], [.int .i64 c]])), (33, .i (.int .i64 3)), (34, .i (.int .i64 j))], wrU (.row 0 4 false [(encW xs a b c).map .i]) .dead 2 (zsW xs a b c j)⟩)
      (fun j => j ≤ 3) (fun j => 3 - j) 0 (by decide) (Le.slots (by simp [leS, mkS])) (fun j hj => wpx_ok (own := own0) _ _ _ ?_)
    have hj' : j = 0 ∨ j = 1 ∨ j = 2 ∨ j = 3 := by omega
    rcases hj' with rfl | rfl | rfl | rfl
    · repeat ((conv => whnf); first | refine Br.t ?_ | refine Br.f ?_ | refine ⟨rfl, ?_⟩)
      conv => whnf
      refine ⟨⟨by decide, by simp, rfl⟩, ?_⟩
      repeat ((conv => whnf); first | refine Br.t ?_ | refine Br.f ?_ | refine ⟨rfl, ?_⟩)
      conv => whnf
      refine CallW.mono (up1 _ _ (num 2 (headW xs) a (by omega) (by first | omega | (simp only [List.length_append]; omega))) rfl) ?_
      rintro r st' ⟨rfl, rfl⟩
      repeat ((conv => whnf); first | refine Br.t ?_ | refine Br.f ?_ | refine ⟨rfl, ?_⟩)
      conv => whnf
      refine ⟨1, by decide, by decide, Le.down (fun id => if id = 3 then 1 else 0) (by intro id h; simp at h) ?_ ?_⟩
      · simp [leS, mkS, V.up]
        rfl
      · simp only [upSt, Ob.up, map_up_lift, wrU]
        rfl
    · repeat ((conv => whnf); first | refine Br.t ?_ | refine Br.f ?_ | refine ⟨rfl, ?_⟩)
      conv => whnf
      refine ⟨⟨by decide, by simp, rfl⟩, ?_⟩
      repeat ((conv => whnf); first | refine Br.t ?_ | refine Br.f ?_ | refine ⟨rfl, ?_⟩)
      conv => whnf
      refine CallW.mono (up1 _ _ (num 2 (headW xs ++ puts a) b (by omega) (by first | omega | (simp only [List.length_append]; omega))) rfl) ?_
      rintro r st' ⟨rfl, rfl⟩
      repeat ((conv => whnf); first | refine Br.t ?_ | refine Br.f ?_ | refine ⟨rfl, ?_⟩)
      conv => whnf
      refine ⟨2, by decide, by decide, Le.down (fun id => if id = 3 then 1 else 0) (by intro id h; simp at h) ?_ ?_⟩
      · simp [leS, mkS, V.up]
        rfl
      · simp only [upSt, Ob.up, map_up_lift, wrU]
        rfl
    · repeat ((conv => whnf); first | refine Br.t ?_ | refine Br.f ?_ | refine ⟨rfl, ?_⟩)
      conv => whnf
      refine ⟨⟨by decide, by simp, rfl⟩, ?_⟩
      repeat ((conv => whnf); first | refine Br.t ?_ | refine Br.f ?_ | refine ⟨rfl, ?_⟩)
      conv => whnf
      refine CallW.mono (up1 _ _ (num 2 (headW xs ++ puts a ++ puts b) c (by omega) (by first | omega | (simp only [List.length_append]; omega))) rfl) ?_
      rintro r st' ⟨rfl, rfl⟩
      repeat ((conv => whnf); first | refine Br.t ?_ | refine Br.f ?_ | refine ⟨rfl, ?_⟩)
      conv => whnf
      refine ⟨3, by decide, by decide, Le.down (fun id => if id = 3 then 1 else 0) (by intro id h; simp at h) ?_ ?_⟩
      · simp [leS, mkS, V.up]
        rfl
      · simp only [upSt, Ob.up, map_up_lift, wrU]
        rfl
    · repeat ((conv => whnf); first | refine Br.t ?_ | refine Br.f ?_ | refine ⟨rfl, ?_⟩)
      conv => whnf
      have pc := len_puts (n := c) (by omega)
      refine CallW.mono (up1 _ _ (bytes 2 (headW xs ++ puts a ++ puts b ++ puts c) (one_app (one_app (one_app (one_app (one_app one_magic (one_puts _)) (one_pks _)) (one_puts _)) (one_puts _)) (one_puts _)) (by simp only [List.length_append]; omega)) rfl) ?_
      rintro r st' ⟨rfl, rfl⟩
      repeat ((conv => whnf); first | refine Br.t ?_ | refine Br.f ?_ | refine ⟨rfl, ?_⟩)
      conv => whnf
      refine fin (target := []) rfl (Nat.zero_le _) (by simp) ?_ rfl
      rfl
end Go.Proofs.Ytdbmfnhbgacldaa.Am
