/- Texts YsV YsG YsH YsI of this session, one behind the other. -/
import Derived.Test.YtiikndppckjmhaaYqX
import Derived.Test.YtiikndppckjmhaaAmX
/- Contracts: the writer, and a witness's bytes (written by mkysv.py). -/
namespace Go.Proofs.Ytiikndppckjmhaa.Am
set_option autoImplicit false
set_option linter.unusedVariables false
set_option linter.unusedSimpArgs false
set_option maxRecDepth 10000
set_option pp.deepTerms false
set_option pp.deepTerms.threshold 6
set_option pp.proofs false
theorem or128 (n : Nat) : IntKind.u8.wrap ((BitVec.ofInt IntKind.u8.bits (IntKind.u8.wrap n) ||| BitVec.ofInt IntKind.u8.bits 128).toNat : Nat) = (n % 128 + 128 : Nat) := by
  have h0 : ∀ m : Fin 256, m.val ||| 128 = m.val % 128 + 128 := by decide
  have h1 : (BitVec.ofInt 8 (IntKind.u8.wrap n)).toNat = n % 256 := by
    simp [IntKind.wrap, IntKind.signed, IntKind.bits, BitVec.toNat_ofInt]
    omega
  have h2 : (BitVec.ofInt IntKind.u8.bits (IntKind.u8.wrap n) ||| BitVec.ofInt IntKind.u8.bits 128).toNat = n % 256 ||| 128 := by
    rw [BitVec.toNat_or]
    show (BitVec.ofInt 8 (IntKind.u8.wrap n)).toNat ||| 128 = _
    rw [h1]
  rw [h2, h0 ⟨n % 256, by omega⟩, u8_small (by simp; omega)]
  simp
/-- a whole number, seven bits a byte -/
def putN (n : Nat) : List Nat := if h : n < 128 then [n] else (n % 128 + 128) :: putN (n / 128)
termination_by n
decreasing_by omega
theorem putN_len : ∀ (k n : Nat), n < 128 ^ (k + 1) → (putN n).length ≤ k + 1
  | 0, n, h => by rw [putN, dif_pos (by omega)]; simp
  | k + 1, n, h => by
    rw [putN]
    split
    · simp
    · have := putN_len k (n / 128) (by rw [Nat.pow_succ] at h; exact Nat.div_lt_of_lt_mul (by omega))
      simp; omega
def mid (n : Nat) (ys : List (List I)) : List V := mkS 19 [(0, .i (.int .u32 n)), (2, .nils), (3, .ref 0 1 0 ys.length)]
theorem put46 (n : Nat) (hn : n < 4294967296) : CallW Try.prog G0 114 [.i (.int .u32 n)] [] (fun r st' => r = .i (.sl ((putN n).map by8)) ∧ st' = []) := by
  refine call_of_bodyF 0 (Nat.le_refl _) Try.func114 rfl (fun a w => Try.call114 a w) (wpx_ok (own := own0) _ _ _ ?_)
  conv => whnf
  refine loop_ok (α := Nat × List Nat) (fun x => ⟨mid x.1 (x.2.map by8), [.row 1 1 false (lift (x.2.map by8))]⟩)
    (fun x => x.1 < 4294967296 ∧ x.2.length ≤ 5 ∧ x.1 * 128 ^ x.2.length ≤ n ∧ x.2 ++ putN x.1 = putN n) (fun x => x.1) (n, []) ⟨hn, by simp, by simp, by simp⟩
    ((Le.nil (n := 0) 3 1 rfl).trans (Le.slots (by simp [leS, mid, mkS]))) (fun x hx => wpx_ok (own := own0) _ _ _ ?_)
  obtain ⟨h1, h2, h3, h4⟩ := hx
  conv => whnf
  refine Br.mk (fun h => ?_) (fun h => ?_)
  · conv => whnf
    refine ⟨by rfl, ?_⟩
    conv => whnf
    refine ⟨ap1 rfl 1 rfl (by simp [lift]) (by simp; omega) (len_mx (by simp; omega)), ?_⟩
    conv => whnf
    refine ⟨by omega, ?_⟩
    conv => whnf
    refine ⟨(x.1 / 128, x.2 ++ [x.1 % 128 + 128]), ?_, ?_, Le.down (fun id => if id = 0 then 1 else 0) ?_ ?_ ?_⟩
    · simp at h
      refine ⟨?_, ?_, ?_, ?_⟩
      · simp only; omega
      · simp only [List.length_append, List.length_cons, List.length_nil]
        have : x.2.length ≠ 5 := fun e => by
          rw [e] at h3
          have : x.1 * 34359738368 ≤ n := h3
          omega
        omega
      · simp only [List.length_append, List.length_cons, List.length_nil, Nat.pow_succ]
        refine Nat.le_trans ?_ h3
        rw [Nat.mul_comm (128 ^ x.2.length), ← Nat.mul_assoc]
        exact Nat.mul_le_mul_right _ (Nat.div_mul_le_self _ _)
      · rw [← h4, List.append_assoc, putN.eq_def x.1, dif_neg (by omega)]
        rfl
    · simp at h
      simp only; omega
    · simp
    · simp [leS, mid, mkS, V.up]
      refine ⟨?_, rfl⟩
      rw [Int.fdiv_eq_ediv_of_nonneg _ (by decide)]
      rfl
    · simp only [upSt, Ob.up, map_up_lift]
      refine congrArg (fun z => [Ob.row 2 1 false z]) ?_
      rw [List.map_append, lift_app]
      refine congrArg (fun z => lift (List.map by8 x.2) ++ lift z) ?_
      simp only [List.map_cons, List.map_nil, by8, or128]
  · conv => whnf
    refine ⟨by rfl, ?_⟩
    conv => whnf
    refine ⟨ap1 rfl 1 rfl (by simp [lift]) (by simp; omega) (len_mx (by simp; omega)), ?_⟩
    conv => whnf
    refine ⟨by omega, rfl, x.2.map by8 ++ [by8 x.1], ?_, ?_⟩
    · rw [lift_app]
      refine congrArg (fun z => lift (List.map by8 x.2) ++ lift z) ?_
      simp only [by8, u8_small (show x.1 < 256 by simp at h; omega)]
    · refine ⟨Nat.zero_le _, rfl, by simp, ?_, rfl⟩
      simp at h
      rw [← h4, putN, dif_pos (by omega)]
      simp [lift]
      exact List.take_of_length_le (by simp)

/-- a writer that has these bytes -/
def wr (k : Nat) (zs : List (List I)) : List Ob := [.row 0 1 false [[.ref 1 (k + 1) 0 zs.length]], .row (k + 1) 1 false (lift zs)]
def wr0 : List Ob := [.row 0 1 false [[.nils]]]
def one (zs : List (List I)) : Prop := ∀ cs ∈ zs, cs.length = 1
theorem wr_cl (k : Nat) (zs : List (List I)) : ∀ o ∈ wr k zs, o.cl 2 := by
  intro o ho
  simp only [wr, List.mem_cons, List.not_mem_nil, or_false] at ho
  rcases ho with rfl | rfl
  · intro cs hcs
    simp only [List.mem_cons, List.not_mem_nil, or_false] at hcs
    subst hcs
    rfl
  · exact cl_lift _ _ _ _ _
theorem apN {sz by_ : Nat} {es : List (List I)} (hes : one es) (hsz : 1 = sz) (b : Nat) (hb : by_ = b) (h2 : es.length * b ≤ 140737488355328) (h3 : es.length ≤ Go.maxLen) : (∀ cs ∈ es, cs.length = sz) ∧ (lift es).length * by_ ≤ 140737488355328 ∧ (lift es).length ≤ Go.maxLen := by
  subst hsz hb
  have : (lift es).length = es.length := by simp [lift]
  rw [this]
  exact ⟨hes, h2, h3⟩
theorem known_map_i (st : List Ob) : ∀ xs : List I, knownAll st (xs.map .i) = true
  | [] => rfl
  | x :: xs => by simp [knownAll, V.known, known_map_i st xs]
theorem apR {st : List Ob} {w : List (List V)} {es : List (List I)} {by_ len esl : Nat} (hw : w = lift es) (h1 : len = esl) (b : Nat) (hb : by_ = b) (h2 : (len + es.length) * b ≤ 140737488355328) (h3 : len + es.length ≤ Go.maxLen) :
    (∀ cs ∈ w, knownAll st cs = true) ∧ len = esl ∧ (len + w.length) * by_ ≤ 140737488355328 ∧ len + w.length ≤ Go.maxLen := by
  subst hw hb
  have : (lift es).length = es.length := by simp [lift]
  rw [this]
  refine ⟨fun cs hcs => ?_, h1, h2, h3⟩
  simp only [lift, List.mem_map] at hcs
  obtain ⟨x, _, rfl⟩ := hcs
  exact known_map_i _ _
theorem raw0 (xs : List (List I)) (h1 : one xs) (h2 : xs.length ≤ 140737488355328) : CallW Try.prog G0 105 [.ptr 0 0 0 0, .i (.sl xs)] wr0 (fun r st' => r = .tup [] ∧ st' = wr 0 xs) := by
  refine call_of_bodyF 2 (by decide) Try.func105 rfl (fun a w => Try.call105 a w) (wpx_ok (own := own0) _ _ _ ?_)
  conv => whnf
  refine ⟨by rfl, ?_⟩
  conv => whnf
  refine ⟨apN h1 rfl 1 rfl (by omega) (len_mx (by omega)), ?_⟩
  conv => whnf
  refine ⟨by rfl, ?_⟩
  conv => whnf
  refine fin (target := wr 0 xs) ?_ ?_ (wr_cl _ _) rfl rfl
  · simp [wr, putCells, lift]
  · simp
theorem raw1 (ys xs : List (List I)) (h1 : one xs) (h2 : ys.length + xs.length ≤ 140737488355328) : CallW Try.prog G0 105 [.ptr 0 0 0 0, .i (.sl xs)] (wr 0 ys) (fun r st' => r = .tup [] ∧ st' = wr 1 (ys ++ xs)) := by
  refine call_of_bodyF 2 (Nat.le_refl _) Try.func105 rfl (fun a w => Try.call105 a w) (wpx_ok (own := own0) _ _ _ ?_)
  conv => whnf
  refine ⟨by rfl, ?_⟩
  conv => whnf
  refine ⟨apL h1 rfl 1 rfl (by simp [lift]) (by omega) (len_mx (by omega)), ?_⟩
  conv => whnf
  refine ⟨by rfl, ?_⟩
  conv => whnf
  refine fin (target := wr 1 (ys ++ xs)) ?_ ?_ (wr_cl _ _) rfl rfl
  · simp [wr, putCells, lift]
  · simp
/-- whatever its version -/
theorem wr_up (k : Nat) (zs : List (List I)) (j : Nat) : upSt (fun id => if id = 1 then k else 0) 0 (wr j zs) = wr (j + k) zs := by
  simp [upSt, Ob.up, wr, V.up, V.up.upAll]
  omega
theorem raw (k : Nat) (ys xs : List (List I)) (h1 : one xs) (h2 : ys.length + xs.length ≤ 140737488355328) : CallW Try.prog G0 105 [.ptr 0 0 0 0, .i (.sl xs)] (wr k ys) (fun r st' => r = .tup [] ∧ st' = wr (1 + k) (ys ++ xs)) := by
  have := (raw1 ys xs h1 h2).vers (fun id => if id = 1 then k else 0)
  rw [wr_up, Nat.zero_add] at this
  refine this.mono ?_
  rintro r st' ⟨r0, st0, ⟨rfl, rfl⟩, rfl, rfl⟩
  exact ⟨rfl, wr_up _ _ _⟩
theorem num1 (ys : List (List I)) (n : Nat) (hn : n < 4294967296) (h2 : ys.length ≤ 1000000) : CallW Try.prog G0 107 [.ptr 0 0 0 0, .i (.int .i64 n)] (wr 0 ys) (fun r st' => r = .tup [] ∧ st' = wr 1 (ys ++ (putN n).map by8)) := by
  refine call_of_bodyF 2 (Nat.le_refl _) Try.func107 rfl (fun a w => Try.call107 a w) (wpx_ok (own := own0) _ _ _ ?_)
  conv => whnf
  refine draw_ok (own := own0) [8, 11] [(0, 11)] [(.i (.sl ((putN n).map by8)), wr 0 ys)] rfl (by kernel_rfl) (Nat.le_refl _) ?_
  conv => whnf
  refine ⟨by rfl, ?_⟩
  conv => whnf
  have c : CallW Try.prog G0 114 [.i (.int .u32 (IntKind.u32.wrap n))] (wr 0 ys) (fun r st' => r = .i (.sl ((putN n).map by8)) ∧ st' = wr 0 ys) := by
    rw [show IntKind.u32.wrap n = n by simp [IntKind.wrap, IntKind.signed, IntKind.bits]; omega]
    exact (put46 n hn).pure _ rfl rfl
  refine ⟨c, ?_⟩
  have hl := putN_len 4 n (by omega)
  conv => whnf
  refine ⟨apL (by simp [by8]) rfl 1 rfl (by simp [lift]) (by simp only [List.length_map]; omega) (len_mx (by simp only [List.length_map]; omega)), ?_⟩
  conv => whnf
  refine ⟨by rfl, ?_⟩
  conv => whnf
  refine ⟨?_, ?_, ?_⟩
  · repeat ((conv => whnf); first | exact trivial | refine ⟨rfl, ?_⟩)
  · conv => whnf
    refine ⟨?_, trivial⟩
    conv => whnf
    exact ⟨rfl, rfl⟩
  · conv => whnf
    refine fin (target := wr 1 (ys ++ (putN n).map by8)) ?_ ?_ (wr_cl _ _) rfl rfl
    · simp [wr, putCells, lift]
    · simp
theorem num (k : Nat) (ys : List (List I)) (n : Nat) (hn : n < 4294967296) (h2 : ys.length ≤ 1000000) : CallW Try.prog G0 107 [.ptr 0 0 0 0, .i (.int .i64 n)] (wr k ys) (fun r st' => r = .tup [] ∧ st' = wr (1 + k) (ys ++ (putN n).map by8)) := by
  have := (num1 ys n hn h2).vers (fun id => if id = 1 then k else 0)
  rw [wr_up, Nat.zero_add] at this
  refine this.mono ?_
  rintro r st' ⟨r0, st0, ⟨rfl, rfl⟩, rfl, rfl⟩
  exact ⟨rfl, wr_up _ _ _⟩
theorem block1 (ys xs : List (List I)) (h1 : one xs) (h2 : xs.length ≤ 1000000) (h3 : ys.length ≤ 1000000) : CallW Try.prog G0 106 [.ptr 0 0 0 0, .i (.sl xs)] (wr 0 ys) (fun r st' => r = .tup [] ∧ st' = wr 2 (ys ++ (putN xs.length).map by8 ++ xs)) := by
  refine call_of_bodyF 2 (Nat.le_refl _) Try.func106 rfl (fun a w => Try.call106 a w) (wpx_ok (own := own0) _ _ _ ?_)
  have hl := putN_len 4 xs.length (by omega)
  conv => whnf
  refine (num 0 ys xs.length (by omega) h3).mono ?_
  rintro r st' ⟨rfl, rfl⟩
  conv => whnf
  refine (raw 1 (ys ++ (putN xs.length).map by8) xs h1 (by simp only [List.length_append, List.length_map]; omega)).mono ?_
  rintro r st' ⟨rfl, rfl⟩
  conv => whnf
  refine fin (target := wr 2 (ys ++ (putN xs.length).map by8 ++ xs)) ?_ ?_ (wr_cl _ _) rfl rfl
  · rfl
  · exact Nat.le_refl _
theorem block (k : Nat) (ys xs : List (List I)) (h1 : one xs) (h2 : xs.length ≤ 1000000) (h3 : ys.length ≤ 1000000) : CallW Try.prog G0 106 [.ptr 0 0 0 0, .i (.sl xs)] (wr k ys) (fun r st' => r = .tup [] ∧ st' = wr (2 + k) (ys ++ (putN xs.length).map by8 ++ xs)) := by
  have := (block1 ys xs h1 h2 h3).vers (fun id => if id = 1 then k else 0)
  rw [wr_up, Nat.zero_add] at this
  refine this.mono ?_
  rintro r st' ⟨r0, st0, ⟨rfl, rfl⟩, rfl, rfl⟩
  exact ⟨rfl, wr_up _ _ _⟩
theorem bytes0 (zs : List (List I)) (h1 : one zs) (h2 : zs.length ≤ 140737488355328) : CallW Try.prog G0 108 [.ptr 0 0 0 0] (wr 0 zs) (fun r st' => r = .i (.sl zs) ∧ st' = wr 0 zs) := by
  refine call_of_bodyF 2 (Nat.le_refl _) Try.func108 rfl (fun a w => Try.call108 a w) (wpx_ok (own := ownAll) _ _ _ ?_)
  conv => whnf
  refine ⟨by rfl, ?_⟩
  conv => whnf
  refine ⟨by rfl, ?_⟩
  conv => whnf
  have hl : ((lift zs).drop 0).take zs.length = lift zs := by
    simp only [lift, List.drop_zero]
    exact List.take_of_length_le (by simp)
  refine ⟨apR hl rfl 1 rfl (by simp; omega) (len_mx (by simp; omega)), ?_⟩
  conv => whnf
  refine ⟨Nat.le_refl _, rfl, zs, ?_, ?_⟩
  · exact hl
  · refine fin (target := wr 0 zs) ?_ ?_ (wr_cl _ _) ?_ rfl
    · rfl
    · simp
    · rw [hl]; simp [lift]
theorem bytes (k : Nat) (zs : List (List I)) (h1 : one zs) (h2 : zs.length ≤ 140737488355328) : CallW Try.prog G0 108 [.ptr 0 0 0 0] (wr k zs) (fun r st' => r = .i (.sl zs) ∧ st' = wr k zs) := by
  have := (bytes0 zs h1 h2).vers (fun id => if id = 1 then k else 0)
  rw [wr_up, Nat.zero_add] at this
  refine this.mono ?_
  rintro r st' ⟨r0, st0, ⟨rfl, rfl⟩, rfl, rfl⟩
  exact ⟨rfl, by rw [wr_up, Nat.zero_add]⟩
/-- the writer's rows in a store of four: numbers 1 and 3 -/
def wrU (o d : Ob) (k : Nat) (zs : List (List I)) : List Ob := [o, .row 0 1 false [[.ref 3 (k + 1) 0 zs.length]], d, .row (k + 1) 1 false (lift zs)]
theorem up1 {f : FuncId} {args : List V} {v : V} {k k' : Nat} {zs zs' : List (List I)} (o d : Ob) (h : CallW Try.prog G0 f args (wr k zs) (fun r st' => r = v ∧ st' = wr k' zs')) (ha : V.cl.clAll 2 args = true) :
    CallW Try.prog G0 f (V.ren.renAll (fm [1, 3] 4) args) (wrU o d k zs) (fun r st' => r = v.ren (fm [1, 3] 4) ∧ st' = wrU o d k' zs') := by
  refine (CallW.rise (bargs := V.ren.renAll (fm [1, 3] 4) args) (big := wrU o d k zs) [1, 3] [] h rfl (by decide) (by simp [wrU]) ?_ (wr_cl _ _) (by simp) (renAll_len _ _) (args_ren ha) (.inl rfl)).mono ?_
  · simp only [wr, wrU, List.map_cons, List.map_nil, ren_lift]
    rfl
  · rintro r st' ⟨r0, s0, ⟨rfl, rfl⟩, rfl, rfl⟩
    refine ⟨rfl, ?_⟩
    simp only [wr, wrU, List.map_cons, List.map_nil, ren_lift]
    rfl
theorem up0 {f : FuncId} {args : List V} {v : V} {k' : Nat} {zs' : List (List I)} (o d : Ob) (h : CallW Try.prog G0 f args wr0 (fun r st' => r = v ∧ st' = wr k' zs')) (ha : V.cl.clAll 1 args = true) :
    CallW Try.prog G0 f (V.ren.renAll (fm [1] 3) args) [o, .row 0 1 false [[.nils]], d] (fun r st' => r = v.ren (fm [1] 3) ∧ st' = wrU o d k' zs') := by
  refine (CallW.rise (bargs := V.ren.renAll (fm [1] 3) args) (big := [o, .row 0 1 false [[.nils]], d]) [1] [] h rfl (by decide) (by simp) rfl (by simp [wr0, Ob.cl, V.cl.clAll, V.cl]) (by simp) (renAll_len _ _) (args_ren ha) (.inl rfl)).mono ?_
  rintro r st' ⟨r0, s0, ⟨rfl, rfl⟩, rfl, rfl⟩
  refine ⟨rfl, ?_⟩
  simp only [wr, wrU, List.map_cons, List.map_nil, ren_lift]
  rfl
def magic : List (List I) := [by8 97, by8 108, by8 119, by8 49]
def puts (n : Nat) : List (List I) := (putN n).map by8
def headW (xs : List (Int × Bool)) : List (List I) := magic ++ puts xs.length ++ pks xs
def bytesW (xs : List (Int × Bool)) (a b c : Int) : List (List I) := headW xs ++ puts a.toNat ++ puts b.toNat ++ puts c.toNat
theorem one_pks (xs : List (Int × Bool)) : one (pks xs) := by
  intro cs hcs
  simp only [pks, List.mem_map] at hcs
  obtain ⟨n, _, rfl⟩ := hcs
  rfl
theorem one_puts (n : Nat) : one (puts n) := by
  intro cs hcs
  simp only [puts, List.mem_map] at hcs
  obtain ⟨n, _, rfl⟩ := hcs
  rfl
theorem one_app {a b : List (List I)} (h1 : one a) (h2 : one b) : one (a ++ b) := fun cs h => (List.mem_append.1 h).elim (h1 cs) (h2 cs)
theorem one_magic : one magic := by intro cs h; simp [magic] at h; rcases h with rfl | rfl | rfl | rfl <;> rfl
theorem len_puts {n : Nat} (h : n < 4294967296) : (puts n).length ≤ 5 := by simpa [puts] using putN_len 4 n (by omega)
theorem len_head (xs : List (Int × Bool)) (hx : xs.length ≤ 1000000) : (headW xs).length ≤ xs.length + 9 := by
  have := len_puts (n := xs.length) (by omega)
  simp [headW, magic, pks] at this ⊢; omega
theorem okW_nat {a b c : Int} (h : okW a b c = true) : 0 ≤ a ∧ a < 8 ∧ 0 ≤ b ∧ b < 8 ∧ 0 ≤ c ∧ c < 16 ∧ a ≠ b := by
  simp only [okW] at h; simp at h; omega
def zsW (xs : List (Int × Bool)) (a b c : Nat) : Nat → List (List I)
  | 0 => headW xs
  | 1 => headW xs ++ puts a
  | 2 => headW xs ++ puts a ++ puts b
  | _ => headW xs ++ puts a ++ puts b ++ puts c
theorem write11 (xs : List (Int × Bool)) (a b c : Int) (hx : xs.length ≤ 5000) : CallW Try.prog G0 92 [.agg ((encW xs a b c).map .i)] [] (fun r st' => r = .tup [.i (.sl (if codeW xs a b c = 0 then bytesW xs a b c else [])), .i (.int .i64 (codeW xs a b c))] ∧ st' = []) := by
  refine call_of_bodyF 0 (Nat.le_refl _) Try.func92 rfl (fun a w => Try.call92 a w) (wpx_ok (own := fun t => t == 15) _ _ _ ?_)
  repeat ((conv => whnf); first | refine Br.t ?_ | refine Br.f ?_ | refine ⟨rfl, ?_⟩)
  conv => whnf
  refine ((check13 xs a b c (by omega)).pure _ rfl rfl).mono ?_
  rintro r st' ⟨rfl, rfl⟩
  repeat ((conv => whnf); first | refine Br.t ?_ | refine Br.f ?_ | refine ⟨rfl, ?_⟩)
  conv => whnf
  refine Br.mk (fun h => ?_) (fun h => ?_)
  · simp at h
    repeat ((conv => whnf); first | refine Br.t ?_ | refine Br.f ?_ | refine ⟨rfl, ?_⟩)
    conv => whnf
    refine fin (target := []) rfl (Nat.zero_le _) (by simp) ?_ rfl
    simp [h]
  · simp at h
    have hs : codeS xs = 0 := by simp only [codeW] at h; split at h <;> simp_all
    have ho : okW a b c = true := by simp only [codeW, hs, if_true] at h; split at h <;> simp_all
    obtain ⟨a1, a2, b1, b2, c1, c2, hab⟩ := okW_nat ho
    rw [h]
    obtain ⟨a, rfl⟩ := Int.eq_ofNat_of_zero_le a1
    obtain ⟨b, rfl⟩ := Int.eq_ofNat_of_zero_le b1
    obtain ⟨c, rfl⟩ := Int.eq_ofNat_of_zero_le c1
    repeat ((conv => whnf); first | refine Br.t ?_ | refine Br.f ?_ | refine ⟨rfl, ?_⟩)
    conv => whnf
    refine ⟨⟨rfl, by decide⟩, ?_⟩
    repeat ((conv => whnf); first | refine Br.t ?_ | refine Br.f ?_ | refine ⟨rfl, ?_⟩)
    conv => whnf
    refine CallW.mono (up0 _ _ (raw0 magic one_magic (by decide)) rfl) ?_
    rintro r st' ⟨rfl, rfl⟩
    repeat ((conv => whnf); first | refine Br.t ?_ | refine Br.f ?_ | refine ⟨rfl, ?_⟩)
    conv => whnf
    refine ((put25 xs (by omega)).pure _ rfl rfl).mono ?_
    rintro r st' ⟨rfl, rfl⟩
    rw [hs, if_pos rfl]
    repeat ((conv => whnf); first | refine Br.t ?_ | refine Br.f ?_ | refine ⟨rfl, ?_⟩)
    conv => whnf
    have hb : CallW Try.prog G0 106 [.ptr 0 0 0 0, .i (.sl (pks xs))] (wr 0 magic) (fun r st' => r = .tup [] ∧ st' = wr 2 (headW xs)) := by
      have := block 0 magic (pks xs) (one_pks xs) (by simp [pks]; omega) (by decide)
      rw [show (pks xs).length = xs.length by simp [pks]] at this
      exact this
    refine CallW.mono (up1 _ _ hb rfl) ?_
    rintro r st' ⟨rfl, rfl⟩
    repeat ((conv => whnf); first | refine Br.t ?_ | refine Br.f ?_ | refine ⟨rfl, ?_⟩)
    conv => whnf
    have hh := len_head xs (by omega)
    have pa := len_puts (n := a) (by omega)
    have pb := len_puts (n := b) (by omega)
    refine loop_ok (α := Nat) (fun j => ⟨mkS 42 [(5, .ptr 1 0 0 0), (32, .i (.sl [[.int .i64 a], [.int .i64 b], [.int .i64 c]])), (33, .i (.int .i64 3)), (34, .i (.int .i64 j))], wrU (.row 0 4 false [(encW xs a b c).map .i]) .dead 2 (zsW xs a b c j)⟩)
      (fun j => j ≤ 3) (fun j => 3 - j) 0 (by decide) (Le.slots (by simp [leS, mkS])) (fun j hj => wpx_ok (own := own0) _ _ _ ?_)
    have hj' : j = 0 ∨ j = 1 ∨ j = 2 ∨ j = 3 := by omega
    rcases hj' with rfl | rfl | rfl | rfl
    · repeat ((conv => whnf); first | refine Br.t ?_ | refine Br.f ?_ | refine ⟨rfl, ?_⟩)
      conv => whnf
      refine ⟨⟨by decide, by simp, rfl⟩, ?_⟩
      repeat ((conv => whnf); first | refine Br.t ?_ | refine Br.f ?_ | refine ⟨rfl, ?_⟩)
      conv => whnf
      refine CallW.mono (up1 _ _ (num 2 (headW xs) a (by omega) (by first | omega | (simp only [List.length_append]; omega))) rfl) ?_
      rintro r st' ⟨rfl, rfl⟩
      repeat ((conv => whnf); first | refine Br.t ?_ | refine Br.f ?_ | refine ⟨rfl, ?_⟩)
      conv => whnf
      refine ⟨1, by decide, by decide, Le.down (fun id => if id = 3 then 1 else 0) (by intro id h; simp at h) ?_ ?_⟩
      · simp [leS, mkS, V.up]
        rfl
      · simp only [upSt, Ob.up, map_up_lift, wrU]
        rfl
    · repeat ((conv => whnf); first | refine Br.t ?_ | refine Br.f ?_ | refine ⟨rfl, ?_⟩)
      conv => whnf
      refine ⟨⟨by decide, by simp, rfl⟩, ?_⟩
      repeat ((conv => whnf); first | refine Br.t ?_ | refine Br.f ?_ | refine ⟨rfl, ?_⟩)
      conv => whnf
      refine CallW.mono (up1 _ _ (num 2 (headW xs ++ puts a) b (by omega) (by first | omega | (simp only [List.length_append]; omega))) rfl) ?_
      rintro r st' ⟨rfl, rfl⟩
      repeat ((conv => whnf); first | refine Br.t ?_ | refine Br.f ?_ | refine ⟨rfl, ?_⟩)
      conv => whnf
      refine ⟨2, by decide, by decide, Le.down (fun id => if id = 3 then 1 else 0) (by intro id h; simp at h) ?_ ?_⟩
      · simp [leS, mkS, V.up]
        rfl
      · simp only [upSt, Ob.up, map_up_lift, wrU]
        rfl
    · repeat ((conv => whnf); first | refine Br.t ?_ | refine Br.f ?_ | refine ⟨rfl, ?_⟩)
      conv => whnf
      refine ⟨⟨by decide, by simp, rfl⟩, ?_⟩
      repeat ((conv => whnf); first | refine Br.t ?_ | refine Br.f ?_ | refine ⟨rfl, ?_⟩)
      conv => whnf
      refine CallW.mono (up1 _ _ (num 2 (headW xs ++ puts a ++ puts b) c (by omega) (by first | omega | (simp only [List.length_append]; omega))) rfl) ?_
      rintro r st' ⟨rfl, rfl⟩
      repeat ((conv => whnf); first | refine Br.t ?_ | refine Br.f ?_ | refine ⟨rfl, ?_⟩)
      conv => whnf
      refine ⟨3, by decide, by decide, Le.down (fun id => if id = 3 then 1 else 0) (by intro id h; simp at h) ?_ ?_⟩
      · simp [leS, mkS, V.up]
        rfl
      · simp only [upSt, Ob.up, map_up_lift, wrU]
        rfl
    · repeat ((conv => whnf); first | refine Br.t ?_ | refine Br.f ?_ | refine ⟨rfl, ?_⟩)
      conv => whnf
      have pc := len_puts (n := c) (by omega)
      refine CallW.mono (up1 _ _ (bytes 2 (headW xs ++ puts a ++ puts b ++ puts c) (one_app (one_app (one_app (one_app (one_app one_magic (one_puts _)) (one_pks _)) (one_puts _)) (one_puts _)) (one_puts _)) (by simp only [List.length_append]; omega)) rfl) ?_
      rintro r st' ⟨rfl, rfl⟩
      repeat ((conv => whnf); first | refine Br.t ?_ | refine Br.f ?_ | refine ⟨rfl, ?_⟩)
      conv => whnf
      refine fin (target := []) rfl (Nat.zero_le _) (by simp) ?_ rfl
      rfl
theorem puts_small {n : Nat} (h : n < 128) : puts n = [by8 n] := by rw [puts, putN, dif_pos h]; rfl
theorem wake_bytes : bytesW [] 0 1 2 = [by8 97, by8 108, by8 119, by8 49, by8 0, by8 0, by8 1, by8 2] := by
  simp [bytesW, headW, magic, pks, puts_small]
theorem wake_ok : okW 0 1 2 = true := by decide
def isB (zs : List (List I)) : Prop := ∀ cs ∈ zs, ∃ n : Nat, cs = by8 n
theorem isB_ok {zs : List (List I)} (h : isB zs) : (∀ cs ∈ zs, cs.length = 1) ∧ ∀ cs ∈ lift zs, isByte cs := by
  refine ⟨fun cs hcs => ?_, fun cs hcs => ?_⟩
  · obtain ⟨n, rfl⟩ := h cs hcs; rfl
  · simp only [lift, List.mem_map] at hcs
    obtain ⟨x, hx, rfl⟩ := hcs
    obtain ⟨n, rfl⟩ := h x hx
    trivial
theorem isB_app {a b : List (List I)} (h1 : isB a) (h2 : isB b) : isB (a ++ b) := fun cs h => (List.mem_append.1 h).elim (h1 cs) (h2 cs)
theorem isB_map (ns : List Nat) : isB (ns.map by8) := fun cs h => by
  simp only [List.mem_map] at h
  obtain ⟨n, _, rfl⟩ := h
  exact ⟨n, rfl⟩
theorem isB_W (xs : List (Int × Bool)) (a b c : Int) : isB (bytesW xs a b c) :=
  isB_app (isB_app (isB_app (isB_app (isB_app (isB_map [97, 108, 119, 49]) (isB_map _)) (isB_map _)) (isB_map _)) (isB_map _)) (isB_map _)
theorem awake10 : CallW Try.prog G0 60 [] [] (fun r st' => r = .i (.bool true) ∧ st' = []) := by
  refine call_of_bodyF 0 (Nat.le_refl _) Try.func60 rfl (fun a w => Try.call60 a w) (wpx_ok (own := own0) _ _ _ ?_)
  repeat ((conv => whnf); first | refine Br.t ?_ | refine Br.f ?_ | refine ⟨rfl, ?_⟩)
  conv => whnf
  have hw : CallW Try.prog G0 92 [.agg [.nils, .i (.int .i64 0), .i (.int .i64 1), .i (.int .i64 2)]] [] (fun r st' => r = .tup [.i (.sl [by8 97, by8 108, by8 119, by8 49, by8 0, by8 0, by8 1, by8 2]), .i (.int .i64 0)] ∧ st' = []) := by
    have h := write11 [] 0 1 2 (by decide)
    rw [show codeW [] 0 1 2 = 0 from by decide, if_pos rfl, wake_bytes] at h
    exact h.nd rfl
  refine (hw.pure _ rfl rfl).mono ?_
  rintro r st' ⟨rfl, rfl⟩
  repeat ((conv => whnf); first | refine Br.t ?_ | refine Br.f ?_ | refine ⟨rfl, ?_⟩)
  conv => whnf
  refine ⟨isB_ok (isB_map [97, 108, 119, 49, 0, 0, 1, 2]), ?_⟩
  repeat ((conv => whnf); first | refine Br.t ?_ | refine Br.f ?_ | refine ⟨rfl, ?_⟩)
  conv => whnf
  refine fin (target := []) rfl (Nat.zero_le _) (by simp) rfl rfl
end Go.Proofs.Ytiikndppckjmhaa.Am

/- Contracts: whether a witness holds; the witness of a script. -/
namespace Go.Proofs.Ytiikndppckjmhaa.Am
set_option autoImplicit false
set_option linter.unusedVariables false
set_option linter.unusedSimpArgs false
set_option maxRecDepth 10000
set_option pp.maxSteps 3000
set_option pp.proofs false
def wtV (xs : List (Int × Bool)) (a b c : Int) : V := .agg ((encW xs a b c).map .i)
def wtB (xs : List (Int × Bool)) (a b c : Int) : Ob := .row 0 4 false [(encW xs a b c).map .i]
/-- does a witness hold, and what is wrong first? -/
def holdW (p : Pg) (xs : List (Int × Bool)) (a b c : Int) : Bool × Int :=
  if codeW xs a b c ≠ 0 then (false, codeW xs a b c) else if (chk p).2.2 ≠ 0 then (false, (chk p).2.2) else (pairB (touches p (runC p cfg0 xs)) a b c, 0)
set_option maxHeartbeats 4000000 in
theorem wholds_ok (p : Pg) (hp0 : okPg p) (xs : List (Int × Bool)) (hx : xs.length ≤ 1000) (a b c : Int) : CallW Try.prog G0 61 [pgV p, wtV xs a b c] [] (fun r st' => r = .tup [.i (.bool (holdW p xs a b c).1), .i (.int .i64 (holdW p xs a b c).2)] ∧ st' = []) := by
  refine call_of_bodyF 0 (Nat.le_refl _) Try.func61 rfl (fun a w => Try.call61 a w) (wpx_ok (own := own0) _ _ _ ?_)
  have cw := check13 xs a b c (by omega)
  have cr := run_ok p hp0 xs (by omega)
  unfold holdW
  repeat ((conv => whnf); first | refine Br.t ?_ | refine Br.f ?_ | refine ⟨rfl, ?_⟩)
  conv => whnf
  refine CallW.mono (cw.pure _ rfl rfl) ?_
  rintro r st' ⟨rfl, rfl⟩
  by_cases hw : codeW xs a b c = 0
  · rw [if_neg (by simpa using hw), hw]
    by_cases h0 : (chk p).2.2 = 0
    · have hp := chk_zero h0
      rw [if_neg (by simpa using h0)]
      rw [if_pos h0, h0] at cr
      have hc : OkC p (runC p cfg0 xs) := runC_ok hp xs (cfg0_ok hp)
      have cp := pair_ok p hp _ hc a b c
      repeat ((conv => whnf); first | refine Br.t ?_ | refine Br.f ?_ | refine ⟨rfl, ?_⟩)
      conv => whnf
      refine CallW.mono (cr.pure _ rfl rfl) ?_
      rintro r st' ⟨rfl, rfl⟩
      repeat ((conv => whnf); first | refine Br.t ?_ | refine Br.f ?_ | refine ⟨rfl, ?_⟩)
      conv => whnf
      refine CallW.mono (cp.pure _ rfl rfl) ?_
      rintro r st' ⟨rfl, rfl⟩
      repeat ((conv => whnf); first | refine Br.t ?_ | refine Br.f ?_ | refine ⟨rfl, ?_⟩)
      conv => whnf
      refine fin (target := []) rfl (Nat.zero_le _) (by simp) rfl rfl
    · have hz : ((chk p).2.2 != 0) = true := by simpa using h0
      rw [if_pos h0]
      rw [if_neg h0] at cr
      repeat ((conv => whnf); first | refine Br.t ?_ | refine Br.f ?_ | refine ⟨rfl, ?_⟩)
      conv => whnf
      refine CallW.mono (cr.pure _ rfl rfl) ?_
      rintro r st' ⟨rfl, rfl⟩
      repeat ((conv => whnf); first | refine Br.t ?_ | refine Br.f ?_ | refine ⟨rfl, ?_⟩)
      conv => whnf
      rw [hz]
      repeat ((conv => whnf); first | refine Br.t ?_ | refine Br.f ?_ | refine ⟨rfl, ?_⟩)
      conv => whnf
      refine fin (target := []) rfl (Nat.zero_le _) (by simp) rfl rfl
  · rw [if_pos hw]
    have hz : (codeW xs a b c != 0) = true := by simpa using hw
    repeat ((conv => whnf); first | refine Br.t ?_ | refine Br.f ?_ | refine ⟨rfl, ?_⟩)
    conv => whnf
    rw [hz]
    repeat ((conv => whnf); first | refine Br.t ?_ | refine Br.f ?_ | refine ⟨rfl, ?_⟩)
    conv => whnf
    refine fin (target := []) rfl (Nat.zero_le _) (by simp) rfl rfl
theorem hholds_ok (p : Pg) (hp : PgOk p) (xs : List (Int × Bool)) (hx : xs.length ≤ 1000) (a b c : Int) : CallW Try.prog G0 63 [pgV p, wtV xs a b c] [] (fun r st' => r = .i (.bool (pairB (touches p (runC p cfg0 xs)) a b c)) ∧ st' = []) := by
  refine call_of_bodyF 0 (Nat.le_refl _) Try.func63 rfl (fun a w => Try.call63 a w) (wpx_ok (own := own0) _ _ _ ?_)
  have cr := rrun_ok p hp xs hx
  have hc : OkC p (runC p cfg0 xs) := runC_ok hp xs (cfg0_ok hp)
  have cp := hpair_ok p hp _ hc a b c
  repeat ((conv => whnf); first | refine Br.t ?_ | refine Br.f ?_ | refine ⟨rfl, ?_⟩)
  conv => whnf
  refine draw_ok (own := own0) [] [] [(rcV (runC p cfg0 xs), [pgB p, wtB xs a b c]), (.i (.bool (pairB (touches p (runC p cfg0 xs)) a b c)), [pgB p, wtB xs a b c])] rfl (by kernel_rfl) (Nat.zero_le _) ?_
  repeat ((conv => whnf); first | refine Br.t ?_ | refine Br.f ?_ | refine ⟨rfl, ?_⟩)
  conv => whnf
  refine ⟨cr.pure _ rfl rfl, ?_⟩
  repeat ((conv => whnf); first | refine Br.t ?_ | refine Br.f ?_ | refine ⟨rfl, ?_⟩)
  conv => whnf
  refine ⟨cp.pure _ rfl rfl, ?_⟩
  repeat ((conv => whnf); first | refine Br.t ?_ | refine Br.f ?_ | refine ⟨rfl, ?_⟩)
  conv => whnf
  refine ⟨by repeat ((conv => whnf); first | exact trivial | refine ⟨rfl, ?_⟩), trivial, ?_⟩
  conv => whnf
  repeat ((conv => whnf); first | refine Br.t ?_ | refine Br.f ?_ | refine ⟨rfl, ?_⟩)
  conv => whnf
  refine fin (target := []) rfl (Nat.zero_le _) (by simp) rfl rfl
set_option maxHeartbeats 4000000 in
theorem witholds (p : Pg) (hp0 : okPg p) (xs : List (Int × Bool)) (hx : okL xs) (a b c : Int) : CallW Try.prog G0 17 [pgV p, wtV xs a b c] [] (fun r st' => r = .i (.bool true) ∧ st' = []) := by
  refine call_of_bodyF 0 (Nat.le_refl _) Try.func17 rfl (fun a w => Try.call17 a w) (wpx_ok (own := own0) _ _ _ ?_)
  unfold okL at hx
  repeat ((conv => whnf); first | refine Br.t ?_ | refine Br.f ?_ | refine ⟨rfl, ?_⟩)
  conv => whnf
  refine CallW.mono (awake10.pure _ rfl rfl) ?_
  rintro r st' ⟨rfl, rfl⟩
  repeat ((conv => whnf); first | refine Br.t ?_ | refine Br.f ?_ | refine ⟨rfl, ?_⟩)
  conv => whnf
  refine CallW.mono ((small16 p hp0).pure _ rfl rfl) ?_
  rintro r st' ⟨rfl, rfl⟩
  repeat ((conv => whnf); first | refine Br.t ?_ | refine Br.f ?_ | refine ⟨rfl, ?_⟩)
  conv => whnf
  refine Br.mk (fun z => ?_) (fun z => ?_)
  · repeat ((conv => whnf); first | refine Br.t ?_ | refine Br.f ?_ | refine ⟨rfl, ?_⟩)
    conv => whnf
    refine CallW.mono (awake10.pure _ rfl rfl) ?_
    rintro r st' ⟨rfl, rfl⟩
    repeat ((conv => whnf); first | refine Br.t ?_ | refine Br.f ?_ | refine ⟨rfl, ?_⟩)
    conv => whnf
    refine fin (target := []) rfl (Nat.zero_le _) (by simp) rfl rfl
  repeat ((conv => whnf); first | refine Br.t ?_ | refine Br.f ?_ | refine ⟨rfl, ?_⟩)
  conv => whnf
  refine Br.mk (fun z2 => ?_) (fun z2 => ?_)
  · repeat ((conv => whnf); first | refine Br.t ?_ | refine Br.f ?_ | refine ⟨rfl, ?_⟩)
    conv => whnf
    refine CallW.mono (awake10.pure _ rfl rfl) ?_
    rintro r st' ⟨rfl, rfl⟩
    repeat ((conv => whnf); first | refine Br.t ?_ | refine Br.f ?_ | refine ⟨rfl, ?_⟩)
    conv => whnf
    refine fin (target := []) rfl (Nat.zero_le _) (by simp) rfl rfl
  have hll : xs.length ≤ 300 := by simp at z2; omega
  have ch := wholds_ok p hp0 xs (by omega) a b c
  have cw := check12 xs a b c (by omega)
  have c1 := refcheck p hp0
  unfold tri at c1
  unfold holdW at ch
  by_cases hw : codeW xs a b c = 0
  · rw [if_neg (by simpa using hw)] at ch
    rw [hw] at cw
    by_cases h0 : (chk p).2.2 = 0
    · have hp := chk_zero h0
      rw [if_neg (by simpa using h0)] at ch
      rw [h0] at c1
      have cv := hholds_ok p hp xs (by omega) a b c
      obtain ⟨q, hq⟩ : ∃ q, q = pairB (touches p (runC p cfg0 xs)) a b c := ⟨_, rfl⟩
      rw [← hq] at cv ch
      repeat ((conv => whnf); first | refine Br.t ?_ | refine Br.f ?_ | refine ⟨rfl, ?_⟩)
      conv => whnf
      refine CallW.mono (ch.pure _ rfl rfl) ?_
      rintro r st' ⟨rfl, rfl⟩
      repeat ((conv => whnf); first | refine Br.t ?_ | refine Br.f ?_ | refine ⟨rfl, ?_⟩)
      conv => whnf
      refine CallW.mono (cw.pure _ rfl rfl) ?_
      rintro r st' ⟨rfl, rfl⟩
      repeat ((conv => whnf); first | refine Br.t ?_ | refine Br.f ?_ | refine ⟨rfl, ?_⟩)
      conv => whnf
      refine CallW.mono (c1.pure _ rfl rfl) ?_
      rintro r st' ⟨rfl, rfl⟩
      repeat ((conv => whnf); first | refine Br.t ?_ | refine Br.f ?_ | refine ⟨rfl, ?_⟩)
      conv => whnf
      refine CallW.mono (cv.pure _ rfl rfl) ?_
      rintro r st' ⟨rfl, rfl⟩
      repeat ((conv => whnf); first | refine Br.t ?_ | refine Br.f ?_ | refine ⟨rfl, ?_⟩)
      conv => whnf
      refine fin (target := []) rfl (Nat.zero_le _) (by simp) (by simp) rfl
    · have hz : ((chk p).2.2 != 0) = true := by simpa using h0
      rw [if_pos h0] at ch
      repeat ((conv => whnf); first | refine Br.t ?_ | refine Br.f ?_ | refine ⟨rfl, ?_⟩)
      conv => whnf
      refine CallW.mono (ch.pure _ rfl rfl) ?_
      rintro r st' ⟨rfl, rfl⟩
      repeat ((conv => whnf); first | refine Br.t ?_ | refine Br.f ?_ | refine ⟨rfl, ?_⟩)
      conv => whnf
      refine CallW.mono (cw.pure _ rfl rfl) ?_
      rintro r st' ⟨rfl, rfl⟩
      repeat ((conv => whnf); first | refine Br.t ?_ | refine Br.f ?_ | refine ⟨rfl, ?_⟩)
      conv => whnf
      refine CallW.mono (c1.pure _ rfl rfl) ?_
      rintro r st' ⟨rfl, rfl⟩
      repeat ((conv => whnf); first | refine Br.t ?_ | refine Br.f ?_ | refine ⟨rfl, ?_⟩)
      conv => whnf
      rw [hz]
      repeat ((conv => whnf); first | refine Br.t ?_ | refine Br.f ?_ | refine ⟨rfl, ?_⟩)
      conv => whnf
      refine Br.mk (fun _ => ?_) (fun k => absurd k (by simp))
      repeat ((conv => whnf); first | refine Br.t ?_ | refine Br.f ?_ | refine ⟨rfl, ?_⟩)
      conv => whnf
      refine fin (target := []) rfl (Nat.zero_le _) (by simp) rfl rfl
  · rw [if_pos hw] at ch
    have hz : (codeW xs a b c != 0) = true := by simpa using hw
    repeat ((conv => whnf); first | refine Br.t ?_ | refine Br.f ?_ | refine ⟨rfl, ?_⟩)
    conv => whnf
    refine CallW.mono (ch.pure _ rfl rfl) ?_
    rintro r st' ⟨rfl, rfl⟩
    repeat ((conv => whnf); first | refine Br.t ?_ | refine Br.f ?_ | refine ⟨rfl, ?_⟩)
    conv => whnf
    refine CallW.mono (cw.pure _ rfl rfl) ?_
    rintro r st' ⟨rfl, rfl⟩
    repeat ((conv => whnf); first | refine Br.t ?_ | refine Br.f ?_ | refine ⟨rfl, ?_⟩)
    conv => whnf
    rw [hz]
    repeat ((conv => whnf); first | refine Br.t ?_ | refine Br.f ?_ | refine ⟨rfl, ?_⟩)
    conv => whnf
    refine Br.mk (fun _ => ?_) (fun k => absurd k (by simp))
    repeat ((conv => whnf); first | refine Br.t ?_ | refine Br.f ?_ | refine ⟨rfl, ?_⟩)
    conv => whnf
    refine fin (target := []) rfl (Nat.zero_le _) (by simp) rfl rfl
end Go.Proofs.Ytiikndppckjmhaa.Am

/- Contracts: the witness of a script. -/
namespace Go.Proofs.Ytiikndppckjmhaa.Am
set_option autoImplicit false
set_option linter.unusedVariables false
set_option linter.unusedSimpArgs false
set_option maxRecDepth 10000
set_option pp.maxSteps 3000
set_option pp.proofs false
theorem acc_glob {p : Pg} (hp : PgOk p) {c : Cfg} (hc : OkC p c) {u : Nat} (h : isAcc p c u = true) : 0 ≤ (atN p c u).2.1 ∧ (atN p c u).2.1 < 16 := by
  unfold isAcc at h
  simp only [Bool.and_eq_true, Bool.or_eq_true, decide_eq_true_eq] at h
  obtain ⟨hl, hk⟩ := h
  have ea : ndAt p c u = atN p c u := by unfold atN; rw [if_pos hl]
  obtain ⟨_, _, _, L, _, _, _, _, _, _, _, _, hm⟩ := nd_in hp hc hl
  rw [ea] at hm
  have := hp.g
  obtain ⟨_, h2, _⟩ := may_parts hm
  have e : ∀ k : Int, k = 1 ∨ k = 2 → (fieldsF p k L.length).1 = p.g := by rintro k (rfl | rfl) <;> rfl
  rw [e _ hk] at h2
  omega
/-- the witness of who races first -/
def wtT (o : Option (Tc × Tc)) (l : List (Int × Bool)) : List (Int × Bool) × Int × Int × Int := match o with
  | some (x, y) => (l, (x.1 : Nat), (y.1 : Nat), x.2.1)
  | none => ([], 0, 0, 0)
def wtW (W : List (Int × Bool) × Int × Int × Int) : V := wtV W.1 W.2.1 W.2.2.1 W.2.2.2
theorem encP_len3 (l : List (Int × Bool)) : ∀ cs ∈ l.map encP, cs.length = 2 := by
  intro cs h
  simp only [List.mem_map] at h
  obtain ⟨x, _, rfl⟩ := h
  rfl
set_option maxHeartbeats 4000000 in
theorem wof_ok (p : Pg) (hp : PgOk p) (c : Cfg) (hc : OkC p c) (l : List (Int × Bool)) (hl : l.length ≤ 100000) : CallW Try.prog G0 97 [pgV p, cfgV c, .i (.sl (l.map encP))] [] (fun r st' => r = .tup [wtW (wtT (firstR (touches p c)) l), .i (.bool (firstR (touches p c)).isSome)] ∧ st' = []) := by
  refine call_of_bodyF 0 (Nat.le_refl _) Try.func97 rfl (fun a w => Try.call97 a w) (wpx_ok (own := fun t => t == 23) _ _ _ ?_)
  have cf := first_ok p hp c hc
  cases hf : firstR (touches p c) with
  | none =>
    rw [hf] at cf
    repeat ((conv => whnf); first | refine Br.t ?_ | refine Br.f ?_ | refine ⟨rfl, ?_⟩)
    conv => whnf
    refine CallW.mono (cf.pure _ rfl rfl) ?_
    rintro r st' ⟨rfl, rfl⟩
    repeat ((conv => whnf); first | refine Br.t ?_ | refine Br.f ?_ | refine ⟨rfl, ?_⟩)
    conv => whnf
    refine fin (target := []) rfl (Nat.zero_le _) (by simp) rfl rfl
  | some xy =>
    obtain ⟨x, y⟩ := xy
    rw [hf] at cf
    repeat ((conv => whnf); first | refine Br.t ?_ | refine Br.f ?_ | refine ⟨rfl, ?_⟩)
    conv => whnf
    refine CallW.mono (cf.pure _ rfl rfl) ?_
    rintro r st' ⟨rfl, rfl⟩
    repeat ((conv => whnf); first | refine Br.t ?_ | refine Br.f ?_ | refine ⟨rfl, ?_⟩)
    conv => whnf
    refine ⟨apG (es := l.map encP) (encP_len3 l) 16 rfl rfl (by simp [lift]; omega) (len_mx (by simp; omega)), ?_⟩
    repeat ((conv => whnf); first | refine Br.t ?_ | refine Br.f ?_ | refine ⟨rfl, ?_⟩)
    conv => whnf
    refine ⟨Nat.zero_le _, rfl, l.map encP, rfl, ?_⟩
    conv => whnf
    have e1 : List.take (0 + (lift (l.map encP)).length) (List.drop 0 (l.map encP)) = l.map encP := by
      rw [List.drop_zero]; exact List.take_of_length_le (by simp [lift])
    refine fin (target := []) rfl (Nat.zero_le _) (by simp) (by rw [e1]; rfl) rfl
/-- the witness of a script -/
def ofW (p : Pg) (l : List (Int × Bool)) : Option (Tc × Tc) := if codeS l = 0 ∧ (chk p).2.2 = 0 then firstR (touches p (runC p cfg0 l)) else none
set_option maxHeartbeats 4000000 in
theorem wOf_ok (p : Pg) (hp0 : okPg p) (l : List (Int × Bool)) (hl : l.length ≤ 100000) : CallW Try.prog G0 68 [pgV p, .i (.sl (l.map encP))] [] (fun r st' => r = .tup [wtW (wtT (ofW p l) l), .i (.bool (ofW p l).isSome)] ∧ st' = []) := by
  refine call_of_bodyF 0 (Nat.le_refl _) Try.func68 rfl (fun a w => Try.call68 a w) (wpx_ok (own := own0) _ _ _ ?_)
  have cs := put25 l (by omega)
  have cr := run_ok p hp0 l hl
  unfold ofW
  by_cases hs : codeS l = 0
  · rw [if_pos hs, hs] at cs
    by_cases h0 : (chk p).2.2 = 0
    · have hp := chk_zero h0
      rw [if_pos ⟨hs, h0⟩]
      rw [if_pos h0, h0] at cr
      have co := wof_ok p hp _ (runC_ok hp l (cfg0_ok hp)) l hl
      obtain ⟨o, ho⟩ : ∃ o, o = firstR (touches p (runC p cfg0 l)) := ⟨_, rfl⟩
      rw [← ho] at co ⊢
      repeat ((conv => whnf); first | refine Br.t ?_ | refine Br.f ?_ | refine ⟨rfl, ?_⟩)
      conv => whnf
      refine CallW.mono (cs.pure _ rfl rfl) ?_
      rintro r st' ⟨rfl, rfl⟩
      repeat ((conv => whnf); first | refine Br.t ?_ | refine Br.f ?_ | refine ⟨rfl, ?_⟩)
      conv => whnf
      refine CallW.mono (cr.pure _ rfl rfl) ?_
      rintro r st' ⟨rfl, rfl⟩
      repeat ((conv => whnf); first | refine Br.t ?_ | refine Br.f ?_ | refine ⟨rfl, ?_⟩)
      conv => whnf
      refine CallW.mono (co.pure _ rfl rfl) ?_
      rintro r st' ⟨rfl, rfl⟩
      repeat ((conv => whnf); first | refine Br.t ?_ | refine Br.f ?_ | refine ⟨rfl, ?_⟩)
      conv => whnf
      refine fin (target := []) rfl (Nat.zero_le _) (by simp) rfl rfl
    · have hz : ((chk p).2.2 != 0) = true := by simpa using h0
      rw [if_neg (fun h => h0 h.2)]
      rw [if_neg h0] at cr
      repeat ((conv => whnf); first | refine Br.t ?_ | refine Br.f ?_ | refine ⟨rfl, ?_⟩)
      conv => whnf
      refine CallW.mono (cs.pure _ rfl rfl) ?_
      rintro r st' ⟨rfl, rfl⟩
      repeat ((conv => whnf); first | refine Br.t ?_ | refine Br.f ?_ | refine ⟨rfl, ?_⟩)
      conv => whnf
      refine CallW.mono (cr.pure _ rfl rfl) ?_
      rintro r st' ⟨rfl, rfl⟩
      repeat ((conv => whnf); first | refine Br.t ?_ | refine Br.f ?_ | refine ⟨rfl, ?_⟩)
      conv => whnf
      rw [hz]
      repeat ((conv => whnf); first | refine Br.t ?_ | refine Br.f ?_ | refine ⟨rfl, ?_⟩)
      conv => whnf
      refine fin (target := []) rfl (Nat.zero_le _) (by simp) rfl rfl
  · rw [if_neg (fun h => hs h.1)]
    rw [if_neg hs] at cs
    have hz : (codeS l != 0) = true := by simpa using hs
    repeat ((conv => whnf); first | refine Br.t ?_ | refine Br.f ?_ | refine ⟨rfl, ?_⟩)
    conv => whnf
    refine CallW.mono (cs.pure _ rfl rfl) ?_
    rintro r st' ⟨rfl, rfl⟩
    repeat ((conv => whnf); first | refine Br.t ?_ | refine Br.f ?_ | refine ⟨rfl, ?_⟩)
    conv => whnf
    rw [hz]
    repeat ((conv => whnf); first | refine Br.t ?_ | refine Br.f ?_ | refine ⟨rfl, ?_⟩)
    conv => whnf
    refine fin (target := []) rfl (Nat.zero_le _) (by simp) rfl rfl
/-- who races first makes a witness that holds -/
theorem of_holds {p : Pg} (h0 : (chk p).2.2 = 0) {l : List (Int × Bool)} (hs : codeS l = 0) {x y : Tc} (h : firstR (touches p (runC p cfg0 l)) = some (x, y)) : holdW p l (x.1 : Nat) (y.1 : Nat) x.2.1 = (true, 0) := by
  have hp := chk_zero h0
  have hc : OkC p (runC p cfg0 l) := runC_ok hp l (cfg0_ok hp)
  obtain ⟨h1, h2, h3, h4⟩ := firstR_some (touchL_pw p _ _) h
  have hp1 := pairB_of h1 h2 h3
  obtain ⟨r1, a1, t1⟩ := first_in_range h1
  obtain ⟨r2, a2, t2⟩ := first_in_range h2
  have hg := acc_glob hp hc a1
  have hn := hc.n.2
  have ex : x.2.1 = (atN p (runC p cfg0 l) x.1).2.1 := by rw [t1]; rfl
  have hcw : codeW l (x.1 : Nat) (y.1 : Nat) x.2.1 = 0 := by
    unfold codeW
    rw [if_pos hs, if_pos]
    unfold okW
    simp
    omega
  unfold holdW
  rw [if_neg (by simpa using hcw), if_neg (by simpa using h0), hp1]
end Go.Proofs.Ytiikndppckjmhaa.Am

/- Contracts: the witness of a script is that of the first two who race behind it, and holds. -/
namespace Go.Proofs.Ytiikndppckjmhaa.Am
set_option autoImplicit false
set_option linter.unusedVariables false
set_option linter.unusedSimpArgs false
set_option maxRecDepth 10000
set_option pp.maxSteps 3000
set_option pp.proofs false
def woS (l : List (Int × Bool)) (b : Bool) (f : Int) (x : List (Nat × V)) : List V := mkS 137 ([(1, .i (.sl (l.map encP))), (2, .ptr 0 0 0 0), (5, .ptr 1 0 0 0), (6, .i (.bool b)), (9, .i (.int .i64 f))] ++ x)
def woF (l : List (Int × Bool)) (f : Int) : Int := if l.all okP = true then f else 1
theorem wo_loop (p : Pg) (l : List (Int × Bool)) (hl : l.length ≤ 1000) (W0 : List (Int × Bool) × Int × Int × Int) (b : Bool) (f : Int) :
    W Try.prog G0 0 (.loop (lp Try.f22 0)) (fun e s => e = .exit 0 ∧ s = ⟨woS l b (woF l f) [], [pgB p, wtB W0.1 W0.2.1 W0.2.2.1 W0.2.2.2]⟩) ⟨woS l b f [(10, .i (.int .i64 0))], [pgB p, wtB W0.1 W0.2.1 W0.2.2.1 W0.2.2.2]⟩ := by
  obtain ⟨xs, a0, b0, c0⟩ := W0
  refine W.weak (loop_ok (α := Nat) (fun i => ⟨woS l b (woF (l.take i) f) [(10, .i (.int .i64 i))], [pgB p, wtB xs a0 b0 c0]⟩) (fun i => i ≤ l.length) (fun i => l.length - i) 0 (Nat.zero_le _) (Le.refl _ _) (fun i hi => wpx_ok (own := own0) _ _ _ ?_))
  have ei : IntKind.i64.wrap ((i : Int) + 1) = ((i + 1 : Nat) : Int) := i64_id (by omega) (by omega)
  repeat ((conv => whnf); first | refine Br.t ?_ | refine Br.f ?_ | refine ⟨rfl, ?_⟩)
  conv => whnf
  refine Br.mk (fun g => ?_) (fun g => ?_)
  · have g : i < l.length := by simp at g; omega
    obtain ⟨x, hx⟩ : ∃ x, l[i]? = some x := ⟨_, List.getElem?_eq_getElem g⟩
    have ex : (l.map encP).getD (i : Int).toNat [] = encP x := by rw [Int.toNat_natCast]; simp [List.getD_eq_getElem?_getD, hx]
    have et : l.take (i + 1) = l.take i ++ [x] := by rw [List.take_add_one, hx]; rfl
    have en : ∀ v, okP x = v → woF (l.take (i + 1)) f = if v = true then woF (l.take i) f else 1 := by
      intro v hv
      unfold woF
      rw [et, List.all_append]
      cases v with
      | true => rw [show ([x].all okP) = true by simp [hv], Bool.and_true, if_pos rfl]
      | false => rw [show ([x].all okP) = false by simp [hv], Bool.and_false, if_neg (by decide), if_neg (by decide)]
    repeat ((conv => whnf); first | refine Br.t ?_ | refine Br.f ?_ | refine ⟨rfl, ?_⟩)
    conv => whnf
    rw [ex]
    refine ⟨⟨by omega, by simp; omega, rfl⟩, ?_⟩
    repeat ((conv => whnf); first | refine Br.t ?_ | refine Br.f ?_ | refine ⟨rfl, ?_⟩)
    conv => whnf
    refine Br.mk (fun h4 => ?_) (fun h4 => ?_)
    · have h4 : x.1 < 0 := by simpa using h4
      repeat ((conv => whnf); first | refine Br.t ?_ | refine Br.f ?_ | refine ⟨rfl, ?_⟩)
      conv => whnf
      refine ⟨i + 1, g, by omega, Le.slots ?_⟩
      rw [en false (by unfold okP; simp; omega)]
      simp [leS, mkS, woS, ei]
    · have h4 : 0 ≤ x.1 := by simpa using h4
      repeat ((conv => whnf); first | refine Br.t ?_ | refine Br.f ?_ | refine ⟨rfl, ?_⟩)
      conv => whnf
      rw [ex]
      refine ⟨⟨by omega, by simp; omega, rfl⟩, ?_⟩
      repeat ((conv => whnf); first | refine Br.t ?_ | refine Br.f ?_ | refine ⟨rfl, ?_⟩)
      conv => whnf
      refine Br.mk (fun h5 => ?_) (fun h5 => ?_)
      · have h5 : 7 < x.1 := by simpa using h5
        repeat ((conv => whnf); first | refine Br.t ?_ | refine Br.f ?_ | refine ⟨rfl, ?_⟩)
        conv => whnf
        refine ⟨i + 1, g, by omega, Le.slots ?_⟩
        rw [en false (by unfold okP; simp; omega)]
        simp [leS, mkS, woS, ei]
      · have h5 : x.1 ≤ 7 := by simpa using h5
        repeat ((conv => whnf); first | refine Br.t ?_ | refine Br.f ?_ | refine ⟨rfl, ?_⟩)
        conv => whnf
        refine ⟨i + 1, g, by omega, Le.slots ?_⟩
        rw [en true (by unfold okP; simp; omega)]
        simp [leS, mkS, woS, ei]
  · have g : i = l.length := by simp at g; omega
    subst g
    repeat ((conv => whnf); first | refine Br.t ?_ | refine Br.f ?_ | refine ⟨rfl, ?_⟩)
    conv => whnf
    refine ⟨⟨woS l b (woF l f) [], [pgB p, wtB xs a0 b0 c0]⟩, Le.slots ?_, rfl, rfl⟩
    rw [List.take_length]
    simp [leS, mkS, woS]
set_option maxHeartbeats 4000000 in
theorem witof (p : Pg) (hp0 : okPg p) (l : List (Int × Bool)) (hl : okL l) : CallW Try.prog G0 22 [pgV p, .i (.sl (l.map encP))] [] (fun r st' => r = .i (.bool true) ∧ st' = []) := by
  refine call_of_bodyF 0 (Nat.le_refl _) Try.func22 rfl (fun a w => Try.call22 a w) (wpx_ok (own := own0) _ _ _ ?_)
  unfold okL at hl
  repeat ((conv => whnf); first | refine Br.t ?_ | refine Br.f ?_ | refine ⟨rfl, ?_⟩)
  conv => whnf
  refine CallW.mono (awake10.pure _ rfl rfl) ?_
  rintro r st' ⟨rfl, rfl⟩
  repeat ((conv => whnf); first | refine Br.t ?_ | refine Br.f ?_ | refine ⟨rfl, ?_⟩)
  conv => whnf
  refine CallW.mono ((small16 p hp0).pure _ rfl rfl) ?_
  rintro r st' ⟨rfl, rfl⟩
  repeat ((conv => whnf); first | refine Br.t ?_ | refine Br.f ?_ | refine ⟨rfl, ?_⟩)
  conv => whnf
  refine Br.mk (fun z => ?_) (fun z => ?_)
  · repeat ((conv => whnf); first | refine Br.t ?_ | refine Br.f ?_ | refine ⟨rfl, ?_⟩)
    conv => whnf
    refine CallW.mono (awake10.pure _ rfl rfl) ?_
    rintro r st' ⟨rfl, rfl⟩
    repeat ((conv => whnf); first | refine Br.t ?_ | refine Br.f ?_ | refine ⟨rfl, ?_⟩)
    conv => whnf
    refine fin (target := []) rfl (Nat.zero_le _) (by simp) rfl rfl
  repeat ((conv => whnf); first | refine Br.t ?_ | refine Br.f ?_ | refine ⟨rfl, ?_⟩)
  conv => whnf
  refine Br.mk (fun z2 => ?_) (fun z2 => ?_)
  · repeat ((conv => whnf); first | refine Br.t ?_ | refine Br.f ?_ | refine ⟨rfl, ?_⟩)
    conv => whnf
    refine CallW.mono (awake10.pure _ rfl rfl) ?_
    rintro r st' ⟨rfl, rfl⟩
    repeat ((conv => whnf); first | refine Br.t ?_ | refine Br.f ?_ | refine ⟨rfl, ?_⟩)
    conv => whnf
    refine fin (target := []) rfl (Nat.zero_le _) (by simp) rfl rfl
  have hll : l.length ≤ 300 := by simp at z2; omega
  have co := wOf_ok p hp0 l (by omega)
  have c1 := refcheck p hp0
  unfold tri at c1
  have hcs : codeS l = 0 ↔ l.all okP = true := by
    unfold codeS
    rw [if_neg (by omega)]
    split <;> simp_all
  by_cases hs : codeS l = 0
  · have hall := hcs.1 hs
    by_cases h0 : (chk p).2.2 = 0
    · have hp := chk_zero h0
      have hc : OkC p (runC p cfg0 l) := runC_ok hp l (cfg0_ok hp)
      have cr := rrun_ok p hp l (by omega)
      have cf := hfirst_ok p hp _ hc
      have ef : ofW p l = firstR (touches p (runC p cfg0 l)) := by unfold ofW; rw [if_pos ⟨hs, h0⟩]
      have ew : woF l (chk p).2.2 = 0 := by unfold woF; rw [if_pos hall, h0]
      rw [ef] at co
      cases hf : firstR (touches p (runC p cfg0 l)) with
      | none =>
        rw [hf] at co cf
        repeat ((conv => whnf); first | refine Br.t ?_ | refine Br.f ?_ | refine ⟨rfl, ?_⟩)
        conv => whnf
        refine CallW.mono (co.pure _ rfl rfl) ?_
        rintro r st' ⟨rfl, rfl⟩
        repeat ((conv => whnf); first | refine Br.t ?_ | refine Br.f ?_ | refine ⟨rfl, ?_⟩)
        conv => whnf
        refine CallW.mono (c1.pure _ rfl rfl) ?_
        rintro r st' ⟨rfl, rfl⟩
        repeat ((conv => whnf); first | refine Br.t ?_ | refine Br.f ?_ | refine ⟨rfl, ?_⟩)
        conv => whnf
        refine W.le (s' := ⟨woS l false (chk p).2.2 [(10, .i (.int .i64 0))], [pgB p, wtB (wtT none l).1 (wtT none l).2.1 (wtT none l).2.2.1 (wtT none l).2.2.2]⟩) (Le.slotsE (by simp [leS, mkS, woS]) rfl) (W.mono (wo_loop p l (by omega) (wtT none l) false (chk p).2.2) ?_)
        rintro e s ⟨rfl, rfl⟩
        rw [ew]
        repeat ((conv => whnf); first | refine Br.t ?_ | refine Br.f ?_ | refine ⟨rfl, ?_⟩)
        conv => whnf
        refine draw_ok (own := own0) [] [] [(rcV (runC p cfg0 l), [pgB p, wtB [] 0 0 0]), (.tup (h4 none), [pgB p, wtB [] 0 0 0])] rfl (by kernel_rfl) (Nat.zero_le _) ?_
        repeat ((conv => whnf); first | refine Br.t ?_ | refine Br.f ?_ | refine ⟨rfl, ?_⟩)
        conv => whnf
        refine ⟨cr.pure _ rfl rfl, ?_⟩
        repeat ((conv => whnf); first | refine Br.t ?_ | refine Br.f ?_ | refine ⟨rfl, ?_⟩)
        conv => whnf
        refine ⟨cf.pure _ rfl rfl, ?_⟩
        repeat ((conv => whnf); first | refine Br.t ?_ | refine Br.f ?_ | refine ⟨rfl, ?_⟩)
        conv => whnf
        refine ⟨by repeat ((conv => whnf); first | exact trivial | refine ⟨rfl, ?_⟩), trivial, ?_⟩
        conv => whnf
        repeat ((conv => whnf); first | refine Br.t ?_ | refine Br.f ?_ | refine ⟨rfl, ?_⟩)
        conv => whnf
        refine fin (target := []) rfl (Nat.zero_le _) (by simp) rfl rfl
      | some xy =>
        obtain ⟨x, y⟩ := xy
        have ch := wholds_ok p hp0 l (by omega) (x.1 : Nat) (y.1 : Nat) x.2.1
        rw [of_holds h0 hs hf] at ch
        rw [hf] at co cf
        repeat ((conv => whnf); first | refine Br.t ?_ | refine Br.f ?_ | refine ⟨rfl, ?_⟩)
        conv => whnf
        refine CallW.mono (co.pure _ rfl rfl) ?_
        rintro r st' ⟨rfl, rfl⟩
        repeat ((conv => whnf); first | refine Br.t ?_ | refine Br.f ?_ | refine ⟨rfl, ?_⟩)
        conv => whnf
        refine CallW.mono (c1.pure _ rfl rfl) ?_
        rintro r st' ⟨rfl, rfl⟩
        repeat ((conv => whnf); first | refine Br.t ?_ | refine Br.f ?_ | refine ⟨rfl, ?_⟩)
        conv => whnf
        refine W.le (s' := ⟨woS l true (chk p).2.2 [(10, .i (.int .i64 0))], [pgB p, wtB (wtT (some (x, y)) l).1 (wtT (some (x, y)) l).2.1 (wtT (some (x, y)) l).2.2.1 (wtT (some (x, y)) l).2.2.2]⟩) (Le.slotsE (by simp [leS, mkS, woS]) rfl) (W.mono (wo_loop p l (by omega) (wtT (some (x, y)) l) true (chk p).2.2) ?_)
        rintro e s ⟨rfl, rfl⟩
        rw [ew]
        repeat ((conv => whnf); first | refine Br.t ?_ | refine Br.f ?_ | refine ⟨rfl, ?_⟩)
        conv => whnf
        refine draw_ok (own := own0) [] [] [(rcV (runC p cfg0 l), [pgB p, wtB l (x.1 : Nat) (y.1 : Nat) x.2.1]), (.tup (h4 (some (x, y))), [pgB p, wtB l (x.1 : Nat) (y.1 : Nat) x.2.1])] rfl (by kernel_rfl) (Nat.zero_le _) ?_
        repeat ((conv => whnf); first | refine Br.t ?_ | refine Br.f ?_ | refine ⟨rfl, ?_⟩)
        conv => whnf
        refine ⟨cr.pure _ rfl rfl, ?_⟩
        repeat ((conv => whnf); first | refine Br.t ?_ | refine Br.f ?_ | refine ⟨rfl, ?_⟩)
        conv => whnf
        refine ⟨cf.pure _ rfl rfl, ?_⟩
        repeat ((conv => whnf); first | refine Br.t ?_ | refine Br.f ?_ | refine ⟨rfl, ?_⟩)
        conv => whnf
        refine ⟨by repeat ((conv => whnf); first | exact trivial | refine ⟨rfl, ?_⟩), trivial, ?_⟩
        conv => whnf
        repeat ((conv => whnf); first | refine Br.t ?_ | refine Br.f ?_ | refine ⟨rfl, ?_⟩)
        conv => whnf
        refine CallW.mono (ch.pure _ rfl rfl) ?_
        rintro r st' ⟨rfl, rfl⟩
        repeat ((conv => whnf); first | refine Br.t ?_ | refine Br.f ?_ | refine ⟨rfl, ?_⟩)
        conv => whnf
        refine Br.mk (fun _ => ?_) (fun k => absurd k (by simp))
        repeat ((conv => whnf); first | refine Br.t ?_ | refine Br.f ?_ | refine ⟨rfl, ?_⟩)
        conv => whnf
        refine Br.mk (fun _ => ?_) (fun k => absurd k (by simp))
        repeat ((conv => whnf); first | refine Br.t ?_ | refine Br.f ?_ | refine ⟨rfl, ?_⟩)
        conv => whnf
        refine Br.mk (fun _ => ?_) (fun k => absurd k (by simp))
        repeat ((conv => whnf); first | refine Br.t ?_ | refine Br.f ?_ | refine ⟨rfl, ?_⟩)
        conv => whnf
        refine Br.mk (fun _ => ?_) (fun k => absurd k (by simp))
        repeat ((conv => whnf); first | refine Br.t ?_ | refine Br.f ?_ | refine ⟨rfl, ?_⟩)
        conv => whnf
        refine fin (target := []) rfl (Nat.zero_le _) (by simp) rfl rfl
    · have ef : ofW p l = none := by unfold ofW; rw [if_neg (fun h => h0 h.2)]
      have ew : woF l (chk p).2.2 = (chk p).2.2 := by unfold woF; rw [if_pos hall]
      have hz : ((chk p).2.2 != 0) = true := by simpa using h0
      rw [ef] at co
      repeat ((conv => whnf); first | refine Br.t ?_ | refine Br.f ?_ | refine ⟨rfl, ?_⟩)
      conv => whnf
      refine CallW.mono (co.pure _ rfl rfl) ?_
      rintro r st' ⟨rfl, rfl⟩
      repeat ((conv => whnf); first | refine Br.t ?_ | refine Br.f ?_ | refine ⟨rfl, ?_⟩)
      conv => whnf
      refine CallW.mono (c1.pure _ rfl rfl) ?_
      rintro r st' ⟨rfl, rfl⟩
      repeat ((conv => whnf); first | refine Br.t ?_ | refine Br.f ?_ | refine ⟨rfl, ?_⟩)
      conv => whnf
      refine W.le (s' := ⟨woS l false (chk p).2.2 [(10, .i (.int .i64 0))], [pgB p, wtB (wtT none l).1 (wtT none l).2.1 (wtT none l).2.2.1 (wtT none l).2.2.2]⟩) (Le.slotsE (by simp [leS, mkS, woS]) rfl) (W.mono (wo_loop p l (by omega) (wtT none l) false (chk p).2.2) ?_)
      rintro e s ⟨rfl, rfl⟩
      rw [ew]
      repeat ((conv => whnf); first | refine Br.t ?_ | refine Br.f ?_ | refine ⟨rfl, ?_⟩)
      conv => whnf
      rw [hz]
      repeat ((conv => whnf); first | refine Br.t ?_ | refine Br.f ?_ | refine ⟨rfl, ?_⟩)
      conv => whnf
      refine fin (target := []) rfl (Nat.zero_le _) (by simp) rfl rfl
  · have hall : ¬ l.all okP = true := fun h => hs (hcs.2 h)
    have ef : ofW p l = none := by unfold ofW; rw [if_neg (fun h => hs h.1)]
    have ew : woF l (chk p).2.2 = 1 := by unfold woF; rw [if_neg hall]
    rw [ef] at co
    repeat ((conv => whnf); first | refine Br.t ?_ | refine Br.f ?_ | refine ⟨rfl, ?_⟩)
    conv => whnf
    refine CallW.mono (co.pure _ rfl rfl) ?_
    rintro r st' ⟨rfl, rfl⟩
    repeat ((conv => whnf); first | refine Br.t ?_ | refine Br.f ?_ | refine ⟨rfl, ?_⟩)
    conv => whnf
    refine CallW.mono (c1.pure _ rfl rfl) ?_
    rintro r st' ⟨rfl, rfl⟩
    repeat ((conv => whnf); first | refine Br.t ?_ | refine Br.f ?_ | refine ⟨rfl, ?_⟩)
    conv => whnf
    refine W.le (s' := ⟨woS l false (chk p).2.2 [(10, .i (.int .i64 0))], [pgB p, wtB (wtT none l).1 (wtT none l).2.1 (wtT none l).2.2.1 (wtT none l).2.2.2]⟩) (Le.slotsE (by simp [leS, mkS, woS]) rfl) (W.mono (wo_loop p l (by omega) (wtT none l) false (chk p).2.2) ?_)
    rintro e s ⟨rfl, rfl⟩
    rw [ew]
    repeat ((conv => whnf); first | refine Br.t ?_ | refine Br.f ?_ | refine ⟨rfl, ?_⟩)
    conv => whnf
    refine fin (target := []) rfl (Nat.zero_le _) (by simp) rfl rfl
end Go.Proofs.Ytiikndppckjmhaa.Am
