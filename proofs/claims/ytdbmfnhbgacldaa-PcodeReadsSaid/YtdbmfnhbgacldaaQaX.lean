/- Texts WwA WwB WwC WwD WwE WwF WwG WwH WrA WrB WrC WrD WrE WrF WrG WrH WrI WrJ PvB PvC BsA of this session, one behind the other. -/
import Derived.Test.YtdbmfnhbgacldaaAmU
import Derived.Test.YtdbmfnhbgacldaaProg
import Derived.Test.YtdbmfnhbgacldaaAmV
import Derived.Test.YtdbmfnhbgacldaaAmX
import Derived.Test.YtdbmfnhbgacldaaAmY
import Derived.Test.YtdbmfnhbgacldaaAmZ
import Derived.Test.YtdbmfnhbgacldaaAmRf
/- Contracts: whole numbers as bytes. -/
namespace Go.Proofs.Ytdbmfnhbgacldaa.Am
set_option autoImplicit false
set_option linter.unusedVariables false
set_option linter.unusedSimpArgs false
set_option maxRecDepth 10000
set_option pp.deepTerms false
set_option pp.deepTerms.threshold 6
set_option pp.proofs false
def G0 : Gl := fun _ => none
def own0 : Tmp → Bool := fun _ => false
def ownAll : Tmp → Bool := fun _ => true
def mkS (n : Nat) (l : List (Nat × V)) : List V := l.foldl (fun s x => s.set x.1 x.2) (List.replicate n .undef)
theorem i64_id {n : Int} (h1 : -9223372036854775808 ≤ n) (h2 : n ≤ 9223372036854775807) : IntKind.i64.wrap n = n := by
  unfold IntKind.wrap; simp [IntKind.signed, IntKind.bits]; omega

theorem ap1 {sz by_ len esl : Nat} {x : I} (hsz : 1 = sz) (b : Nat) (hb : by_ = b) (h1 : len = esl) (h2 : (len + 1) * b ≤ 140737488355328) (h3 : len + 1 ≤ Go.maxLen) :
    (∀ cs ∈ [[x]], cs.length = sz) ∧ len = esl ∧ (len + (lift [[x]]).length) * by_ ≤ 140737488355328 ∧ len + (lift [[x]]).length ≤ Go.maxLen := by
  subst hsz hb
  exact ⟨fun cs hcs => by simp at hcs; subst hcs; rfl, h1, h2, h3⟩
theorem lift_app (a b : List (List I)) : lift (a ++ b) = lift a ++ lift b := by simp [lift]
theorem apL {sz by_ len esl : Nat} {es : List (List I)} (hes : ∀ cs ∈ es, cs.length = 1) (hsz : 1 = sz) (b : Nat) (hb : by_ = b) (h1 : len = esl) (h2 : (len + es.length) * b ≤ 140737488355328) (h3 : len + es.length ≤ Go.maxLen) :
    (∀ cs ∈ es, cs.length = sz) ∧ len = esl ∧ (len + (lift es).length) * by_ ≤ 140737488355328 ∧ len + (lift es).length ≤ Go.maxLen := by
  subst hsz hb
  have : (lift es).length = es.length := by simp [lift]
  rw [this]
  exact ⟨hes, h1, h2, h3⟩
theorem u8_small {n : Nat} (h : n < 256) : IntKind.u8.wrap n = n := by
  simp [IntKind.wrap, IntKind.signed, IntKind.bits]; omega
theorem or128 (n : Nat) : IntKind.u8.wrap ((BitVec.ofInt IntKind.u8.bits (IntKind.u8.wrap n) ||| BitVec.ofInt IntKind.u8.bits 128).toNat : Nat) = (n % 128 + 128 : Nat) := by
  have h0 : ∀ m : Fin 256, m.val ||| 128 = m.val % 128 + 128 := by decide
  have h1 : (BitVec.ofInt 8 (IntKind.u8.wrap n)).toNat = n % 256 := by
    simp [IntKind.wrap, IntKind.signed, IntKind.bits, BitVec.toNat_ofInt]
    omega
  have h2 : (BitVec.ofInt IntKind.u8.bits (IntKind.u8.wrap n) ||| BitVec.ofInt IntKind.u8.bits 128).toNat = n % 256 ||| 128 := by
    rw [BitVec.toNat_or]
    show (BitVec.ofInt 8 (IntKind.u8.wrap n)).toNat ||| 128 = _
    rw [h1]
  rw [h2, h0 ⟨n % 256, by omega⟩, u8_small (by simp; omega)]
  simp
theorem len_mx {n : Nat} (h : n ≤ 140737488355328) : n ≤ Go.maxLen := by simp [Go.maxLen]; omega

/-- a whole number, seven bits a byte -/
def putN (n : Nat) : List Nat := if h : n < 128 then [n] else (n % 128 + 128) :: putN (n / 128)
termination_by n
decreasing_by omega
theorem putN_len : ∀ (k n : Nat), n < 128 ^ (k + 1) → (putN n).length ≤ k + 1
  | 0, n, h => by rw [putN, dif_pos (by omega)]; simp
  | k + 1, n, h => by
    rw [putN]
    split
    · simp
    · have := putN_len k (n / 128) (by rw [Nat.pow_succ] at h; exact Nat.div_lt_of_lt_mul (by omega))
      simp; omega
def by8 (b : Nat) : List I := [.int .u8 b]
def mid (n : Nat) (ys : List (List I)) : List V := mkS 19 [(0, .i (.int .u32 n)), (2, .nils), (3, .ref 0 1 0 ys.length)]
theorem put46 (n : Nat) (hn : n < 4294967296) : CallW Try.prog G0 46 [.i (.int .u32 n)] [] (fun r st' => r = .i (.sl ((putN n).map by8)) ∧ st' = []) := by
  refine call_of_bodyF 0 (Nat.le_refl _) Try.func46 rfl (fun a w => Try.call46 a w) (wpx_ok (own := own0) _ _ _ ?_)
  conv => whnf
  refine loop_ok (α := Nat × List Nat) (fun x => ⟨mid x.1 (x.2.map by8), [.row 1 1 false (lift (x.2.map by8))]⟩)
    (fun x => x.1 < 4294967296 ∧ x.2.length ≤ 5 ∧ x.1 * 128 ^ x.2.length ≤ n ∧ x.2 ++ putN x.1 = putN n) (fun x => x.1) (n, []) ⟨hn, by simp, by simp, by simp⟩
    ((Le.nil (n := 0) 3 1 rfl).trans (Le.slots (by simp [leS, mid, mkS]))) (fun x hx => wpx_ok (own := own0) _ _ _ ?_)
  obtain ⟨h1, h2, h3, h4⟩ := hx
  conv => whnf
  refine Br.mk (fun h => ?_) (fun h => ?_)
  · conv => whnf
    refine ⟨by rfl, ?_⟩
    conv => whnf
    refine ⟨ap1 rfl 1 rfl (by simp [lift]) (by simp; omega) (len_mx (by simp; omega)), ?_⟩
    conv => whnf
    refine ⟨by omega, ?_⟩
    conv => whnf
    refine ⟨(x.1 / 128, x.2 ++ [x.1 % 128 + 128]), ?_, ?_, Le.down (fun id => if id = 0 then 1 else 0) ?_ ?_ ?_⟩
    · simp at h
      refine ⟨?_, ?_, ?_, ?_⟩
      · simp only; omega
      · simp only [List.length_append, List.length_cons, List.length_nil]
        have : x.2.length ≠ 5 := fun e => by
          rw [e] at h3
          have : x.1 * 34359738368 ≤ n := h3
          omega
        omega
      · simp only [List.length_append, List.length_cons, List.length_nil, Nat.pow_succ]
        refine Nat.le_trans ?_ h3
        rw [Nat.mul_comm (128 ^ x.2.length), ← Nat.mul_assoc]
        exact Nat.mul_le_mul_right _ (Nat.div_mul_le_self _ _)
      · rw [← h4, List.append_assoc, putN.eq_def x.1, dif_neg (by omega)]
        rfl
    · simp at h
      simp only; omega
    · simp
    · simp [leS, mid, mkS, V.up]
      refine ⟨?_, rfl⟩
      rw [Int.fdiv_eq_ediv_of_nonneg _ (by decide)]
      rfl
    · simp only [upSt, Ob.up, map_up_lift]
      refine congrArg (fun z => [Ob.row 2 1 false z]) ?_
      rw [List.map_append, lift_app]
      refine congrArg (fun z => lift (List.map by8 x.2) ++ lift z) ?_
      simp only [List.map_cons, List.map_nil, by8, or128]
  · conv => whnf
    refine ⟨by rfl, ?_⟩
    conv => whnf
    refine ⟨ap1 rfl 1 rfl (by simp [lift]) (by simp; omega) (len_mx (by simp; omega)), ?_⟩
    conv => whnf
    refine ⟨by omega, rfl, x.2.map by8 ++ [by8 x.1], ?_, ?_⟩
    · rw [lift_app]
      refine congrArg (fun z => lift (List.map by8 x.2) ++ lift z) ?_
      simp only [by8, u8_small (show x.1 < 256 by simp at h; omega)]
    · refine ⟨Nat.zero_le _, rfl, by simp, ?_, rfl⟩
      simp at h
      rw [← h4, putN, dif_pos (by omega)]
      simp [lift]
      exact List.take_of_length_le (by simp)

/-- the same by division, as the document says it -/
theorem put30 : ∀ (n : Nat), n ≤ 140737488355328 → CallW Try.prog G0 30 [.i (.int .i64 n)] [] (fun r st' => r = .i (.sl ((putN n).map by8)) ∧ st' = []) := by
  intro n
  induction n using Nat.strongRecOn with
  | ind n ih =>
  intro hn
  refine call_of_bodyF 0 (Nat.le_refl _) Try.func30 rfl (fun a w => Try.call30 a w) (wpx_ok (own := fun t => t == 12) _ _ _ ?_)
  conv => whnf
  refine Br.mk (fun h => ?_) (fun h => ?_)
  · conv => whnf
    refine ⟨by rfl, ?_⟩
    conv => whnf
    simp at h
    refine ⟨Nat.zero_le _, rfl, by simp, ?_, rfl⟩
    rw [putN, dif_pos (by omega)]
    simp only [u8_small (show n < 256 by omega), List.map_cons, List.map_nil, by8]
  · simp at h
    conv => whnf
    refine ⟨by decide, ?_⟩
    conv => whnf
    refine ⟨by rfl, ?_⟩
    conv => whnf
    refine ⟨by decide, ?_⟩
    conv => whnf
    have e1 : IntKind.i64.wrap ((n : Int).tdiv 128) = ((n / 128 : Nat) : Int) := by
      rw [Int.tdiv_eq_ediv_of_nonneg (by omega), i64_id (by omega) (by omega)]
      rfl
    rw [e1]
    refine ((ih (n / 128) (by omega) (by omega)).pure _ rfl rfl).mono ?_
    rintro r st' ⟨rfl, rfl⟩
    conv => whnf
    refine ⟨apL (by simp [by8]) rfl 1 rfl rfl ?_ (len_mx ?_), ?_⟩
    · have := putN_len 6 (n / 128) (by omega)
      simp only [List.length_map]; omega
    · have := putN_len 6 (n / 128) (by omega)
      simp only [List.length_map]; omega
    conv => whnf
    refine ⟨Nat.le_refl _, rfl, [by8 (n % 128 + 128)] ++ (putN (n / 128)).map by8, ?_, ?_⟩
    · rw [lift_app]
      refine congrArg (fun z => z ++ lift ((putN (n / 128)).map by8)) ?_
      have e2 : IntKind.u8.wrap (IntKind.i64.wrap (128 + (n : Int).tmod 128)) = ((n % 128 + 128 : Nat) : Int) := by
        rw [Int.tmod_eq_emod_of_nonneg (by omega), i64_id (by omega) (by omega)]
        rw [show (128 : Int) + (n : Int) % 128 = ((n % 128 + 128 : Nat) : Int) by omega]
        exact u8_small (by omega)
      show [[V.i (I.int .u8 (IntKind.u8.wrap (IntKind.i64.wrap (128 + (n : Int).tmod 128))))]] = _
      rw [e2]
      rfl
    · refine ⟨Nat.zero_le _, rfl, by simp, ?_, rfl⟩
      rw [putN.eq_def n, dif_neg (by omega)]
      simp only [lift, List.length_map, List.drop_zero, List.map_cons]
      rw [List.take_of_length_le (by simp; omega)]
      rfl
end Go.Proofs.Ytdbmfnhbgacldaa.Am

/- Contracts: the writer. -/
namespace Go.Proofs.Ytdbmfnhbgacldaa.Am
set_option autoImplicit false
set_option linter.unusedVariables false
set_option linter.unusedSimpArgs false
set_option maxRecDepth 10000
set_option pp.deepTerms false
set_option pp.deepTerms.threshold 6
set_option pp.proofs false
/-- a writer that has these bytes -/
def wr (k : Nat) (zs : List (List I)) : List Ob := [.row 0 1 false [[.ref 1 (k + 1) 0 zs.length]], .row (k + 1) 1 false (lift zs)]
def wr0 : List Ob := [.row 0 1 false [[.nils]]]
def one (zs : List (List I)) : Prop := ∀ cs ∈ zs, cs.length = 1
theorem wr_cl (k : Nat) (zs : List (List I)) : ∀ o ∈ wr k zs, o.cl 2 := by
  intro o ho
  simp only [wr, List.mem_cons, List.not_mem_nil, or_false] at ho
  rcases ho with rfl | rfl
  · intro cs hcs
    simp only [List.mem_cons, List.not_mem_nil, or_false] at hcs
    subst hcs
    rfl
  · exact cl_lift _ _ _ _ _
theorem fin {m : Nat} {st target : List Ob} {r r0 : V} (h : st.take m = target) (hl : m ≤ st.length) (hc : ∀ o ∈ target, o.cl m) (hr0 : r = r0) (hr : r.cl m = true) : m ≤ st.length ∧ r.cl m = true ∧ (∀ o ∈ st.take m, o.cl m) ∧ (r = r0 ∧ st.take m = target) := by
  subst h
  exact ⟨hl, hr, hc, hr0, rfl⟩
theorem apN {sz by_ : Nat} {es : List (List I)} (hes : one es) (hsz : 1 = sz) (b : Nat) (hb : by_ = b) (h2 : es.length * b ≤ 140737488355328) (h3 : es.length ≤ Go.maxLen) : (∀ cs ∈ es, cs.length = sz) ∧ (lift es).length * by_ ≤ 140737488355328 ∧ (lift es).length ≤ Go.maxLen := by
  subst hsz hb
  have : (lift es).length = es.length := by simp [lift]
  rw [this]
  exact ⟨hes, h2, h3⟩
theorem known_map_i (st : List Ob) : ∀ xs : List I, knownAll st (xs.map .i) = true
  | [] => rfl
  | x :: xs => by simp [knownAll, V.known, known_map_i st xs]
theorem apR {st : List Ob} {w : List (List V)} {es : List (List I)} {by_ len esl : Nat} (hw : w = lift es) (h1 : len = esl) (b : Nat) (hb : by_ = b) (h2 : (len + es.length) * b ≤ 140737488355328) (h3 : len + es.length ≤ Go.maxLen) :
    (∀ cs ∈ w, knownAll st cs = true) ∧ len = esl ∧ (len + w.length) * by_ ≤ 140737488355328 ∧ len + w.length ≤ Go.maxLen := by
  subst hw hb
  have : (lift es).length = es.length := by simp [lift]
  rw [this]
  refine ⟨fun cs hcs => ?_, h1, h2, h3⟩
  simp only [lift, List.mem_map] at hcs
  obtain ⟨x, _, rfl⟩ := hcs
  exact known_map_i _ _
theorem raw0 (xs : List (List I)) (h1 : one xs) (h2 : xs.length ≤ 140737488355328) : CallW Try.prog G0 24 [.ptr 0 0 0 0, .i (.sl xs)] wr0 (fun r st' => r = .tup [] ∧ st' = wr 0 xs) := by
  refine call_of_bodyF 2 (by decide) Try.func24 rfl (fun a w => Try.call24 a w) (wpx_ok (own := own0) _ _ _ ?_)
  conv => whnf
  refine ⟨by rfl, ?_⟩
  conv => whnf
  refine ⟨apN h1 rfl 1 rfl (by omega) (len_mx (by omega)), ?_⟩
  conv => whnf
  refine ⟨by rfl, ?_⟩
  conv => whnf
  refine fin (target := wr 0 xs) ?_ ?_ (wr_cl _ _) rfl rfl
  · simp [wr, putCells, lift]
  · simp
theorem raw1 (ys xs : List (List I)) (h1 : one xs) (h2 : ys.length + xs.length ≤ 140737488355328) : CallW Try.prog G0 24 [.ptr 0 0 0 0, .i (.sl xs)] (wr 0 ys) (fun r st' => r = .tup [] ∧ st' = wr 1 (ys ++ xs)) := by
  refine call_of_bodyF 2 (Nat.le_refl _) Try.func24 rfl (fun a w => Try.call24 a w) (wpx_ok (own := own0) _ _ _ ?_)
  conv => whnf
  refine ⟨by rfl, ?_⟩
  conv => whnf
  refine ⟨apL h1 rfl 1 rfl (by simp [lift]) (by omega) (len_mx (by omega)), ?_⟩
  conv => whnf
  refine ⟨by rfl, ?_⟩
  conv => whnf
  refine fin (target := wr 1 (ys ++ xs)) ?_ ?_ (wr_cl _ _) rfl rfl
  · simp [wr, putCells, lift]
  · simp
/-- whatever its version -/
theorem wr_up (k : Nat) (zs : List (List I)) (j : Nat) : upSt (fun id => if id = 1 then k else 0) 0 (wr j zs) = wr (j + k) zs := by
  simp [upSt, Ob.up, wr, V.up, V.up.upAll]
  omega
theorem raw (k : Nat) (ys xs : List (List I)) (h1 : one xs) (h2 : ys.length + xs.length ≤ 140737488355328) : CallW Try.prog G0 24 [.ptr 0 0 0 0, .i (.sl xs)] (wr k ys) (fun r st' => r = .tup [] ∧ st' = wr (1 + k) (ys ++ xs)) := by
  have := (raw1 ys xs h1 h2).vers (fun id => if id = 1 then k else 0)
  rw [wr_up, Nat.zero_add] at this
  refine this.mono ?_
  rintro r st' ⟨r0, st0, ⟨rfl, rfl⟩, rfl, rfl⟩
  exact ⟨rfl, wr_up _ _ _⟩
theorem num1 (ys : List (List I)) (n : Nat) (hn : n < 4294967296) (h2 : ys.length ≤ 1000000) : CallW Try.prog G0 27 [.ptr 0 0 0 0, .i (.int .i64 n)] (wr 0 ys) (fun r st' => r = .tup [] ∧ st' = wr 1 (ys ++ (putN n).map by8)) := by
  refine call_of_bodyF 2 (Nat.le_refl _) Try.func27 rfl (fun a w => Try.call27 a w) (wpx_ok (own := own0) _ _ _ ?_)
  conv => whnf
  refine draw_ok (own := own0) [8, 11] [(0, 11)] [(.i (.sl ((putN n).map by8)), wr 0 ys)] rfl (by kernel_rfl) (Nat.le_refl _) ?_
  conv => whnf
  refine ⟨by rfl, ?_⟩
  conv => whnf
  have c : CallW Try.prog G0 46 [.i (.int .u32 (IntKind.u32.wrap n))] (wr 0 ys) (fun r st' => r = .i (.sl ((putN n).map by8)) ∧ st' = wr 0 ys) := by
    rw [show IntKind.u32.wrap n = n by simp [IntKind.wrap, IntKind.signed, IntKind.bits]; omega]
    exact (put46 n hn).pure _ rfl rfl
  refine ⟨c, ?_⟩
  have hl := putN_len 4 n (by omega)
  conv => whnf
  refine ⟨apL (by simp [by8]) rfl 1 rfl (by simp [lift]) (by simp only [List.length_map]; omega) (len_mx (by simp only [List.length_map]; omega)), ?_⟩
  conv => whnf
  refine ⟨by rfl, ?_⟩
  conv => whnf
  refine ⟨?_, ?_, ?_⟩
  · repeat ((conv => whnf); first | exact trivial | refine ⟨rfl, ?_⟩)
  · conv => whnf
    refine ⟨?_, trivial⟩
    conv => whnf
    exact ⟨rfl, rfl⟩
  · conv => whnf
    refine fin (target := wr 1 (ys ++ (putN n).map by8)) ?_ ?_ (wr_cl _ _) rfl rfl
    · simp [wr, putCells, lift]
    · simp
theorem num (k : Nat) (ys : List (List I)) (n : Nat) (hn : n < 4294967296) (h2 : ys.length ≤ 1000000) : CallW Try.prog G0 27 [.ptr 0 0 0 0, .i (.int .i64 n)] (wr k ys) (fun r st' => r = .tup [] ∧ st' = wr (1 + k) (ys ++ (putN n).map by8)) := by
  have := (num1 ys n hn h2).vers (fun id => if id = 1 then k else 0)
  rw [wr_up, Nat.zero_add] at this
  refine this.mono ?_
  rintro r st' ⟨r0, st0, ⟨rfl, rfl⟩, rfl, rfl⟩
  exact ⟨rfl, wr_up _ _ _⟩
theorem block1 (ys xs : List (List I)) (h1 : one xs) (h2 : xs.length ≤ 1000000) (h3 : ys.length ≤ 1000000) : CallW Try.prog G0 26 [.ptr 0 0 0 0, .i (.sl xs)] (wr 0 ys) (fun r st' => r = .tup [] ∧ st' = wr 2 (ys ++ (putN xs.length).map by8 ++ xs)) := by
  refine call_of_bodyF 2 (Nat.le_refl _) Try.func26 rfl (fun a w => Try.call26 a w) (wpx_ok (own := own0) _ _ _ ?_)
  have hl := putN_len 4 xs.length (by omega)
  conv => whnf
  refine (num 0 ys xs.length (by omega) h3).mono ?_
  rintro r st' ⟨rfl, rfl⟩
  conv => whnf
  refine (raw 1 (ys ++ (putN xs.length).map by8) xs h1 (by simp only [List.length_append, List.length_map]; omega)).mono ?_
  rintro r st' ⟨rfl, rfl⟩
  conv => whnf
  refine fin (target := wr 2 (ys ++ (putN xs.length).map by8 ++ xs)) ?_ ?_ (wr_cl _ _) rfl rfl
  · rfl
  · exact Nat.le_refl _
theorem block (k : Nat) (ys xs : List (List I)) (h1 : one xs) (h2 : xs.length ≤ 1000000) (h3 : ys.length ≤ 1000000) : CallW Try.prog G0 26 [.ptr 0 0 0 0, .i (.sl xs)] (wr k ys) (fun r st' => r = .tup [] ∧ st' = wr (2 + k) (ys ++ (putN xs.length).map by8 ++ xs)) := by
  have := (block1 ys xs h1 h2 h3).vers (fun id => if id = 1 then k else 0)
  rw [wr_up, Nat.zero_add] at this
  refine this.mono ?_
  rintro r st' ⟨r0, st0, ⟨rfl, rfl⟩, rfl, rfl⟩
  exact ⟨rfl, wr_up _ _ _⟩
theorem bytes0 (zs : List (List I)) (h1 : one zs) (h2 : zs.length ≤ 140737488355328) : CallW Try.prog G0 28 [.ptr 0 0 0 0] (wr 0 zs) (fun r st' => r = .i (.sl zs) ∧ st' = wr 0 zs) := by
  refine call_of_bodyF 2 (Nat.le_refl _) Try.func28 rfl (fun a w => Try.call28 a w) (wpx_ok (own := ownAll) _ _ _ ?_)
  conv => whnf
  refine ⟨by rfl, ?_⟩
  conv => whnf
  refine ⟨by rfl, ?_⟩
  conv => whnf
  have hl : ((lift zs).drop 0).take zs.length = lift zs := by
    simp only [lift, List.drop_zero]
    exact List.take_of_length_le (by simp)
  refine ⟨apR hl rfl 1 rfl (by simp; omega) (len_mx (by simp; omega)), ?_⟩
  conv => whnf
  refine ⟨Nat.le_refl _, rfl, zs, ?_, ?_⟩
  · exact hl
  · refine fin (target := wr 0 zs) ?_ ?_ (wr_cl _ _) ?_ rfl
    · rfl
    · simp
    · rw [hl]; simp [lift]
theorem bytes (k : Nat) (zs : List (List I)) (h1 : one zs) (h2 : zs.length ≤ 140737488355328) : CallW Try.prog G0 28 [.ptr 0 0 0 0] (wr k zs) (fun r st' => r = .i (.sl zs) ∧ st' = wr k zs) := by
  have := (bytes0 zs h1 h2).vers (fun id => if id = 1 then k else 0)
  rw [wr_up, Nat.zero_add] at this
  refine this.mono ?_
  rintro r st' ⟨r0, st0, ⟨rfl, rfl⟩, rfl, rfl⟩
  exact ⟨rfl, by rw [wr_up, Nat.zero_add]⟩
end Go.Proofs.Ytdbmfnhbgacldaa.Am

/- Contracts: a script's bytes. -/
namespace Go.Proofs.Ytdbmfnhbgacldaa.Am
set_option autoImplicit false
set_option linter.unusedVariables false
set_option linter.unusedSimpArgs false
set_option maxRecDepth 10000
set_option pp.deepTerms false
set_option pp.deepTerms.threshold 6
set_option pp.proofs false
def encP (x : Int × Bool) : List I := [.int .i64 x.1, .bool x.2]
def okP (x : Int × Bool) : Bool := decide (0 ≤ x.1) && decide (x.1 < 8)
def pk (x : Int × Bool) : Nat := x.1.toNat + if x.2 then 8 else 0
def pks (xs : List (Int × Bool)) : List (List I) := (xs.map pk).map by8
def codeS (xs : List (Int × Bool)) : Int := if 4096 < xs.length then 4 else if xs.all okP then 0 else 1
def i64b (n : Int) : Prop := -9223372036854775808 ≤ n ∧ n ≤ 9223372036854775807
def stP (xs : List (Int × Bool)) (i : Nat) : List V := mkS 38 [(2, .nils), (3, .i (.int .i64 0)), (4, .ref 0 1 0 i), (11, .i (.sl (xs.map encP))), (12, .i (.int .i64 xs.length)), (13, .i (.int .i64 i))]
theorem getD_enc {α : Type} {f : α → List I} {xs : List α} {i : Nat} {d : List I} (h : i < xs.length) : (xs.map f).getD i d = f xs[i] := by
  simp [List.getD_eq_getElem?_getD, h]
theorem codeS_bad {xs : List (Int × Bool)} {x : Int × Bool} (hl : xs.length ≤ 4096) (hx : x ∈ xs) (hb : okP x = false) : codeS xs = 1 := by
  simp only [codeS]
  rw [if_neg (by omega), if_neg]
  intro h
  have := List.all_eq_true.1 h x hx
  rw [hb] at this; cases this
theorem pk_f {a : Int} (h1 : 0 ≤ a) (h2 : a < 8) : IntKind.u8.wrap a = (a.toNat : Int) := by
  simp [IntKind.wrap, IntKind.signed, IntKind.bits]; omega
theorem pk_t {a : Int} (h1 : 0 ≤ a) (h2 : a < 8) : IntKind.u8.wrap (IntKind.u8.wrap a + 8) = ((a.toNat + 8 : Nat) : Int) := by
  simp [IntKind.wrap, IntKind.signed, IntKind.bits]; omega
theorem put25 (xs : List (Int × Bool)) (hx : xs.length ≤ 1000000) : CallW Try.prog G0 25 [.i (.sl (xs.map encP))] []
    (fun r st' => r = .tup [.i (.sl (if codeS xs = 0 then pks xs else [])), .i (.int .i64 (codeS xs))] ∧ st' = []) := by
  refine call_of_bodyF 0 (Nat.le_refl _) Try.func25 rfl (fun a w => Try.call25 a w) (wpx_ok (own := own0) _ _ _ ?_)
  conv => whnf
  refine Br.mk (fun h => ?_) (fun h => ?_)
  · conv => whnf
    simp at h
    have hc : codeS xs = 4 := by simp only [codeS]; rw [if_pos (by omega)]
    refine fin (target := []) rfl (Nat.zero_le _) (by simp) ?_ rfl
    rw [hc]; rfl
  · simp at h
    conv => whnf
    refine loop_ok (α := Nat) (fun i => ⟨stP xs i, [.row 1 1 false (lift (pks (xs.take i)))]⟩) (fun i => i ≤ xs.length ∧ (xs.take i).all okP = true) (fun i => xs.length - i) 0 ⟨Nat.zero_le _, rfl⟩
      ((Le.nil (n := 0) 4 1 rfl).trans (Le.slots (by simp [leS, stP, mkS]))) (fun i hi => wpx_ok (own := own0) _ _ _ ?_)
    obtain ⟨h1, h2⟩ := hi
    conv => whnf
    refine Br.mk (fun h3 => ?_) (fun h3 => ?_)
    · simp at h3
      conv => whnf
      obtain ⟨x, hxi⟩ : ∃ x, x = xs[i] := ⟨_, rfl⟩
      have e : (xs.map encP).getD (i : Int).toNat [] = encP x := by rw [hxi]; exact getD_enc h3
      have htk : xs.take (i + 1) = xs.take i ++ [x] := by rw [hxi]; simp
      rw [e]
      refine ⟨⟨by omega, by simp; omega, rfl⟩, ?_⟩
      repeat ((conv => whnf); first | refine Br.t ?_ | refine Br.f ?_ | refine ⟨rfl, ?_⟩)
      conv => whnf
      refine Br.mk (fun h4 => ?_) (fun h4 => ?_)
      · simp at h4
        repeat ((conv => whnf); first | refine Br.t ?_ | refine Br.f ?_ | refine ⟨rfl, ?_⟩)
        conv => whnf
        have hc : codeS xs = 1 := codeS_bad (by omega) (hxi ▸ List.getElem_mem h3) (by simp only [okP]; simp; omega)
        refine fin (target := []) rfl (Nat.zero_le _) (by simp) ?_ rfl
        rw [hc]; rfl
      · simp at h4
        repeat ((conv => whnf); first | refine Br.t ?_ | refine Br.f ?_ | refine ⟨rfl, ?_⟩)
        conv => whnf
        refine Br.mk (fun h5 => ?_) (fun h5 => ?_)
        · simp at h5
          repeat ((conv => whnf); first | refine Br.t ?_ | refine Br.f ?_ | refine ⟨rfl, ?_⟩)
          conv => whnf
          have hc : codeS xs = 1 := codeS_bad (by omega) (hxi ▸ List.getElem_mem h3) (by simp only [okP]; simp; omega)
          refine fin (target := []) rfl (Nat.zero_le _) (by simp) ?_ rfl
          rw [hc]; rfl
        · simp at h5
          repeat ((conv => whnf); first | refine Br.t ?_ | refine Br.f ?_ | refine ⟨rfl, ?_⟩)
          conv => whnf
          refine Br.mk (fun h6 => ?_) (fun h6 => ?_)
          · repeat ((conv => whnf); first | refine Br.t ?_ | refine Br.f ?_ | refine ⟨rfl, ?_⟩)
            conv => whnf
            refine ⟨ap1 rfl 1 rfl (by simp [lift, pks]; omega) (by omega) (len_mx (by omega)), ?_⟩
            repeat ((conv => whnf); first | refine Br.t ?_ | refine Br.f ?_ | refine ⟨rfl, ?_⟩)
            conv => whnf
            refine ⟨i + 1, ⟨by omega, ?_⟩, by omega, Le.back (fun id => if id = 0 then 1 else 0) (by simp) (Nat.zero_le _) (by rfl) (fun o ho => ?_) ?_ ?_⟩
            · rw [htk, List.all_append, h2]
              simp [okP, h4, h5]
            · simp only [List.mem_singleton] at ho
              subst ho
              exact cl_lift _ _ _ _ _
            · simp [leS, stP, mkS, V.up, lift]
              exact i64_id (by omega) (by omega)
            · have e9 : pks (xs.take i ++ [x]) = pks (xs.take i) ++ [[.int .u8 (IntKind.u8.wrap (IntKind.u8.wrap x.1 + 8))]] := by
                simp only [pks, List.map_append, List.map_cons, List.map_nil, by8, pk, h6, if_true, pk_t h4 h5]
              simp only [upSt, Ob.up, map_up_lift]
              rw [htk, e9, lift_app]
              rfl
          · repeat ((conv => whnf); first | refine Br.t ?_ | refine Br.f ?_ | refine ⟨rfl, ?_⟩)
            conv => whnf
            refine ⟨ap1 rfl 1 rfl (by simp [lift, pks]; omega) (by omega) (len_mx (by omega)), ?_⟩
            repeat ((conv => whnf); first | refine Br.t ?_ | refine Br.f ?_ | refine ⟨rfl, ?_⟩)
            conv => whnf
            refine ⟨i + 1, ⟨by omega, ?_⟩, by omega, Le.back (fun id => if id = 0 then 1 else 0) (by simp) (Nat.zero_le _) (by rfl) (fun o ho => ?_) ?_ ?_⟩
            · rw [htk, List.all_append, h2]
              simp [okP, h4, h5]
            · simp only [List.mem_singleton] at ho
              subst ho
              exact cl_lift _ _ _ _ _
            · simp [leS, stP, mkS, V.up, lift]
              exact i64_id (by omega) (by omega)
            · have e9 : pks (xs.take i ++ [x]) = pks (xs.take i) ++ [[.int .u8 (IntKind.u8.wrap x.1)]] := by
                simp only [pks, List.map_append, List.map_cons, List.map_nil, by8, pk, h6, pk_f h4 h5]
                rfl
              simp only [upSt, Ob.up, map_up_lift]
              rw [htk, e9, lift_app]
              rfl
    · simp at h3
      have e : xs.take i = xs := List.take_of_length_le h3
      have hc : codeS xs = 0 := by rw [e] at h2; simp only [codeS]; rw [if_neg (by omega), if_pos h2]
      conv => whnf
      refine ⟨Nat.le_refl _, rfl, pks (xs.take i), rfl, ?_⟩
      conv => whnf
      refine fin (target := []) rfl (Nat.zero_le _) (by simp) ?_ rfl
      rw [hc, e]
      simp [pks]
      rw [List.take_of_length_le (by simp; omega)]
end Go.Proofs.Ytdbmfnhbgacldaa.Am

/- Contracts: a witness's bytes. -/
namespace Go.Proofs.Ytdbmfnhbgacldaa.Am
set_option autoImplicit false
set_option linter.unusedVariables false
set_option linter.unusedSimpArgs false
set_option maxRecDepth 10000
set_option pp.deepTerms false
set_option pp.deepTerms.threshold 6
set_option pp.proofs false
theorem within29 (n l : Int) : CallW Try.prog G0 29 [.i (.int .i64 n), .i (.int .i64 l)] [] (fun r st' => r = .i (.bool (decide (0 ≤ n) && decide (n < l))) ∧ st' = []) := by
  refine call_of_bodyF 0 (Nat.le_refl _) Try.func29 rfl (fun a w => Try.call29 a w) (wpx_ok (own := own0) _ _ _ ?_)
  conv => whnf
  refine Br.mk (fun h => ?_) (fun h => ?_)
  · simp at h
    repeat ((conv => whnf); first | refine Br.t ?_ | refine Br.f ?_ | refine ⟨rfl, ?_⟩)
    conv => whnf
    refine fin (target := []) rfl (Nat.zero_le _) (by simp) ?_ rfl
    simp [h]
  · simp at h
    repeat ((conv => whnf); first | refine Br.t ?_ | refine Br.f ?_ | refine ⟨rfl, ?_⟩)
    conv => whnf
    refine fin (target := []) rfl (Nat.zero_le _) (by simp) ?_ rfl
    rw [decide_eq_false (by omega : ¬ 0 ≤ n)]; rfl
def okW (a b c : Int) : Bool := (decide (0 ≤ a) && decide (a < 8)) && (decide (0 ≤ b) && decide (b < 8)) && (decide (0 ≤ c) && decide (c < 16)) && !decide (a = b)
def codeW (xs : List (Int × Bool)) (a b c : Int) : Int := if codeS xs = 0 then (if okW a b c then 0 else 1) else codeS xs
def encW (xs : List (Int × Bool)) (a b c : Int) : List I := [.sl (xs.map encP), .int .i64 a, .int .i64 b, .int .i64 c]
theorem check13 (xs : List (Int × Bool)) (a b c : Int) (hx : xs.length ≤ 1000000) : CallW Try.prog G0 13 [.agg ((encW xs a b c).map .i)] [] (fun r st' => r = .i (.int .i64 (codeW xs a b c)) ∧ st' = []) := by
  refine call_of_bodyF 0 (Nat.le_refl _) Try.func13 rfl (fun a w => Try.call13 a w) (wpx_ok (own := own0) _ _ _ ?_)
  repeat ((conv => whnf); first | refine Br.t ?_ | refine Br.f ?_ | refine ⟨rfl, ?_⟩)
  conv => whnf
  refine ((put25 xs hx).pure _ rfl rfl).mono ?_
  rintro r st' ⟨rfl, rfl⟩
  repeat ((conv => whnf); first | refine Br.t ?_ | refine Br.f ?_ | refine ⟨rfl, ?_⟩)
  conv => whnf
  refine Br.mk (fun h => ?_) (fun h => ?_)
  · simp at h
    repeat ((conv => whnf); first | refine Br.t ?_ | refine Br.f ?_ | refine ⟨rfl, ?_⟩)
    conv => whnf
    refine fin (target := []) rfl (Nat.zero_le _) (by simp) ?_ rfl
    simp [codeW, h]
  · simp at h
    repeat ((conv => whnf); first | refine Br.t ?_ | refine Br.f ?_ | refine ⟨rfl, ?_⟩)
    conv => whnf
    refine ((within29 a 8).pure _ rfl rfl).mono ?_
    rintro r st' ⟨rfl, rfl⟩
    repeat ((conv => whnf); first | refine Br.t ?_ | refine Br.f ?_ | refine ⟨rfl, ?_⟩)
    conv => whnf
    refine Br.mk (fun h1 => ?_) (fun h1 => ?_)
    · repeat ((conv => whnf); first | refine Br.t ?_ | refine Br.f ?_ | refine ⟨rfl, ?_⟩)
      conv => whnf
      refine fin (target := []) rfl (Nat.zero_le _) (by simp) ?_ rfl
      have ho : okW a b c = false := by simp only [okW]; simp at *; omega
      simp [codeW, h, ho]
    · repeat ((conv => whnf); first | refine Br.t ?_ | refine Br.f ?_ | refine ⟨rfl, ?_⟩)
      conv => whnf
      refine ((within29 b 8).pure _ rfl rfl).mono ?_
      rintro r st' ⟨rfl, rfl⟩
      repeat ((conv => whnf); first | refine Br.t ?_ | refine Br.f ?_ | refine ⟨rfl, ?_⟩)
      conv => whnf
      refine Br.mk (fun h2 => ?_) (fun h2 => ?_)
      · repeat ((conv => whnf); first | refine Br.t ?_ | refine Br.f ?_ | refine ⟨rfl, ?_⟩)
        conv => whnf
        refine fin (target := []) rfl (Nat.zero_le _) (by simp) ?_ rfl
        have ho : okW a b c = false := by simp only [okW]; simp at *; omega
        simp [codeW, h, ho]
      · repeat ((conv => whnf); first | refine Br.t ?_ | refine Br.f ?_ | refine ⟨rfl, ?_⟩)
        conv => whnf
        refine ((within29 c 16).pure _ rfl rfl).mono ?_
        rintro r st' ⟨rfl, rfl⟩
        repeat ((conv => whnf); first | refine Br.t ?_ | refine Br.f ?_ | refine ⟨rfl, ?_⟩)
        conv => whnf
        refine Br.mk (fun h3 => ?_) (fun h3 => ?_)
        · repeat ((conv => whnf); first | refine Br.t ?_ | refine Br.f ?_ | refine ⟨rfl, ?_⟩)
          conv => whnf
          refine fin (target := []) rfl (Nat.zero_le _) (by simp) ?_ rfl
          have ho : okW a b c = false := by simp only [okW]; simp at *; omega
          simp [codeW, h, ho]
        · repeat ((conv => whnf); first | refine Br.t ?_ | refine Br.f ?_ | refine ⟨rfl, ?_⟩)
          conv => whnf
          refine Br.mk (fun h4 => ?_) (fun h4 => ?_)
          · repeat ((conv => whnf); first | refine Br.t ?_ | refine Br.f ?_ | refine ⟨rfl, ?_⟩)
            conv => whnf
            refine fin (target := []) rfl (Nat.zero_le _) (by simp) ?_ rfl
            have ho : okW a b c = false := by simp only [okW]; simp at *; omega
            simp [codeW, h, ho]
          · repeat ((conv => whnf); first | refine Br.t ?_ | refine Br.f ?_ | refine ⟨rfl, ?_⟩)
            conv => whnf
            refine fin (target := []) rfl (Nat.zero_le _) (by simp) ?_ rfl
            have ho : okW a b c = true := by simp only [okW]; simp at h1 h2 h3 h4 ⊢; omega
            simp [codeW, h, ho]
end Go.Proofs.Ytdbmfnhbgacldaa.Am

/- Contracts: a witness written. -/
namespace Go.Proofs.Ytdbmfnhbgacldaa.Am
set_option autoImplicit false
set_option linter.unusedVariables false
set_option linter.unusedSimpArgs false
set_option maxRecDepth 10000
set_option pp.deepTerms false
set_option pp.deepTerms.threshold 6
set_option pp.proofs false
/-- the writer's rows in a store of four: numbers 1 and 3 -/
def wrU (o d : Ob) (k : Nat) (zs : List (List I)) : List Ob := [o, .row 0 1 false [[.ref 3 (k + 1) 0 zs.length]], d, .row (k + 1) 1 false (lift zs)]
theorem args_ren {f : Nat → Nat} {n : Nat} {args : List V} (ha : V.cl.clAll n args = true) {F : List Nat} {big : List Ob} : ∀ (j : Nat) (s v : V), args[j]? = some s → (V.ren.renAll f args)[j]? = some v → (s.cl n = true ∧ v = s.ren f) ∨
    ∃ id ver off len sz ro is, v = .ref id ver off len ∧ id ∈ F ∧ big[id]? = some (.row ver sz ro (lift is)) ∧ s = .i (.sl ((is.drop off).take len)) := by
  intro j s v hs hv
  rw [renAll_get, hs] at hv
  simp only [Option.map_some, Option.some.injEq] at hv
  subst hv
  exact .inl ⟨clAll_get ha j s hs, rfl⟩
theorem up1 {f : FuncId} {args : List V} {v : V} {k k' : Nat} {zs zs' : List (List I)} (o d : Ob) (h : CallW Try.prog G0 f args (wr k zs) (fun r st' => r = v ∧ st' = wr k' zs')) (ha : V.cl.clAll 2 args = true) :
    CallW Try.prog G0 f (V.ren.renAll (fm [1, 3] 4) args) (wrU o d k zs) (fun r st' => r = v.ren (fm [1, 3] 4) ∧ st' = wrU o d k' zs') := by
  refine (CallW.rise (bargs := V.ren.renAll (fm [1, 3] 4) args) (big := wrU o d k zs) [1, 3] [] h rfl (by decide) (by simp [wrU]) ?_ (wr_cl _ _) (by simp) (renAll_len _ _) (args_ren ha) (.inl rfl)).mono ?_
  · simp only [wr, wrU, List.map_cons, List.map_nil, ren_lift]
    rfl
  · rintro r st' ⟨r0, s0, ⟨rfl, rfl⟩, rfl, rfl⟩
    refine ⟨rfl, ?_⟩
    simp only [wr, wrU, List.map_cons, List.map_nil, ren_lift]
    rfl
theorem up0 {f : FuncId} {args : List V} {v : V} {k' : Nat} {zs' : List (List I)} (o d : Ob) (h : CallW Try.prog G0 f args wr0 (fun r st' => r = v ∧ st' = wr k' zs')) (ha : V.cl.clAll 1 args = true) :
    CallW Try.prog G0 f (V.ren.renAll (fm [1] 3) args) [o, .row 0 1 false [[.nils]], d] (fun r st' => r = v.ren (fm [1] 3) ∧ st' = wrU o d k' zs') := by
  refine (CallW.rise (bargs := V.ren.renAll (fm [1] 3) args) (big := [o, .row 0 1 false [[.nils]], d]) [1] [] h rfl (by decide) (by simp) rfl (by simp [wr0, Ob.cl, V.cl.clAll, V.cl]) (by simp) (renAll_len _ _) (args_ren ha) (.inl rfl)).mono ?_
  rintro r st' ⟨r0, s0, ⟨rfl, rfl⟩, rfl, rfl⟩
  refine ⟨rfl, ?_⟩
  simp only [wr, wrU, List.map_cons, List.map_nil, ren_lift]
  rfl
def magic : List (List I) := [by8 97, by8 108, by8 119, by8 49]
def puts (n : Nat) : List (List I) := (putN n).map by8
def headW (xs : List (Int × Bool)) : List (List I) := magic ++ puts xs.length ++ pks xs
def bytesW (xs : List (Int × Bool)) (a b c : Int) : List (List I) := headW xs ++ puts a.toNat ++ puts b.toNat ++ puts c.toNat
theorem one_pks (xs : List (Int × Bool)) : one (pks xs) := by
  intro cs hcs
  simp only [pks, List.mem_map] at hcs
  obtain ⟨n, _, rfl⟩ := hcs
  rfl
theorem one_puts (n : Nat) : one (puts n) := by
  intro cs hcs
  simp only [puts, List.mem_map] at hcs
  obtain ⟨n, _, rfl⟩ := hcs
  rfl
theorem one_app {a b : List (List I)} (h1 : one a) (h2 : one b) : one (a ++ b) := fun cs h => (List.mem_append.1 h).elim (h1 cs) (h2 cs)
theorem one_magic : one magic := by intro cs h; simp [magic] at h; rcases h with rfl | rfl | rfl | rfl <;> rfl
theorem len_puts {n : Nat} (h : n < 4294967296) : (puts n).length ≤ 5 := by simpa [puts] using putN_len 4 n (by omega)
theorem len_head (xs : List (Int × Bool)) (hx : xs.length ≤ 1000000) : (headW xs).length ≤ xs.length + 9 := by
  have := len_puts (n := xs.length) (by omega)
  simp [headW, magic, pks] at this ⊢; omega
theorem okW_nat {a b c : Int} (h : okW a b c = true) : 0 ≤ a ∧ a < 8 ∧ 0 ≤ b ∧ b < 8 ∧ 0 ≤ c ∧ c < 16 ∧ a ≠ b := by
  simp only [okW] at h; simp at h; omega
def zsW (xs : List (Int × Bool)) (a b c : Nat) : Nat → List (List I)
  | 0 => headW xs
  | 1 => headW xs ++ puts a
  | 2 => headW xs ++ puts a ++ puts b
  | _ => headW xs ++ puts a ++ puts b ++ puts c
theorem write11 (xs : List (Int × Bool)) (a b c : Int) (hx : xs.length ≤ 5000) : CallW Try.prog G0 11 [.agg ((encW xs a b c).map .i)] [] (fun r st' => r = .tup [.i (.sl (if codeW xs a b c = 0 then bytesW xs a b c else [])), .i (.int .i64 (codeW xs a b c))] ∧ st' = []) := by
  refine call_of_bodyF 0 (Nat.le_refl _) Try.func11 rfl (fun a w => Try.call11 a w) (wpx_ok (own := fun t => t == 15) _ _ _ ?_)
  repeat ((conv => whnf); first | refine Br.t ?_ | refine Br.f ?_ | refine ⟨rfl, ?_⟩)
  conv => whnf
  refine ((check13 xs a b c (by omega)).pure _ rfl rfl).mono ?_
  rintro r st' ⟨rfl, rfl⟩
  repeat ((conv => whnf); first | refine Br.t ?_ | refine Br.f ?_ | refine ⟨rfl, ?_⟩)
  conv => whnf
  refine Br.mk (fun h => ?_) (fun h => ?_)
  · simp at h
    repeat ((conv => whnf); first | refine Br.t ?_ | refine Br.f ?_ | refine ⟨rfl, ?_⟩)
    conv => whnf
    refine fin (target := []) rfl (Nat.zero_le _) (by simp) ?_ rfl
    simp [h]
  · simp at h
    have hs : codeS xs = 0 := by simp only [codeW] at h; split at h <;> simp_all
    have ho : okW a b c = true := by simp only [codeW, hs, if_true] at h; split at h <;> simp_all
    obtain ⟨a1, a2, b1, b2, c1, c2, hab⟩ := okW_nat ho
    rw [h]
    obtain ⟨a, rfl⟩ := Int.eq_ofNat_of_zero_le a1
    obtain ⟨b, rfl⟩ := Int.eq_ofNat_of_zero_le b1
    obtain ⟨c, rfl⟩ := Int.eq_ofNat_of_zero_le c1
    repeat ((conv => whnf); first | refine Br.t ?_ | refine Br.f ?_ | refine ⟨rfl, ?_⟩)
    conv => whnf
    refine ⟨⟨rfl, by decide⟩, ?_⟩
    repeat ((conv => whnf); first | refine Br.t ?_ | refine Br.f ?_ | refine ⟨rfl, ?_⟩)
    conv => whnf
    refine CallW.mono (up0 _ _ (raw0 magic one_magic (by decide)) rfl) ?_
    rintro r st' ⟨rfl, rfl⟩
    repeat ((conv => whnf); first | refine Br.t ?_ | refine Br.f ?_ | refine ⟨rfl, ?_⟩)
    conv => whnf
    refine ((put25 xs (by omega)).pure _ rfl rfl).mono ?_
    rintro r st' ⟨rfl, rfl⟩
    rw [hs, if_pos rfl]
    repeat ((conv => whnf); first | refine Br.t ?_ | refine Br.f ?_ | refine ⟨rfl, ?_⟩)
    conv => whnf
    have hb : CallW Try.prog G0 26 [.ptr 0 0 0 0, .i (.sl (pks xs))] (wr 0 magic) (fun r st' => r = .tup [] ∧ st' = wr 2 (headW xs)) := by
      have := block 0 magic (pks xs) (one_pks xs) (by simp [pks]; omega) (by decide)
      rw [show (pks xs).length = xs.length by simp [pks]] at this
      exact this
    refine CallW.mono (up1 _ _ hb rfl) ?_
    rintro r st' ⟨rfl, rfl⟩
    repeat ((conv => whnf); first | refine Br.t ?_ | refine Br.f ?_ | refine ⟨rfl, ?_⟩)
    conv => whnf
    have hh := len_head xs (by omega)
    have pa := len_puts (n := a) (by omega)
    have pb := len_puts (n := b) (by omega)
    refine loop_ok (α := Nat) (fun j => ⟨mkS 42 [(5, .ptr 1 0 0 0), (32, .i (.sl [[.int .i64 a], [.int .i64 b], [.int .i64 c]])), (33, .i (.int .i64 3)), (34, .i (.int .i64 j))], wrU (.row 0 4 false [(encW xs a b c).map .i]) .dead 2 (zsW xs a b c j)⟩)
      (fun j => j ≤ 3) (fun j => 3 - j) 0 (by decide) (Le.slots (by simp [leS, mkS])) (fun j hj => wpx_ok (own := own0) _ _ _ ?_)
    have hj' : j = 0 ∨ j = 1 ∨ j = 2 ∨ j = 3 := by omega
    rcases hj' with rfl | rfl | rfl | rfl
    · repeat ((conv => whnf); first | refine Br.t ?_ | refine Br.f ?_ | refine ⟨rfl, ?_⟩)
      conv => whnf
      refine ⟨⟨by decide, by simp, rfl⟩, ?_⟩
      repeat ((conv => whnf); first | refine Br.t ?_ | refine Br.f ?_ | refine ⟨rfl, ?_⟩)
      conv => whnf
      refine CallW.mono (up1 _ _ (num 2 (headW xs) a (by omega) (by first | omega | (simp only [List.length_append]; omega))) rfl) ?_
      rintro r st' ⟨rfl, rfl⟩
      repeat ((conv => whnf); first | refine Br.t ?_ | refine Br.f ?_ | refine ⟨rfl, ?_⟩)
      conv => whnf
      refine ⟨1, by decide, by decide, Le.down (fun id => if id = 3 then 1 else 0) (by intro id h; simp at h) ?_ ?_⟩
      · simp [leS, mkS, V.up]
        rfl
      · simp only [upSt, Ob.up, map_up_lift, wrU]
        rfl
    · repeat ((conv => whnf); first | refine Br.t ?_ | refine Br.f ?_ | refine ⟨rfl, ?_⟩)
      conv => whnf
      refine ⟨⟨by decide, by simp, rfl⟩, ?_⟩
      repeat ((conv => whnf); first | refine Br.t ?_ | refine Br.f ?_ | refine ⟨rfl, ?_⟩)
      conv => whnf
      refine CallW.mono (up1 _ _ (num 2 (headW xs ++ puts a) b (by omega) (by first | omega | (simp only [List.length_append]; omega))) rfl) ?_
      rintro r st' ⟨rfl, rfl⟩
      repeat ((conv => whnf); first | refine Br.t ?_ | refine Br.f ?_ | refine ⟨rfl, ?_⟩)
      conv => whnf
      refine ⟨2, by decide, by decide, Le.down (fun id => if id = 3 then 1 else 0) (by intro id h; simp at h) ?_ ?_⟩
      · simp [leS, mkS, V.up]
        rfl
      · simp only [upSt, Ob.up, map_up_lift, wrU]
        rfl
    · repeat ((conv => whnf); first | refine Br.t ?_ | refine Br.f ?_ | refine ⟨rfl, ?_⟩)
      conv => whnf
      refine ⟨⟨by decide, by simp, rfl⟩, ?_⟩
      repeat ((conv => whnf); first | refine Br.t ?_ | refine Br.f ?_ | refine ⟨rfl, ?_⟩)
      conv => whnf
      refine CallW.mono (up1 _ _ (num 2 (headW xs ++ puts a ++ puts b) c (by omega) (by first | omega | (simp only [List.length_append]; omega))) rfl) ?_
      rintro r st' ⟨rfl, rfl⟩
      repeat ((conv => whnf); first | refine Br.t ?_ | refine Br.f ?_ | refine ⟨rfl, ?_⟩)
      conv => whnf
      refine ⟨3, by decide, by decide, Le.down (fun id => if id = 3 then 1 else 0) (by intro id h; simp at h) ?_ ?_⟩
      · simp [leS, mkS, V.up]
        rfl
      · simp only [upSt, Ob.up, map_up_lift, wrU]
        rfl
    · repeat ((conv => whnf); first | refine Br.t ?_ | refine Br.f ?_ | refine ⟨rfl, ?_⟩)
      conv => whnf
      have pc := len_puts (n := c) (by omega)
      refine CallW.mono (up1 _ _ (bytes 2 (headW xs ++ puts a ++ puts b ++ puts c) (one_app (one_app (one_app (one_app (one_app one_magic (one_puts _)) (one_pks _)) (one_puts _)) (one_puts _)) (one_puts _)) (by simp only [List.length_append]; omega)) rfl) ?_
      rintro r st' ⟨rfl, rfl⟩
      repeat ((conv => whnf); first | refine Br.t ?_ | refine Br.f ?_ | refine ⟨rfl, ?_⟩)
      conv => whnf
      refine fin (target := []) rfl (Nat.zero_le _) (by simp) ?_ rfl
      rfl
end Go.Proofs.Ytdbmfnhbgacldaa.Am

/- Contracts: the document's witness, and the law. -/
namespace Go.Proofs.Ytdbmfnhbgacldaa.Am
set_option autoImplicit false
set_option linter.unusedVariables false
set_option linter.unusedSimpArgs false
set_option maxRecDepth 10000
set_option pp.deepTerms false
set_option pp.deepTerms.threshold 6
set_option pp.proofs false
def row0 (xs : List (Int × Bool)) (a b c : Int) : Ob := .row 0 4 false [(encW xs a b c).map .i]
theorem check12 (xs : List (Int × Bool)) (a b c : Int) (hx : xs.length ≤ 1000000) : CallW Try.prog G0 12 [.agg ((encW xs a b c).map .i)] [] (fun r st' => r = .i (.int .i64 (codeW xs a b c)) ∧ st' = []) := by
  refine call_of_bodyF 0 (Nat.le_refl _) Try.func12 rfl (fun a w => Try.call12 a w) (wpx_ok (own := own0) _ _ _ ?_)
  repeat ((conv => whnf); first | refine Br.t ?_ | refine Br.f ?_ | refine ⟨rfl, ?_⟩)
  conv => whnf
  refine Br.mk (fun h => ?_) (fun h => ?_)
  · simp at h
    repeat ((conv => whnf); first | refine Br.t ?_ | refine Br.f ?_ | refine ⟨rfl, ?_⟩)
    conv => whnf
    have hc : codeS xs = 4 := by simp only [codeS]; rw [if_pos (by omega)]
    refine fin (target := []) rfl (Nat.zero_le _) (by simp) ?_ rfl
    simp [codeW, hc]
  · simp at h
    repeat ((conv => whnf); first | refine Br.t ?_ | refine Br.f ?_ | refine ⟨rfl, ?_⟩)
    conv => whnf
    refine loop_ok (α := Nat) (fun i => ⟨mkS 66 [(1, .ptr 0 0 0 0), (3, .i (.int .i64 i))], [row0 xs a b c]⟩) (fun i => i ≤ xs.length ∧ (xs.take i).all okP = true) (fun i => xs.length - i) 0 ⟨Nat.zero_le _, rfl⟩
      (Le.slots (by simp [leS, mkS])) (fun i hi => wpx_ok (own := own0) _ _ _ ?_)
    obtain ⟨h1, h2⟩ := hi
    repeat ((conv => whnf); first | refine Br.t ?_ | refine Br.f ?_ | refine ⟨rfl, ?_⟩)
    conv => whnf
    refine Br.mk (fun h3 => ?_) (fun h3 => ?_)
    · simp at h3
      conv => whnf
      obtain ⟨x, hxi⟩ : ∃ x, x = xs[i] := ⟨_, rfl⟩
      have e : (xs.map encP).getD (i : Int).toNat [] = encP x := by rw [hxi]; exact getD_enc h3
      have htk : xs.take (i + 1) = xs.take i ++ [x] := by rw [hxi]; simp
      repeat ((conv => whnf); first | refine Br.t ?_ | refine Br.f ?_ | refine ⟨rfl, ?_⟩)
      conv => whnf
      rw [e]
      refine ⟨⟨by omega, by simp; omega, rfl⟩, ?_⟩
      repeat ((conv => whnf); first | refine Br.t ?_ | refine Br.f ?_ | refine ⟨rfl, ?_⟩)
      conv => whnf
      refine Br.mk (fun h4 => ?_) (fun h4 => ?_)
      · simp at h4
        repeat ((conv => whnf); first | refine Br.t ?_ | refine Br.f ?_ | refine ⟨rfl, ?_⟩)
        conv => whnf
        have hc : codeS xs = 1 := codeS_bad (by omega) (hxi ▸ List.getElem_mem h3) (by simp only [okP]; simp; omega)
        refine fin (target := []) rfl (Nat.zero_le _) (by simp) ?_ rfl
        simp [codeW, hc]
      · simp at h4
        repeat ((conv => whnf); first | refine Br.t ?_ | refine Br.f ?_ | refine ⟨rfl, ?_⟩)
        conv => whnf
        rw [e]
        refine ⟨⟨by omega, by simp; omega, rfl⟩, ?_⟩
        repeat ((conv => whnf); first | refine Br.t ?_ | refine Br.f ?_ | refine ⟨rfl, ?_⟩)
        conv => whnf
        refine Br.mk (fun h5 => ?_) (fun h5 => ?_)
        · simp at h5
          repeat ((conv => whnf); first | refine Br.t ?_ | refine Br.f ?_ | refine ⟨rfl, ?_⟩)
          conv => whnf
          have hc : codeS xs = 1 := codeS_bad (by omega) (hxi ▸ List.getElem_mem h3) (by simp only [okP]; simp; omega)
          refine fin (target := []) rfl (Nat.zero_le _) (by simp) ?_ rfl
          simp [codeW, hc]
        · simp at h5
          repeat ((conv => whnf); first | refine Br.t ?_ | refine Br.f ?_ | refine ⟨rfl, ?_⟩)
          conv => whnf
          refine ⟨i + 1, ⟨by omega, ?_⟩, by omega, Le.slots ?_⟩
          · rw [htk, List.all_append, h2]
            have : okP x = true := by simp only [okP]; simp; omega
            simp [this]
          · simp [leS, mkS]
            exact i64_id (by omega) (by omega)
    · simp at h3
      have e : xs.take i = xs := List.take_of_length_le h3
      have hc : codeS xs = 0 := by rw [e] at h2; simp only [codeS]; rw [if_neg (by omega), if_pos h2]
      repeat ((conv => whnf); first | refine Br.t ?_ | refine Br.f ?_ | refine ⟨rfl, ?_⟩)
      conv => whnf
      refine Br.mk (fun h5 => ?_) (fun h5 => ?_)
      · repeat ((conv => whnf); first | refine Br.t ?_ | refine Br.f ?_ | refine ⟨rfl, ?_⟩)
        conv => whnf
        have ho : okW a b c = false := by simp at h5; simp only [okW]; simp; omega
        refine fin (target := []) rfl (Nat.zero_le _) (by simp) ?_ rfl
        simp [codeW, hc, ho]
      · repeat ((conv => whnf); first | refine Br.t ?_ | refine Br.f ?_ | refine ⟨rfl, ?_⟩)
        conv => whnf
        refine Br.mk (fun h6 => ?_) (fun h6 => ?_)
        · repeat ((conv => whnf); first | refine Br.t ?_ | refine Br.f ?_ | refine ⟨rfl, ?_⟩)
          conv => whnf
          have ho : okW a b c = false := by simp at h5 h6; simp only [okW]; simp; omega
          refine fin (target := []) rfl (Nat.zero_le _) (by simp) ?_ rfl
          simp [codeW, hc, ho]
        · repeat ((conv => whnf); first | refine Br.t ?_ | refine Br.f ?_ | refine ⟨rfl, ?_⟩)
          conv => whnf
          refine Br.mk (fun h7 => ?_) (fun h7 => ?_)
          · repeat ((conv => whnf); first | refine Br.t ?_ | refine Br.f ?_ | refine ⟨rfl, ?_⟩)
            conv => whnf
            have ho : okW a b c = false := by simp at h5 h6 h7; simp only [okW]; simp; omega
            refine fin (target := []) rfl (Nat.zero_le _) (by simp) ?_ rfl
            simp [codeW, hc, ho]
          · repeat ((conv => whnf); first | refine Br.t ?_ | refine Br.f ?_ | refine ⟨rfl, ?_⟩)
            conv => whnf
            refine Br.mk (fun h8 => ?_) (fun h8 => ?_)
            · repeat ((conv => whnf); first | refine Br.t ?_ | refine Br.f ?_ | refine ⟨rfl, ?_⟩)
              conv => whnf
              have ho : okW a b c = false := by simp at h5 h6 h7 h8; simp only [okW]; simp; omega
              refine fin (target := []) rfl (Nat.zero_le _) (by simp) ?_ rfl
              simp [codeW, hc, ho]
            · repeat ((conv => whnf); first | refine Br.t ?_ | refine Br.f ?_ | refine ⟨rfl, ?_⟩)
              conv => whnf
              refine Br.mk (fun h9 => ?_) (fun h9 => ?_)
              · repeat ((conv => whnf); first | refine Br.t ?_ | refine Br.f ?_ | refine ⟨rfl, ?_⟩)
                conv => whnf
                have ho : okW a b c = false := by simp at h5 h6 h7 h8 h9; simp only [okW]; simp; omega
                refine fin (target := []) rfl (Nat.zero_le _) (by simp) ?_ rfl
                simp [codeW, hc, ho]
              · repeat ((conv => whnf); first | refine Br.t ?_ | refine Br.f ?_ | refine ⟨rfl, ?_⟩)
                conv => whnf
                refine Br.mk (fun h10 => ?_) (fun h10 => ?_)
                · repeat ((conv => whnf); first | refine Br.t ?_ | refine Br.f ?_ | refine ⟨rfl, ?_⟩)
                  conv => whnf
                  have ho : okW a b c = false := by simp at h5 h6 h7 h8 h9 h10; simp only [okW]; simp; omega
                  refine fin (target := []) rfl (Nat.zero_le _) (by simp) ?_ rfl
                  simp [codeW, hc, ho]
                · repeat ((conv => whnf); first | refine Br.t ?_ | refine Br.f ?_ | refine ⟨rfl, ?_⟩)
                  conv => whnf
                  refine Br.mk (fun h11 => ?_) (fun h11 => ?_)
                  · repeat ((conv => whnf); first | refine Br.t ?_ | refine Br.f ?_ | refine ⟨rfl, ?_⟩)
                    conv => whnf
                    have ho : okW a b c = false := by simp at h5 h6 h7 h8 h9 h10 h11; simp only [okW]; simp; omega
                    refine fin (target := []) rfl (Nat.zero_le _) (by simp) ?_ rfl
                    simp [codeW, hc, ho]
                  · repeat ((conv => whnf); first | refine Br.t ?_ | refine Br.f ?_ | refine ⟨rfl, ?_⟩)
                    conv => whnf
                    have ho : okW a b c = true := by simp at h5 h6 h7 h8 h9 h10 h11; simp only [okW]; simp; omega
                    refine fin (target := []) rfl (Nat.zero_le _) (by simp) ?_ rfl
                    simp [codeW, hc, ho]
end Go.Proofs.Ytdbmfnhbgacldaa.Am

/- Contracts: the document's bytes of a witness, and the law. -/
namespace Go.Proofs.Ytdbmfnhbgacldaa.Am
set_option autoImplicit false
set_option linter.unusedVariables false
set_option linter.unusedSimpArgs false
set_option maxRecDepth 10000
set_option pp.deepTerms false
set_option pp.deepTerms.threshold 6
set_option pp.proofs false
def hz (xs : List (Int × Bool)) (i : Nat) : List (List I) := magic ++ puts xs.length ++ pks (xs.take i)
theorem hz_len (xs : List (Int × Bool)) {i : Nat} (h : i ≤ xs.length) : (hz xs i).length = 4 + (puts xs.length).length + i := by
  simp [hz, magic, pks]; omega
theorem hz_all (xs : List (Int × Bool)) : hz xs xs.length = headW xs := by simp [hz, headW]
theorem hz_succ (xs : List (Int × Bool)) {i : Nat} {x : Int × Bool} (h : xs.take (i + 1) = xs.take i ++ [x]) : hz xs (i + 1) = hz xs i ++ [by8 (pk x)] := by
  simp [hz, h, pks]
theorem pj_t {a : Int} (h1 : 0 ≤ a) (h2 : a < 8) : IntKind.u8.wrap (IntKind.i64.wrap (a + 8)) = ((a.toNat + 8 : Nat) : Int) := by
  rw [i64_id (by omega) (by omega)]
  simp [IntKind.wrap, IntKind.signed, IntKind.bits]; omega
theorem u8_toNat {a : Int} (h1 : 0 ≤ a) (h2 : a < 256) : IntKind.u8.wrap a = (a.toNat : Int) := by
  simp [IntKind.wrap, IntKind.signed, IntKind.bits]; omega
theorem puts_small {n : Nat} (h : n < 128) : puts n = [by8 n] := by rw [puts, putN, dif_pos h]; rfl
theorem write14 (xs : List (Int × Bool)) (a b c : Int) (hx : xs.length ≤ 1000000) (hs : codeS xs = 0) (ho : okW a b c = true) : CallW Try.prog G0 14 [.agg ((encW xs a b c).map .i)] [] (fun r st' => r = .i (.sl (bytesW xs a b c)) ∧ st' = []) := by
  refine call_of_bodyF 0 (Nat.le_refl _) Try.func14 rfl (fun a w => Try.call14 a w) (wpx_ok (own := fun t => t == 6 || t == 7) _ _ _ ?_)
  have hall : xs.all okP = true := by simp only [codeS] at hs; split at hs <;> simp_all
  obtain ⟨a1, a2, b1, b2, c1, c2, hab⟩ := okW_nat ho
  repeat ((conv => whnf); first | refine Br.t ?_ | refine Br.f ?_ | refine ⟨rfl, ?_⟩)
  conv => whnf
  refine ⟨⟨rfl, by decide⟩, ?_⟩
  repeat ((conv => whnf); first | refine Br.t ?_ | refine Br.f ?_ | refine ⟨rfl, ?_⟩)
  conv => whnf
  have c30 : CallW Try.prog G0 30 [.i (.int .i64 ((xs.map encP).length : Nat))] [] (fun r st' => r = .i (.sl (puts xs.length)) ∧ st' = []) := by
    rw [List.length_map]; exact put30 xs.length (by omega)
  refine (c30.pure _ rfl rfl).mono ?_
  rintro r st' ⟨rfl, rfl⟩
  repeat ((conv => whnf); first | refine Br.t ?_ | refine Br.f ?_ | refine ⟨rfl, ?_⟩)
  conv => whnf
  have hp := len_puts (n := xs.length) (by omega)
  refine ⟨apL (one_puts _) rfl 1 rfl rfl (by omega) (len_mx (by omega)), ?_⟩
  repeat ((conv => whnf); first | refine Br.t ?_ | refine Br.f ?_ | refine ⟨rfl, ?_⟩)
  conv => whnf
  refine loop_ok (α := Nat) (fun i => ⟨mkS 51 [(1, .ptr 0 0 0 0), (3, .ref 1 1 0 (hz xs i).length), (4, .i (.int .i64 i))], [row0 xs a b c, .row 1 1 false (lift (hz xs i))]⟩) (fun i => i ≤ xs.length) (fun i => xs.length - i) 0 (Nat.zero_le _)
    (Le.down (fun id => if id = 1 then 1 else 0) (by intro id h; simp at h) ?_ ?_) (fun i h1 => wpx_ok (own := own0) _ _ _ ?_)
  · simp [leS, mkS, V.up, lift, hz, magic, pks]
    omega
  · simp only [upSt, Ob.up, map_up_lift, hz, lift_app, List.take_zero]
    simp [row0, pks, V.up.upAll, V.up, encW]
    rw [show lift ([] : List (List I)) = [] from rfl, List.append_nil]
    rfl
  have hzl := hz_len xs h1
  repeat ((conv => whnf); first | refine Br.t ?_ | refine Br.f ?_ | refine ⟨rfl, ?_⟩)
  conv => whnf
  refine Br.mk (fun h3 => ?_) (fun h3 => ?_)
  · simp at h3
    repeat ((conv => whnf); first | refine Br.t ?_ | refine Br.f ?_ | refine ⟨rfl, ?_⟩)
    conv => whnf
    obtain ⟨x, hxi⟩ : ∃ x, x = xs[i] := ⟨_, rfl⟩
    have e : (xs.map encP).getD (i : Int).toNat [] = encP x := by rw [hxi]; exact getD_enc h3
    have htk : xs.take (i + 1) = xs.take i ++ [x] := by rw [hxi]; simp
    have hok : 0 ≤ x.1 ∧ x.1 < 8 := by
      have := List.all_eq_true.1 hall x (hxi ▸ List.getElem_mem h3)
      simp only [okP] at this; simp at this; omega
    rw [e]
    refine ⟨⟨by omega, by simp; omega, rfl⟩, ?_⟩
    repeat ((conv => whnf); first | refine Br.t ?_ | refine Br.f ?_ | refine ⟨rfl, ?_⟩)
    conv => whnf
    rw [e]
    refine ⟨⟨by omega, by simp; omega, rfl⟩, ?_⟩
    repeat ((conv => whnf); first | refine Br.t ?_ | refine Br.f ?_ | refine ⟨rfl, ?_⟩)
    conv => whnf
    refine Br.mk (fun h6 => ?_) (fun h6 => ?_)
    · repeat ((conv => whnf); first | refine Br.t ?_ | refine Br.f ?_ | refine ⟨rfl, ?_⟩)
      conv => whnf
      have e9 : hz xs (i + 1) = hz xs i ++ [[.int .u8 (IntKind.u8.wrap (IntKind.i64.wrap (x.1 + 8)))]] := by
        rw [hz_succ xs htk]; simp only [by8, pk, h6, if_true, pj_t hok.1 hok.2]
      refine ⟨ap1 rfl 1 rfl (by simp [lift]) (by omega) (len_mx (by omega)), ?_⟩
      repeat ((conv => whnf); first | refine Br.t ?_ | refine Br.f ?_ | refine ⟨rfl, ?_⟩)
      conv => whnf
      refine ⟨i + 1, by omega, by omega, Le.down (fun id => if id = 1 then 1 else 0) (by intro id h; simp at h) ?_ ?_⟩
      · simp [leS, mkS, V.up, lift, e9]
        exact i64_id (by omega) (by omega)
      · simp only [upSt, Ob.up, map_up_lift]
        rw [e9, lift_app]
        rfl
    · repeat ((conv => whnf); first | refine Br.t ?_ | refine Br.f ?_ | refine ⟨rfl, ?_⟩)
      conv => whnf
      have e9 : hz xs (i + 1) = hz xs i ++ [[.int .u8 (IntKind.u8.wrap x.1)]] := by
        rw [hz_succ xs htk]; simp only [by8, pk, h6, pk_f hok.1 hok.2]; rfl
      refine ⟨ap1 rfl 1 rfl (by simp [lift]) (by omega) (len_mx (by omega)), ?_⟩
      repeat ((conv => whnf); first | refine Br.t ?_ | refine Br.f ?_ | refine ⟨rfl, ?_⟩)
      conv => whnf
      refine ⟨i + 1, by omega, by omega, Le.down (fun id => if id = 1 then 1 else 0) (by intro id h; simp at h) ?_ ?_⟩
      · simp [leS, mkS, V.up, lift, e9]
        exact i64_id (by omega) (by omega)
      · simp only [upSt, Ob.up, map_up_lift]
        rw [e9, lift_app]
        rfl
  · simp at h3
    have hi : i = xs.length := by omega
    subst hi
    repeat ((conv => whnf); first | refine Br.t ?_ | refine Br.f ?_ | refine ⟨rfl, ?_⟩)
    conv => whnf
    refine ⟨apL (es := [[.int .u8 (IntKind.u8.wrap a)], [.int .u8 (IntKind.u8.wrap b)], [.int .u8 (IntKind.u8.wrap c)]]) (by intro cs h; simp at h; rcases h with rfl | rfl | rfl <;> rfl) rfl 1 rfl (by simp [lift]) (by simp; omega) (len_mx (by simp; omega)), ?_⟩
    repeat ((conv => whnf); first | refine Br.t ?_ | refine Br.f ?_ | refine ⟨rfl, ?_⟩)
    conv => whnf
    refine ⟨Nat.zero_le _, rfl, hz xs xs.length ++ [[.int .u8 (IntKind.u8.wrap a)], [.int .u8 (IntKind.u8.wrap b)], [.int .u8 (IntKind.u8.wrap c)]], ?_, ?_⟩
    · rw [lift_app]
    · refine fin (target := []) rfl (Nat.zero_le _) (by simp) ?_ rfl
      rw [u8_toNat a1 (by omega), u8_toNat b1 (by omega), u8_toNat c1 (by omega), hz_all]
      simp only [bytesW, puts_small (show a.toNat < 128 by omega), puts_small (show b.toNat < 128 by omega), puts_small (show c.toNat < 128 by omega), List.append_assoc, List.singleton_append, List.drop_zero]
      rw [List.take_of_length_le (by simp [lift])]
      rfl
end Go.Proofs.Ytdbmfnhbgacldaa.Am

/- The law: what is wrong with any witness, and its bytes. -/
namespace Go.Proofs.Ytdbmfnhbgacldaa.Am
set_option autoImplicit false
set_option linter.unusedVariables false
set_option linter.unusedSimpArgs false
set_option maxRecDepth 10000
set_option pp.deepTerms false
set_option pp.deepTerms.threshold 6
set_option pp.proofs false
theorem wake_bytes : bytesW [] 0 1 2 = [by8 97, by8 108, by8 119, by8 49, by8 0, by8 0, by8 1, by8 2] := by
  simp [bytesW, headW, magic, pks, puts_small]
theorem wake_ok : okW 0 1 2 = true := by decide
def isB (zs : List (List I)) : Prop := ∀ cs ∈ zs, ∃ n : Nat, cs = by8 n
theorem isB_ok {zs : List (List I)} (h : isB zs) : (∀ cs ∈ zs, cs.length = 1) ∧ ∀ cs ∈ lift zs, isByte cs := by
  refine ⟨fun cs hcs => ?_, fun cs hcs => ?_⟩
  · obtain ⟨n, rfl⟩ := h cs hcs; rfl
  · simp only [lift, List.mem_map] at hcs
    obtain ⟨x, hx, rfl⟩ := hcs
    obtain ⟨n, rfl⟩ := h x hx
    trivial
theorem isB_app {a b : List (List I)} (h1 : isB a) (h2 : isB b) : isB (a ++ b) := fun cs h => (List.mem_append.1 h).elim (h1 cs) (h2 cs)
theorem isB_map (ns : List Nat) : isB (ns.map by8) := fun cs h => by
  simp only [List.mem_map] at h
  obtain ⟨n, _, rfl⟩ := h
  exact ⟨n, rfl⟩
theorem isB_W (xs : List (Int × Bool)) (a b c : Int) : isB (bytesW xs a b c) :=
  isB_app (isB_app (isB_app (isB_app (isB_app (isB_map [97, 108, 119, 49]) (isB_map _)) (isB_map _)) (isB_map _)) (isB_map _)) (isB_map _)
theorem awake10 : CallW Try.prog G0 10 [] [] (fun r st' => r = .i (.bool true) ∧ st' = []) := by
  refine call_of_bodyF 0 (Nat.le_refl _) Try.func10 rfl (fun a w => Try.call10 a w) (wpx_ok (own := own0) _ _ _ ?_)
  repeat ((conv => whnf); first | refine Br.t ?_ | refine Br.f ?_ | refine ⟨rfl, ?_⟩)
  conv => whnf
  have hw : CallW Try.prog G0 11 [.agg [.nils, .i (.int .i64 0), .i (.int .i64 1), .i (.int .i64 2)]] [] (fun r st' => r = .tup [.i (.sl [by8 97, by8 108, by8 119, by8 49, by8 0, by8 0, by8 1, by8 2]), .i (.int .i64 0)] ∧ st' = []) := by
    have h := write11 [] 0 1 2 (by decide)
    rw [show codeW [] 0 1 2 = 0 from by decide, if_pos rfl, wake_bytes] at h
    exact h.nd rfl
  refine (hw.pure _ rfl rfl).mono ?_
  rintro r st' ⟨rfl, rfl⟩
  repeat ((conv => whnf); first | refine Br.t ?_ | refine Br.f ?_ | refine ⟨rfl, ?_⟩)
  conv => whnf
  refine ⟨isB_ok (isB_map [97, 108, 119, 49, 0, 0, 1, 2]), ?_⟩
  repeat ((conv => whnf); first | refine Br.t ?_ | refine Br.f ?_ | refine ⟨rfl, ?_⟩)
  conv => whnf
  refine fin (target := []) rfl (Nat.zero_le _) (by simp) rfl rfl
theorem law3 (xs : List (Int × Bool)) (a b c : Int) (hx : xs.length ≤ 9223372036854775807) : CallW Try.prog G0 3 [.agg ((encW xs a b c).map .i)] [] (fun r st' => r = .i (.bool true) ∧ st' = []) := by
  refine call_of_bodyF 0 (Nat.le_refl _) Try.func3 rfl (fun a w => Try.call3 a w) (wpx_ok (own := own0) _ _ _ ?_)
  repeat ((conv => whnf); first | refine Br.t ?_ | refine Br.f ?_ | refine ⟨rfl, ?_⟩)
  conv => whnf
  refine (awake10.pure _ rfl rfl).mono ?_
  rintro r st' ⟨rfl, rfl⟩
  repeat ((conv => whnf); first | refine Br.t ?_ | refine Br.f ?_ | refine ⟨rfl, ?_⟩)
  conv => whnf
  refine Br.mk (fun h => ?_) (fun h => ?_)
  · simp at h
    repeat ((conv => whnf); first | refine Br.t ?_ | refine Br.f ?_ | refine ⟨rfl, ?_⟩)
    conv => whnf
    refine (awake10.pure _ rfl rfl).mono ?_
    rintro r st' ⟨rfl, rfl⟩
    repeat ((conv => whnf); first | refine Br.t ?_ | refine Br.f ?_ | refine ⟨rfl, ?_⟩)
    conv => whnf
    refine fin (target := []) rfl (Nat.zero_le _) (by simp) rfl rfl
  · simp at h
    repeat ((conv => whnf); first | refine Br.t ?_ | refine Br.f ?_ | refine ⟨rfl, ?_⟩)
    conv => whnf
    refine ((write11 xs a b c (by omega)).pure _ rfl rfl).mono ?_
    rintro r st' ⟨rfl, rfl⟩
    by_cases hc : codeW xs a b c = 0
    · rw [if_pos hc, hc]
      repeat ((conv => whnf); first | refine Br.t ?_ | refine Br.f ?_ | refine ⟨rfl, ?_⟩)
      conv => whnf
      refine ((check12 xs a b c (by omega)).pure _ rfl rfl).mono ?_
      rintro r st' ⟨rfl, rfl⟩
      rw [hc]
      repeat ((conv => whnf); first | refine Br.t ?_ | refine Br.f ?_ | refine ⟨rfl, ?_⟩)
      conv => whnf
      have hs : codeS xs = 0 := by simp only [codeW] at hc; split at hc <;> simp_all
      have ho : okW a b c = true := by simp only [codeW, hs, if_true] at hc; split at hc <;> simp_all
      refine draw_ok (own := own0) [] [] [(.i (.int .i64 0), [row0 xs a b c]), (.i (.sl (bytesW xs a b c)), [row0 xs a b c])] rfl (by kernel_rfl) (Nat.zero_le _) ?_
      repeat ((conv => whnf); first | refine Br.t ?_ | refine Br.f ?_ | refine ⟨rfl, ?_⟩)
      conv => whnf
      have k13 : CallW Try.prog G0 13 [.agg ((encW xs a b c).map .i)] [row0 xs a b c] (fun r st' => r = .i (.int .i64 0) ∧ st' = [row0 xs a b c]) := by
        have := (check13 xs a b c (by omega)).pure [row0 xs a b c] rfl rfl
        rwa [hc] at this
      refine ⟨k13, ?_⟩
      repeat ((conv => whnf); first | refine Br.t ?_ | refine Br.f ?_ | refine ⟨rfl, ?_⟩)
      conv => whnf
      refine ⟨isB_ok (isB_W xs a b c), ?_⟩
      repeat ((conv => whnf); first | refine Br.t ?_ | refine Br.f ?_ | refine ⟨rfl, ?_⟩)
      conv => whnf
      refine ⟨(write14 xs a b c (by omega) hs ho).pure [row0 xs a b c] rfl rfl, ?_⟩
      repeat ((conv => whnf); first | refine Br.t ?_ | refine Br.f ?_ | refine ⟨rfl, ?_⟩)
      conv => whnf
      refine ⟨isB_ok (isB_W xs a b c), ?_⟩
      repeat ((conv => whnf); first | refine Br.t ?_ | refine Br.f ?_ | refine ⟨rfl, ?_⟩)
      conv => whnf
      refine ⟨?_, trivial, ?_⟩
      · repeat ((conv => whnf); first | exact trivial | refine ⟨rfl, ?_⟩)
      · conv => whnf
        refine fin (target := []) rfl (Nat.zero_le _) (by simp) ?_ rfl
        simp
    · rw [if_neg hc]
      repeat ((conv => whnf); first | refine Br.t ?_ | refine Br.f ?_ | refine ⟨rfl, ?_⟩)
      conv => whnf
      refine ((check12 xs a b c (by omega)).pure _ rfl rfl).mono ?_
      rintro r st' ⟨rfl, rfl⟩
      repeat ((conv => whnf); first | refine Br.t ?_ | refine Br.f ?_ | refine ⟨rfl, ?_⟩)
      conv => whnf
      refine Br.mk (fun h1 => ?_) (fun h1 => ?_)
      · repeat ((conv => whnf); first | refine Br.t ?_ | refine Br.f ?_ | refine ⟨rfl, ?_⟩)
        conv => whnf
        refine Br.mk (fun h2 => ?_) (fun h2 => ?_)
        · repeat ((conv => whnf); first | refine Br.t ?_ | refine Br.f ?_ | refine ⟨rfl, ?_⟩)
          conv => whnf
          refine ((check13 xs a b c (by omega)).pure _ rfl rfl).mono ?_
          rintro r st' ⟨rfl, rfl⟩
          repeat ((conv => whnf); first | refine Br.t ?_ | refine Br.f ?_ | refine ⟨rfl, ?_⟩)
          conv => whnf
          refine fin (target := []) rfl (Nat.zero_le _) (by simp) ?_ rfl
          simp
        · simp at h2
      · simp at h1; exact absurd h1 hc
end Go.Proofs.Ytdbmfnhbgacldaa.Am

/- Contracts: the reader. -/
namespace Go.Proofs.Ytdbmfnhbgacldaa.Am
set_option autoImplicit false
set_option linter.unusedVariables false
set_option linter.unusedSimpArgs false
set_option maxRecDepth 10000
set_option pp.deepTerms false
set_option pp.deepTerms.threshold 6
set_option pp.proofs false
structure Rd where
  bs : List Nat
  p : Nat
  a : Nat
  why : Nat
/-- a reader: its box -/
def rdB (s : Rd) : Ob := .row 0 4 false [[.i (.sl (s.bs.map by8)), .i (.int .i64 s.p), .i (.int .i64 s.a), .i (.int .i64 s.why)]]
theorem rdB_cl (s : Rd) : ∀ o ∈ [rdB s], o.cl 1 := by
  intro o ho
  simp only [List.mem_singleton] at ho
  subst ho
  intro cs hcs
  simp only [List.mem_singleton] at hcs
  subst hcs
  rfl
def Rd.fail (s : Rd) (c : Nat) : Rd := if s.why = 0 then { s with a := s.p, why := c } else s
def Rd.ok (s : Rd) : Prop := s.bs.length ≤ 1000000 ∧ s.p ≤ s.bs.length ∧ ∀ b ∈ s.bs, b < 256
theorem fail49 (s : Rd) (c : Nat) : CallW Try.prog G0 49 [.ptr 0 0 0 0, .i (.int .i64 c)] [rdB s] (fun r st' => r = .tup [] ∧ st' = [rdB (s.fail c)]) := by
  refine call_of_bodyF 1 (Nat.le_refl _) Try.func49 rfl (fun a w => Try.call49 a w) (wpx_ok (own := own0) _ _ _ ?_)
  repeat ((conv => whnf); first | refine Br.t ?_ | refine Br.f ?_ | refine ⟨rfl, ?_⟩)
  conv => whnf
  refine Br.mk (fun h => ?_) (fun h => ?_)
  · simp at h
    repeat ((conv => whnf); first | refine Br.t ?_ | refine Br.f ?_ | refine ⟨rfl, ?_⟩)
    conv => whnf
    refine fin (target := [rdB (s.fail c)]) ?_ (Nat.le_refl _) (rdB_cl _) rfl rfl
    simp only [Rd.fail, h, if_true]
    rfl
  · simp at h
    repeat ((conv => whnf); first | refine Br.t ?_ | refine Br.f ?_ | refine ⟨rfl, ?_⟩)
    conv => whnf
    refine fin (target := [rdB (s.fail c)]) ?_ (Nat.le_refl _) (rdB_cl _) rfl rfl
    simp only [Rd.fail, h, if_false]
    rfl
theorem left50 (s : Rd) (h : s.ok) : CallW Try.prog G0 50 [.ptr 0 0 0 0] [rdB s] (fun r st' => r = .i (.int .i64 (s.bs.length - s.p : Nat)) ∧ st' = [rdB s]) := by
  obtain ⟨h1, h2, h3⟩ := h
  refine call_of_bodyF 1 (Nat.le_refl _) Try.func50 rfl (fun a w => Try.call50 a w) (wpx_ok (own := own0) _ _ _ ?_)
  repeat ((conv => whnf); first | refine Br.t ?_ | refine Br.f ?_ | refine ⟨rfl, ?_⟩)
  conv => whnf
  refine draw_ok (own := own0) [] [] [] rfl (by kernel_rfl) (Nat.le_refl _) ?_
  repeat ((conv => whnf); first | refine Br.t ?_ | refine Br.f ?_ | refine ⟨rfl, ?_⟩)
  conv => whnf
  refine ⟨by repeat ((conv => whnf); first | exact trivial | refine ⟨rfl, ?_⟩), trivial, ?_⟩
  conv => whnf
  refine fin (target := [rdB s]) rfl (Nat.le_refl _) (rdB_cl _) ?_ rfl
  rw [i64_id (by simp; omega) (by simp; omega)]
  simp; omega
theorem fault35 (s : Rd) : CallW Try.prog G0 35 [.ptr 0 0 0 0] [rdB s] (fun r st' => r = .agg [.i (.int .i64 s.a), .i (.int .i64 s.why)] ∧ st' = [rdB s]) := by
  refine call_of_bodyF 1 (Nat.le_refl _) Try.func35 rfl (fun a w => Try.call35 a w) (wpx_ok (own := own0) _ _ _ ?_)
  repeat ((conv => whnf); first | refine Br.t ?_ | refine Br.f ?_ | refine ⟨rfl, ?_⟩)
  conv => whnf
  refine fin (target := [rdB s]) rfl (by simp) (rdB_cl _) rfl rfl
theorem new33 (bs : List Nat) (h : bs.length ≤ 1000000) : CallW Try.prog G0 33 [.i (.sl (bs.map by8))] [] (fun r st' => r = .ptr 1 0 0 0 ∧ st' = [.dead, rdB ⟨bs, 0, 0, 0⟩]) := by
  refine call_of_bodyF 2 (Nat.zero_le _) Try.func33 rfl (fun a w => Try.call33 a w) (W.weak (wpx_ok (own := ownAll) _ _ _ ?_))
  repeat ((conv => whnf); first | refine Br.t ?_ | refine Br.f ?_ | refine ⟨rfl, ?_⟩)
  conv => whnf
  have hl : (bs.map by8).length = bs.length := by simp
  refine ⟨apL (by simp [by8]) rfl 1 rfl rfl (by omega) (len_mx (by omega)), ?_⟩
  repeat ((conv => whnf); first | refine Br.t ?_ | refine Br.f ?_ | refine ⟨rfl, ?_⟩)
  conv => whnf
  refine ⟨_, Le.data 0 2 1 (bs.map by8) (sl := _) (s := ⟨mkS 8 [(2, .ptr 1 0 0 0)], [.dead, rdB ⟨bs, 0, 0, 0⟩]⟩) rfl ?_ ?_, ?_⟩
  · simp [leS, mkS, V.dat]
  · simp [Ob.dat, rdB, V.dat.datAll, V.dat]
    exact (List.take_of_length_le (by simp [lift])).symm
  · conv => whnf
    refine fin (target := [.dead, rdB ⟨bs, 0, 0, 0⟩]) rfl (Nat.le_refl _) ?_ rfl rfl
    intro o ho
    simp only [List.mem_cons, List.not_mem_nil, or_false] at ho
    rcases ho with rfl | rfl
    · trivial
    · intro cs hcs
      simp only [List.mem_singleton] at hcs
      subst hcs
      rfl
def Rd.left (s : Rd) : Nat := s.bs.length - s.p
def Rd.raw (s : Rd) (n : Int) : List Nat × Rd :=
  if s.why ≠ 0 then ([], s) else if n < 0 then ([], s.fail 1) else if (s.left : Int) < n then ([], s.fail 2) else ((s.bs.drop s.p).take n.toNat, { s with p := s.p + n.toNat })
theorem raw34 (s : Rd) (hok : s.ok) (n : Int) : CallW Try.prog G0 34 [.ptr 0 0 0 0, .i (.int .i64 n)] [rdB s] (fun r st' => r = .i (.sl ((s.raw n).1.map by8)) ∧ st' = [rdB (s.raw n).2]) := by
  refine call_of_bodyF 1 (Nat.le_refl _) Try.func34 rfl (fun a w => Try.call34 a w) (wpx_ok (own := fun t => t == 25) _ _ _ ?_)
  repeat ((conv => whnf); first | refine Br.t ?_ | refine Br.f ?_ | refine ⟨rfl, ?_⟩)
  conv => whnf
  refine Br.mk (fun h => ?_) (fun h => ?_)
  · simp at h
    have e : s.raw n = ([], s) := by simp [Rd.raw, h]
    rw [e]
    repeat ((conv => whnf); first | refine Br.t ?_ | refine Br.f ?_ | refine ⟨rfl, ?_⟩)
    conv => whnf
    refine fin (target := [rdB s]) rfl (Nat.le_refl _) (rdB_cl _) rfl rfl
  · simp at h
    repeat ((conv => whnf); first | refine Br.t ?_ | refine Br.f ?_ | refine ⟨rfl, ?_⟩)
    conv => whnf
    refine Br.mk (fun h1 => ?_) (fun h1 => ?_)
    · simp at h1
      have e : s.raw n = ([], s.fail 1) := by simp [Rd.raw, h, h1]
      rw [e]
      repeat ((conv => whnf); first | refine Br.t ?_ | refine Br.f ?_ | refine ⟨rfl, ?_⟩)
      conv => whnf
      refine (fail49 s 1).mono ?_
      rintro r st' ⟨rfl, rfl⟩
      repeat ((conv => whnf); first | refine Br.t ?_ | refine Br.f ?_ | refine ⟨rfl, ?_⟩)
      conv => whnf
      refine fin (target := [rdB (s.fail 1)]) rfl (Nat.le_refl _) (rdB_cl _) rfl rfl
    · simp at h1
      repeat ((conv => whnf); first | refine Br.t ?_ | refine Br.f ?_ | refine ⟨rfl, ?_⟩)
      conv => whnf
      refine (left50 s hok).mono ?_
      rintro r st' ⟨rfl, rfl⟩
      repeat ((conv => whnf); first | refine Br.t ?_ | refine Br.f ?_ | refine ⟨rfl, ?_⟩)
      conv => whnf
      refine Br.mk (fun h2 => ?_) (fun h2 => ?_)
      · simp only [decide_eq_true_eq] at h2
        have e : s.raw n = ([], s.fail 2) := by simp only [Rd.raw]; have hl : s.left = s.bs.length - s.p := rfl; rw [if_neg (by omega), if_neg (by omega), if_pos (by omega)]
        rw [e]
        repeat ((conv => whnf); first | refine Br.t ?_ | refine Br.f ?_ | refine ⟨rfl, ?_⟩)
        conv => whnf
        refine (fail49 s 2).mono ?_
        rintro r st' ⟨rfl, rfl⟩
        repeat ((conv => whnf); first | refine Br.t ?_ | refine Br.f ?_ | refine ⟨rfl, ?_⟩)
        conv => whnf
        refine fin (target := [rdB (s.fail 2)]) rfl (Nat.le_refl _) (rdB_cl _) rfl rfl
      · simp only [decide_eq_false_iff_not] at h2
        have e : s.raw n = ((s.bs.drop s.p).take n.toNat, { s with p := s.p + n.toNat }) := by simp only [Rd.raw]; have hl : s.left = s.bs.length - s.p := rfl; rw [if_neg (by omega), if_neg (by omega), if_neg (by omega)]
        rw [e]
        obtain ⟨k1, k2, k3⟩ := hok
        obtain ⟨n, rfl⟩ := Int.eq_ofNat_of_zero_le h1
        have ew : IntKind.i64.wrap ((s.p : Int) + (n : Int)) = ((s.p + n : Nat) : Int) := by rw [i64_id (by omega) (by omega)]; rfl
        have hb : 0 ≤ (s.p : Int) ∧ (s.p : Int) ≤ IntKind.i64.wrap ((s.p : Int) + (n : Int)) ∧ IntKind.i64.wrap ((s.p : Int) + (n : Int)) ≤ ((s.bs.map by8).length : Nat) ∧ ∀ cs ∈ s.bs.map by8, cs.length = szA Try.prog 5 := by
          rw [ew]
          refine ⟨by omega, by omega, by simp; omega, ?_⟩
          intro cs hcs
          simp only [List.mem_map] at hcs
          obtain ⟨b, _, rfl⟩ := hcs
          rfl
        have ez : (((s.bs.map by8).drop (s.p : Int).toNat).take ((IntKind.i64.wrap ((s.p : Int) + (n : Int))).toNat - (s.p : Int).toNat)) = ((s.bs.drop s.p).take n).map by8 := by
          rw [ew, Int.toNat_natCast, Int.toNat_natCast, List.map_take, List.map_drop]
          congr 1; omega
        have ho : one (((s.bs.drop s.p).take n).map by8) := by
          intro cs hcs
          simp only [List.mem_map] at hcs
          obtain ⟨b, _, rfl⟩ := hcs
          rfl
        have hlen : (((s.bs.drop s.p).take n).map by8).length ≤ 1000000 := by simp; omega
        repeat ((conv => whnf); first | refine Br.t ?_ | refine Br.f ?_ | refine ⟨rfl, ?_⟩)
        conv => whnf
        refine draw_ok (own := fun t => t == 25) [0, 16] [(1, 0), (2, 0), (3, 0), (4, 0), (5, 0), (6, 0), (7, 0), (8, 0), (9, 0), (10, 0), (11, 0), (12, 0), (13, 0), (14, 0), (15, 0)] [] rfl (by kernel_rfl) (Nat.le_refl _) ?_
        repeat ((conv => whnf); first | refine Br.t ?_ | refine Br.f ?_ | refine ⟨rfl, ?_⟩)
        conv => whnf
        refine ⟨hb, ?_⟩
        repeat ((conv => whnf); first | refine Br.t ?_ | refine Br.f ?_ | refine ⟨rfl, ?_⟩)
        conv => whnf
        rw [ez]
        refine ⟨apL ho rfl 1 rfl rfl (by omega) (len_mx (by omega)), ?_⟩
        repeat ((conv => whnf); first | refine Br.t ?_ | refine Br.f ?_ | refine ⟨rfl, ?_⟩)
        conv => whnf
        refine ⟨by repeat ((conv => whnf); first | exact trivial | refine ⟨rfl, ?_⟩), ?_, ?_⟩
        · repeat ((conv => whnf); first | exact trivial | refine ⟨by (conv => whnf); first | exact ⟨rfl, rfl⟩ | exact ⟨rfl, rfl, rfl⟩ | exact ⟨hb, congrArg (fun z => V.i (.sl z)) ez, rfl⟩, ?_⟩)
        · repeat ((conv => whnf); first | refine Br.t ?_ | refine Br.f ?_ | refine ⟨rfl, ?_⟩)
          conv => whnf
          refine ⟨Nat.le_refl _, rfl, ((s.bs.drop s.p).take n).map by8, rfl, ?_⟩
          have er : rdB { s with p := s.p + (n : Int).toNat } = .row 0 4 false [[.i (.sl (s.bs.map by8)), .i (.int .i64 (IntKind.i64.wrap ((s.p : Int) + (n : Int)))), .i (.int .i64 s.a), .i (.int .i64 s.why)]] := by rw [ew]; rfl
          refine fin (target := [rdB { s with p := s.p + (n : Int).toNat }]) ?_ (by simp) (rdB_cl _) ?_ rfl
          · rw [er]; rfl
          · rw [List.drop_zero, List.take_of_length_le (by simp [lift])]
            rfl
end Go.Proofs.Ytdbmfnhbgacldaa.Am

/- Contracts: whole numbers read. -/
namespace Go.Proofs.Ytdbmfnhbgacldaa.Am
set_option autoImplicit false
set_option linter.unusedVariables false
set_option linter.unusedSimpArgs false
set_option maxRecDepth 10000
set_option pp.deepTerms false
set_option pp.deepTerms.threshold 6
set_option pp.proofs false
theorem and127 {b : Nat} (h : b < 256) : IntKind.u8.wrap ((BitVec.ofInt IntKind.u8.bits (b : Int) &&& BitVec.ofInt IntKind.u8.bits 127).toNat : Nat) = ((b % 128 : Nat) : Int) := by
  have h0 : ∀ m : Fin 256, m.val &&& 127 = m.val % 128 := by decide
  have h1 : (BitVec.ofInt 8 (b : Int)).toNat = b := by simp [BitVec.toNat_ofInt]; omega
  have h2 : (BitVec.ofInt IntKind.u8.bits (b : Int) &&& BitVec.ofInt IntKind.u8.bits 127).toNat = b &&& 127 := by
    rw [BitVec.toNat_and]
    show (BitVec.ofInt 8 (b : Int)).toNat &&& 127 = _
    rw [h1]
  rw [h2, h0 ⟨b, h⟩, u8_small (by simp; omega)]
theorem u64_small {n : Nat} (h : n < 18446744073709551616) : IntKind.u64.wrap (n : Int) = n := by
  simp [IntKind.wrap, IntKind.signed, IntKind.bits]; omega
theorem shl7 {i m : Nat} (h1 : i ≤ 4) (hm : m < 128) : IntKind.u64.wrap (IntKind.u64.wrap (m : Int) * 2 ^ min (IntKind.i64.wrap (7 * (i : Int))).toNat IntKind.u64.bits) = ((m * 128 ^ i : Nat) : Int) := by
  rw [u64_small (by omega), i64_id (by omega) (by omega)]
  have hle : 128 ^ i ≤ 268435456 := Nat.le_trans (Nat.pow_le_pow_right (n := 128) (by decide) h1) (by decide)
  have hlt : m * 128 ^ i ≤ 127 * 268435456 := Nat.mul_le_mul (by omega) hle
  rw [show min ((7 : Int) * (i : Int)).toNat IntKind.u64.bits = 7 * i by simp only [IntKind.bits]; omega]
  rw [show (m : Int) * 2 ^ (7 * i) = ((m * 128 ^ i : Nat) : Int) by
    rw [show (128 : Nat) ^ i = 2 ^ (7 * i) by rw [Nat.pow_mul]]
    simp]
  exact u64_small (by omega)
theorem orAdd {i acc m : Nat} (h1 : i ≤ 4) (h3 : acc < 128 ^ i) (hm : m < 128) : IntKind.u64.wrap ((BitVec.ofInt IntKind.u64.bits (acc : Int) ||| BitVec.ofInt IntKind.u64.bits ((m * 128 ^ i : Nat) : Int)).toNat : Nat) = ((acc + m * 128 ^ i : Nat) : Int) := by
  have hp : 128 ^ i = 2 ^ (7 * i) := by rw [Nat.pow_mul]
  have hle : 128 ^ i ≤ 268435456 := Nat.le_trans (Nat.pow_le_pow_right (n := 128) (by decide) h1) (by decide)
  have hlt : m * 128 ^ i ≤ 127 * 268435456 := Nat.mul_le_mul (by omega) hle
  have e1 : ∀ n : Nat, n < 18446744073709551616 → (BitVec.ofInt 64 (n : Int)).toNat = n := fun n hn => by simp [BitVec.toNat_ofInt]; omega
  have h2 : (BitVec.ofInt IntKind.u64.bits (acc : Int) ||| BitVec.ofInt IntKind.u64.bits ((m * 128 ^ i : Nat) : Int)).toNat = acc + m * 128 ^ i := by
    rw [BitVec.toNat_or]
    show (BitVec.ofInt 64 (acc : Int)).toNat ||| (BitVec.ofInt 64 ((m * 128 ^ i : Nat) : Int)).toNat = _
    rw [e1 _ (by omega), e1 _ (by omega), hp, Nat.or_comm, Nat.mul_comm m, ← Nat.two_pow_add_eq_or_of_lt (by rw [← hp]; exact h3) m, Nat.add_comm]
  rw [h2, u64_small (by omega)]
theorem u32_small {n : Nat} (h : n < 4294967296) : IntKind.u32.wrap (n : Int) = n := by
  simp [IntKind.wrap, IntKind.signed, IntKind.bits]; omega
theorem retV {i acc b : Nat} (h1 : i ≤ 4) (h3 : acc < 128 ^ i) (hb : b < 128) (hn : ¬ (i = 4 ∧ 15 < b)) : IntKind.u32.wrap (IntKind.u64.wrap ((BitVec.ofInt IntKind.u64.bits (acc : Int) ||| BitVec.ofInt IntKind.u64.bits ((b % 128 * 128 ^ i : Nat) : Int)).toNat : Nat)) = ((acc + b * 128 ^ i : Nat) : Int) := by
  rw [orAdd h1 h3 (by omega), Nat.mod_eq_of_lt hb]
  have : acc + b * 128 ^ i < 4294967296 := by
    have : i = 0 ∨ i = 1 ∨ i = 2 ∨ i = 3 ∨ i = 4 := by omega
    rcases this with rfl | rfl | rfl | rfl | rfl <;> simp at h3 ⊢ <;> omega
  exact u32_small this
theorem stepV {i acc b : Nat} (h3 : acc < 128 ^ i) : acc + b % 128 * 128 ^ i < 128 ^ (i + 1) := by
  have : b % 128 * 128 ^ i ≤ 127 * 128 ^ i := Nat.mul_le_mul_right _ (by omega)
  rw [Nat.pow_succ]
  omega
/-- a whole number out of bytes: which, of how many, or what is wrong -/
def getV : Nat → Nat → List Nat → Nat × Nat × Nat
  | _, _, [] => (0, 0, 2)
  | i, acc, b :: rest => if i = 4 ∧ 15 < b then (0, 0, 4) else if b < 128 then (if b = 0 ∧ 0 < i then (0, 0, 3) else (acc + b * 128 ^ i, i + 1, 0)) else getV (i + 1) (acc + (b % 128) * 128 ^ i) rest
def tupV (k : IntKind) (r : Nat × Nat × Nat) : V := .tup [.i (.int k r.1), .i (.int .i64 r.2.1), .i (.int .i64 r.2.2)]
theorem get51 (bs : List Nat) (hl : bs.length ≤ 1000000) (hb : ∀ b ∈ bs, b < 256) : CallW Try.prog G0 51 [.i (.sl (bs.map by8))] [] (fun r st' => r = tupV .u32 (getV 0 0 bs) ∧ st' = []) := by
  refine call_of_bodyF 0 (Nat.le_refl _) Try.func51 rfl (fun a w => Try.call51 a w) (wpx_ok (own := own0) _ _ _ ?_)
  repeat ((conv => whnf); first | refine Br.t ?_ | refine Br.f ?_ | refine ⟨rfl, ?_⟩)
  conv => whnf
  refine loop_ok (α := Nat × Nat) (fun x => ⟨mkS 46 [(0, .i (.sl (bs.map by8))), (5, .i (.int .u64 x.2)), (8, .i (.int .i64 x.1))], []⟩)
    (fun x => x.1 ≤ 4 ∧ x.1 ≤ bs.length ∧ x.2 < 128 ^ x.1 ∧ getV x.1 x.2 (bs.drop x.1) = getV 0 0 bs) (fun x => 5 - x.1) (0, 0) ⟨by decide, Nat.zero_le _, by decide, rfl⟩
    (Le.slots (by simp [leS, mkS])) (fun x hx => wpx_ok (own := own0) _ _ _ ?_)
  obtain ⟨i, acc⟩ := x
  obtain ⟨h1, h2, h3, h4⟩ := hx
  simp only at h1 h2 h3 h4
  dsimp only
  repeat ((conv => whnf); first | refine Br.t ?_ | refine Br.f ?_ | refine ⟨rfl, ?_⟩)
  conv => whnf
  refine Br.mk (fun h5 => ?_) (fun h5 => by simp at h5; omega)
  repeat ((conv => whnf); first | refine Br.t ?_ | refine Br.f ?_ | refine ⟨rfl, ?_⟩)
  conv => whnf
  refine Br.mk (fun h6 => ?_) (fun h6 => ?_)
  · simp at h6
    have e : bs.drop i = [] := List.drop_eq_nil_of_le h6
    rw [e] at h4
    repeat ((conv => whnf); first | refine Br.t ?_ | refine Br.f ?_ | refine ⟨rfl, ?_⟩)
    conv => whnf
    refine fin (target := []) rfl (Nat.zero_le _) (by simp) ?_ rfl
    rw [← h4]; rfl
  · simp at h6
    obtain ⟨b, hbi⟩ : ∃ b, b = bs[i] := ⟨_, rfl⟩
    have e : (bs.map by8).getD (i : Int).toNat [] = by8 b := by rw [hbi]; exact getD_enc h6
    have ed : bs.drop i = b :: bs.drop (i + 1) := by rw [hbi]; exact List.drop_eq_getElem_cons h6
    have hb' : b < 256 := hb b (hbi ▸ List.getElem_mem h6)
    rw [ed, getV] at h4
    repeat ((conv => whnf); first | refine Br.t ?_ | refine Br.f ?_ | refine ⟨rfl, ?_⟩)
    conv => whnf
    rw [e]
    refine ⟨⟨by omega, by simp; omega, rfl⟩, ?_⟩
    repeat ((conv => whnf); first | refine Br.t ?_ | refine Br.f ?_ | refine ⟨rfl, ?_⟩)
    conv => whnf
    refine Br.mk (fun h7 => ?_) (fun h7 => ?_)
    · simp at h7
      repeat ((conv => whnf); first | refine Br.t ?_ | refine Br.f ?_ | refine ⟨rfl, ?_⟩)
      conv => whnf
      refine Br.mk (fun h8 => ?_) (fun h8 => ?_)
      · simp at h8
        rw [if_pos ⟨by omega, by omega⟩] at h4
        repeat ((conv => whnf); first | refine Br.t ?_ | refine Br.f ?_ | refine ⟨rfl, ?_⟩)
        conv => whnf
        refine fin (target := []) rfl (Nat.zero_le _) (by simp) ?_ rfl
        rw [← h4]; rfl
      · simp at h8
        have hn : ¬ (i = 4 ∧ 15 < b) := by omega
        rw [if_neg hn] at h4
        repeat ((conv => whnf); first | refine Br.t ?_ | refine Br.f ?_ | refine ⟨rfl, ?_⟩)
        conv => whnf
        refine ⟨by rw [i64_id (by omega) (by omega)]; omega, ?_⟩
        rw [and127 hb', shl7 h1 (by omega)]
        repeat ((conv => whnf); first | refine Br.t ?_ | refine Br.f ?_ | refine ⟨rfl, ?_⟩)
        conv => whnf
        refine Br.mk (fun h9 => ?_) (fun h9 => ?_)
        · simp at h9
          rw [if_pos (by omega)] at h4
          repeat ((conv => whnf); first | refine Br.t ?_ | refine Br.f ?_ | refine ⟨rfl, ?_⟩)
          conv => whnf
          refine Br.mk (fun h10 => ?_) (fun h10 => ?_)
          · simp at h10
            repeat ((conv => whnf); first | refine Br.t ?_ | refine Br.f ?_ | refine ⟨rfl, ?_⟩)
            conv => whnf
            refine Br.mk (fun h11 => ?_) (fun h11 => ?_)
            · simp at h11
              rw [if_pos ⟨by omega, by omega⟩] at h4
              repeat ((conv => whnf); first | refine Br.t ?_ | refine Br.f ?_ | refine ⟨rfl, ?_⟩)
              conv => whnf
              refine fin (target := []) rfl (Nat.zero_le _) (by simp) ?_ rfl
              rw [← h4]; rfl
            · simp at h11
              rw [if_neg (by omega)] at h4
              repeat ((conv => whnf); first | refine Br.t ?_ | refine Br.f ?_ | refine ⟨rfl, ?_⟩)
              conv => whnf
              refine fin (target := []) rfl (Nat.zero_le _) (by simp) ?_ rfl
              rw [← h4, retV h1 h3 (by omega) hn, i64_id (by omega) (by omega)]
              rfl
          · simp at h10
            rw [if_neg (by omega)] at h4
            repeat ((conv => whnf); first | refine Br.t ?_ | refine Br.f ?_ | refine ⟨rfl, ?_⟩)
            conv => whnf
            refine fin (target := []) rfl (Nat.zero_le _) (by simp) ?_ rfl
            rw [← h4, retV h1 h3 (by omega) hn, i64_id (by omega) (by omega)]
            rfl
        · simp at h9
          rw [if_neg (by omega)] at h4
          repeat ((conv => whnf); first | refine Br.t ?_ | refine Br.f ?_ | refine ⟨rfl, ?_⟩)
          conv => whnf
          rw [orAdd h1 h3 (show b % 128 < 128 by omega)]
          refine ⟨(i + 1, acc + b % 128 * 128 ^ i), ⟨by simp only; omega, by simp only; omega, stepV h3, h4⟩, by simp only; omega, Le.slots ?_⟩
          simp [leS, mkS]
          exact i64_id (by omega) (by omega)
    · simp at h7
      have hn : ¬ (i = 4 ∧ 15 < b) := by omega
      rw [if_neg hn] at h4
      repeat ((conv => whnf); first | refine Br.t ?_ | refine Br.f ?_ | refine ⟨rfl, ?_⟩)
      conv => whnf
      refine ⟨by rw [i64_id (by omega) (by omega)]; omega, ?_⟩
      rw [and127 hb', shl7 h1 (by omega)]
      repeat ((conv => whnf); first | refine Br.t ?_ | refine Br.f ?_ | refine ⟨rfl, ?_⟩)
      conv => whnf
      refine Br.mk (fun h9 => ?_) (fun h9 => ?_)
      · simp at h9
        rw [if_pos (by omega)] at h4
        repeat ((conv => whnf); first | refine Br.t ?_ | refine Br.f ?_ | refine ⟨rfl, ?_⟩)
        conv => whnf
        refine Br.mk (fun h10 => ?_) (fun h10 => ?_)
        · simp at h10
          repeat ((conv => whnf); first | refine Br.t ?_ | refine Br.f ?_ | refine ⟨rfl, ?_⟩)
          conv => whnf
          refine Br.mk (fun h11 => ?_) (fun h11 => ?_)
          · simp at h11
            rw [if_pos ⟨by omega, by omega⟩] at h4
            repeat ((conv => whnf); first | refine Br.t ?_ | refine Br.f ?_ | refine ⟨rfl, ?_⟩)
            conv => whnf
            refine fin (target := []) rfl (Nat.zero_le _) (by simp) ?_ rfl
            rw [← h4]; rfl
          · simp at h11
            rw [if_neg (by omega)] at h4
            repeat ((conv => whnf); first | refine Br.t ?_ | refine Br.f ?_ | refine ⟨rfl, ?_⟩)
            conv => whnf
            refine fin (target := []) rfl (Nat.zero_le _) (by simp) ?_ rfl
            rw [← h4, retV h1 h3 (by omega) hn, i64_id (by omega) (by omega)]
            rfl
        · simp at h10
          rw [if_neg (by omega)] at h4
          repeat ((conv => whnf); first | refine Br.t ?_ | refine Br.f ?_ | refine ⟨rfl, ?_⟩)
          conv => whnf
          refine fin (target := []) rfl (Nat.zero_le _) (by simp) ?_ rfl
          rw [← h4, retV h1 h3 (by omega) hn, i64_id (by omega) (by omega)]
          rfl
      · simp at h9
        rw [if_neg (by omega)] at h4
        repeat ((conv => whnf); first | refine Br.t ?_ | refine Br.f ?_ | refine ⟨rfl, ?_⟩)
        conv => whnf
        rw [orAdd h1 h3 (show b % 128 < 128 by omega)]
        refine ⟨(i + 1, acc + b % 128 * 128 ^ i), ⟨by simp only; omega, by simp only; omega, stepV h3, h4⟩, by simp only; omega, Le.slots ?_⟩
        simp [leS, mkS]
        exact i64_id (by omega) (by omega)
end Go.Proofs.Ytdbmfnhbgacldaa.Am

/- Contracts: whole numbers read, the document's. -/
namespace Go.Proofs.Ytdbmfnhbgacldaa.Am
set_option autoImplicit false
set_option linter.unusedVariables false
set_option linter.unusedSimpArgs false
set_option maxRecDepth 10000
set_option pp.deepTerms false
set_option pp.deepTerms.threshold 6
set_option pp.proofs false
theorem refAcc {i acc b : Nat} (h1 : i ≤ 4) (h3 : acc < 128 ^ i) : IntKind.i64.wrap ((acc : Int) + IntKind.i64.wrap (((128 ^ i : Nat) : Int) * IntKind.i64.wrap ((b : Int).tmod 128))) = ((acc + b % 128 * 128 ^ i : Nat) : Int) := by
  have hle : 128 ^ i ≤ 268435456 := Nat.le_trans (Nat.pow_le_pow_right (n := 128) (by decide) h1) (by decide)
  have hmul : b % 128 * 128 ^ i ≤ 127 * 268435456 := Nat.mul_le_mul (by omega) hle
  rw [Int.tmod_eq_emod_of_nonneg (by omega), show (b : Int) % 128 = ((b % 128 : Nat) : Int) by omega, i64_id (n := ((b % 128 : Nat) : Int)) (by omega) (by omega),
    show ((128 ^ i : Nat) : Int) * ((b % 128 : Nat) : Int) = ((b % 128 * 128 ^ i : Nat) : Int) by rw [Nat.mul_comm]; rfl, i64_id (n := ((b % 128 * 128 ^ i : Nat) : Int)) (by omega) (by omega), i64_id (by omega) (by omega)]
  rfl
theorem refBase {i : Nat} (h1 : i ≤ 4) : IntKind.i64.wrap (((128 ^ i : Nat) : Int) * 128) = ((128 ^ (i + 1) : Nat) : Int) := by
  have hle : 128 ^ i ≤ 268435456 := Nat.le_trans (Nat.pow_le_pow_right (n := 128) (by decide) h1) (by decide)
  rw [Nat.pow_succ]
  generalize 128 ^ i = k at hle
  rw [i64_id (by omega) (by omega)]
  rfl
theorem get52 (bs : List Nat) (hl : bs.length ≤ 1000000) (hb : ∀ b ∈ bs, b < 256) : CallW Try.prog G0 52 [.i (.sl (bs.map by8))] [] (fun r st' => r = tupV .i64 (getV 0 0 bs) ∧ st' = []) := by
  refine call_of_bodyF 0 (Nat.le_refl _) Try.func52 rfl (fun a w => Try.call52 a w) (wpx_ok (own := own0) _ _ _ ?_)
  repeat ((conv => whnf); first | refine Br.t ?_ | refine Br.f ?_ | refine ⟨rfl, ?_⟩)
  conv => whnf
  refine loop_ok (α := Nat × Nat) (fun x => ⟨mkS 52 [(0, .i (.sl (bs.map by8))), (5, .i (.int .i64 x.2)), (6, .i (.int .i64 (128 ^ x.1 : Nat))), (7, .i (.int .i64 x.1))], []⟩)
    (fun x => x.1 ≤ 4 ∧ x.1 ≤ bs.length ∧ x.2 < 128 ^ x.1 ∧ getV x.1 x.2 (bs.drop x.1) = getV 0 0 bs) (fun x => 5 - x.1) (0, 0) ⟨by decide, Nat.zero_le _, by decide, rfl⟩
    (Le.slots (by simp [leS, mkS])) (fun x hx => wpx_ok (own := own0) _ _ _ ?_)
  obtain ⟨i, acc⟩ := x
  obtain ⟨h1, h2, h3, h4⟩ := hx
  simp only at h1 h2 h3 h4
  dsimp only
  have hle : 128 ^ i ≤ 268435456 := Nat.le_trans (Nat.pow_le_pow_right (n := 128) (by decide) h1) (by decide)
  repeat ((conv => whnf); first | refine Br.t ?_ | refine Br.f ?_ | refine ⟨rfl, ?_⟩)
  conv => whnf
  refine Br.mk (fun h6 => ?_) (fun h6 => ?_)
  · simp at h6
    obtain ⟨b, hbi⟩ : ∃ b, b = bs[i] := ⟨_, rfl⟩
    have e : (bs.map by8).getD (i : Int).toNat [] = by8 b := by rw [hbi]; exact getD_enc h6
    have ed : bs.drop i = b :: bs.drop (i + 1) := by rw [hbi]; exact List.drop_eq_getElem_cons h6
    have hb' : b < 256 := hb b (hbi ▸ List.getElem_mem h6)
    have hmul : b % 128 * 128 ^ i ≤ 127 * 268435456 := Nat.mul_le_mul (by omega) hle
    rw [ed, getV] at h4
    repeat ((conv => whnf); first | refine Br.t ?_ | refine Br.f ?_ | refine ⟨rfl, ?_⟩)
    conv => whnf
    refine Br.mk (fun h7 => ?_) (fun h7 => ?_)
    · simp at h7
      repeat ((conv => whnf); first | refine Br.t ?_ | refine Br.f ?_ | refine ⟨rfl, ?_⟩)
      conv => whnf
      rw [e]
      refine ⟨⟨by omega, by simp; omega, rfl⟩, ?_⟩
      repeat ((conv => whnf); first | refine Br.t ?_ | refine Br.f ?_ | refine ⟨rfl, ?_⟩)
      conv => whnf
      refine Br.mk (fun h8 => ?_) (fun h8 => ?_)
      · simp at h8
        rw [if_pos ⟨by omega, by omega⟩] at h4
        repeat ((conv => whnf); first | refine Br.t ?_ | refine Br.f ?_ | refine ⟨rfl, ?_⟩)
        conv => whnf
        refine fin (target := []) rfl (Nat.zero_le _) (by simp) ?_ rfl
        rw [← h4]; rfl
      · simp at h8
        have hn : ¬ (i = 4 ∧ 15 < b) := by omega
        rw [if_neg hn] at h4
        repeat ((conv => whnf); first | refine Br.t ?_ | refine Br.f ?_ | refine ⟨rfl, ?_⟩)
        conv => whnf
        rw [e]
        refine ⟨⟨by omega, by simp; omega, rfl⟩, ?_⟩
        repeat ((conv => whnf); first | refine Br.t ?_ | refine Br.f ?_ | refine ⟨rfl, ?_⟩)
        conv => whnf
        refine ⟨by decide, ?_⟩
        repeat ((conv => whnf); first | refine Br.t ?_ | refine Br.f ?_ | refine ⟨rfl, ?_⟩)
        conv => whnf
        rw [e]
        refine ⟨⟨by omega, by simp; omega, rfl⟩, ?_⟩
        repeat ((conv => whnf); first | refine Br.t ?_ | refine Br.f ?_ | refine ⟨rfl, ?_⟩)
        conv => whnf
        refine Br.mk (fun h9 => ?_) (fun h9 => ?_)
        · simp at h9
          rw [if_pos (by omega)] at h4
          repeat ((conv => whnf); first | refine Br.t ?_ | refine Br.f ?_ | refine ⟨rfl, ?_⟩)
          conv => whnf
          refine Br.mk (fun h10 => ?_) (fun h10 => ?_)
          · simp at h10
            repeat ((conv => whnf); first | refine Br.t ?_ | refine Br.f ?_ | refine ⟨rfl, ?_⟩)
            conv => whnf
            rw [e]
            refine ⟨⟨by omega, by simp; omega, rfl⟩, ?_⟩
            repeat ((conv => whnf); first | refine Br.t ?_ | refine Br.f ?_ | refine ⟨rfl, ?_⟩)
            conv => whnf
            refine Br.mk (fun h11 => ?_) (fun h11 => ?_)
            · simp at h11
              rw [if_pos ⟨by omega, by omega⟩] at h4
              repeat ((conv => whnf); first | refine Br.t ?_ | refine Br.f ?_ | refine ⟨rfl, ?_⟩)
              conv => whnf
              refine fin (target := []) rfl (Nat.zero_le _) (by simp) ?_ rfl
              rw [← h4]; rfl
            · simp at h11
              rw [if_neg (by omega)] at h4
              repeat ((conv => whnf); first | refine Br.t ?_ | refine Br.f ?_ | refine ⟨rfl, ?_⟩)
              conv => whnf
              refine fin (target := []) rfl (Nat.zero_le _) (by simp) ?_ rfl
              rw [← h4, refAcc h1 h3, i64_id (by omega) (by omega), Nat.mod_eq_of_lt (show b < 128 by omega)]
              rfl
          · simp at h10
            rw [if_neg (by omega)] at h4
            repeat ((conv => whnf); first | refine Br.t ?_ | refine Br.f ?_ | refine ⟨rfl, ?_⟩)
            conv => whnf
            refine fin (target := []) rfl (Nat.zero_le _) (by simp) ?_ rfl
            rw [← h4, refAcc h1 h3, i64_id (by omega) (by omega), Nat.mod_eq_of_lt (show b < 128 by omega)]
            rfl
        · simp at h9
          rw [if_neg (by omega)] at h4
          repeat ((conv => whnf); first | refine Br.t ?_ | refine Br.f ?_ | refine ⟨rfl, ?_⟩)
          conv => whnf
          rw [refAcc h1 h3, refBase h1]
          refine ⟨(i + 1, acc + b % 128 * 128 ^ i), ⟨by simp only; omega, by simp only; omega, stepV h3, h4⟩, by simp only; omega, Le.slots ?_⟩
          simp [leS, mkS]
          exact i64_id (by omega) (by omega)
    · simp at h7
      have hn : ¬ (i = 4 ∧ 15 < b) := by omega
      rw [if_neg hn] at h4
      repeat ((conv => whnf); first | refine Br.t ?_ | refine Br.f ?_ | refine ⟨rfl, ?_⟩)
      conv => whnf
      rw [e]
      refine ⟨⟨by omega, by simp; omega, rfl⟩, ?_⟩
      repeat ((conv => whnf); first | refine Br.t ?_ | refine Br.f ?_ | refine ⟨rfl, ?_⟩)
      conv => whnf
      refine ⟨by decide, ?_⟩
      repeat ((conv => whnf); first | refine Br.t ?_ | refine Br.f ?_ | refine ⟨rfl, ?_⟩)
      conv => whnf
      rw [e]
      refine ⟨⟨by omega, by simp; omega, rfl⟩, ?_⟩
      repeat ((conv => whnf); first | refine Br.t ?_ | refine Br.f ?_ | refine ⟨rfl, ?_⟩)
      conv => whnf
      refine Br.mk (fun h9 => ?_) (fun h9 => ?_)
      · simp at h9
        rw [if_pos (by omega)] at h4
        repeat ((conv => whnf); first | refine Br.t ?_ | refine Br.f ?_ | refine ⟨rfl, ?_⟩)
        conv => whnf
        refine Br.mk (fun h10 => ?_) (fun h10 => ?_)
        · simp at h10
          repeat ((conv => whnf); first | refine Br.t ?_ | refine Br.f ?_ | refine ⟨rfl, ?_⟩)
          conv => whnf
          rw [e]
          refine ⟨⟨by omega, by simp; omega, rfl⟩, ?_⟩
          repeat ((conv => whnf); first | refine Br.t ?_ | refine Br.f ?_ | refine ⟨rfl, ?_⟩)
          conv => whnf
          refine Br.mk (fun h11 => ?_) (fun h11 => ?_)
          · simp at h11
            rw [if_pos ⟨by omega, by omega⟩] at h4
            repeat ((conv => whnf); first | refine Br.t ?_ | refine Br.f ?_ | refine ⟨rfl, ?_⟩)
            conv => whnf
            refine fin (target := []) rfl (Nat.zero_le _) (by simp) ?_ rfl
            rw [← h4]; rfl
          · simp at h11
            rw [if_neg (by omega)] at h4
            repeat ((conv => whnf); first | refine Br.t ?_ | refine Br.f ?_ | refine ⟨rfl, ?_⟩)
            conv => whnf
            refine fin (target := []) rfl (Nat.zero_le _) (by simp) ?_ rfl
            rw [← h4, refAcc h1 h3, i64_id (by omega) (by omega), Nat.mod_eq_of_lt (show b < 128 by omega)]
            rfl
        · simp at h10
          rw [if_neg (by omega)] at h4
          repeat ((conv => whnf); first | refine Br.t ?_ | refine Br.f ?_ | refine ⟨rfl, ?_⟩)
          conv => whnf
          refine fin (target := []) rfl (Nat.zero_le _) (by simp) ?_ rfl
          rw [← h4, refAcc h1 h3, i64_id (by omega) (by omega), Nat.mod_eq_of_lt (show b < 128 by omega)]
          rfl
      · simp at h9
        rw [if_neg (by omega)] at h4
        repeat ((conv => whnf); first | refine Br.t ?_ | refine Br.f ?_ | refine ⟨rfl, ?_⟩)
        conv => whnf
        rw [refAcc h1 h3, refBase h1]
        refine ⟨(i + 1, acc + b % 128 * 128 ^ i), ⟨by simp only; omega, by simp only; omega, stepV h3, h4⟩, by simp only; omega, Le.slots ?_⟩
        simp [leS, mkS]
        exact i64_id (by omega) (by omega)
  · simp at h6
    have e : bs.drop i = [] := List.drop_eq_nil_of_le h6
    rw [e] at h4
    repeat ((conv => whnf); first | refine Br.t ?_ | refine Br.f ?_ | refine ⟨rfl, ?_⟩)
    conv => whnf
    refine fin (target := []) rfl (Nat.zero_le _) (by simp) ?_ rfl
    rw [← h4]; rfl
end Go.Proofs.Ytdbmfnhbgacldaa.Am

/- Contracts: the reader's numbers and blocks. -/
namespace Go.Proofs.Ytdbmfnhbgacldaa.Am
set_option autoImplicit false
set_option linter.unusedVariables false
set_option linter.unusedSimpArgs false
set_option maxRecDepth 10000
set_option pp.deepTerms false
set_option pp.deepTerms.threshold 6
set_option pp.proofs false
theorem getV_ok : ∀ (bs : List Nat) (i acc : Nat), i ≤ 4 → acc < 128 ^ i → (getV i acc bs).1 < 4294967296 ∧ (getV i acc bs).2.1 ≤ i + bs.length ∧ ((getV i acc bs).2.2 = 0 → i < (getV i acc bs).2.1)
  | [], i, acc, h1, h2 => by simp [getV]
  | b :: rest, i, acc, h1, h2 => by
    rw [getV]
    by_cases hc : i = 4 ∧ 15 < b
    · rw [if_pos hc]; simp
    · rw [if_neg hc]
      by_cases hb : b < 128
      · rw [if_pos hb]
        split
        · simp
        · refine ⟨?_, by simp, by simp⟩
          have := retV h1 h2 hb hc
          have : i = 0 ∨ i = 1 ∨ i = 2 ∨ i = 3 ∨ i = 4 := by omega
          rcases this with rfl | rfl | rfl | rfl | rfl <;> simp at h2 ⊢ <;> omega
      · rw [if_neg hb]
        obtain ⟨a1, a2, a3⟩ := getV_ok rest (i + 1) (acc + b % 128 * 128 ^ i) (by omega) (stepV h2)
        exact ⟨a1, by simp; omega, fun h => by have := a3 h; omega⟩
theorem bytes_one (bs : List Nat) : ∀ cs ∈ bs.map by8, cs.length = 1 := by
  intro cs h
  simp only [List.mem_map] at h
  obtain ⟨b, _, rfl⟩ := h
  rfl
theorem drop_all (bs : List Nat) (p : Nat) : (((bs.map by8).drop (p : Int).toNat).take ((((bs.map by8).length : Nat) : Int).toNat - (p : Int).toNat)) = (bs.drop p).map by8 := by
  rw [Int.toNat_natCast, Int.toNat_natCast, List.map_drop]
  exact List.take_of_length_le (by simp)
def Rd.num (s : Rd) (mx : Int) : Nat × Rd :=
  if s.why ≠ 0 then (0, s) else if (getV 0 0 (s.bs.drop s.p)).2.2 ≠ 0 then (0, s.fail (getV 0 0 (s.bs.drop s.p)).2.2) else if mx < ((getV 0 0 (s.bs.drop s.p)).1 : Int) then (0, s.fail 4) else ((getV 0 0 (s.bs.drop s.p)).1, { s with p := s.p + (getV 0 0 (s.bs.drop s.p)).2.1 })
theorem num37 (s : Rd) (hok : s.ok) (mx : Int) : CallW Try.prog G0 37 [.ptr 0 0 0 0, .i (.int .i64 mx)] [rdB s] (fun r st' => r = .i (.int .i64 (s.num mx).1) ∧ st' = [rdB (s.num mx).2]) := by
  refine call_of_bodyF 1 (Nat.le_refl _) Try.func37 rfl (fun a w => Try.call37 a w) (wpx_ok (own := own0) _ _ _ ?_)
  obtain ⟨k1, k2, k3⟩ := hok
  obtain ⟨g, hg⟩ : ∃ g, g = getV 0 0 (s.bs.drop s.p) := ⟨_, rfl⟩
  have hgo := getV_ok (s.bs.drop s.p) 0 0 (by decide) (by decide)
  have hc := get51 (s.bs.drop s.p) (by simp; omega) (fun b hb => k3 b (List.mem_of_mem_drop hb))
  rw [← hg] at hgo hc
  simp only [List.length_drop] at hgo
  have hnum : s.num mx = if s.why ≠ 0 then (0, s) else if g.2.2 ≠ 0 then (0, s.fail g.2.2) else if mx < (g.1 : Int) then (0, s.fail 4) else (g.1, { s with p := s.p + g.2.1 }) := by rw [hg]; rfl
  rw [hnum]
  obtain ⟨v, k, f⟩ := g
  simp only at hgo hc ⊢
  obtain ⟨g1, g2, g3⟩ := hgo
  have hc : CallW Try.prog G0 51 [.i (.sl ((s.bs.drop s.p).map by8))] [] (fun r st' => r = .tup [.i (.int .u32 v), .i (.int .i64 k), .i (.int .i64 f)] ∧ st' = []) := hc
  repeat ((conv => whnf); first | refine Br.t ?_ | refine Br.f ?_ | refine ⟨rfl, ?_⟩)
  conv => whnf
  refine Br.mk (fun h => ?_) (fun h => ?_)
  · simp at h
    rw [if_pos (by omega)]
    repeat ((conv => whnf); first | refine Br.t ?_ | refine Br.f ?_ | refine ⟨rfl, ?_⟩)
    conv => whnf
    refine fin (target := [rdB s]) rfl (Nat.le_refl _) (rdB_cl _) rfl rfl
  · simp at h
    rw [if_neg (by omega)]
    repeat ((conv => whnf); first | refine Br.t ?_ | refine Br.f ?_ | refine ⟨rfl, ?_⟩)
    conv => whnf
    refine draw_ok (own := own0) [] [] [(.tup [.i (.int .u32 v), .i (.int .i64 k), .i (.int .i64 f)], [rdB s])] rfl (by kernel_rfl) (Nat.le_refl _) ?_
    repeat ((conv => whnf); first | refine Br.t ?_ | refine Br.f ?_ | refine ⟨rfl, ?_⟩)
    conv => whnf
    refine ⟨⟨by omega, by simp; omega, Int.le_refl _, bytes_one _⟩, ?_⟩
    repeat ((conv => whnf); first | refine Br.t ?_ | refine Br.f ?_ | refine ⟨rfl, ?_⟩)
    conv => whnf
    rw [drop_all]
    refine ⟨hc.pure [rdB s] rfl rfl, ?_⟩
    repeat ((conv => whnf); first | refine Br.t ?_ | refine Br.f ?_ | refine ⟨rfl, ?_⟩)
    conv => whnf
    refine ⟨by repeat ((conv => whnf); first | exact trivial | refine ⟨rfl, ?_⟩), trivial, ?_⟩
    conv => whnf
    refine Br.mk (fun h1 => ?_) (fun h1 => ?_)
    · simp at h1
      rw [if_pos h1]
      repeat ((conv => whnf); first | refine Br.t ?_ | refine Br.f ?_ | refine ⟨rfl, ?_⟩)
      conv => whnf
      refine (fail49 s f).mono ?_
      rintro r st' ⟨rfl, rfl⟩
      repeat ((conv => whnf); first | refine Br.t ?_ | refine Br.f ?_ | refine ⟨rfl, ?_⟩)
      conv => whnf
      refine fin (target := [rdB (s.fail f)]) rfl (Nat.le_refl _) (rdB_cl _) rfl rfl
    · simp at h1
      subst h1
      rw [if_neg (by simp)]
      repeat ((conv => whnf); first | refine Br.t ?_ | refine Br.f ?_ | refine ⟨rfl, ?_⟩)
      conv => whnf
      have ev : IntKind.i64.wrap (v : Int) = v := i64_id (by omega) (by omega)
      refine Br.mk (fun h2 => ?_) (fun h2 => ?_)
      · rw [ev] at h2
        simp at h2
        rw [if_pos (by omega)]
        repeat ((conv => whnf); first | refine Br.t ?_ | refine Br.f ?_ | refine ⟨rfl, ?_⟩)
        conv => whnf
        refine (fail49 s 4).mono ?_
        rintro r st' ⟨rfl, rfl⟩
        repeat ((conv => whnf); first | refine Br.t ?_ | refine Br.f ?_ | refine ⟨rfl, ?_⟩)
        conv => whnf
        refine fin (target := [rdB (s.fail 4)]) rfl (Nat.le_refl _) (rdB_cl _) rfl rfl
      · rw [ev] at h2
        simp at h2
        rw [if_neg (by omega)]
        repeat ((conv => whnf); first | refine Br.t ?_ | refine Br.f ?_ | refine ⟨rfl, ?_⟩)
        conv => whnf
        have ew : IntKind.i64.wrap ((s.p : Int) + (k : Int)) = ((s.p + k : Nat) : Int) := by rw [i64_id (by omega) (by omega)]; rfl
        refine fin (target := [rdB { s with p := s.p + k }]) ?_ (Nat.le_refl _) (rdB_cl _) ?_ rfl
        · show [Ob.row 0 4 false [[.i (.sl (s.bs.map by8)), .i (.int .i64 (IntKind.i64.wrap ((s.p : Int) + (k : Int)))), .i (.int .i64 s.a), .i (.int .i64 s.why)]]] = _
          rw [ew]; rfl
        · rw [ev]
end Go.Proofs.Ytdbmfnhbgacldaa.Am

/- Contracts: the reader's blocks and its end; the document's reader. -/
namespace Go.Proofs.Ytdbmfnhbgacldaa.Am
set_option autoImplicit false
set_option linter.unusedVariables false
set_option linter.unusedSimpArgs false
set_option maxRecDepth 10000
set_option pp.deepTerms false
set_option pp.deepTerms.threshold 6
set_option pp.proofs false
theorem int0 (n : Nat) : ((n : Int) == 0) = (n == 0) := by
  rw [Bool.eq_iff_iff]
  simp
  try omega
theorem fail_ok {s : Rd} (h : s.ok) (c : Nat) : (s.fail c).ok := by
  unfold Rd.fail; split
  · exact h
  · exact h
theorem raw_ok {s : Rd} (h : s.ok) (n : Int) : (s.raw n).2.ok := by
  unfold Rd.raw
  split
  · exact h
  · split
    · exact fail_ok h _
    · split
      · exact fail_ok h _
      · rename_i h1 h2 h3
        have hl : s.left = s.bs.length - s.p := rfl
        exact ⟨h.1, by simp only; have := h.2.1; omega, h.2.2⟩
theorem num_ok {s : Rd} (h : s.ok) (mx : Int) : (s.num mx).2.ok := by
  unfold Rd.num
  split
  · exact h
  · split
    · exact fail_ok h _
    · split
      · exact fail_ok h _
      · obtain ⟨_, g2, _⟩ := getV_ok (s.bs.drop s.p) 0 0 (by decide) (by decide)
        simp only [List.length_drop] at g2
        exact ⟨h.1, by simp only; have := h.2.1; omega, h.2.2⟩
def Rd.block (s : Rd) (mx : Int) : List Nat × Rd := (s.num mx).2.raw (s.num mx).1
def Rd.done (s : Rd) : Rd := if s.why = 0 ∧ s.p < s.bs.length then s.fail 7 else s
theorem block36 (s : Rd) (hok : s.ok) (mx : Int) : CallW Try.prog G0 36 [.ptr 0 0 0 0, .i (.int .i64 mx)] [rdB s] (fun r st' => r = .i (.sl ((s.block mx).1.map by8)) ∧ st' = [rdB (s.block mx).2]) := by
  refine call_of_bodyF 1 (Nat.le_refl _) Try.func36 rfl (fun a w => Try.call36 a w) (wpx_ok (own := own0) _ _ _ ?_)
  repeat ((conv => whnf); first | refine Br.t ?_ | refine Br.f ?_ | refine ⟨rfl, ?_⟩)
  conv => whnf
  refine (num37 s hok mx).mono ?_
  rintro r st' ⟨rfl, rfl⟩
  repeat ((conv => whnf); first | refine Br.t ?_ | refine Br.f ?_ | refine ⟨rfl, ?_⟩)
  conv => whnf
  refine (raw34 (s.num mx).2 (num_ok hok mx) (s.num mx).1).mono ?_
  rintro r st' ⟨rfl, rfl⟩
  repeat ((conv => whnf); first | refine Br.t ?_ | refine Br.f ?_ | refine ⟨rfl, ?_⟩)
  conv => whnf
  refine fin (target := [rdB (s.block mx).2]) rfl (Nat.le_refl _) (rdB_cl _) rfl rfl
theorem done38 (s : Rd) (hok : s.ok) : CallW Try.prog G0 38 [.ptr 0 0 0 0] [rdB s] (fun r st' => r = .i (.bool (s.done.why == 0)) ∧ st' = [rdB s.done]) := by
  refine call_of_bodyF 1 (Nat.le_refl _) Try.func38 rfl (fun a w => Try.call38 a w) (wpx_ok (own := own0) _ _ _ ?_)
  repeat ((conv => whnf); first | refine Br.t ?_ | refine Br.f ?_ | refine ⟨rfl, ?_⟩)
  conv => whnf
  refine Br.mk (fun h => ?_) (fun h => ?_)
  · simp at h
    repeat ((conv => whnf); first | refine Br.t ?_ | refine Br.f ?_ | refine ⟨rfl, ?_⟩)
    conv => whnf
    refine (left50 s hok).mono ?_
    rintro r st' ⟨rfl, rfl⟩
    repeat ((conv => whnf); first | refine Br.t ?_ | refine Br.f ?_ | refine ⟨rfl, ?_⟩)
    conv => whnf
    refine Br.mk (fun h1 => ?_) (fun h1 => ?_)
    · simp only [decide_eq_true_eq] at h1
      have e : s.done = s.fail 7 := by unfold Rd.done; rw [if_pos ⟨h, by omega⟩]
      rw [e]
      repeat ((conv => whnf); first | refine Br.t ?_ | refine Br.f ?_ | refine ⟨rfl, ?_⟩)
      conv => whnf
      refine (fail49 s 7).mono ?_
      rintro r st' ⟨rfl, rfl⟩
      repeat ((conv => whnf); first | refine Br.t ?_ | refine Br.f ?_ | refine ⟨rfl, ?_⟩)
      conv => whnf
      refine fin (target := [rdB (s.fail 7)]) rfl (Nat.le_refl _) (rdB_cl _) ?_ rfl
      simp [Rd.fail, h]
    · simp only [decide_eq_false_iff_not] at h1
      have e : s.done = s := by unfold Rd.done; rw [if_neg (by omega)]
      rw [e]
      repeat ((conv => whnf); first | refine Br.t ?_ | refine Br.f ?_ | refine ⟨rfl, ?_⟩)
      conv => whnf
      refine fin (target := [rdB s]) rfl (Nat.le_refl _) (rdB_cl _) ?_ rfl
      simp [h]
  · simp at h
    have e : s.done = s := by unfold Rd.done; rw [if_neg (by omega)]
    rw [e]
    repeat ((conv => whnf); first | refine Br.t ?_ | refine Br.f ?_ | refine ⟨rfl, ?_⟩)
    conv => whnf
    refine fin (target := [rdB s]) rfl (Nat.le_refl _) (rdB_cl _) ?_ rfl
    rw [int0]
theorem fail42 (s : Rd) (c : Nat) : CallW Try.prog G0 42 [.ptr 0 0 0 0, .i (.int .i64 c)] [rdB s] (fun r st' => r = .tup [] ∧ st' = [rdB (s.fail c)]) := by
  refine call_of_bodyF 1 (Nat.le_refl _) Try.func42 rfl (fun a w => Try.call42 a w) (wpx_ok (own := own0) _ _ _ ?_)
  repeat ((conv => whnf); first | refine Br.t ?_ | refine Br.f ?_ | refine ⟨rfl, ?_⟩)
  conv => whnf
  refine Br.mk (fun h => ?_) (fun h => ?_)
  · simp at h
    repeat ((conv => whnf); first | refine Br.t ?_ | refine Br.f ?_ | refine ⟨rfl, ?_⟩)
    conv => whnf
    refine fin (target := [rdB (s.fail c)]) ?_ (Nat.le_refl _) (rdB_cl _) rfl rfl
    simp only [Rd.fail, h, if_true]
    rfl
  · simp at h
    repeat ((conv => whnf); first | refine Br.t ?_ | refine Br.f ?_ | refine ⟨rfl, ?_⟩)
    conv => whnf
    refine fin (target := [rdB (s.fail c)]) ?_ (Nat.le_refl _) (rdB_cl _) rfl rfl
    simp only [Rd.fail, h, if_false]
    rfl
theorem num41 (s : Rd) (hok : s.ok) (mx : Int) : CallW Try.prog G0 41 [.ptr 0 0 0 0, .i (.int .i64 mx)] [rdB s] (fun r st' => r = .i (.int .i64 (s.num mx).1) ∧ st' = [rdB (s.num mx).2]) := by
  refine call_of_bodyF 1 (Nat.le_refl _) Try.func41 rfl (fun a w => Try.call41 a w) (wpx_ok (own := own0) _ _ _ ?_)
  obtain ⟨k1, k2, k3⟩ := hok
  obtain ⟨g, hg⟩ : ∃ g, g = getV 0 0 (s.bs.drop s.p) := ⟨_, rfl⟩
  have hgo := getV_ok (s.bs.drop s.p) 0 0 (by decide) (by decide)
  have hc := get52 (s.bs.drop s.p) (by simp; omega) (fun b hb => k3 b (List.mem_of_mem_drop hb))
  rw [← hg] at hgo hc
  simp only [List.length_drop] at hgo
  have hnum : s.num mx = if s.why ≠ 0 then (0, s) else if g.2.2 ≠ 0 then (0, s.fail g.2.2) else if mx < (g.1 : Int) then (0, s.fail 4) else (g.1, { s with p := s.p + g.2.1 }) := by rw [hg]; rfl
  rw [hnum]
  obtain ⟨v, k, f⟩ := g
  simp only at hgo hc ⊢
  obtain ⟨g1, g2, g3⟩ := hgo
  have hc : CallW Try.prog G0 52 [.i (.sl ((s.bs.drop s.p).map by8))] [] (fun r st' => r = .tup [.i (.int .i64 v), .i (.int .i64 k), .i (.int .i64 f)] ∧ st' = []) := hc
  repeat ((conv => whnf); first | refine Br.t ?_ | refine Br.f ?_ | refine ⟨rfl, ?_⟩)
  conv => whnf
  refine Br.mk (fun h => ?_) (fun h => ?_)
  · simp at h
    rw [if_pos (by omega)]
    repeat ((conv => whnf); first | refine Br.t ?_ | refine Br.f ?_ | refine ⟨rfl, ?_⟩)
    conv => whnf
    refine fin (target := [rdB s]) rfl (Nat.le_refl _) (rdB_cl _) rfl rfl
  · simp at h
    rw [if_neg (by omega)]
    repeat ((conv => whnf); first | refine Br.t ?_ | refine Br.f ?_ | refine ⟨rfl, ?_⟩)
    conv => whnf
    refine draw_ok (own := own0) [] [] [(.tup [.i (.int .i64 v), .i (.int .i64 k), .i (.int .i64 f)], [rdB s])] rfl (by kernel_rfl) (Nat.le_refl _) ?_
    repeat ((conv => whnf); first | refine Br.t ?_ | refine Br.f ?_ | refine ⟨rfl, ?_⟩)
    conv => whnf
    refine ⟨⟨by omega, by simp; omega, Int.le_refl _, bytes_one _⟩, ?_⟩
    repeat ((conv => whnf); first | refine Br.t ?_ | refine Br.f ?_ | refine ⟨rfl, ?_⟩)
    conv => whnf
    rw [drop_all]
    refine ⟨hc.pure [rdB s] rfl rfl, ?_⟩
    repeat ((conv => whnf); first | refine Br.t ?_ | refine Br.f ?_ | refine ⟨rfl, ?_⟩)
    conv => whnf
    refine ⟨by repeat ((conv => whnf); first | exact trivial | refine ⟨rfl, ?_⟩), trivial, ?_⟩
    conv => whnf
    refine Br.mk (fun h1 => ?_) (fun h1 => ?_)
    · simp at h1
      rw [if_pos h1]
      repeat ((conv => whnf); first | refine Br.t ?_ | refine Br.f ?_ | refine ⟨rfl, ?_⟩)
      conv => whnf
      refine (fail42 s f).mono ?_
      rintro r st' ⟨rfl, rfl⟩
      repeat ((conv => whnf); first | refine Br.t ?_ | refine Br.f ?_ | refine ⟨rfl, ?_⟩)
      conv => whnf
      refine fin (target := [rdB (s.fail f)]) rfl (Nat.le_refl _) (rdB_cl _) rfl rfl
    · simp at h1
      subst h1
      rw [if_neg (by simp)]
      repeat ((conv => whnf); first | refine Br.t ?_ | refine Br.f ?_ | refine ⟨rfl, ?_⟩)
      conv => whnf
      refine Br.mk (fun h2 => ?_) (fun h2 => ?_)
      · simp at h2
        rw [if_pos (by omega)]
        repeat ((conv => whnf); first | refine Br.t ?_ | refine Br.f ?_ | refine ⟨rfl, ?_⟩)
        conv => whnf
        refine (fail42 s 4).mono ?_
        rintro r st' ⟨rfl, rfl⟩
        repeat ((conv => whnf); first | refine Br.t ?_ | refine Br.f ?_ | refine ⟨rfl, ?_⟩)
        conv => whnf
        refine fin (target := [rdB (s.fail 4)]) rfl (Nat.le_refl _) (rdB_cl _) rfl rfl
      · simp at h2
        rw [if_neg (by omega)]
        repeat ((conv => whnf); first | refine Br.t ?_ | refine Br.f ?_ | refine ⟨rfl, ?_⟩)
        conv => whnf
        have ew : IntKind.i64.wrap ((s.p : Int) + (k : Int)) = ((s.p + k : Nat) : Int) := by rw [i64_id (by omega) (by omega)]; rfl
        refine fin (target := [rdB { s with p := s.p + k }]) ?_ (Nat.le_refl _) (rdB_cl _) rfl rfl
        show [Ob.row 0 4 false [[.i (.sl (s.bs.map by8)), .i (.int .i64 (IntKind.i64.wrap ((s.p : Int) + (k : Int)))), .i (.int .i64 s.a), .i (.int .i64 s.why)]]] = _
        rw [ew]; rfl
end Go.Proofs.Ytdbmfnhbgacldaa.Am

/- Contracts: the document's reader takes bytes. -/
namespace Go.Proofs.Ytdbmfnhbgacldaa.Am
set_option autoImplicit false
set_option linter.unusedVariables false
set_option linter.unusedSimpArgs false
set_option maxRecDepth 10000
set_option pp.deepTerms false
set_option pp.deepTerms.threshold 6
set_option pp.proofs false
def cut (s : Rd) (i : Nat) : List (List I) := ((s.bs.drop s.p).take i).map by8
theorem raw40 (s : Rd) (hok : s.ok) (n : Int) (hn0 : n ≤ 9223372036854775807) : CallW Try.prog G0 40 [.ptr 0 0 0 0, .i (.int .i64 n)] [rdB s] (fun r st' => r = .i (.sl ((s.raw n).1.map by8)) ∧ st' = [rdB (s.raw n).2]) := by
  refine call_of_bodyF 1 (Nat.le_refl _) Try.func40 rfl (fun a w => Try.call40 a w) (wpx_ok (own := own0) _ _ _ ?_)
  obtain ⟨k1, k2, k3⟩ := hok
  have eleft : IntKind.i64.wrap (((s.bs.map by8).length : Nat) - (s.p : Int)) = (s.left : Int) := by
    have hl : s.left = s.bs.length - s.p := rfl
    rw [List.length_map, i64_id (by omega) (by omega)]; omega
  repeat ((conv => whnf); first | refine Br.t ?_ | refine Br.f ?_ | refine ⟨rfl, ?_⟩)
  conv => whnf
  refine Br.mk (fun h => ?_) (fun h => ?_)
  · simp at h
    have e : s.raw n = ([], s) := by simp [Rd.raw, h]
    rw [e]
    repeat ((conv => whnf); first | refine Br.t ?_ | refine Br.f ?_ | refine ⟨rfl, ?_⟩)
    conv => whnf
    refine fin (target := [rdB s]) rfl (Nat.le_refl _) (rdB_cl _) rfl rfl
  · simp at h
    repeat ((conv => whnf); first | refine Br.t ?_ | refine Br.f ?_ | refine ⟨rfl, ?_⟩)
    conv => whnf
    refine Br.mk (fun h1 => ?_) (fun h1 => ?_)
    · simp at h1
      have e : s.raw n = ([], s.fail 1) := by simp [Rd.raw, h, h1]
      rw [e]
      repeat ((conv => whnf); first | refine Br.t ?_ | refine Br.f ?_ | refine ⟨rfl, ?_⟩)
      conv => whnf
      refine (fail42 s 1).mono ?_
      rintro r st' ⟨rfl, rfl⟩
      repeat ((conv => whnf); first | refine Br.t ?_ | refine Br.f ?_ | refine ⟨rfl, ?_⟩)
      conv => whnf
      refine fin (target := [rdB (s.fail 1)]) rfl (Nat.le_refl _) (rdB_cl _) rfl rfl
    · simp at h1
      repeat ((conv => whnf); first | refine Br.t ?_ | refine Br.f ?_ | refine ⟨rfl, ?_⟩)
      conv => whnf
      refine draw_ok (own := own0) [] [] [] rfl (by kernel_rfl) (Nat.le_refl _) ?_
      repeat ((conv => whnf); first | refine Br.t ?_ | refine Br.f ?_ | refine ⟨rfl, ?_⟩)
      conv => whnf
      refine ⟨by repeat ((conv => whnf); first | exact trivial | refine ⟨rfl, ?_⟩), trivial, ?_⟩
      conv => whnf
      rw [eleft]
      have hl : s.left = s.bs.length - s.p := rfl
      refine Br.mk (fun h2 => ?_) (fun h2 => ?_)
      · simp only [decide_eq_true_eq] at h2
        have e : s.raw n = ([], s.fail 2) := by simp only [Rd.raw]; rw [if_neg (by omega), if_neg (by omega), if_pos (by omega)]
        rw [e]
        repeat ((conv => whnf); first | refine Br.t ?_ | refine Br.f ?_ | refine ⟨rfl, ?_⟩)
        conv => whnf
        refine (fail42 s 2).mono ?_
        rintro r st' ⟨rfl, rfl⟩
        repeat ((conv => whnf); first | refine Br.t ?_ | refine Br.f ?_ | refine ⟨rfl, ?_⟩)
        conv => whnf
        refine fin (target := [rdB (s.fail 2)]) rfl (Nat.le_refl _) (rdB_cl _) rfl rfl
      · simp only [decide_eq_false_iff_not] at h2
        have e : s.raw n = ((s.bs.drop s.p).take n.toNat, { s with p := s.p + n.toNat }) := by simp only [Rd.raw]; rw [if_neg (by omega), if_neg (by omega), if_neg (by omega)]
        rw [e]
        obtain ⟨n, rfl⟩ := Int.eq_ofNat_of_zero_le h1
        repeat ((conv => whnf); first | refine Br.t ?_ | refine Br.f ?_ | refine ⟨rfl, ?_⟩)
        conv => whnf
        refine loop_ok (α := Nat) (fun i => ⟨mkS 60 [(0, .ptr 0 0 0 0), (1, .i (.int .i64 n)), (5, .ref 1 1 0 i), (6, .i (.int .i64 i))], [rdB s, .row 1 1 false (lift (cut s i))]⟩) (fun i => i ≤ n) (fun i => n - i) 0 (Nat.zero_le _)
          ((Le.nil (n := 1) 5 1 rfl).trans (Le.slots (by simp [leS, mkS]))) (fun i hi => wpx_ok (own := own0) _ _ _ ?_)
        repeat ((conv => whnf); first | refine Br.t ?_ | refine Br.f ?_ | refine ⟨rfl, ?_⟩)
        conv => whnf
        refine Br.mk (fun h3 => ?_) (fun h3 => ?_)
        · simp at h3
          have hip : s.p + i < s.bs.length := by omega
          have ew : IntKind.i64.wrap ((s.p : Int) + (i : Int)) = ((s.p + i : Nat) : Int) := by rw [i64_id (by omega) (by omega)]; rfl
          have ee : (s.bs.map by8).getD (((s.p + i : Nat) : Int)).toNat [] = by8 (s.bs[s.p + i]'hip) := getD_enc hip
          have ec : cut s (i + 1) = cut s i ++ [by8 (s.bs[s.p + i]'hip)] := by
            unfold cut
            rw [show (s.bs.drop s.p).take (i + 1) = (s.bs.drop s.p).take i ++ [s.bs[s.p + i]'hip] by
              rw [List.take_add_one]; simp [hip]]
            simp
          have el : (cut s i).length = i := by simp [cut]; omega
          repeat ((conv => whnf); first | refine Br.t ?_ | refine Br.f ?_ | refine ⟨rfl, ?_⟩)
          conv => whnf
          refine draw_ok (own := own0) [14] [] [] rfl (by kernel_rfl) (Nat.le_succ _) ?_
          repeat ((conv => whnf); first | refine Br.t ?_ | refine Br.f ?_ | refine ⟨rfl, ?_⟩)
          conv => whnf
          rw [ew, ee]
          refine ⟨⟨by omega, by simp; omega, rfl⟩, ?_⟩
          repeat ((conv => whnf); first | refine Br.t ?_ | refine Br.f ?_ | refine ⟨rfl, ?_⟩)
          conv => whnf
          refine ⟨ap1 rfl 1 rfl (by simp [lift, el]) (by omega) (len_mx (by omega)), ?_⟩
          repeat ((conv => whnf); first | refine Br.t ?_ | refine Br.f ?_ | refine ⟨rfl, ?_⟩)
          conv => whnf
          refine ⟨by repeat ((conv => whnf); first | exact trivial | refine ⟨rfl, ?_⟩), trivial, ?_⟩
          conv => whnf
          refine ⟨i + 1, by omega, by omega, Le.down (fun id => if id = 1 then 1 else 0) ?_ ?_ ?_⟩
          · intro id hid
            have : id = 0 := Nat.lt_one_iff.1 hid
            subst this; rfl
          · simp [leS, mkS, V.up, lift]
            exact i64_id (by omega) (by omega)
          · simp only [upSt, Ob.up, map_up_lift]
            rw [ec, lift_app]
            rfl
        · simp at h3
          have hin : i = n := by omega
          subst hin
          repeat ((conv => whnf); first | refine Br.t ?_ | refine Br.f ?_ | refine ⟨rfl, ?_⟩)
          conv => whnf
          refine ⟨Nat.le_refl _, rfl, cut s i, rfl, ?_⟩
          have ew : IntKind.i64.wrap ((s.p : Int) + (i : Int)) = ((s.p + i : Nat) : Int) := by rw [i64_id (by omega) (by omega)]; rfl
          refine fin (target := [rdB { s with p := s.p + (i : Int).toNat }]) ?_ (by simp) (rdB_cl _) ?_ rfl
          · show [Ob.row 0 4 false [[.i (.sl (s.bs.map by8)), .i (.int .i64 (IntKind.i64.wrap ((s.p : Int) + (i : Int)))), .i (.int .i64 s.a), .i (.int .i64 s.why)]]] = _
            rw [ew]; rfl
          · rw [List.drop_zero, List.take_of_length_le (by simp [cut]; omega)]
            rfl
end Go.Proofs.Ytdbmfnhbgacldaa.Am

/- Contracts: a script read. -/
namespace Go.Proofs.Ytdbmfnhbgacldaa.Am
set_option autoImplicit false
set_option linter.unusedVariables false
set_option linter.unusedSimpArgs false
set_option maxRecDepth 10000
set_option pp.deepTerms false
set_option pp.deepTerms.threshold 6
set_option pp.proofs false
theorem apG {sz by_ len esl : Nat} {es : List (List I)} (hes : ∀ cs ∈ es, cs.length = sz) (b : Nat) (hb : by_ = b) (h1 : len = esl) (h2 : (len + es.length) * b ≤ 140737488355328) (h3 : len + es.length ≤ Go.maxLen) :
    (∀ cs ∈ es, cs.length = sz) ∧ len = esl ∧ (len + (lift es).length) * by_ ≤ 140737488355328 ∧ len + (lift es).length ≤ Go.maxLen := by
  subst hb
  have : (lift es).length = es.length := by simp [lift]
  rw [this]
  exact ⟨hes, h1, h2, h3⟩
def dec (b : Nat) : Int × Bool := ((b % 8 : Nat), decide (8 ≤ b))
def badAt : Nat → List Nat → Option Nat
  | _, [] => none
  | i, b :: r => if 16 ≤ b then some i else badAt (i + 1) r
def getS (bs : List Nat) : List (Int × Bool) × Nat × Nat := if 4096 < bs.length then ([], 0, 4) else match badAt 0 bs with | some i => ([], i, 3) | none => (bs.map dec, 0, 0)
theorem get39 (bs : List Nat) (hl : bs.length ≤ 1000000) (hb : ∀ b ∈ bs, b < 256) : CallW Try.prog G0 39 [.i (.sl (bs.map by8))] []
    (fun r st' => r = .tup [.i (.sl ((getS bs).1.map encP)), .agg [.i (.int .i64 (getS bs).2.1), .i (.int .i64 (getS bs).2.2)]] ∧ st' = []) := by
  refine call_of_bodyF 0 (Nat.le_refl _) Try.func39 rfl (fun a w => Try.call39 a w) (wpx_ok (own := own0) _ _ _ ?_)
  repeat ((conv => whnf); first | refine Br.t ?_ | refine Br.f ?_ | refine ⟨rfl, ?_⟩)
  conv => whnf
  refine Br.mk (fun h => ?_) (fun h => ?_)
  · simp at h
    have e : getS bs = ([], 0, 4) := by unfold getS; rw [if_pos (by omega)]
    rw [e]
    repeat ((conv => whnf); first | refine Br.t ?_ | refine Br.f ?_ | refine ⟨rfl, ?_⟩)
    conv => whnf
    refine fin (target := []) rfl (Nat.zero_le _) (by simp) rfl rfl
  · simp at h
    have e0 : getS bs = match badAt 0 bs with | some i => ([], i, 3) | none => (bs.map dec, 0, 0) := by unfold getS; rw [if_neg (by omega)]
    repeat ((conv => whnf); first | refine Br.t ?_ | refine Br.f ?_ | refine ⟨rfl, ?_⟩)
    conv => whnf
    refine loop_ok (α := Nat) (fun i => ⟨mkS 34 [(3, .ptr 0 0 0 0), (4, .ref 1 1 0 i), (11, .i (.sl (bs.map by8))), (12, .i (.int .i64 (bs.map by8).length)), (13, .i (.int .i64 i))], [.row 0 2 false [[.i (.int .i64 0), .i (.int .i64 0)]], .row 1 2 false (lift ((bs.take i).map fun b => encP (dec b)))]⟩)
      (fun i => i ≤ bs.length ∧ badAt 0 bs = badAt i (bs.drop i)) (fun i => bs.length - i) 0 ⟨Nat.zero_le _, rfl⟩
      ((Le.nil (n := 0) 4 2 rfl).trans (Le.slots (by simp [leS, mkS]))) (fun i hi => wpx_ok (own := own0) _ _ _ ?_)
    obtain ⟨h1, h2⟩ := hi
    repeat ((conv => whnf); first | refine Br.t ?_ | refine Br.f ?_ | refine ⟨rfl, ?_⟩)
    conv => whnf
    refine Br.mk (fun h3 => ?_) (fun h3 => ?_)
    · simp at h3
      obtain ⟨b, hbi⟩ : ∃ b, b = bs[i] := ⟨_, rfl⟩
      have e : (bs.map by8).getD (i : Int).toNat [] = by8 b := by rw [hbi]; exact getD_enc h3
      have ed : bs.drop i = b :: bs.drop (i + 1) := by rw [hbi]; exact List.drop_eq_getElem_cons h3
      have et : bs.take (i + 1) = bs.take i ++ [b] := by rw [hbi]; simp
      have hb' : b < 256 := hb b (hbi ▸ List.getElem_mem h3)
      rw [ed, badAt] at h2
      repeat ((conv => whnf); first | refine Br.t ?_ | refine Br.f ?_ | refine ⟨rfl, ?_⟩)
      conv => whnf
      rw [e]
      refine ⟨⟨by omega, by simp; omega, rfl⟩, ?_⟩
      repeat ((conv => whnf); first | refine Br.t ?_ | refine Br.f ?_ | refine ⟨rfl, ?_⟩)
      conv => whnf
      refine Br.mk (fun h4 => ?_) (fun h4 => ?_)
      · simp at h4
        rw [if_pos (by omega)] at h2
        rw [h2] at e0
        rw [e0]
        repeat ((conv => whnf); first | refine Br.t ?_ | refine Br.f ?_ | refine ⟨rfl, ?_⟩)
        conv => whnf
        refine fin (target := []) rfl (Nat.zero_le _) (by simp) rfl rfl
      · simp at h4
        rw [if_neg (by omega)] at h2
        repeat ((conv => whnf); first | refine Br.t ?_ | refine Br.f ?_ | refine ⟨rfl, ?_⟩)
        conv => whnf
        refine ⟨by decide, ?_⟩
        repeat ((conv => whnf); first | refine Br.t ?_ | refine Br.f ?_ | refine ⟨rfl, ?_⟩)
        conv => whnf
        refine ⟨apG (es := [[.int .i64 (IntKind.i64.wrap ((b : Int).tmod 8)), .bool (decide ((b : Int) ≥ 8))]]) (by intro cs hcs; simp at hcs; subst hcs; rfl) 16 rfl (by simp [lift]; omega) (by simp; omega) (len_mx (by simp; omega)), ?_⟩
        repeat ((conv => whnf); first | refine Br.t ?_ | refine Br.f ?_ | refine ⟨rfl, ?_⟩)
        conv => whnf
        refine ⟨i + 1, ⟨by omega, h2⟩, by omega, Le.down (fun id => if id = 1 then 1 else 0) (by intro id hid; simp at hid) ?_ ?_⟩
        · simp [leS, mkS, V.up, lift]
          exact i64_id (by omega) (by omega)
        · simp only [upSt, Ob.up, map_up_lift]
          rw [et, List.map_append, lift_app]
          have e9 : [[I.int .i64 (IntKind.i64.wrap ((b : Int).tmod 8)), .bool (decide ((b : Int) ≥ 8))]] = [b].map fun b => encP (dec b) := by
            have x1 : IntKind.i64.wrap ((b : Int).tmod 8) = ((b % 8 : Nat) : Int) := by
              rw [Int.tmod_eq_emod_of_nonneg (by omega), i64_id (by omega) (by omega)]; omega
            rw [x1]
            simp [encP, dec]
            omega
          rw [← e9]
          rfl
    · simp at h3
      have hin : i = bs.length := by omega
      subst hin
      rw [List.drop_length, badAt] at h2
      rw [h2] at e0
      rw [e0]
      repeat ((conv => whnf); first | refine Br.t ?_ | refine Br.f ?_ | refine ⟨rfl, ?_⟩)
      conv => whnf
      refine ⟨Nat.zero_le _, rfl, (bs.take bs.length).map fun b => encP (dec b), rfl, ?_⟩
      conv => whnf
      refine fin (target := []) rfl (Nat.zero_le _) (by simp) ?_ rfl
      rw [List.take_length, List.drop_zero, List.take_of_length_le (by simp)]
      simp
end Go.Proofs.Ytdbmfnhbgacldaa.Am

/- Contracts: a reader somewhere in a greater store. -/
namespace Go.Proofs.Ytdbmfnhbgacldaa.Am
set_option autoImplicit false
set_option linter.unusedVariables false
set_option linter.unusedSimpArgs false
set_option maxRecDepth 10000
theorem rdB_ren (f : Nat → Nat) (s : Rd) : (rdB s).ren f = rdB s := rfl
theorem atR {f : FuncId} {args : List V} {v : V} {s s' : Rd} (pre post : List Ob) (h : CallW Try.prog G0 f args [rdB s] (fun r st' => r = v ∧ st' = [rdB s'])) (ha : V.cl.clAll 1 args = true) (hv : V.cl 0 v = true) :
    CallW Try.prog G0 f (V.ren.renAll (fm [pre.length] (pre ++ rdB s :: post).length) args) (pre ++ rdB s :: post) (fun r st' => r = v ∧ st' = pre ++ rdB s' :: post) := by
  refine (CallW.rise (bargs := V.ren.renAll (fm [pre.length] (pre ++ rdB s :: post).length) args) (big := pre ++ rdB s :: post) [pre.length] [] h rfl (by simp) (by simp) ?_ (rdB_cl s) (by simp) (renAll_len _ _) (args_ren ha) (.inl rfl)).mono ?_
  · simp only [List.map_cons, List.map_nil, rdB_ren]
    simp [List.getD_eq_getElem?_getD]
  · rintro r st' ⟨r0, s0, ⟨rfl, rfl⟩, rfl, rfl⟩
    refine ⟨ren_cl0 _ _ hv, ?_⟩
    simp only [List.map_cons, List.map_nil, rdB_ren, putAll]
    simp
/-- a contract that makes rows of its own -/
theorem CallW.fresh {f : FuncId} {args : List V} {v : V} {rows : List Ob} (big : List Ob) (h : CallW Try.prog G0 f args [] (fun r st' => r = v ∧ st' = rows)) (ha : V.cl.clAll 0 args = true) :
    CallW Try.prog G0 f args big (fun r st' => r = v.ren (fun i => big.length + i) ∧ st' = big ++ rows.map (Ob.ren fun i => big.length + i)) := by
  have := h.under big (by simp) ha
  rw [renAll_cl0 _ _ ha] at this
  simp only [List.map_nil, List.append_nil] at this
  refine this.mono ?_
  rintro r st' ⟨r0, s0, ⟨rfl, rfl⟩, _, rfl, rfl⟩
  exact ⟨rfl, rfl⟩
end Go.Proofs.Ytdbmfnhbgacldaa.Am

/- Contracts: a witness read. -/
namespace Go.Proofs.Ytdbmfnhbgacldaa.Am
set_option autoImplicit false
set_option linter.unusedVariables false
set_option linter.unusedSimpArgs false
set_option maxRecDepth 10000
set_option pp.deepTerms false
set_option pp.deepTerms.threshold 6
set_option pp.proofs false
def strOf (m : List Nat) : ByteArray := ⟨((lift (m.map by8)).map byteOf).toArray⟩
def alw1 : ByteArray := ⟨#[97, 108, 119, 49]⟩
structure Wt where
  xs : List (Int × Bool)
  a : Int
  b : Int
  c : Int
def Wt.zero : Wt := ⟨[], 0, 0, 0⟩
def tailW (bs : List Nat) (s1 : Rd) : Wt × Nat × Int :=
  let r2 := s1.block 4096
  let r3 := r2.2.num 7
  let r4 := r3.2.num 7
  let r5 := r4.2.num 15
  if r5.2.done.why ≠ 0 then (Wt.zero, r5.2.done.a, r5.2.done.why) else
  if (getS r2.1).2.2 ≠ 0 then (Wt.zero, bs.length, (getS r2.1).2.2) else
  if codeW (getS r2.1).1 r3.1 r4.1 r5.1 ≠ 0 then (Wt.zero, bs.length, codeW (getS r2.1).1 r3.1 r4.1 r5.1) else (⟨(getS r2.1).1, r3.1, r4.1, r5.1⟩, 0, 0)
def readW (bs : List Nat) : Wt × Nat × Int :=
  let r1 := Rd.raw ⟨bs, 0, 0, 0⟩ 4
  if r1.2.why = 0 ∧ strOf r1.1 ≠ alw1 then (Wt.zero, 0, 3) else tailW bs r1.2
theorem getS_len {bs : List Nat} {ps : List (Int × Bool)} {i w : Nat} (h : getS bs = (ps, i, w)) (hl : bs.length ≤ 1000000) : ps.length ≤ 1000000 := by
  unfold getS at h
  split at h
  · cases h; simp
  · split at h
    · cases h; simp
    · cases h; simpa using hl
theorem raw_bytes {s : Rd} (h : s.ok) (n : Int) : (s.raw n).1.length ≤ 1000000 ∧ ∀ b ∈ (s.raw n).1, b < 256 := by
  unfold Rd.raw
  split
  · simp
  · split
    · simp
    · split
      · simp
      · obtain ⟨k1, k2, k3⟩ := h
        refine ⟨by simp; omega, fun b hb => k3 b (List.mem_of_mem_drop (List.mem_of_mem_take hb))⟩
def wtV (w : Wt) : V := .agg ((encW w.xs w.a w.b w.c).map .i)
set_option maxHeartbeats 2000000 in
theorem read19 (bs : List Nat) (hl : bs.length ≤ 1000000) (hb : ∀ b ∈ bs, b < 256) : CallW Try.prog G0 19 [.i (.sl (bs.map by8))] [] (fun r st' => r = .tup [wtV (readW bs).1, .agg [.i (.int .i64 (readW bs).2.1), .i (.int .i64 (readW bs).2.2)]] ∧ st' = []) := by
  refine call_of_bodyF 0 (Nat.le_refl _) Try.func19 rfl (fun a w => Try.call19 a w) (wpx_ok (own := own0) _ _ _ ?_)
  have ok0 : Rd.ok ⟨bs, 0, 0, 0⟩ := ⟨hl, Nat.zero_le _, hb⟩
  repeat ((conv => whnf); first | refine Br.t ?_ | refine Br.f ?_ | refine ⟨rfl, ?_⟩)
  conv => whnf
  refine CallW.mono (CallW.fresh _ (new33 bs hl) rfl) ?_
  rintro r st' ⟨rfl, rfl⟩
  repeat ((conv => whnf); first | refine Br.t ?_ | refine Br.f ?_ | refine ⟨rfl, ?_⟩)
  conv => whnf
  have h1 := raw34 ⟨bs, 0, 0, 0⟩ ok0 4
  refine CallW.mono (atR [_, _, _] [] h1 rfl rfl) ?_
  rintro r st' ⟨rfl, rfl⟩
  have ok1 := raw_ok ok0 4
  obtain ⟨m1, s1, e1⟩ : ∃ m s, Rd.raw ⟨bs, 0, 0, 0⟩ 4 = (m, s) := ⟨_, _, rfl⟩
  rw [e1] at ok1 ⊢
  simp only at ok1 ⊢
  repeat ((conv => whnf); first | refine Br.t ?_ | refine Br.f ?_ | refine ⟨rfl, ?_⟩)
  conv => whnf
  refine CallW.mono (atR [_, _, _] [] (fault35 s1) rfl rfl) ?_
  rintro r st' ⟨rfl, rfl⟩
  repeat ((conv => whnf); first | refine Br.t ?_ | refine Br.f ?_ | refine ⟨rfl, ?_⟩)
  conv => whnf
  have hread : readW bs = if s1.why = 0 ∧ strOf m1 ≠ alw1 then (Wt.zero, 0, 3) else tailW bs s1 := by unfold readW; rw [e1]
  rw [hread]
  refine Br.mk (fun h2 => ?_) (fun h2 => ?_)
  · simp at h2
    repeat ((conv => whnf); first | refine Br.t ?_ | refine Br.f ?_ | refine ⟨rfl, ?_⟩)
    conv => whnf
    refine ⟨isB_ok (isB_map m1), ?_⟩
    repeat ((conv => whnf); first | refine Br.t ?_ | refine Br.f ?_ | refine ⟨rfl, ?_⟩)
    conv => whnf
    refine Br.mk (fun h3 => ?_) (fun h3 => ?_)
    · have h3 : strOf m1 ≠ alw1 := by simpa [strOf, alw1] using h3
      rw [if_pos ⟨h2, h3⟩]
      repeat ((conv => whnf); first | refine Br.t ?_ | refine Br.f ?_ | refine ⟨rfl, ?_⟩)
      conv => whnf
      refine ⟨⟨rfl, rfl⟩, ?_⟩
      conv => whnf
      refine fin (target := []) rfl (Nat.zero_le _) (by simp) ?_ ?_
      · rfl
      · rfl
    · have h3 : ¬ strOf m1 ≠ alw1 := by simpa [strOf, alw1] using h3
      rw [if_neg (fun h => h3 h.2)]
      repeat ((conv => whnf); first | refine Br.t ?_ | refine Br.f ?_ | refine ⟨rfl, ?_⟩)
      conv => whnf
      refine CallW.mono (atR [_, _, _] [] (block36 s1 ok1 4096) rfl rfl) ?_
      rintro r st' ⟨rfl, rfl⟩
      have ok2 : (s1.block 4096).2.ok := raw_ok (num_ok ok1 4096) _
      have hm2 : (s1.block 4096).1.length ≤ 1000000 ∧ ∀ b ∈ (s1.block 4096).1, b < 256 := raw_bytes (num_ok ok1 4096) _
      obtain ⟨m2, s2, e2⟩ : ∃ m s, s1.block 4096 = (m, s) := ⟨_, _, rfl⟩
      rw [e2] at ok2 hm2 ⊢
      simp only at ok2 hm2 ⊢
      repeat ((conv => whnf); first | refine Br.t ?_ | refine Br.f ?_ | refine ⟨rfl, ?_⟩)
      conv => whnf
      refine CallW.mono (atR [_, _, _] [] (num37 s2 ok2 7) rfl rfl) ?_
      rintro r st' ⟨rfl, rfl⟩
      have ok3 := num_ok ok2 7
      obtain ⟨a, s3, e3⟩ : ∃ m s, s2.num 7 = (m, s) := ⟨_, _, rfl⟩
      rw [e3] at ok3 ⊢
      simp only at ok3 ⊢
      repeat ((conv => whnf); first | refine Br.t ?_ | refine Br.f ?_ | refine ⟨rfl, ?_⟩)
      conv => whnf
      refine CallW.mono (atR [_, _, _] [] (num37 s3 ok3 7) rfl rfl) ?_
      rintro r st' ⟨rfl, rfl⟩
      have ok4 := num_ok ok3 7
      obtain ⟨b, s4, e4⟩ : ∃ m s, s3.num 7 = (m, s) := ⟨_, _, rfl⟩
      rw [e4] at ok4 ⊢
      simp only at ok4 ⊢
      repeat ((conv => whnf); first | refine Br.t ?_ | refine Br.f ?_ | refine ⟨rfl, ?_⟩)
      conv => whnf
      refine CallW.mono (atR [_, _, _] [] (num37 s4 ok4 15) rfl rfl) ?_
      rintro r st' ⟨rfl, rfl⟩
      have ok5 := num_ok ok4 15
      obtain ⟨c, s5, e5⟩ : ∃ m s, s4.num 15 = (m, s) := ⟨_, _, rfl⟩
      rw [e5] at ok5 ⊢
      simp only at ok5 ⊢
      repeat ((conv => whnf); first | refine Br.t ?_ | refine Br.f ?_ | refine ⟨rfl, ?_⟩)
      conv => whnf
      refine CallW.mono (atR [_, _, _] [_] (done38 s5 ok5) rfl rfl) ?_
      rintro r st' ⟨rfl, rfl⟩
      have ht : tailW bs s1 = if s5.done.why ≠ 0 then ((Wt.zero, s5.done.a, (s5.done.why : Int)) : Wt × Nat × Int) else
        if (getS m2).2.2 ≠ 0 then (Wt.zero, bs.length, ((getS m2).2.2 : Int)) else
        if codeW (getS m2).1 a b c ≠ 0 then (Wt.zero, bs.length, codeW (getS m2).1 a b c) else (⟨(getS m2).1, a, b, c⟩, 0, 0) := by
        unfold tailW; simp only [e2, e3, e4, e5]
      rw [ht]
      repeat ((conv => whnf); first | refine Br.t ?_ | refine Br.f ?_ | refine ⟨rfl, ?_⟩)
      conv => whnf
      refine Br.mk (fun h5 => ?_) (fun h5 => ?_)
      · have h5 : s5.done.why ≠ 0 := by simpa using h5
        rw [if_pos h5]
        repeat ((conv => whnf); first | refine Br.t ?_ | refine Br.f ?_ | refine ⟨rfl, ?_⟩)
        conv => whnf
        refine CallW.mono (atR [_, _, _] [_] (fault35 s5.done) rfl rfl) ?_
        rintro r st' ⟨rfl, rfl⟩
        repeat ((conv => whnf); first | refine Br.t ?_ | refine Br.f ?_ | refine ⟨rfl, ?_⟩)
        conv => whnf
        refine ⟨⟨rfl, rfl⟩, ?_⟩
        conv => whnf
        refine fin (target := []) rfl (Nat.zero_le _) (by simp) ?_ ?_
        · rfl
        · rfl
      · have h5 : ¬ s5.done.why ≠ 0 := by simpa using h5
        rw [if_neg h5]
        repeat ((conv => whnf); first | refine Br.t ?_ | refine Br.f ?_ | refine ⟨rfl, ?_⟩)
        conv => whnf
        refine CallW.mono ((get39 m2 hm2.1 hm2.2).pure _ rfl rfl) ?_
        rintro r st' ⟨rfl, rfl⟩
        obtain ⟨ps, at', w', eg⟩ : ∃ p a w, getS m2 = (p, a, w) := ⟨_, _, _, rfl⟩
        rw [eg]
        simp only
        repeat ((conv => whnf); first | refine Br.t ?_ | refine Br.f ?_ | refine ⟨rfl, ?_⟩)
        conv => whnf
        refine Br.mk (fun h6 => ?_) (fun h6 => ?_)
        · have h6 : w' ≠ 0 := by simpa using h6
          rw [if_pos h6]
          repeat ((conv => whnf); first | refine Br.t ?_ | refine Br.f ?_ | refine ⟨rfl, ?_⟩)
          conv => whnf
          refine draw_ok (own := own0) [6, 7] [(1, 7), (2, 7), (3, 7), (4, 7), (5, 7)] [] rfl (by kernel_rfl) (Nat.zero_le _) ?_
          repeat ((conv => whnf); first | refine Br.t ?_ | refine Br.f ?_ | refine ⟨rfl, ?_⟩)
          conv => whnf
          refine ⟨by repeat ((conv => whnf); first | exact trivial | refine ⟨rfl, ?_⟩), by repeat ((conv => whnf); first | exact trivial | refine ⟨by (conv => whnf); first | exact ⟨rfl, rfl⟩ | exact ⟨rfl, rfl, rfl⟩, ?_⟩), ?_⟩
          repeat ((conv => whnf); first | refine Br.t ?_ | refine Br.f ?_ | refine ⟨rfl, ?_⟩)
          conv => whnf
          refine ⟨⟨rfl, rfl⟩, ?_⟩
          conv => whnf
          refine fin (target := []) rfl (Nat.zero_le _) (by simp) ?_ ?_
          · first | rfl | (simp only [List.length_map]; rfl)
          · rfl
        · have h6 : ¬ w' ≠ 0 := by simpa using h6
          rw [if_neg h6]
          repeat ((conv => whnf); first | refine Br.t ?_ | refine Br.f ?_ | refine ⟨rfl, ?_⟩)
          conv => whnf
          refine CallW.mono ((check13 ps a b c (getS_len eg hm2.1)).pure _ rfl rfl) ?_
          rintro r st' ⟨rfl, rfl⟩
          repeat ((conv => whnf); first | refine Br.t ?_ | refine Br.f ?_ | refine ⟨rfl, ?_⟩)
          conv => whnf
          refine Br.mk (fun h7 => ?_) (fun h7 => ?_)
          · have h7 : codeW ps a b c ≠ 0 := by simpa using h7
            rw [if_pos h7]
            repeat ((conv => whnf); first | refine Br.t ?_ | refine Br.f ?_ | refine ⟨rfl, ?_⟩)
            conv => whnf
            refine ⟨⟨rfl, rfl⟩, ?_⟩
            conv => whnf
            refine fin (target := []) rfl (Nat.zero_le _) (by simp) ?_ ?_
            · first | rfl | (simp only [List.length_map]; rfl)
            · rfl
          · have h7 : ¬ codeW ps a b c ≠ 0 := by simpa using h7
            rw [if_neg h7]
            repeat ((conv => whnf); first | refine Br.t ?_ | refine Br.f ?_ | refine ⟨rfl, ?_⟩)
            conv => whnf
            refine ⟨⟨rfl, rfl⟩, ?_⟩
            conv => whnf
            refine fin (target := []) rfl (Nat.zero_le _) (by simp) ?_ ?_
            · first | rfl | (simp only [List.length_map]; rfl)
            · rfl
  · simp at h2
    rw [if_neg (fun h => h2 h.1)]
    repeat ((conv => whnf); first | refine Br.t ?_ | refine Br.f ?_ | refine ⟨rfl, ?_⟩)
    conv => whnf
    refine CallW.mono (atR [_, _, _] [] (block36 s1 ok1 4096) rfl rfl) ?_
    rintro r st' ⟨rfl, rfl⟩
    have ok2 : (s1.block 4096).2.ok := raw_ok (num_ok ok1 4096) _
    have hm2 : (s1.block 4096).1.length ≤ 1000000 ∧ ∀ b ∈ (s1.block 4096).1, b < 256 := raw_bytes (num_ok ok1 4096) _
    obtain ⟨m2, s2, e2⟩ : ∃ m s, s1.block 4096 = (m, s) := ⟨_, _, rfl⟩
    rw [e2] at ok2 hm2 ⊢
    simp only at ok2 hm2 ⊢
    repeat ((conv => whnf); first | refine Br.t ?_ | refine Br.f ?_ | refine ⟨rfl, ?_⟩)
    conv => whnf
    refine CallW.mono (atR [_, _, _] [] (num37 s2 ok2 7) rfl rfl) ?_
    rintro r st' ⟨rfl, rfl⟩
    have ok3 := num_ok ok2 7
    obtain ⟨a, s3, e3⟩ : ∃ m s, s2.num 7 = (m, s) := ⟨_, _, rfl⟩
    rw [e3] at ok3 ⊢
    simp only at ok3 ⊢
    repeat ((conv => whnf); first | refine Br.t ?_ | refine Br.f ?_ | refine ⟨rfl, ?_⟩)
    conv => whnf
    refine CallW.mono (atR [_, _, _] [] (num37 s3 ok3 7) rfl rfl) ?_
    rintro r st' ⟨rfl, rfl⟩
    have ok4 := num_ok ok3 7
    obtain ⟨b, s4, e4⟩ : ∃ m s, s3.num 7 = (m, s) := ⟨_, _, rfl⟩
    rw [e4] at ok4 ⊢
    simp only at ok4 ⊢
    repeat ((conv => whnf); first | refine Br.t ?_ | refine Br.f ?_ | refine ⟨rfl, ?_⟩)
    conv => whnf
    refine CallW.mono (atR [_, _, _] [] (num37 s4 ok4 15) rfl rfl) ?_
    rintro r st' ⟨rfl, rfl⟩
    have ok5 := num_ok ok4 15
    obtain ⟨c, s5, e5⟩ : ∃ m s, s4.num 15 = (m, s) := ⟨_, _, rfl⟩
    rw [e5] at ok5 ⊢
    simp only at ok5 ⊢
    repeat ((conv => whnf); first | refine Br.t ?_ | refine Br.f ?_ | refine ⟨rfl, ?_⟩)
    conv => whnf
    refine CallW.mono (atR [_, _, _] [_] (done38 s5 ok5) rfl rfl) ?_
    rintro r st' ⟨rfl, rfl⟩
    have ht : tailW bs s1 = if s5.done.why ≠ 0 then ((Wt.zero, s5.done.a, (s5.done.why : Int)) : Wt × Nat × Int) else
      if (getS m2).2.2 ≠ 0 then (Wt.zero, bs.length, ((getS m2).2.2 : Int)) else
      if codeW (getS m2).1 a b c ≠ 0 then (Wt.zero, bs.length, codeW (getS m2).1 a b c) else (⟨(getS m2).1, a, b, c⟩, 0, 0) := by
      unfold tailW; simp only [e2, e3, e4, e5]
    rw [ht]
    repeat ((conv => whnf); first | refine Br.t ?_ | refine Br.f ?_ | refine ⟨rfl, ?_⟩)
    conv => whnf
    refine Br.mk (fun h5 => ?_) (fun h5 => ?_)
    · have h5 : s5.done.why ≠ 0 := by simpa using h5
      rw [if_pos h5]
      repeat ((conv => whnf); first | refine Br.t ?_ | refine Br.f ?_ | refine ⟨rfl, ?_⟩)
      conv => whnf
      refine CallW.mono (atR [_, _, _] [_] (fault35 s5.done) rfl rfl) ?_
      rintro r st' ⟨rfl, rfl⟩
      repeat ((conv => whnf); first | refine Br.t ?_ | refine Br.f ?_ | refine ⟨rfl, ?_⟩)
      conv => whnf
      refine ⟨⟨rfl, rfl⟩, ?_⟩
      conv => whnf
      refine fin (target := []) rfl (Nat.zero_le _) (by simp) ?_ ?_
      · rfl
      · rfl
    · have h5 : ¬ s5.done.why ≠ 0 := by simpa using h5
      rw [if_neg h5]
      repeat ((conv => whnf); first | refine Br.t ?_ | refine Br.f ?_ | refine ⟨rfl, ?_⟩)
      conv => whnf
      refine CallW.mono ((get39 m2 hm2.1 hm2.2).pure _ rfl rfl) ?_
      rintro r st' ⟨rfl, rfl⟩
      obtain ⟨ps, at', w', eg⟩ : ∃ p a w, getS m2 = (p, a, w) := ⟨_, _, _, rfl⟩
      rw [eg]
      simp only
      repeat ((conv => whnf); first | refine Br.t ?_ | refine Br.f ?_ | refine ⟨rfl, ?_⟩)
      conv => whnf
      refine Br.mk (fun h6 => ?_) (fun h6 => ?_)
      · have h6 : w' ≠ 0 := by simpa using h6
        rw [if_pos h6]
        repeat ((conv => whnf); first | refine Br.t ?_ | refine Br.f ?_ | refine ⟨rfl, ?_⟩)
        conv => whnf
        refine draw_ok (own := own0) [6, 7] [(1, 7), (2, 7), (3, 7), (4, 7), (5, 7)] [] rfl (by kernel_rfl) (Nat.zero_le _) ?_
        repeat ((conv => whnf); first | refine Br.t ?_ | refine Br.f ?_ | refine ⟨rfl, ?_⟩)
        conv => whnf
        refine ⟨by repeat ((conv => whnf); first | exact trivial | refine ⟨rfl, ?_⟩), by repeat ((conv => whnf); first | exact trivial | refine ⟨by (conv => whnf); first | exact ⟨rfl, rfl⟩ | exact ⟨rfl, rfl, rfl⟩, ?_⟩), ?_⟩
        repeat ((conv => whnf); first | refine Br.t ?_ | refine Br.f ?_ | refine ⟨rfl, ?_⟩)
        conv => whnf
        refine ⟨⟨rfl, rfl⟩, ?_⟩
        conv => whnf
        refine fin (target := []) rfl (Nat.zero_le _) (by simp) ?_ ?_
        · first | rfl | (simp only [List.length_map]; rfl)
        · rfl
      · have h6 : ¬ w' ≠ 0 := by simpa using h6
        rw [if_neg h6]
        repeat ((conv => whnf); first | refine Br.t ?_ | refine Br.f ?_ | refine ⟨rfl, ?_⟩)
        conv => whnf
        refine CallW.mono ((check13 ps a b c (getS_len eg hm2.1)).pure _ rfl rfl) ?_
        rintro r st' ⟨rfl, rfl⟩
        repeat ((conv => whnf); first | refine Br.t ?_ | refine Br.f ?_ | refine ⟨rfl, ?_⟩)
        conv => whnf
        refine Br.mk (fun h7 => ?_) (fun h7 => ?_)
        · have h7 : codeW ps a b c ≠ 0 := by simpa using h7
          rw [if_pos h7]
          repeat ((conv => whnf); first | refine Br.t ?_ | refine Br.f ?_ | refine ⟨rfl, ?_⟩)
          conv => whnf
          refine ⟨⟨rfl, rfl⟩, ?_⟩
          conv => whnf
          refine fin (target := []) rfl (Nat.zero_le _) (by simp) ?_ ?_
          · first | rfl | (simp only [List.length_map]; rfl)
          · rfl
        · have h7 : ¬ codeW ps a b c ≠ 0 := by simpa using h7
          rw [if_neg h7]
          repeat ((conv => whnf); first | refine Br.t ?_ | refine Br.f ?_ | refine ⟨rfl, ?_⟩)
          conv => whnf
          refine ⟨⟨rfl, rfl⟩, ?_⟩
          conv => whnf
          refine fin (target := []) rfl (Nat.zero_le _) (by simp) ?_ ?_
          · first | rfl | (simp only [List.length_map]; rfl)
          · rfl
end Go.Proofs.Ytdbmfnhbgacldaa.Am

/- Contracts: witnesses compared. -/
namespace Go.Proofs.Ytdbmfnhbgacldaa.Am
set_option autoImplicit false
set_option linter.unusedVariables false
set_option linter.unusedSimpArgs false
set_option maxRecDepth 10000
set_option pp.deepTerms false
set_option pp.deepTerms.threshold 6
set_option pp.proofs false
def sameW (u v : Wt) : Bool := decide (u.a = v.a) && decide (u.b = v.b) && decide (u.c = v.c) && decide (u.xs = v.xs)
theorem same21 (u v : Wt) (hu : u.xs.length ≤ 1000000) (hv : v.xs.length ≤ 1000000) : CallW Try.prog G0 21 [wtV u, wtV v] [] (fun r st' => r = .i (.bool (sameW u v)) ∧ st' = []) := by
  refine call_of_bodyF 0 (Nat.le_refl _) Try.func21 rfl (fun a w => Try.call21 a w) (wpx_ok (own := own0) _ _ _ ?_)
  obtain ⟨xs, a, b, c⟩ := u
  obtain ⟨ys, a', b', c'⟩ := v
  simp only at hu hv
  repeat ((conv => whnf); first | refine Br.t ?_ | refine Br.f ?_ | refine ⟨rfl, ?_⟩)
  conv => whnf
  refine Br.mk (fun h1 => ?_) (fun h1 => ?_)
  · have h1 : a ≠ a' := by simpa using h1
    repeat ((conv => whnf); first | refine Br.t ?_ | refine Br.f ?_ | refine ⟨rfl, ?_⟩)
    conv => whnf
    refine fin (target := []) rfl (Nat.zero_le _) (by simp) ?_ rfl
    simp [sameW, h1]
  · have h1 : a = a' := by simpa using h1
    repeat ((conv => whnf); first | refine Br.t ?_ | refine Br.f ?_ | refine ⟨rfl, ?_⟩)
    conv => whnf
    refine Br.mk (fun h2 => ?_) (fun h2 => ?_)
    · have h2 : b ≠ b' := by simpa using h2
      repeat ((conv => whnf); first | refine Br.t ?_ | refine Br.f ?_ | refine ⟨rfl, ?_⟩)
      conv => whnf
      refine fin (target := []) rfl (Nat.zero_le _) (by simp) ?_ rfl
      simp [sameW, h2]
    · have h2 : b = b' := by simpa using h2
      repeat ((conv => whnf); first | refine Br.t ?_ | refine Br.f ?_ | refine ⟨rfl, ?_⟩)
      conv => whnf
      refine Br.mk (fun h3 => ?_) (fun h3 => ?_)
      · have h3 : c ≠ c' := by simpa using h3
        repeat ((conv => whnf); first | refine Br.t ?_ | refine Br.f ?_ | refine ⟨rfl, ?_⟩)
        conv => whnf
        refine fin (target := []) rfl (Nat.zero_le _) (by simp) ?_ rfl
        simp [sameW, h3]
      · have h3 : c = c' := by simpa using h3
        repeat ((conv => whnf); first | refine Br.t ?_ | refine Br.f ?_ | refine ⟨rfl, ?_⟩)
        conv => whnf
        refine Br.mk (fun h4 => ?_) (fun h4 => ?_)
        · have h4 : xs.length ≠ ys.length := by simp at h4; omega
          have h5 : xs ≠ ys := fun e => h4 (by rw [e])
          repeat ((conv => whnf); first | refine Br.t ?_ | refine Br.f ?_ | refine ⟨rfl, ?_⟩)
          conv => whnf
          refine fin (target := []) rfl (Nat.zero_le _) (by simp) ?_ rfl
          simp [sameW, h5]
        · have h4 : xs.length = ys.length := by simp at h4; omega
          repeat ((conv => whnf); first | refine Br.t ?_ | refine Br.f ?_ | refine ⟨rfl, ?_⟩)
          conv => whnf
          refine loop_ok (α := Nat) (fun i => ⟨mkS 52 [(2, .ptr 0 0 0 0), (3, .ptr 1 0 0 0), (5, .i (.int .i64 i))], [row0 xs a b c, row0 ys a' b' c']⟩) (fun i => i ≤ xs.length ∧ xs.take i = ys.take i) (fun i => xs.length - i) 0 ⟨Nat.zero_le _, rfl⟩
            (Le.slots (by simp [leS, mkS])) (fun i hi => wpx_ok (own := own0) _ _ _ ?_)
          obtain ⟨k1, k2⟩ := hi
          repeat ((conv => whnf); first | refine Br.t ?_ | refine Br.f ?_ | refine ⟨rfl, ?_⟩)
          conv => whnf
          refine Br.mk (fun h6 => ?_) (fun h6 => ?_)
          · simp at h6
            obtain ⟨x, hx⟩ : ∃ x, x = xs[i] := ⟨_, rfl⟩
            obtain ⟨y, hy⟩ : ∃ y, y = ys[i]'(by omega) := ⟨_, rfl⟩
            have ex : (xs.map encP).getD (i : Int).toNat [] = encP x := by rw [hx]; exact getD_enc h6
            have ey : (ys.map encP).getD (i : Int).toNat [] = encP y := by rw [hy]; exact getD_enc (by omega)
            repeat ((conv => whnf); first | refine Br.t ?_ | refine Br.f ?_ | refine ⟨rfl, ?_⟩)
            conv => whnf
            refine draw_ok (own := own0) [] [] [] rfl (by kernel_rfl) (Nat.zero_le _) ?_
            repeat ((conv => whnf); first | refine Br.t ?_ | refine Br.f ?_ | refine ⟨rfl, ?_⟩)
            conv => whnf
            rw [ex]
            refine ⟨⟨by omega, by simp; omega, rfl⟩, ?_⟩
            repeat ((conv => whnf); first | refine Br.t ?_ | refine Br.f ?_ | refine ⟨rfl, ?_⟩)
            conv => whnf
            rw [ey]
            refine ⟨⟨by omega, by simp; omega, rfl⟩, ?_⟩
            repeat ((conv => whnf); first | refine Br.t ?_ | refine Br.f ?_ | refine ⟨rfl, ?_⟩)
            conv => whnf
            refine ⟨by kernel_rfl, ?_⟩
            repeat ((conv => whnf); first | refine Br.t ?_ | refine Br.f ?_ | refine ⟨rfl, ?_⟩)
            conv => whnf
            refine ⟨by repeat ((conv => whnf); first | exact trivial | refine ⟨rfl, ?_⟩), trivial, ?_⟩
            conv => whnf
            have ext : xs.take (i + 1) = xs.take i ++ [x] := by rw [hx]; simp
            have eyt : ys.take (i + 1) = ys.take i ++ [y] := by rw [hy]; simp
            refine Br.mk (fun h7 => ?_) (fun h7 => ?_)
            · have h7 : x ≠ y := by
                rintro rfl
                simp at h7
              have h8 : xs ≠ ys := by
                intro e
                subst e
                exact h7 (by rw [hx, hy])
              repeat ((conv => whnf); first | refine Br.t ?_ | refine Br.f ?_ | refine ⟨rfl, ?_⟩)
              conv => whnf
              refine fin (target := []) rfl (Nat.zero_le _) (by simp) ?_ rfl
              simp [sameW, h8]
            · have h7 : x = y := by
                simp at h7
                exact Prod.ext h7.1 h7.2
              repeat ((conv => whnf); first | refine Br.t ?_ | refine Br.f ?_ | refine ⟨rfl, ?_⟩)
              conv => whnf
              refine ⟨i + 1, ⟨by omega, by rw [ext, eyt, k2, h7]⟩, by omega, Le.slots ?_⟩
              simp [leS, mkS]
              exact i64_id (by omega) (by omega)
          · simp at h6
            have e1 : xs = ys := by rw [List.take_of_length_le (by omega), List.take_of_length_le (by omega)] at k2; exact k2
            repeat ((conv => whnf); first | refine Br.t ?_ | refine Br.f ?_ | refine ⟨rfl, ?_⟩)
            conv => whnf
            refine fin (target := []) rfl (Nat.zero_le _) (by simp) ?_ rfl
            simp [sameW, h1, h2, h3, e1]
end Go.Proofs.Ytdbmfnhbgacldaa.Am

/- Plain laws: whole numbers written are read as they were, each front is too short, and what is read is written so. -/
namespace Go.Proofs.Ytdbmfnhbgacldaa.Am
set_option autoImplicit false
set_option linter.unusedVariables false
set_option linter.unusedSimpArgs false
theorem ladd (acc n i : Nat) : acc + (n % 128 + 128) % 128 * 128 ^ i + n / 128 * 128 ^ (i + 1) = acc + n * 128 ^ i := by
  rw [Nat.pow_succ]
  have h1 : (n % 128 + 128) % 128 = n % 128 := by omega
  rw [h1]
  have h2 : n * 128 ^ i = (n % 128 + 128 * (n / 128)) * 128 ^ i := by rw [Nat.mod_add_div]
  rw [h2, Nat.add_mul, ← Nat.add_assoc, Nat.mul_comm (128 ^ i) 128, Nat.mul_comm 128 (n / 128), Nat.mul_assoc]
theorem lsmall {n i : Nat} (h : n * 128 ^ i < 4294967296) : n / 128 * 128 ^ (i + 1) < 4294967296 := by
  rw [Nat.pow_succ, Nat.mul_comm (128 ^ i), ← Nat.mul_assoc]
  exact Nat.lt_of_le_of_lt (Nat.mul_le_mul_right _ (Nat.div_mul_le_self n 128)) h
theorem lfour {n i : Nat} (h : n * 128 ^ i < 4294967296) (hi : i = 4) : n < 16 := by subst hi; omega
theorem getV_put : ∀ (n i acc : Nat) (rest : List Nat), n * 128 ^ i < 4294967296 → (0 < i → 0 < n) → getV i acc (putN n ++ rest) = (acc + n * 128 ^ i, i + (putN n).length, 0) := by
  intro n
  induction n using Nat.strongRecOn with
  | ind n ih =>
    intro i acc rest h1 h2
    rw [putN]
    by_cases hn : n < 128
    · rw [dif_pos hn]
      simp only [List.cons_append, List.nil_append, getV]
      rw [if_neg (by intro h; have := lfour h1 h.1; omega), if_pos hn, if_neg (by intro h; have := h2 h.2; omega)]
      rfl
    · rw [dif_neg hn]
      simp only [List.cons_append, getV]
      rw [if_neg (by intro h; have := lfour h1 h.1; omega), if_neg (by omega), ih (n / 128) (by omega) (i + 1) _ rest (lsmall h1) (by omega), ladd]
      simp only [List.length_cons, Prod.mk.injEq, true_and, and_true]
      omega
theorem getV_cut : ∀ (n i acc k : Nat), n * 128 ^ i < 4294967296 → (0 < i → 0 < n) → k < (putN n).length → getV i acc ((putN n).take k) = (0, 0, 2) := by
  intro n
  induction n using Nat.strongRecOn with
  | ind n ih =>
    intro i acc k h1 h2 h3
    cases k with
    | zero => rfl
    | succ k =>
    rw [putN] at h3 ⊢
    by_cases hn : n < 128
    · rw [dif_pos hn] at h3
      simp at h3
    · rw [dif_neg hn] at h3 ⊢
      simp only [List.length_cons] at h3
      simp only [List.take_succ_cons, getV]
      rw [if_neg (by intro h; have := lfour h1 h.1; omega), if_neg (by omega), ih (n / 128) (by omega) (i + 1) _ k (lsmall h1) (by omega) (by omega)]
theorem getV_of : ∀ (l : List Nat) (i acc v k : Nat), (∀ b ∈ l, b < 256) → getV i acc l = (v, k, 0) → ∃ n rest, l = putN n ++ rest ∧ v = acc + n * 128 ^ i ∧ k = i + (putN n).length ∧ (0 < i → 0 < n)
  | [], i, acc, v, k, hb, h => by simp [getV] at h
  | b :: r, i, acc, v, k, hb, h => by
    rw [getV] at h
    by_cases c1 : i = 4 ∧ 15 < b
    · rw [if_pos c1] at h; simp at h
    · rw [if_neg c1] at h
      by_cases c2 : b < 128
      · rw [if_pos c2] at h
        by_cases c3 : b = 0 ∧ 0 < i
        · rw [if_pos c3] at h; simp at h
        · rw [if_neg c3] at h
          simp only [Prod.mk.injEq, and_true] at h
          refine ⟨b, r, ?_, h.1.symm, ?_, by omega⟩
          · rw [putN, dif_pos c2]; rfl
          · rw [putN, dif_pos c2]; simp only [List.length_singleton]; omega
      · rw [if_neg c2] at h
        have hb1 := hb b (by simp)
        obtain ⟨n, rest, e1, e2, e3, e4⟩ := getV_of r (i + 1) _ v k (fun x hx => hb x (by simp [hx])) h
        have hn := e4 (by omega)
        have eb : (n * 128 + b % 128) % 128 + 128 = b := by omega
        have en : (n * 128 + b % 128) / 128 = n := by omega
        have ep : putN (n * 128 + b % 128) = b :: putN n := by
          rw [putN, dif_neg (by omega), eb, en]
        refine ⟨n * 128 + b % 128, rest, ?_, ?_, ?_, by omega⟩
        · rw [ep, e1]; rfl
        · rw [e2, Nat.pow_succ, Nat.add_mul, Nat.mul_comm (128 ^ i) 128, Nat.mul_assoc]; omega
        · rw [e3, ep]; simp only [List.length_cons]; omega
end Go.Proofs.Ytdbmfnhbgacldaa.Am
namespace Go.Proofs.Ytdbmfnhbgacldaa.Am
set_option autoImplicit false
set_option linter.unusedVariables false
set_option linter.unusedSimpArgs false
theorem num_put {s : Rd} {n : Nat} {mx : Int} {rest : List Nat} (h0 : s.why = 0) (hd : s.bs.drop s.p = putN n ++ rest) (hn : n < 4294967296) (hm : (n : Int) ≤ mx) :
    s.num mx = (n, { s with p := s.p + (putN n).length }) := by
  have e : getV 0 0 (s.bs.drop s.p) = (n, (putN n).length, 0) := by
    rw [hd, getV_put n 0 0 rest (by omega) (by omega)]; simp
  unfold Rd.num
  rw [e, if_neg (by omega), if_neg (by simp), if_neg (by simp only; omega)]
theorem drop_add {α : Type} {l a b : List α} {p : Nat} (h : l.drop p = a ++ b) : l.drop (p + a.length) = b := by
  rw [← List.drop_drop, h, List.drop_left]
theorem raw_put {s : Rd} {m rest : List Nat} (h0 : s.why = 0) (hd : s.bs.drop s.p = m ++ rest) :
    s.raw m.length = (m, { s with p := s.p + m.length }) := by
  unfold Rd.raw
  have hl : s.left = m.length + rest.length := by
    have := congrArg List.length hd
    simp only [List.length_drop, List.length_append] at this
    simpa [Rd.left] using this
  rw [if_neg (by omega), if_neg (by omega), if_neg (by omega), hd]
  simp
theorem num_of {s : Rd} {mx : Int} (hok : s.ok) (h : (s.num mx).2.why = 0) : ∃ n, (s.num mx) = (n, { s with p := s.p + (putN n).length }) ∧ (n : Int) ≤ mx ∧ s.why = 0 ∧ s.bs.drop s.p = putN n ++ s.bs.drop (s.p + (putN n).length) ∧ s.p + (putN n).length ≤ s.bs.length := by
  unfold Rd.num at h ⊢
  by_cases h1 : s.why ≠ 0
  · rw [if_pos h1] at h; exact absurd h h1
  · rw [if_neg h1] at h ⊢
    by_cases h2 : (getV 0 0 (s.bs.drop s.p)).2.2 ≠ 0
    · rw [if_pos h2] at h
      simp only [Rd.fail] at h
      rw [if_pos (by omega)] at h
      exact absurd h h2
    · rw [if_neg h2] at h ⊢
      by_cases h3 : mx < ((getV 0 0 (s.bs.drop s.p)).1 : Int)
      · rw [if_pos h3] at h
        simp only [Rd.fail] at h
        rw [if_pos (by omega)] at h
        simp at h
      · rw [if_neg h3] at h ⊢
        obtain ⟨g, hg⟩ : ∃ v, v = getV 0 0 (s.bs.drop s.p) := ⟨_, rfl⟩
        rw [← hg] at h2 h3 ⊢
        obtain ⟨v, k, f⟩ := g
        simp only at h2 h3 ⊢
        have hf : f = 0 := by omega
        subst hf
        obtain ⟨n, rest, e1, e2, e3, _⟩ := getV_of (s.bs.drop s.p) 0 0 v k (fun b hb => hok.2.2 b (List.mem_of_mem_drop hb)) hg.symm
        simp at e2 e3
        subst e2 e3
        refine ⟨v, rfl, by omega, by omega, ?_, ?_⟩
        · rw [drop_add e1]; exact e1
        · have := congrArg List.length e1
          simp only [List.length_drop, List.length_append] at this
          have := hok.2.1
          omega
theorem raw_of {s : Rd} {n : Int} (hok : s.ok) (h : (s.raw n).2.why = 0) : 0 ≤ n ∧ s.why = 0 ∧ (s.raw n).1.length = n.toNat ∧ s.raw n = ((s.raw n).1, { s with p := s.p + n.toNat }) ∧ s.bs.drop s.p = (s.raw n).1 ++ s.bs.drop (s.p + n.toNat) ∧ s.p + n.toNat ≤ s.bs.length := by
  unfold Rd.raw at h ⊢
  by_cases h1 : s.why ≠ 0
  · rw [if_pos h1] at h; exact absurd h h1
  · rw [if_neg h1] at h ⊢
    by_cases h2 : n < 0
    · rw [if_pos h2] at h
      simp only [Rd.fail] at h
      rw [if_pos (by omega)] at h
      simp at h
    · rw [if_neg h2] at h ⊢
      by_cases h3 : (s.left : Int) < n
      · rw [if_pos h3] at h
        simp only [Rd.fail] at h
        rw [if_pos (by omega)] at h
        simp at h
      · rw [if_neg h3] at h ⊢
        have hl : s.left = s.bs.length - s.p := rfl
        have := hok.2.1
        refine ⟨by omega, by omega, by simp; omega, rfl, ?_, by omega⟩
        rw [← List.drop_drop, List.take_append_drop]
/-- the same reader of a front of the bytes: it goes along, or has found them too short -/
def Along (k : Nat) (s t : Rd) : Prop := t.bs = s.bs.take k ∧ ((t.why = 0 ∧ t.p = s.p ∧ s.p ≤ k) ∨ t.why = 2)
theorem getV_take {l : List Nat} {v k : Nat} (hb : ∀ b ∈ l, b < 256) (h : getV 0 0 l = (v, k, 0)) (j : Nat) : getV 0 0 (l.take j) = if k ≤ j then (v, k, 0) else (0, 0, 2) := by
  have hv : v < 4294967296 := by
    have := (getV_ok l 0 0 (by decide) (by decide)).1
    rw [h] at this; exact this
  obtain ⟨n, rest, e1, e2, e3, _⟩ := getV_of l 0 0 v k hb h
  simp at e2 e3
  subst e2 e3
  rw [e1]
  by_cases hj : (putN v).length ≤ j
  · rw [if_pos hj, List.take_append, List.take_of_length_le hj, getV_put v 0 0 _ (by omega) (by omega)]
    simp
  · rw [if_neg hj, List.take_append_of_le_length (by omega), getV_cut v 0 0 j (by omega) (by omega) (by omega)]
theorem along_num {k : Nat} {s t : Rd} (hk : k ≤ s.bs.length) (hok : s.ok) (h : Along k s t) (mx : Int) (hw : (s.num mx).2.why = 0) :
    Along k (s.num mx).2 (t.num mx).2 ∧ ((t.num mx).2.why = 0 → (t.num mx).1 = (s.num mx).1) := by
  obtain ⟨n, e, hn, h0, hd, hp⟩ := num_of hok hw
  have hn32 : n < 4294967296 := by
    have := (getV_ok (s.bs.drop s.p) 0 0 (by decide) (by decide)).1
    have hg : (s.num mx).1 = n := by rw [e]
    unfold Rd.num at hg
    split at hg
    · omega
    · split at hg
      · simp only at hg; omega
      · split at hg
        · simp only at hg; omega
        · simp only at hg; omega
  rw [e]
  obtain ⟨hb, hc⟩ := h
  rcases hc with ⟨t0, tp, hpk⟩ | t2
  · have hg : getV 0 0 (s.bs.drop s.p) = (n, (putN n).length, 0) := by
      rw [hd, getV_put n 0 0 _ (by omega) (by omega)]; simp
    have ht : getV 0 0 (t.bs.drop t.p) = if (putN n).length ≤ k - s.p then (n, (putN n).length, 0) else (0, 0, 2) := by
      rw [hb, tp, List.drop_take]
      exact getV_take (fun b hb => hok.2.2 b (List.mem_of_mem_drop hb)) hg _
    unfold Rd.num
    rw [ht, if_neg (by omega : ¬ t.why ≠ 0)]
    by_cases hj : (putN n).length ≤ k - s.p
    · simp only [if_pos hj]
      rw [if_neg (by simp), if_neg (by omega)]
      exact ⟨⟨hb, .inl ⟨t0, by simp only; omega, by simp only; omega⟩⟩, fun _ => rfl⟩
    · simp only [if_neg hj]
      rw [if_pos (by simp)]
      simp only [Rd.fail]
      rw [if_pos t0]
      exact ⟨⟨hb, .inr rfl⟩, fun h => by simp at h⟩
  · unfold Rd.num
    rw [if_pos (by omega)]
    exact ⟨⟨hb, .inr t2⟩, fun h => by simp only at h; omega⟩
theorem along_raw {k : Nat} {s t : Rd} (hk : k ≤ s.bs.length) (hok : s.ok) (h : Along k s t) (n n' : Int) (hnn : t.why = 0 → n' = n) (hw : (s.raw n).2.why = 0) :
    Along k (s.raw n).2 (t.raw n').2 ∧ ((t.raw n').2.why = 0 → (t.raw n').1 = (s.raw n).1) := by
  obtain ⟨hn, h0, hlen, e, hd, hp⟩ := raw_of hok hw
  obtain ⟨hb, hc⟩ := h
  have e1 : (s.raw n).1 = (s.bs.drop s.p).take n.toNat := by rw [hd, ← hlen, List.take_left]
  rw [e, e1]
  rcases hc with ⟨t0, tp, hpk⟩ | t2
  · rw [hnn t0]
    unfold Rd.raw
    have hl : t.left = k - s.p := by simp [Rd.left, hb, tp]; omega
    rw [if_neg (by omega), if_neg (by omega)]
    by_cases hj : n.toNat ≤ k - s.p
    · rw [if_neg (by omega)]
      refine ⟨⟨hb, .inl ⟨t0, by simp only; omega, by simp only; omega⟩⟩, fun _ => ?_⟩
      simp only
      rw [hb, tp, List.drop_take, List.take_take, Nat.min_eq_left hj]
    · rw [if_pos (by omega)]
      simp only [Rd.fail]
      rw [if_pos t0]
      exact ⟨⟨hb, .inr rfl⟩, fun h => by simp at h⟩
  · unfold Rd.raw
    rw [if_pos (by omega)]
    exact ⟨⟨hb, .inr t2⟩, fun h => by simp only at h; omega⟩
theorem along_end {k : Nat} {s t : Rd} (hk : k < s.bs.length) (h : Along k s t) (he : s.p = s.bs.length) : t.why = 2 ∧ t.done.why = 2 := by
  rcases h.2 with ⟨_, _, h3⟩ | h2
  · omega
  · refine ⟨h2, ?_⟩
    unfold Rd.done
    rw [if_neg (by omega)]; exact h2
end Go.Proofs.Ytdbmfnhbgacldaa.Am

/- Plain laws: a witness's bytes are read as they were written; fronts are too short; what is read is written so. -/
namespace Go.Proofs.Ytdbmfnhbgacldaa.Am
set_option autoImplicit false
set_option linter.unusedVariables false
set_option linter.unusedSimpArgs false
def natW (w : Wt) : List Nat := [97, 108, 119, 49] ++ (putN w.xs.length ++ (w.xs.map pk ++ (putN w.a.toNat ++ (putN w.b.toNat ++ putN w.c.toNat))))
theorem bytes_nat (w : Wt) : bytesW w.xs w.a w.b w.c = (natW w).map by8 := by
  simp [bytesW, headW, natW, puts, pks, magic]
theorem badAt_none : ∀ (bs : List Nat) (i : Nat), badAt i bs = none ↔ ∀ b ∈ bs, b < 16
  | [], i => by simp [badAt]
  | b :: r, i => by
    rw [badAt]
    by_cases h : 16 ≤ b
    · rw [if_pos h]; simp; omega
    · rw [if_neg h, badAt_none r (i + 1)]; simp; omega
theorem getS_ok (bs : List Nat) : (getS bs).2.2 = 0 ↔ bs.length ≤ 4096 ∧ ∀ b ∈ bs, b < 16 := by
  unfold getS
  by_cases h : 4096 < bs.length
  · rw [if_pos h]; simp; omega
  · rw [if_neg h, ← badAt_none bs 0]
    cases badAt 0 bs with
    | none => simp; omega
    | some i => simp
theorem getS_val {bs : List Nat} (h : (getS bs).2.2 = 0) : (getS bs).1 = bs.map dec := by
  have h1 := (getS_ok bs).1 h
  unfold getS
  rw [if_neg (by omega), (badAt_none bs 0).2 h1.2]
theorem pk_dec {b : Nat} (h : b < 16) : pk (dec b) = b := by
  unfold pk dec
  simp only [Int.toNat_natCast]
  split <;> simp at * <;> omega
theorem okP_dec (b : Nat) : okP (dec b) = true := by
  unfold okP dec
  simp; omega
theorem dec_pk {x : Int × Bool} (h : okP x = true) : dec (pk x) = x ∧ pk x < 16 := by
  obtain ⟨n, w⟩ := x
  unfold okP at h
  simp at h
  cases w <;> simp [dec, pk] <;> omega
theorem codeS_dec {bs : List Nat} (h : bs.length ≤ 4096) : codeS (bs.map dec) = 0 := by
  unfold codeS
  rw [if_neg (by simp; omega), if_pos]
  simp [okP_dec]
theorem codeS_zero {xs : List (Int × Bool)} (h : codeS xs = 0) : xs.length ≤ 4096 ∧ ∀ x ∈ xs, okP x = true := by
  unfold codeS at h
  split at h
  · simp at h
  · split at h
    · rename_i h1 h2
      exact ⟨by omega, List.all_eq_true.1 h2⟩
    · simp at h
theorem getS_put {xs : List (Int × Bool)} (h : codeS xs = 0) : getS (xs.map pk) = (xs, 0, 0) := by
  obtain ⟨h1, h2⟩ := codeS_zero h
  have h3 : (getS (xs.map pk)).2.2 = 0 := (getS_ok _).2 ⟨by simpa using h1, fun b hb => by
    simp only [List.mem_map] at hb
    obtain ⟨x, hx, rfl⟩ := hb
    exact (dec_pk (h2 x hx)).2⟩
  have h4 := getS_val h3
  have h5 : (xs.map pk).map dec = xs := by
    rw [List.map_map]
    conv => rhs; rw [← List.map_id xs]
    exact List.map_congr_left fun x hx => (dec_pk (h2 x hx)).1
  rw [h5] at h4
  unfold getS at h4 ⊢
  rw [if_neg (by simp; omega), (badAt_none _ 0).2 ((getS_ok _).1 h3).2]
  simp only [h5]
theorem codeW_zero {xs : List (Int × Bool)} {a b c : Int} (h : codeW xs a b c = 0) : codeS xs = 0 ∧ okW a b c = true := by
  simp only [codeW] at h
  split at h
  · split at h
    · exact ⟨by assumption, by assumption⟩
    · simp at h
  · exact absurd h (by assumption)
theorem strOf_alw : strOf [97, 108, 119, 49] = alw1 := rfl
theorem u8ofNat_inj {a b : Nat} (ha : a < 256) (hb : b < 256) (h : UInt8.ofNat a = UInt8.ofNat b) : a = b := by
  have := congrArg UInt8.toNat h
  simp at this
  omega
theorem strOf_inj : ∀ {a b : List Nat}, (∀ x ∈ a, x < 256) → (∀ x ∈ b, x < 256) → strOf a = strOf b → a = b := by
  intro a b ha hb h
  have h1 : (lift (a.map by8)).map byteOf = (lift (b.map by8)).map byteOf := by
    have := congrArg (fun z : ByteArray => z.data.toList) h
    simpa [strOf] using this
  have e : ∀ l : List Nat, (lift (l.map by8)).map byteOf = l.map UInt8.ofNat := by
    intro l
    simp [lift, by8, byteOf]
  rw [e, e] at h1
  clear h e
  induction a generalizing b with
  | nil => cases b with
    | nil => rfl
    | cons => simp at h1
  | cons x a ih => cases b with
    | nil => simp at h1
    | cons y b =>
      simp only [List.map_cons, List.cons.injEq] at h1
      rw [u8ofNat_inj (ha x (by simp)) (hb y (by simp)) h1.1, ih (fun z hz => ha z (by simp [hz])) (fun z hz => hb z (by simp [hz])) h1.2]
theorem num_nat (n : Nat) : putN n = [n] ↔ n < 128 := by
  constructor
  · intro h
    by_cases hn : n < 128
    · exact hn
    · rw [putN, dif_neg hn] at h
      have := congrArg List.length h
      rw [putN] at this
      split at this <;> simp at this
  · intro h; rw [putN, dif_pos h]
theorem toNat_of {a : Int} (h : 0 ≤ a) : ((a.toNat : Nat) : Int) = a := by omega
theorem putN_byte : ∀ (n : Nat), ∀ b ∈ putN n, b < 256 := by
  intro n
  induction n using Nat.strongRecOn with
  | ind n ih =>
    intro b hb
    rw [putN] at hb
    by_cases hn : n < 128
    · rw [dif_pos hn] at hb; simp at hb; omega
    · rw [dif_neg hn] at hb
      simp only [List.mem_cons] at hb
      rcases hb with rfl | hb
      · omega
      · exact ih _ (by omega) b hb
/-- the steps of reading what was written -/
theorem steps_back {w : Wt} (h : codeW w.xs w.a w.b w.c = 0) : ∃ s1 s2 s3 s4 : Rd,
    (Rd.mk (natW w) 0 0 0).raw 4 = ([97, 108, 119, 49], s1) ∧ s1.block 4096 = (w.xs.map pk, s2) ∧ s2.num 7 = (w.a.toNat, s3) ∧ s3.num 7 = (w.b.toNat, s4) ∧ s4.num 15 = (w.c.toNat, ⟨natW w, (natW w).length, 0, 0⟩) ∧ s1.why = 0 ∧ s2.why = 0 ∧ s3.why = 0 ∧ s4.why = 0 := by
  obtain ⟨hs, ho⟩ := codeW_zero h
  obtain ⟨a1, a2, b1, b2, c1, c2, hab⟩ := okW_nat ho
  obtain ⟨x1, x2⟩ := codeS_zero hs
  have d0 : (Rd.mk (natW w) 0 0 0).bs.drop (Rd.mk (natW w) 0 0 0).p = [97, 108, 119, 49] ++ (putN w.xs.length ++ (w.xs.map pk ++ (putN w.a.toNat ++ (putN w.b.toNat ++ putN w.c.toNat)))) := rfl
  have e1 := raw_put (s := Rd.mk (natW w) 0 0 0) rfl d0
  have d1 := drop_add d0
  have e2 := num_put (s := ⟨natW w, 0 + [97, 108, 119, 49].length, 0, 0⟩) (mx := 4096) rfl d1 (by omega) (by omega)
  have d2 := drop_add d1
  have e3 := raw_put (s := ⟨natW w, _, 0, 0⟩) rfl d2
  have d3 := drop_add d2
  have e4 := num_put (s := ⟨natW w, _, 0, 0⟩) (mx := 7) rfl d3 (by omega) (by omega)
  have d4 := drop_add d3
  have e5 := num_put (s := ⟨natW w, _, 0, 0⟩) (mx := 7) rfl d4 (by omega) (by omega)
  have d5 := drop_add d4
  have e6 := num_put (s := ⟨natW w, _, 0, 0⟩) (mx := 15) (rest := []) rfl (by rw [List.append_nil]; exact d5) (by omega) (by omega)
  refine ⟨_, _, _, _, e1, ?_, e4, e5, ?_, rfl, rfl, rfl, rfl⟩
  · unfold Rd.block
    rw [e2]
    simp only
    simp only [List.length_map] at e3 ⊢
    exact e3
  · rw [e6]
    simp only [natW, List.length_append, Nat.zero_add, Prod.mk.injEq, Rd.mk.injEq, true_and, and_true]
    omega
theorem natW_byte {w : Wt} (h : codeW w.xs w.a w.b w.c = 0) : (natW w).length ≤ 5000 ∧ ∀ b ∈ natW w, b < 256 := by
  obtain ⟨hs, ho⟩ := codeW_zero h
  obtain ⟨a1, a2, b1, b2, c1, c2, hab⟩ := okW_nat ho
  obtain ⟨x1, x2⟩ := codeS_zero hs
  have l1 := putN_len 4 w.xs.length (by omega)
  have l2 := (num_nat w.a.toNat).2 (by omega)
  have l3 := (num_nat w.b.toNat).2 (by omega)
  have l4 := (num_nat w.c.toNat).2 (by omega)
  refine ⟨?_, fun b hb => ?_⟩
  · simp only [natW, List.length_append, l2, l3, l4, List.length_map, List.length_cons, List.length_nil]
    omega
  · simp only [natW, List.mem_append, l2, l3, l4, List.mem_map] at hb
    rcases hb with hb | hb | ⟨x, hx, rfl⟩ | hb | hb | hb
    · simp at hb; omega
    · exact putN_byte _ b hb
    · have := (dec_pk (x2 x hx)).2; omega
    · simp at hb; omega
    · simp at hb; omega
    · simp at hb; omega
theorem readW_back {w : Wt} (h : codeW w.xs w.a w.b w.c = 0) : readW (natW w) = (w, 0, 0) := by
  obtain ⟨s1, s2, s3, s4, e1, e2, e3, e4, e5, y1, y2, y3, y4⟩ := steps_back h
  obtain ⟨hs, ho⟩ := codeW_zero h
  obtain ⟨a1, a2, b1, b2, c1, c2, hab⟩ := okW_nat ho
  unfold readW
  rw [e1]
  simp only
  rw [if_neg (by rw [strOf_alw]; simp)]
  unfold tailW
  simp only [e2, e3, e4, e5]
  have hd : (Rd.mk (natW w) (natW w).length 0 0).done = Rd.mk (natW w) (natW w).length 0 0 := by
    unfold Rd.done; rw [if_neg (by simp)]
  rw [hd, getS_put hs]
  simp only
  rw [if_neg (by simp), if_neg (by simp), toNat_of a1, toNat_of b1, toNat_of c1, if_neg (by simpa using h)]
theorem readW_cut {w : Wt} (h : codeW w.xs w.a w.b w.c = 0) {k : Nat} (hk : k < (natW w).length) : (readW ((natW w).take k)).2.2 = 2 := by
  obtain ⟨s1, s2, s3, s4, e1, e2, e3, e4, e5, y1, y2, y3, y4⟩ := steps_back h
  obtain ⟨n1, n2⟩ := natW_byte h
  have ok0 : Rd.ok ⟨natW w, 0, 0, 0⟩ := ⟨by simp only; omega, Nat.zero_le _, n2⟩
  have ok1 := raw_ok ok0 4; rw [e1] at ok1; simp only at ok1
  have okn := num_ok ok1 4096
  have ok2 : (s1.block 4096).2.ok := raw_ok okn _
  rw [e2] at ok2; simp only at ok2
  have ok3 := num_ok ok2 7; rw [e3] at ok3; simp only at ok3
  have ok4 := num_ok ok3 7; rw [e4] at ok4; simp only at ok4
  have hkb : k ≤ (natW w).length := by omega
  have r0 : ∀ n, (Rd.raw ⟨natW w, 0, 0, 0⟩ n).2.bs = natW w := fun n => by
    unfold Rd.raw Rd.fail; split <;> (try split) <;> (try split) <;> (try split) <;> rfl
  have bsr : ∀ (s : Rd) (n : Int), (s.raw n).2.bs = s.bs := fun s n => by
    unfold Rd.raw Rd.fail; split <;> (try split) <;> (try split) <;> (try split) <;> rfl
  have bsn : ∀ (s : Rd) (n : Int), (s.num n).2.bs = s.bs := fun s n => by
    unfold Rd.num Rd.fail; split <;> (try split) <;> (try split) <;> (try split) <;> rfl
  have q1 : s1.bs = natW w := by have := bsr ⟨natW w, 0, 0, 0⟩ 4; rw [e1] at this; exact this
  have q2 : s2.bs = natW w := by have := bsr (s1.num 4096).2 (s1.num 4096).1; rw [bsn, show (s1.num 4096).2.raw ((s1.num 4096).1 : Nat) = s1.block 4096 from rfl, e2, q1] at this; exact this
  have q3 : s3.bs = natW w := by have := bsn s2 7; rw [e3, q2] at this; exact this
  have q4 : s4.bs = natW w := by have := bsn s3 7; rw [e4, q3] at this; exact this
  have hn0 : (s1.num 4096).2.why = 0 := by
    have : (s1.block 4096).2.why = 0 := by rw [e2]; exact y2
    exact (raw_of okn this).2.1
  have al0 : Along k ⟨natW w, 0, 0, 0⟩ ⟨(natW w).take k, 0, 0, 0⟩ := ⟨rfl, .inl ⟨rfl, rfl, Nat.zero_le _⟩⟩
  obtain ⟨al1, v1⟩ := along_raw hkb ok0 al0 4 4 (fun _ => rfl) (by rw [e1]; exact y1)
  rw [e1] at al1 v1; simp only at al1 v1
  obtain ⟨t1m, t1, f1⟩ : ∃ m s, (Rd.mk ((natW w).take k) 0 0 0).raw 4 = (m, s) := ⟨_, _, rfl⟩
  rw [f1] at al1 v1; simp only at al1 v1
  obtain ⟨al1', v1'⟩ := along_num (by rw [q1]; exact hkb) ok1 al1 4096 hn0
  obtain ⟨al2, v2⟩ := along_raw (by rw [bsn, q1]; exact hkb) okn al1' (s1.num 4096).1 (t1.num 4096).1 (fun h => by rw [v1' h]) (by show (s1.block 4096).2.why = 0; rw [e2]; exact y2)
  rw [show (s1.num 4096).2.raw ((s1.num 4096).1 : Nat) = s1.block 4096 from rfl, show (t1.num 4096).2.raw ((t1.num 4096).1 : Nat) = t1.block 4096 from rfl, e2] at al2 v2
  simp only at al2 v2
  obtain ⟨al3, v3⟩ := along_num (by rw [q2]; exact hkb) ok2 al2 7 (by rw [e3]; exact y3)
  rw [e3] at al3 v3; simp only at al3 v3
  obtain ⟨al4, v4⟩ := along_num (by rw [q3]; exact hkb) ok3 al3 7 (by rw [e4]; exact y4)
  rw [e4] at al4 v4; simp only at al4 v4
  obtain ⟨al5, v5⟩ := along_num (by rw [q4]; exact hkb) ok4 al4 15 (by rw [e5])
  rw [e5] at al5 v5; simp only at al5 v5
  obtain ⟨z1, z2⟩ := along_end (s := ⟨natW w, (natW w).length, 0, 0⟩) hk al5 rfl
  unfold readW
  rw [f1]
  simp only
  rw [if_neg]
  · unfold tailW
    simp only
    rw [if_pos (by rw [z2]; simp)]
    simp only
    rw [z2]; rfl
  · rintro ⟨g1, g2⟩
    rw [v1 g1, strOf_alw] at g2
    exact g2 rfl
theorem readW_once {bs : List Nat} (hl : bs.length ≤ 1000000) (hb : ∀ b ∈ bs, b < 256) (h : (readW bs).2.2 = 0) : codeW (readW bs).1.xs (readW bs).1.a (readW bs).1.b (readW bs).1.c = 0 ∧ bs = natW (readW bs).1 := by
  have ok0 : Rd.ok ⟨bs, 0, 0, 0⟩ := ⟨hl, Nat.zero_le _, hb⟩
  have ok1 := raw_ok ok0 4
  unfold readW at h ⊢
  obtain ⟨m1, s1, f1⟩ : ∃ m s, (Rd.mk bs 0 0 0).raw 4 = (m, s) := ⟨_, _, rfl⟩
  rw [f1] at h ⊢ ok1
  simp only at h ⊢ ok1
  by_cases hh : s1.why = 0 ∧ strOf m1 ≠ alw1
  · rw [if_pos hh] at h; simp at h
  · rw [if_neg hh] at h ⊢
    unfold tailW at h ⊢
    simp only at h ⊢
    obtain ⟨m2, s2, f2⟩ : ∃ m s, s1.block 4096 = (m, s) := ⟨_, _, rfl⟩
    have okn := num_ok ok1 4096
    have ok2 : (s1.block 4096).2.ok := raw_ok okn _
    rw [f2] at h ⊢ ok2
    simp only at h ⊢ ok2
    obtain ⟨a, s3, f3⟩ : ∃ m s, s2.num 7 = (m, s) := ⟨_, _, rfl⟩
    have ok3 := num_ok ok2 7
    rw [f3] at h ⊢ ok3
    simp only at h ⊢ ok3
    obtain ⟨b, s4, f4⟩ : ∃ m s, s3.num 7 = (m, s) := ⟨_, _, rfl⟩
    have ok4 := num_ok ok3 7
    rw [f4] at h ⊢ ok4
    simp only at h ⊢ ok4
    obtain ⟨c, s5, f5⟩ : ∃ m s, s4.num 15 = (m, s) := ⟨_, _, rfl⟩
    rw [f5] at h ⊢
    simp only at h ⊢
    by_cases h1 : s5.done.why ≠ 0
    · rw [if_pos h1] at h; simp only at h; omega
    · rw [if_neg h1] at h ⊢
      by_cases h2 : (getS m2).2.2 ≠ 0
      · rw [if_pos h2] at h; simp only at h; omega
      · rw [if_neg h2] at h ⊢
        by_cases h3 : codeW (getS m2).1 a b c ≠ 0
        · rw [if_pos h3] at h; simp only at h; exact absurd h h3
        · rw [if_neg h3]
          have h3 : codeW (getS m2).1 a b c = 0 := by omega
          refine ⟨h3, ?_⟩
          have h2 : (getS m2).2.2 = 0 := by omega
          have w5 : s5.why = 0 ∧ s5.p = s5.bs.length := by
            unfold Rd.done at h1
            split at h1
            · rename_i hw
              simp only [Rd.fail, hw.1, if_true] at h1
              simp at h1
            · have : (s4.num 15).2.ok := num_ok ok4 15
              rw [f5] at this
              have := this.2.1
              simp only at this
              omega
          obtain ⟨n5, g5, _, w4, d5, _⟩ := num_of ok4 (mx := 15) (by rw [f5]; exact w5.1)
          obtain ⟨n4, g4, _, w3, d4, _⟩ := num_of ok3 (mx := 7) (by rw [f4]; exact w4)
          obtain ⟨n3, g3, _, w2, d3, _⟩ := num_of ok2 (mx := 7) (by rw [f3]; exact w3)
          have hblk : (s1.block 4096).2.why = 0 := by rw [f2]; exact w2
          obtain ⟨_, wn, len2, g2, d2, _⟩ := raw_of okn hblk
          obtain ⟨n1, g1, _, w1, d1, _⟩ := num_of ok1 wn
          obtain ⟨_, _, len0, g0, d0, _⟩ := raw_of ok0 (n := 4) (by rw [f1]; exact w1)
          have b1 : m1 = [97, 108, 119, 49] := by
            have hm1 : ∀ x ∈ m1, x < 256 := by have := (raw_bytes ok0 4).2; rw [f1] at this; exact this
            refine strOf_inj hm1 (by simp) ?_
            rw [strOf_alw]
            by_cases e : strOf m1 = alw1
            · exact e
            · exact absurd ⟨w1, e⟩ hh
          have gm : (s1.num 4096).2.raw ((s1.num 4096).1 : Nat) = (m2, s2) := f2
          rw [gm] at g2 d2 len2
          rw [g1] at g2 d2 len2
          rw [f1] at g0 d0
          rw [f3] at g3; rw [f4] at g4; rw [f5] at g5
          simp only [Prod.mk.injEq, true_and, Int.toNat_natCast] at g0 g1 g2 g3 g4 g5 d0 d1 d2 d3 d4 d5 len2
          obtain ⟨rfl, g3⟩ := g3
          obtain ⟨rfl, g4⟩ := g4
          obtain ⟨rfl, g5⟩ := g5
          subst g0; subst g2; subst g3; subst g4; subst g5
          simp only at d0 d1 d2 d3 d4 d5 w5 len2
          have k : bs.drop 0 = m1 ++ (putN n1 ++ (m2 ++ (putN a ++ (putN b ++ (putN c ++ []))))) := by
            rw [d0, d1, d2, d3, d4, d5, List.drop_eq_nil_of_le (by omega)]
          have hm := getS_val h2
          have hd : (m2.map dec).map pk = m2 := by
            rw [List.map_map]
            conv => rhs; rw [← List.map_id m2]
            exact List.map_congr_left fun x hx => pk_dec (((getS_ok m2).1 h2).2 x hx)
          rw [List.drop_zero] at k
          simp only [natW, hm, hd, List.length_map, Int.toNat_natCast, len2]
          rw [b1, List.append_nil] at k
          exact k
theorem readW_bad {bs : List Nat} (h : (readW bs).2.2 ≠ 0) : (readW bs).1 = Wt.zero := by
  unfold readW tailW at h ⊢
  simp only at h ⊢
  split
  · rfl
  · rename_i h0
    rw [if_neg h0] at h
    split
    · rfl
    · rename_i h1
      rw [if_neg h1] at h
      split
      · rfl
      · rename_i h2
        rw [if_neg h2] at h
        split
        · rfl
        · rename_i h3
          rw [if_neg h3] at h
          exact absurd rfl h
end Go.Proofs.Ytdbmfnhbgacldaa.Am

/- Small things that seats share: here the writers' texts have them. -/
namespace Go.Proofs.Ytdbmfnhbgacldaa.Am
end Go.Proofs.Ytdbmfnhbgacldaa.Am
