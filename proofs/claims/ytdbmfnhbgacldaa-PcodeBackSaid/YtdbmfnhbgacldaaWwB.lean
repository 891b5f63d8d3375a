/- Contracts: the writer. -/
import Derived.Test.YtdbmfnhbgacldaaWwA
namespace Go.Proofs.Ytdbmfnhbgacldaa.Am
set_option autoImplicit false
set_option linter.unusedVariables false
set_option linter.unusedSimpArgs false
set_option maxRecDepth 10000
set_option pp.deepTerms false
set_option pp.deepTerms.threshold 6
set_option pp.proofs false
/-- a writer that has these bytes -/
def wr (k : Nat) (zs : List (List I)) : List Ob := [.row 0 1 false [[.ref 1 (k + 1) 0 zs.length]], .row (k + 1) 1 false (lift zs)]
def wr0 : List Ob := [.row 0 1 false [[.nils]]]
def one (zs : List (List I)) : Prop := ∀ cs ∈ zs, cs.length = 1
theorem wr_cl (k : Nat) (zs : List (List I)) : ∀ o ∈ wr k zs, o.cl 2 := by
  intro o ho
  simp only [wr, List.mem_cons, List.not_mem_nil, or_false] at ho
  rcases ho with rfl | rfl
  · intro cs hcs
    simp only [List.mem_cons, List.not_mem_nil, or_false] at hcs
    subst hcs
    rfl
  · exact cl_lift _ _ _ _ _
theorem fin {m : Nat} {st target : List Ob} {r r0 : V} (h : st.take m = target) (hl : m ≤ st.length) (hc : ∀ o ∈ target, o.cl m) (hr0 : r = r0) (hr : r.cl m = true) : m ≤ st.length ∧ r.cl m = true ∧ (∀ o ∈ st.take m, o.cl m) ∧ (r = r0 ∧ st.take m = target) := by
  subst h
  exact ⟨hl, hr, hc, hr0, rfl⟩
theorem apN {sz by_ : Nat} {es : List (List I)} (hes : one es) (hsz : 1 = sz) (b : Nat) (hb : by_ = b) (h2 : es.length * b ≤ 140737488355328) (h3 : es.length ≤ Go.maxLen) : (∀ cs ∈ es, cs.length = sz) ∧ (lift es).length * by_ ≤ 140737488355328 ∧ (lift es).length ≤ Go.maxLen := by
  subst hsz hb
  have : (lift es).length = es.length := by simp [lift]
  rw [this]
  exact ⟨hes, h2, h3⟩
theorem known_map_i (st : List Ob) : ∀ xs : List I, knownAll st (xs.map .i) = true
  | [] => rfl
  | x :: xs => by simp [knownAll, V.known, known_map_i st xs]
theorem apR {st : List Ob} {w : List (List V)} {es : List (List I)} {by_ len esl : Nat} (hw : w = lift es) (h1 : len = esl) (b : Nat) (hb : by_ = b) (h2 : (len + es.length) * b ≤ 140737488355328) (h3 : len + es.length ≤ Go.maxLen) :
    (∀ cs ∈ w, knownAll st cs = true) ∧ len = esl ∧ (len + w.length) * by_ ≤ 140737488355328 ∧ len + w.length ≤ Go.maxLen := by
  subst hw hb
  have : (lift es).length = es.length := by simp [lift]
  rw [this]
  refine ⟨fun cs hcs => ?_, h1, h2, h3⟩
  simp only [lift, List.mem_map] at hcs
  obtain ⟨x, _, rfl⟩ := hcs
  exact known_map_i _ _
theorem raw0 (xs : List (List I)) (h1 : one xs) (h2 : xs.length ≤ 140737488355328) : CallW Try.prog G0 24 [.ptr 0 0 0 0, .i (.sl xs)] wr0 (fun r st' => r = .tup [] ∧ st' = wr 0 xs) := by
  refine call_of_bodyF 2 (by decide) Try.func24 rfl (fun a w => Try.call24 a w) (wpx_ok (own := own0) _ _ _ ?_)
  conv => whnf
  refine ⟨by rfl, ?_⟩
  conv => whnf
  refine ⟨apN h1 rfl 1 rfl (by omega) (len_mx (by omega)), ?_⟩
  conv => whnf
  refine ⟨by rfl, ?_⟩
  conv => whnf
  refine fin (target := wr 0 xs) ?_ ?_ (wr_cl _ _) rfl rfl
  · simp [wr, putCells, lift]
  · simp
theorem raw1 (ys xs : List (List I)) (h1 : one xs) (h2 : ys.length + xs.length ≤ 140737488355328) : CallW Try.prog G0 24 [.ptr 0 0 0 0, .i (.sl xs)] (wr 0 ys) (fun r st' => r = .tup [] ∧ st' = wr 1 (ys ++ xs)) := by
  refine call_of_bodyF 2 (Nat.le_refl _) Try.func24 rfl (fun a w => Try.call24 a w) (wpx_ok (own := own0) _ _ _ ?_)
  conv => whnf
  refine ⟨by rfl, ?_⟩
  conv => whnf
  refine ⟨apL h1 rfl 1 rfl (by simp [lift]) (by omega) (len_mx (by omega)), ?_⟩
  conv => whnf
  refine ⟨by rfl, ?_⟩
  conv => whnf
  refine fin (target := wr 1 (ys ++ xs)) ?_ ?_ (wr_cl _ _) rfl rfl
  · simp [wr, putCells, lift]
  · simp
/-- whatever its version -/
theorem wr_up (k : Nat) (zs : List (List I)) (j : Nat) : upSt (fun id => if id = 1 then k else 0) 0 (wr j zs) = wr (j + k) zs := by
  simp [upSt, Ob.up, wr, V.up, V.up.upAll]
  omega
theorem raw (k : Nat) (ys xs : List (List I)) (h1 : one xs) (h2 : ys.length + xs.length ≤ 140737488355328) : CallW Try.prog G0 24 [.ptr 0 0 0 0, .i (.sl xs)] (wr k ys) (fun r st' => r = .tup [] ∧ st' = wr (1 + k) (ys ++ xs)) := by
  have := (raw1 ys xs h1 h2).vers (fun id => if id = 1 then k else 0)
  rw [wr_up, Nat.zero_add] at this
  refine this.mono ?_
  rintro r st' ⟨r0, st0, ⟨rfl, rfl⟩, rfl, rfl⟩
  exact ⟨rfl, wr_up _ _ _⟩
theorem num1 (ys : List (List I)) (n : Nat) (hn : n < 4294967296) (h2 : ys.length ≤ 1000000) : CallW Try.prog G0 27 [.ptr 0 0 0 0, .i (.int .i64 n)] (wr 0 ys) (fun r st' => r = .tup [] ∧ st' = wr 1 (ys ++ (putN n).map by8)) := by
  refine call_of_bodyF 2 (Nat.le_refl _) Try.func27 rfl (fun a w => Try.call27 a w) (wpx_ok (own := own0) _ _ _ ?_)
  conv => whnf
  refine draw_ok (own := own0) [8, 11] [(0, 11)] [(.i (.sl ((putN n).map by8)), wr 0 ys)] rfl (by kernel_rfl) (Nat.le_refl _) ?_
  conv => whnf
  refine ⟨by rfl, ?_⟩
  conv => whnf
  have c : CallW Try.prog G0 46 [.i (.int .u32 (IntKind.u32.wrap n))] (wr 0 ys) (fun r st' => r = .i (.sl ((putN n).map by8)) ∧ st' = wr 0 ys) := by
    rw [show IntKind.u32.wrap n = n by simp [IntKind.wrap, IntKind.signed, IntKind.bits]; omega]
    exact (put46 n hn).pure _ rfl rfl
  refine ⟨c, ?_⟩
  have hl := putN_len 4 n (by omega)
  conv => whnf
  refine ⟨apL (by simp [by8]) rfl 1 rfl (by simp [lift]) (by simp only [List.length_map]; omega) (len_mx (by simp only [List.length_map]; omega)), ?_⟩
  conv => whnf
  refine ⟨by rfl, ?_⟩
  conv => whnf
  refine ⟨?_, ?_, ?_⟩
  · repeat ((conv => whnf); first | exact trivial | refine ⟨rfl, ?_⟩)
  · conv => whnf
    refine ⟨?_, trivial⟩
    conv => whnf
    exact ⟨rfl, rfl⟩
  · conv => whnf
    refine fin (target := wr 1 (ys ++ (putN n).map by8)) ?_ ?_ (wr_cl _ _) rfl rfl
    · simp [wr, putCells, lift]
    · simp
theorem num (k : Nat) (ys : List (List I)) (n : Nat) (hn : n < 4294967296) (h2 : ys.length ≤ 1000000) : CallW Try.prog G0 27 [.ptr 0 0 0 0, .i (.int .i64 n)] (wr k ys) (fun r st' => r = .tup [] ∧ st' = wr (1 + k) (ys ++ (putN n).map by8)) := by
  have := (num1 ys n hn h2).vers (fun id => if id = 1 then k else 0)
  rw [wr_up, Nat.zero_add] at this
  refine this.mono ?_
  rintro r st' ⟨r0, st0, ⟨rfl, rfl⟩, rfl, rfl⟩
  exact ⟨rfl, wr_up _ _ _⟩
theorem block1 (ys xs : List (List I)) (h1 : one xs) (h2 : xs.length ≤ 1000000) (h3 : ys.length ≤ 1000000) : CallW Try.prog G0 26 [.ptr 0 0 0 0, .i (.sl xs)] (wr 0 ys) (fun r st' => r = .tup [] ∧ st' = wr 2 (ys ++ (putN xs.length).map by8 ++ xs)) := by
  refine call_of_bodyF 2 (Nat.le_refl _) Try.func26 rfl (fun a w => Try.call26 a w) (wpx_ok (own := own0) _ _ _ ?_)
  have hl := putN_len 4 xs.length (by omega)
  conv => whnf
  refine (num 0 ys xs.length (by omega) h3).mono ?_
  rintro r st' ⟨rfl, rfl⟩
  conv => whnf
  refine (raw 1 (ys ++ (putN xs.length).map by8) xs h1 (by simp only [List.length_append, List.length_map]; omega)).mono ?_
  rintro r st' ⟨rfl, rfl⟩
  conv => whnf
  refine fin (target := wr 2 (ys ++ (putN xs.length).map by8 ++ xs)) ?_ ?_ (wr_cl _ _) rfl rfl
  · rfl
  · exact Nat.le_refl _
theorem block (k : Nat) (ys xs : List (List I)) (h1 : one xs) (h2 : xs.length ≤ 1000000) (h3 : ys.length ≤ 1000000) : CallW Try.prog G0 26 [.ptr 0 0 0 0, .i (.sl xs)] (wr k ys) (fun r st' => r = .tup [] ∧ st' = wr (2 + k) (ys ++ (putN xs.length).map by8 ++ xs)) := by
  have := (block1 ys xs h1 h2 h3).vers (fun id => if id = 1 then k else 0)
  rw [wr_up, Nat.zero_add] at this
  refine this.mono ?_
  rintro r st' ⟨r0, st0, ⟨rfl, rfl⟩, rfl, rfl⟩
  exact ⟨rfl, wr_up _ _ _⟩
theorem bytes0 (zs : List (List I)) (h1 : one zs) (h2 : zs.length ≤ 140737488355328) : CallW Try.prog G0 28 [.ptr 0 0 0 0] (wr 0 zs) (fun r st' => r = .i (.sl zs) ∧ st' = wr 0 zs) := by
  refine call_of_bodyF 2 (Nat.le_refl _) Try.func28 rfl (fun a w => Try.call28 a w) (wpx_ok (own := ownAll) _ _ _ ?_)
  conv => whnf
  refine ⟨by rfl, ?_⟩
  conv => whnf
  refine ⟨by rfl, ?_⟩
  conv => whnf
  have hl : ((lift zs).drop 0).take zs.length = lift zs := by
    simp only [lift, List.drop_zero]
    exact List.take_of_length_le (by simp)
  refine ⟨apR hl rfl 1 rfl (by simp; omega) (len_mx (by simp; omega)), ?_⟩
  conv => whnf
  refine ⟨Nat.le_refl _, rfl, zs, ?_, ?_⟩
  · exact hl
  · refine fin (target := wr 0 zs) ?_ ?_ (wr_cl _ _) ?_ rfl
    · rfl
    · simp
    · rw [hl]; simp [lift]
theorem bytes (k : Nat) (zs : List (List I)) (h1 : one zs) (h2 : zs.length ≤ 140737488355328) : CallW Try.prog G0 28 [.ptr 0 0 0 0] (wr k zs) (fun r st' => r = .i (.sl zs) ∧ st' = wr k zs) := by
  have := (bytes0 zs h1 h2).vers (fun id => if id = 1 then k else 0)
  rw [wr_up, Nat.zero_add] at this
  refine this.mono ?_
  rintro r st' ⟨r0, st0, ⟨rfl, rfl⟩, rfl, rfl⟩
  exact ⟨rfl, by rw [wr_up, Nat.zero_add]⟩
end Go.Proofs.Ytdbmfnhbgacldaa.Am
