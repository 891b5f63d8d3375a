/- Texts PrC PrD PsF ThA ThB CaA CaB CaC RcA RcB RcC PrF PrH PrI of this session, one behind the other. -/
import Derived.Test.YtdbmfnhbgacldaaQaX
import Derived.Test.YtdbmfnhbgacldaaAmZ
import Derived.Test.YtdbmfnhbgacldaaAmRf
/- Contracts: which nodes may be. -/
namespace Go.Proofs.Ytdbmfnhbgacldaa.Am
set_option autoImplicit false
set_option linter.unusedVariables false
set_option linter.unusedSimpArgs false
set_option maxRecDepth 10000
set_option pp.maxSteps 20000
set_option pp.proofs false
abbrev Nd := Int × Int × Int × Int
def encNd (n : Nd) : List I := [.int .i64 n.1, .int .i64 n.2.1, .int .i64 n.2.2.1, .int .i64 n.2.2.2]
def encF (f : List Nd) : List I := [.sl (f.map encNd)]
structure Pg where
  g : Int
  l : Int
  s : Int
  fs : List (List Nd)
def encP4 (p : Pg) : List I := [.int .i64 p.g, .int .i64 p.l, .int .i64 p.s, .sl (p.fs.map encF)]
def pgV (p : Pg) : V := .agg ((encP4 p).map .i)
def pgB (p : Pg) : Ob := .row 0 4 false [(encP4 p).map .i]
def ndV (n : Nd) : V := .agg ((encNd n).map .i)
def fieldsF (p : Pg) (k z : Int) : Int × Int × Int × Bool :=
  if k = 0 then (0, z, 0, true) else if k = 1 ∨ k = 2 then (p.g, z, 0, decide (p.g > 0)) else if k = 3 ∨ k = 4 then (p.l, z, 0, decide (p.l > 0)) else
  if k = 5 then ((p.fs.length : Int), z, p.s, decide (p.s > 0) && decide ((p.fs.length : Int) > 0)) else if k = 6 then (p.s, z, 0, decide (p.s > 0)) else
  if k = 7 then ((p.fs.length : Int), z, 0, decide ((p.fs.length : Int) > 0)) else if k = 8 then (0, z, z, true) else if k = 9 then (0, 0, 0, true) else (0, 0, 0, false)
def fldV (r : Int × Int × Int × Bool) : V := .tup [.i (.int .i64 r.1), .i (.int .i64 r.2.1), .i (.int .i64 r.2.2.1), .i (.bool r.2.2.2)]
set_option maxHeartbeats 1000000 in
theorem fields55 (p : Pg) (k z : Int) : CallW Try.prog G0 55 [pgV p, .i (.int .i64 k), .i (.int .i64 z)] [] (fun r st' => r = fldV (fieldsF p k z) ∧ st' = []) := by
  refine call_of_bodyF 0 (Nat.le_refl _) Try.func55 rfl (fun a w => Try.call55 a w) (wpx_ok (own := own0) _ _ _ ?_)
  repeat ((conv => whnf); first | refine Br.t ?_ | refine Br.f ?_ | refine ⟨rfl, ?_⟩)
  conv => whnf
  refine Br.mk (fun h => ?_) (fun h0 => ?_)
  · have hk : k = 0 := by simpa using h
    subst hk
    repeat ((conv => whnf); first | refine Br.t ?_ | refine Br.f ?_ | refine ⟨rfl, ?_⟩)
    conv => whnf
    refine fin (target := []) rfl (Nat.zero_le _) (by simp) rfl rfl
  · have h0 : k ≠ 0 := by simpa using h0
    repeat ((conv => whnf); first | refine Br.t ?_ | refine Br.f ?_ | refine ⟨rfl, ?_⟩)
    conv => whnf
    refine Br.mk (fun h => ?_) (fun h1 => ?_)
    · have hk : k = 1 := by simpa using h
      subst hk
      repeat ((conv => whnf); first | refine Br.t ?_ | refine Br.f ?_ | refine ⟨rfl, ?_⟩)
      conv => whnf
      refine draw_ok (own := own0) [] [] [] rfl (by kernel_rfl) (Nat.zero_le _) ?_
      repeat ((conv => whnf); first | refine Br.t ?_ | refine Br.f ?_ | refine ⟨rfl, ?_⟩)
      conv => whnf
      refine ⟨by repeat ((conv => whnf); first | exact trivial | refine ⟨rfl, ?_⟩), trivial, ?_⟩
      conv => whnf
      refine fin (target := []) rfl (Nat.zero_le _) (by simp) rfl rfl
    · have h1 : k ≠ 1 := by simpa using h1
      repeat ((conv => whnf); first | refine Br.t ?_ | refine Br.f ?_ | refine ⟨rfl, ?_⟩)
      conv => whnf
      refine Br.mk (fun h => ?_) (fun h2 => ?_)
      · have hk : k = 2 := by simpa using h
        subst hk
        repeat ((conv => whnf); first | refine Br.t ?_ | refine Br.f ?_ | refine ⟨rfl, ?_⟩)
        conv => whnf
        refine draw_ok (own := own0) [] [] [] rfl (by kernel_rfl) (Nat.zero_le _) ?_
        repeat ((conv => whnf); first | refine Br.t ?_ | refine Br.f ?_ | refine ⟨rfl, ?_⟩)
        conv => whnf
        refine ⟨by repeat ((conv => whnf); first | exact trivial | refine ⟨rfl, ?_⟩), trivial, ?_⟩
        conv => whnf
        refine fin (target := []) rfl (Nat.zero_le _) (by simp) rfl rfl
      · have h2 : k ≠ 2 := by simpa using h2
        repeat ((conv => whnf); first | refine Br.t ?_ | refine Br.f ?_ | refine ⟨rfl, ?_⟩)
        conv => whnf
        refine Br.mk (fun h => ?_) (fun h3 => ?_)
        · have hk : k = 3 := by simpa using h
          subst hk
          repeat ((conv => whnf); first | refine Br.t ?_ | refine Br.f ?_ | refine ⟨rfl, ?_⟩)
          conv => whnf
          refine draw_ok (own := own0) [] [] [] rfl (by kernel_rfl) (Nat.zero_le _) ?_
          repeat ((conv => whnf); first | refine Br.t ?_ | refine Br.f ?_ | refine ⟨rfl, ?_⟩)
          conv => whnf
          refine ⟨by repeat ((conv => whnf); first | exact trivial | refine ⟨rfl, ?_⟩), trivial, ?_⟩
          conv => whnf
          refine fin (target := []) rfl (Nat.zero_le _) (by simp) rfl rfl
        · have h3 : k ≠ 3 := by simpa using h3
          repeat ((conv => whnf); first | refine Br.t ?_ | refine Br.f ?_ | refine ⟨rfl, ?_⟩)
          conv => whnf
          refine Br.mk (fun h => ?_) (fun h4 => ?_)
          · have hk : k = 4 := by simpa using h
            subst hk
            repeat ((conv => whnf); first | refine Br.t ?_ | refine Br.f ?_ | refine ⟨rfl, ?_⟩)
            conv => whnf
            refine draw_ok (own := own0) [] [] [] rfl (by kernel_rfl) (Nat.zero_le _) ?_
            repeat ((conv => whnf); first | refine Br.t ?_ | refine Br.f ?_ | refine ⟨rfl, ?_⟩)
            conv => whnf
            refine ⟨by repeat ((conv => whnf); first | exact trivial | refine ⟨rfl, ?_⟩), trivial, ?_⟩
            conv => whnf
            refine fin (target := []) rfl (Nat.zero_le _) (by simp) rfl rfl
          · have h4 : k ≠ 4 := by simpa using h4
            repeat ((conv => whnf); first | refine Br.t ?_ | refine Br.f ?_ | refine ⟨rfl, ?_⟩)
            conv => whnf
            refine Br.mk (fun h => ?_) (fun h5 => ?_)
            · have hk : k = 5 := by simpa using h
              subst hk
              repeat ((conv => whnf); first | refine Br.t ?_ | refine Br.f ?_ | refine ⟨rfl, ?_⟩)
              conv => whnf
              refine draw_ok (own := own0) [] [] [] rfl (by kernel_rfl) (Nat.zero_le _) ?_
              repeat ((conv => whnf); first | refine Br.t ?_ | refine Br.f ?_ | refine ⟨rfl, ?_⟩)
              conv => whnf
              refine Br.mk (fun q => ?_) (fun q => ?_)
              · repeat ((conv => whnf); first | refine Br.t ?_ | refine Br.f ?_ | refine ⟨rfl, ?_⟩)
                conv => whnf
                refine ⟨by repeat ((conv => whnf); first | exact trivial | refine ⟨rfl, ?_⟩), trivial, ?_⟩
                conv => whnf
                refine fin (target := []) rfl (Nat.zero_le _) (by simp) ?_ rfl
                show _ = V.tup [.i (.int .i64 p.fs.length), .i (.int .i64 z), .i (.int .i64 p.s), .i (.bool (decide (p.s > 0) && decide ((p.fs.length : Int) > 0)))]
                rw [q, List.length_map]
                rfl
              · repeat ((conv => whnf); first | refine Br.t ?_ | refine Br.f ?_ | refine ⟨rfl, ?_⟩)
                conv => whnf
                refine ⟨by repeat ((conv => whnf); first | exact trivial | refine ⟨rfl, ?_⟩), trivial, ?_⟩
                conv => whnf
                refine fin (target := []) rfl (Nat.zero_le _) (by simp) ?_ rfl
                show _ = V.tup [.i (.int .i64 p.fs.length), .i (.int .i64 z), .i (.int .i64 p.s), .i (.bool (decide (p.s > 0) && decide ((p.fs.length : Int) > 0)))]
                rw [q, List.length_map]
                rfl
            · have h5 : k ≠ 5 := by simpa using h5
              repeat ((conv => whnf); first | refine Br.t ?_ | refine Br.f ?_ | refine ⟨rfl, ?_⟩)
              conv => whnf
              refine Br.mk (fun h => ?_) (fun h6 => ?_)
              · have hk : k = 6 := by simpa using h
                subst hk
                repeat ((conv => whnf); first | refine Br.t ?_ | refine Br.f ?_ | refine ⟨rfl, ?_⟩)
                conv => whnf
                refine draw_ok (own := own0) [] [] [] rfl (by kernel_rfl) (Nat.zero_le _) ?_
                repeat ((conv => whnf); first | refine Br.t ?_ | refine Br.f ?_ | refine ⟨rfl, ?_⟩)
                conv => whnf
                refine ⟨by repeat ((conv => whnf); first | exact trivial | refine ⟨rfl, ?_⟩), trivial, ?_⟩
                conv => whnf
                refine fin (target := []) rfl (Nat.zero_le _) (by simp) rfl rfl
              · have h6 : k ≠ 6 := by simpa using h6
                repeat ((conv => whnf); first | refine Br.t ?_ | refine Br.f ?_ | refine ⟨rfl, ?_⟩)
                conv => whnf
                refine Br.mk (fun h => ?_) (fun h7 => ?_)
                · have hk : k = 7 := by simpa using h
                  subst hk
                  repeat ((conv => whnf); first | refine Br.t ?_ | refine Br.f ?_ | refine ⟨rfl, ?_⟩)
                  conv => whnf
                  refine fin (target := []) rfl (Nat.zero_le _) (by simp) ?_ rfl
                  simp [fieldsF, fldV]
                · have h7 : k ≠ 7 := by simpa using h7
                  repeat ((conv => whnf); first | refine Br.t ?_ | refine Br.f ?_ | refine ⟨rfl, ?_⟩)
                  conv => whnf
                  refine Br.mk (fun h => ?_) (fun h8 => ?_)
                  · have hk : k = 8 := by simpa using h
                    subst hk
                    repeat ((conv => whnf); first | refine Br.t ?_ | refine Br.f ?_ | refine ⟨rfl, ?_⟩)
                    conv => whnf
                    refine fin (target := []) rfl (Nat.zero_le _) (by simp) rfl rfl
                  · have h8 : k ≠ 8 := by simpa using h8
                    repeat ((conv => whnf); first | refine Br.t ?_ | refine Br.f ?_ | refine ⟨rfl, ?_⟩)
                    conv => whnf
                    refine Br.mk (fun h => ?_) (fun h9 => ?_)
                    · have hk : k = 9 := by simpa using h
                      subst hk
                      repeat ((conv => whnf); first | refine Br.t ?_ | refine Br.f ?_ | refine ⟨rfl, ?_⟩)
                      conv => whnf
                      refine fin (target := []) rfl (Nat.zero_le _) (by simp) rfl rfl
                    · have h9 : k ≠ 9 := by simpa using h9
                      repeat ((conv => whnf); first | refine Br.t ?_ | refine Br.f ?_ | refine ⟨rfl, ?_⟩)
                      conv => whnf
                      refine fin (target := []) rfl (Nat.zero_le _) (by simp) ?_ rfl
                      simp [fieldsF, fldV, h0, h1, h2, h3, h4, h5, h6, h7, h8, h9]
theorem within56 (n l : Int) : CallW Try.prog G0 56 [.i (.int .i64 n), .i (.int .i64 l)] [] (fun r st' => r = .i (.bool (decide (0 ≤ n) && decide (n < l))) ∧ st' = []) := by
  refine call_of_bodyF 0 (Nat.le_refl _) Try.func56 rfl (fun a w => Try.call56 a w) (wpx_ok (own := own0) _ _ _ ?_)
  conv => whnf
  refine Br.mk (fun h => ?_) (fun h => ?_)
  · simp at h
    repeat ((conv => whnf); first | refine Br.t ?_ | refine Br.f ?_ | refine ⟨rfl, ?_⟩)
    conv => whnf
    refine fin (target := []) rfl (Nat.zero_le _) (by simp) ?_ rfl
    simp [h]
  · simp at h
    repeat ((conv => whnf); first | refine Br.t ?_ | refine Br.f ?_ | refine ⟨rfl, ?_⟩)
    conv => whnf
    refine fin (target := []) rfl (Nat.zero_le _) (by simp) ?_ rfl
    rw [decide_eq_false (by omega : ¬ 0 ≤ n)]; rfl
def mx1 (x : Int) : Int := if 1 > x then 1 else x
def inB (n l : Int) : Bool := decide (0 ≤ n) && decide (n < l)
def mayF (p : Pg) (n : Nd) (z : Int) : Bool :=
  let r := fieldsF p n.1 z
  r.2.2.2 && inB n.2.1 (mx1 r.1) && inB n.2.2.1 (mx1 r.2.1) && inB n.2.2.2 (mx1 r.2.2.1)
theorem may47 (p : Pg) (n : Nd) (z : Int) : CallW Try.prog G0 47 [pgV p, ndV n, .i (.int .i64 z)] [] (fun r st' => r = .i (.bool (mayF p n z)) ∧ st' = []) := by
  refine call_of_bodyF 0 (Nat.le_refl _) Try.func47 rfl (fun a w => Try.call47 a w) (wpx_ok (own := own0) _ _ _ ?_)
  obtain ⟨k, a, x, y⟩ := n
  repeat ((conv => whnf); first | refine Br.t ?_ | refine Br.f ?_ | refine ⟨rfl, ?_⟩)
  conv => whnf
  refine CallW.mono ((fields55 p k z).pure _ rfl rfl) ?_
  rintro r st' ⟨rfl, rfl⟩
  have hm : mayF p (k, a, x, y) z = ((fieldsF p k z).2.2.2 && inB a (mx1 (fieldsF p k z).1) && inB x (mx1 (fieldsF p k z).2.1) && inB y (mx1 (fieldsF p k z).2.2.1)) := rfl
  rw [hm]
  obtain ⟨A, B, C, D⟩ := fieldsF p k z
  repeat ((conv => whnf); first | refine Br.t ?_ | refine Br.f ?_ | refine ⟨rfl, ?_⟩)
  conv => whnf
  refine Br.mk (fun h => ?_) (fun h => ?_)
  · subst h
    repeat ((conv => whnf); first | refine Br.t ?_ | refine Br.f ?_ | refine ⟨rfl, ?_⟩)
    conv => whnf
    refine CallW.mono ((within56 a (mx1 A)).pure _ rfl rfl) ?_
    rintro r st' ⟨rfl, rfl⟩
    obtain ⟨q, hq⟩ : ∃ q, inB a (mx1 A) = q := ⟨_, rfl⟩
    rw [show (decide (0 ≤ a) && decide (a < mx1 A)) = q from hq]
    simp only [hq]
    cases q with
    | false =>
      repeat ((conv => whnf); first | refine Br.t ?_ | refine Br.f ?_ | refine ⟨rfl, ?_⟩)
      conv => whnf
      refine fin (target := []) rfl (Nat.zero_le _) (by simp) rfl rfl
    | true =>
      repeat ((conv => whnf); first | refine Br.t ?_ | refine Br.f ?_ | refine ⟨rfl, ?_⟩)
      conv => whnf
      refine CallW.mono ((within56 x (mx1 B)).pure _ rfl rfl) ?_
      rintro r st' ⟨rfl, rfl⟩
      obtain ⟨q, hq⟩ : ∃ q, inB x (mx1 B) = q := ⟨_, rfl⟩
      rw [show (decide (0 ≤ x) && decide (x < mx1 B)) = q from hq]
      simp only [hq]
      cases q with
      | false =>
        repeat ((conv => whnf); first | refine Br.t ?_ | refine Br.f ?_ | refine ⟨rfl, ?_⟩)
        conv => whnf
        refine fin (target := []) rfl (Nat.zero_le _) (by simp) rfl rfl
      | true =>
        repeat ((conv => whnf); first | refine Br.t ?_ | refine Br.f ?_ | refine ⟨rfl, ?_⟩)
        conv => whnf
        refine CallW.mono ((within56 y (mx1 C)).pure _ rfl rfl) ?_
        rintro r st' ⟨rfl, rfl⟩
        repeat ((conv => whnf); first | refine Br.t ?_ | refine Br.f ?_ | refine ⟨rfl, ?_⟩)
        conv => whnf
        refine fin (target := []) rfl (Nat.zero_le _) (by simp) rfl rfl
  · subst h
    repeat ((conv => whnf); first | refine Br.t ?_ | refine Br.f ?_ | refine ⟨rfl, ?_⟩)
    conv => whnf
    refine fin (target := []) rfl (Nat.zero_le _) (by simp) rfl rfl
end Go.Proofs.Ytdbmfnhbgacldaa.Am
namespace Go.Proofs.Ytdbmfnhbgacldaa.Am
set_option autoImplicit false
set_option linter.unusedVariables false
set_option linter.unusedSimpArgs false
set_option maxRecDepth 10000
set_option pp.maxSteps 20000
set_option pp.proofs false
def elB (b : Bool) : List I := [.bool b]
def goL (f : Nat → List Bool → Bool × List Bool) : List Nd → List Bool → Bool × List Bool
  | [], t => (false, t)
  | n :: r, t => if n.1 = 7 then (if (f n.2.1.toNat t).1 then (true, (f n.2.1.toNat t).2) else goL f r (f n.2.1.toNat t).2) else goL f r t
def dfs (fs : List (List Nd)) (to : Nat) : Nat → Nat → List Bool → Bool × List Bool
  | 0 => fun _ t => (false, t)
  | k + 1 => fun fr t => if fr = to then (true, t) else if t.getD fr false then (false, t) else goL (dfs fs to k) (fs.getD fr []) (t.set fr true)
theorem count_set : ∀ (l : List Bool) (i : Nat), l[i]? = some false → (l.set i true).count false + 1 = l.count false
  | [], i, h => by simp at h
  | b :: l, 0, h => by simp at h; subst h; simp
  | b :: l, i + 1, h => by
    have := count_set l i (by simpa using h)
    simp only [List.set_cons_succ, List.count_cons]
    omega
theorem goL_len {f : Nat → List Bool → Bool × List Bool} (hf : ∀ i t, (f i t).2.length = t.length ∧ (f i t).2.count false ≤ t.count false) : ∀ (l : List Nd) (t : List Bool), (goL f l t).2.length = t.length ∧ (goL f l t).2.count false ≤ t.count false
  | [], t => ⟨rfl, Nat.le_refl _⟩
  | n :: r, t => by
    rw [goL]
    split
    · obtain ⟨h1, h2⟩ := hf n.2.1.toNat t
      split
      · exact ⟨h1, h2⟩
      · obtain ⟨h3, h4⟩ := goL_len hf r (f n.2.1.toNat t).2
        exact ⟨by omega, by omega⟩
    · exact goL_len hf r t
theorem dfs_len (fs : List (List Nd)) (to : Nat) : ∀ (k fr : Nat) (t : List Bool), (dfs fs to k fr t).2.length = t.length ∧ (dfs fs to k fr t).2.count false ≤ t.count false
  | 0, fr, t => ⟨rfl, Nat.le_refl _⟩
  | k + 1, fr, t => by
    simp only [dfs]
    split
    · exact ⟨rfl, Nat.le_refl _⟩
    · split
      · exact ⟨rfl, Nat.le_refl _⟩
      · rename_i h1 h2
        obtain ⟨h3, h4⟩ := goL_len (dfs_len fs to k) (fs.getD fr []) (t.set fr true)
        refine ⟨by simpa using h3, Nat.le_trans h4 ?_⟩
        by_cases hlt : fr < t.length
        · have hb : t[fr]? = some false := by
            rw [List.getD_eq_getElem?_getD, List.getElem?_eq_getElem hlt] at h2
            rw [List.getElem?_eq_getElem hlt]
            simpa using h2
          have := count_set t fr hb
          omega
        · rw [List.set_eq_of_length_le (by omega)]
          exact Nat.le_refl _
theorem lift_getD {α : Type} (f : α → List I) (xs : List α) {i : Nat} (h : i < xs.length) : (lift (xs.map f)).getD i [] = (f xs[i]).map V.i := by
  simp [lift, List.getD_eq_getElem?_getD, h]
theorem lift_set {α : Type} (f : α → List I) (xs : List α) (i : Nat) (x : α) : (lift (xs.map f)).set i ((f x).map V.i) = lift ((xs.set i x).map f) := by
  simp [lift, List.map_set]
theorem row_cl (ver sz : Nat) (is : List (List I)) (m : Nat) : ∀ o ∈ [Ob.row ver sz false (lift is)], o.cl m := by
  intro o ho
  simp only [List.mem_singleton] at ho
  subst ho
  intro cs hcs
  simp only [lift, List.mem_map] at hcs
  obtain ⟨c, hc, rfl⟩ := hcs
  clear hc
  induction c with
  | nil => rfl
  | cons x c ih => simp only [List.map_cons, V.cl.clAll, V.cl, Bool.true_and]; exact ih
/-- a contract over one row, in a store that has more -/
theorem atO {f : FuncId} {args : List V} {v : V} {ver sz : Nat} {is is' : List (List I)} (post : List Ob) (h : CallW Try.prog G0 f args [.row ver sz false (lift is)] (fun r st' => r = v ∧ st' = [.row ver sz false (lift is')])) (ha : V.cl.clAll 1 args = true) (hv : V.cl 0 v = true) :
    CallW Try.prog G0 f (V.ren.renAll (fm [0] (.row ver sz false (lift is) :: post).length) args) (.row ver sz false (lift is) :: post) (fun r st' => r = v ∧ st' = .row ver sz false (lift is') :: post) := by
  refine (CallW.rise (bargs := V.ren.renAll (fm [0] (.row ver sz false (lift is) :: post).length) args) (big := .row ver sz false (lift is) :: post) [0] [] h rfl (by simp) (by simp) ?_ (row_cl _ _ _ _) (by simp) (renAll_len _ _) (args_ren ha) (.inl rfl)).mono ?_
  · simp only [List.map_cons, List.map_nil, ren_lift]
    rfl
  · rintro r st' ⟨r0, s0, ⟨rfl, rfl⟩, rfl, rfl⟩
    refine ⟨ren_cl0 _ _ hv, ?_⟩
    simp only [List.map_cons, List.map_nil, ren_lift, putAll]
    simp
theorem pgB_cl (p : Pg) (m : Nat) : (pgB p).cl m := by
  intro cs hcs
  simp only [List.mem_singleton] at hcs
  subst hcs
  rfl
theorem seen_cl (t : List Bool) (p : Pg) : ∀ o ∈ [Ob.row 1 1 false (lift (t.map elB)), pgB p], o.cl 2 := by
  intro o ho
  simp only [List.mem_cons, List.not_mem_nil, or_false] at ho
  rcases ho with rfl | rfl
  · exact row_cl 1 1 (t.map elB) 2 _ (by simp)
  · exact pgB_cl p 2
def Calls0 (p : Pg) : Prop := ∀ f ∈ p.fs, ∀ n ∈ f, n.1 = 7 → 0 ≤ n.2.1 ∧ n.2.1 < p.fs.length
set_option maxHeartbeats 1000000 in
theorem reaches57 (p : Pg) (hc : Calls0 p) (hl : p.fs.length ≤ 1000) (hw : ∀ f ∈ p.fs, f.length ≤ 1000) (to : Nat) : ∀ (k fr : Nat) (seen : List Bool), fr < p.fs.length → seen.length = p.fs.length → seen.count false < k →
    CallW Try.prog G0 57 [pgV p, .i (.int .i64 fr), .i (.int .i64 to), .ref 0 1 0 p.fs.length] [.row 1 1 false (lift (seen.map elB))] (fun r st' => r = .i (.bool (dfs p.fs to k fr seen).1) ∧ st' = [.row 1 1 false (lift ((dfs p.fs to k fr seen).2.map elB))]) := by
  intro k
  induction k with
  | zero => intro fr seen _ _ h; omega
  | succ k ih =>
  intro fr seen hfr hsl hsc
  refine call_of_bodyF 1 (Nat.le_refl _) Try.func57 rfl (fun a w => Try.call57 a w) (wpx_ok (own := own0) _ _ _ ?_)
  simp only [dfs]
  repeat ((conv => whnf); first | refine Br.t ?_ | refine Br.f ?_ | refine ⟨rfl, ?_⟩)
  conv => whnf
  refine Br.mk (fun h => ?_) (fun h => ?_)
  · have h : fr = to := by simp at h; omega
    rw [if_pos h]
    repeat ((conv => whnf); first | refine Br.t ?_ | refine Br.f ?_ | refine ⟨rfl, ?_⟩)
    conv => whnf
    refine fin (target := [.row 1 1 false (lift (seen.map elB))]) rfl (by simp) (row_cl _ _ _ _) rfl rfl
  · have h : fr ≠ to := by simp at h; omega
    rw [if_neg h]
    obtain ⟨b, hb⟩ : ∃ b, b = seen[fr]'(by omega) := ⟨_, rfl⟩
    have eb : (lift (seen.map elB)).getD (0 + (fr : Int).toNat) [] = (elB b).map V.i := by rw [hb, Nat.zero_add, Int.toNat_natCast]; exact lift_getD _ _ (by omega)
    have ed : seen.getD fr false = b := by rw [hb]; simp [List.getD_eq_getElem?_getD, show fr < seen.length by omega]
    rw [ed]
    repeat ((conv => whnf); first | refine Br.t ?_ | refine Br.f ?_ | refine ⟨rfl, ?_⟩)
    conv => whnf
    refine ⟨by omega, ?_⟩
    repeat ((conv => whnf); first | refine Br.t ?_ | refine Br.f ?_ | refine ⟨rfl, ?_⟩)
    conv => whnf
    rw [eb]
    repeat ((conv => whnf); first | refine Br.t ?_ | refine Br.f ?_ | refine ⟨rfl, ?_⟩)
    conv => whnf
    refine Br.mk (fun h1 => ?_) (fun h1 => ?_)
    · subst h1
      rw [if_pos rfl]
      repeat ((conv => whnf); first | refine Br.t ?_ | refine Br.f ?_ | refine ⟨rfl, ?_⟩)
      conv => whnf
      refine fin (target := [.row 1 1 false (lift (seen.map elB))]) rfl (by simp) (row_cl _ _ _ _) rfl rfl
    · subst h1
      rw [if_neg (by simp)]
      repeat ((conv => whnf); first | refine Br.t ?_ | refine Br.f ?_ | refine ⟨rfl, ?_⟩)
      conv => whnf
      refine ⟨by omega, ?_⟩
      repeat ((conv => whnf); first | refine Br.t ?_ | refine Br.f ?_ | refine ⟨rfl, ?_⟩)
      conv => whnf
      rw [eb]
      refine ⟨by rfl, ?_⟩
      have es : (lift (seen.map elB)).set (0 + (fr : Int).toNat) [V.i (I.bool true)] = lift ((seen.set fr true).map elB) := by rw [Nat.zero_add, Int.toNat_natCast]; exact lift_set elB seen fr true
      have hsf : seen[fr]? = some false := by rw [List.getElem?_eq_getElem (by omega), hb]
      have hcnt := count_set seen fr hsf
      obtain ⟨L, hL⟩ : ∃ L, L = p.fs[fr] := ⟨_, rfl⟩
      have hLm : L ∈ p.fs := hL ▸ List.getElem_mem hfr
      have eL : (p.fs.map encF).getD (fr : Int).toNat [] = encF L := by rw [hL]; exact getD_enc hfr
      have eLd : p.fs.getD fr [] = L := by rw [hL]; simp [List.getD_eq_getElem?_getD, hfr]
      have hLl := hw L hLm
      have hLc := hc L hLm
      rw [eLd]
      repeat ((conv => whnf); first | refine Br.t ?_ | refine Br.f ?_ | refine ⟨rfl, ?_⟩)
      conv => whnf
      rw [eL]
      refine ⟨⟨by omega, by simp; omega, rfl⟩, ?_⟩
      repeat ((conv => whnf); first | refine Br.t ?_ | refine Br.f ?_ | refine ⟨rfl, ?_⟩)
      conv => whnf
      refine loop_ok (α := Nat × List Bool) (fun x => ⟨mkS 43 [(2, .i (.int .i64 to)), (3, .ref 0 1 0 p.fs.length), (4, .ptr 1 0 0 0), (8, .i (.bool false)), (25, .i (.sl (L.map encNd))), (26, .i (.int .i64 (L.map encNd).length)), (27, .i (.int .i64 x.1))], [.row 1 1 false (lift (x.2.map elB)), pgB p]⟩)
        (fun x => x.1 ≤ L.length ∧ x.2.length = p.fs.length ∧ x.2.count false < k ∧ goL (dfs p.fs to k) (L.drop x.1) x.2 = goL (dfs p.fs to k) L (seen.set fr true)) (fun x => L.length - x.1) (0, seen.set fr true) ⟨Nat.zero_le _, by simpa using hsl, by simp only; omega, rfl⟩
        (by dsimp only; rw [← es]; exact Le.slots (by simp [leS, mkS])) (fun x hx => wpx_ok (own := own0) _ _ _ ?_)
      obtain ⟨j, t⟩ := x
      obtain ⟨h1, h2, h3, h4⟩ := hx
      simp only at h1 h2 h3 h4
      dsimp only
      repeat ((conv => whnf); first | refine Br.t ?_ | refine Br.f ?_ | refine ⟨rfl, ?_⟩)
      conv => whnf
      refine Br.mk (fun g => ?_) (fun g => ?_)
      · have g : j < L.length := by simpa using g
        obtain ⟨x, hx⟩ : ∃ x, x = L[j] := ⟨_, rfl⟩
        have hxm : x ∈ L := hx ▸ List.getElem_mem g
        have ex : (L.map encNd).getD (j : Int).toNat [] = encNd x := by rw [hx]; exact getD_enc g
        have edr : L.drop j = x :: L.drop (j + 1) := by rw [hx]; exact List.drop_eq_getElem_cons g
        have hxc := hLc x hxm
        rw [edr, goL] at h4
        repeat ((conv => whnf); first | refine Br.t ?_ | refine Br.f ?_ | refine ⟨rfl, ?_⟩)
        conv => whnf
        rw [ex]
        refine ⟨⟨by omega, by simp; omega, rfl⟩, ?_⟩
        repeat ((conv => whnf); first | refine Br.t ?_ | refine Br.f ?_ | refine ⟨rfl, ?_⟩)
        conv => whnf
        refine Br.mk (fun g7 => ?_) (fun g7 => ?_)
        · have g7 : x.1 = 7 := by simpa using g7
          rw [if_pos g7] at h4
          obtain ⟨a1, a2⟩ := hxc g7
          have ea : ((x.2.1.toNat : Nat) : Int) = x.2.1 := by omega
          have hr := ih x.2.1.toNat t (by omega) h2 h3
          rw [ea] at hr
          obtain ⟨dl, dc⟩ := dfs_len p.fs to k x.2.1.toNat t
          obtain ⟨b', t', hd⟩ : ∃ b t', dfs p.fs to k x.2.1.toNat t = (b, t') := ⟨_, _, rfl⟩
          rw [hd] at hr h4 dl dc
          simp only at hr h4 dl dc
          repeat ((conv => whnf); first | refine Br.t ?_ | refine Br.f ?_ | refine ⟨rfl, ?_⟩)
          conv => whnf
          refine CallW.mono (atO [_, _] hr rfl rfl) ?_
          rintro r st' ⟨rfl, rfl⟩
          repeat ((conv => whnf); first | refine Br.t ?_ | refine Br.f ?_ | refine ⟨rfl, ?_⟩)
          conv => whnf
          refine Br.mk (fun g8 => ?_) (fun g8 => ?_)
          · subst g8
            rw [if_pos rfl] at h4
            rw [← h4]
            repeat ((conv => whnf); first | refine Br.t ?_ | refine Br.f ?_ | refine ⟨rfl, ?_⟩)
            conv => whnf
            refine fin (target := [.row 1 1 false (lift (t'.map elB))]) rfl (by simp) (row_cl _ _ _ _) rfl rfl
          · subst g8
            rw [if_neg (by simp)] at h4
            repeat ((conv => whnf); first | refine Br.t ?_ | refine Br.f ?_ | refine ⟨rfl, ?_⟩)
            conv => whnf
            refine ⟨(j + 1, t'), ⟨by simp only; omega, by simp only; omega, by simp only; omega, h4⟩, by simp only; omega, Le.back (fun _ => 0) (by intro id hid; rfl) (by simp) rfl ?_ ?_ ?_⟩
            · exact seen_cl _ p
            · simp [leS, mkS, V.up]
              exact i64_id (by omega) (by omega)
            · simp only [upSt, Ob.up, map_up_lift]
              rfl
        · have g7 : x.1 ≠ 7 := by simpa using g7
          rw [if_neg g7] at h4
          repeat ((conv => whnf); first | refine Br.t ?_ | refine Br.f ?_ | refine ⟨rfl, ?_⟩)
          conv => whnf
          refine ⟨(j + 1, t), ⟨by simp only; omega, h2, h3, h4⟩, by simp only; omega, Le.back (fun _ => 0) (by intro id hid; rfl) (by simp) rfl ?_ ?_ ?_⟩
          · exact seen_cl _ p
          · simp [leS, mkS, V.up]
            exact i64_id (by omega) (by omega)
          · simp only [upSt, Ob.up, map_up_lift]
            rfl
      · have g : j = L.length := by simp at g; omega
        subst g
        rw [List.drop_length, goL] at h4
        rw [← h4]
        repeat ((conv => whnf); first | refine Br.t ?_ | refine Br.f ?_ | refine ⟨rfl, ?_⟩)
        conv => whnf
        refine fin (target := [.row 1 1 false (lift (t.map elB))]) rfl (by simp) (row_cl _ _ _ _) rfl rfl
end Go.Proofs.Ytdbmfnhbgacldaa.Am
namespace Go.Proofs.Ytdbmfnhbgacldaa.Am
set_option autoImplicit false
set_option linter.unusedVariables false
set_option linter.unusedSimpArgs false
set_option maxRecDepth 10000
set_option pp.maxSteps 20000
set_option pp.proofs false
theorem atP {f : FuncId} {args : List V} {v : V} {ver sz : Nat} {is is' : List (List I)} (pre post : List Ob) (h : CallW Try.prog G0 f args [.row ver sz false (lift is)] (fun r st' => r = v ∧ st' = [.row ver sz false (lift is')])) (ha : V.cl.clAll 1 args = true) (hv : V.cl 0 v = true) :
    CallW Try.prog G0 f (V.ren.renAll (fm [pre.length] (pre ++ .row ver sz false (lift is) :: post).length) args) (pre ++ .row ver sz false (lift is) :: post) (fun r st' => r = v ∧ st' = pre ++ .row ver sz false (lift is') :: post) := by
  refine (CallW.rise (bargs := V.ren.renAll (fm [pre.length] (pre ++ .row ver sz false (lift is) :: post).length) args) (big := pre ++ .row ver sz false (lift is) :: post) [pre.length] [] h rfl (by simp) (by simp) ?_ (row_cl _ _ _ _) (by simp) (renAll_len _ _) (args_ren ha) (.inl rfl)).mono ?_
  · simp only [List.map_cons, List.map_nil, ren_lift]
    simp [List.getD_eq_getElem?_getD]
  · rintro r st' ⟨r0, s0, ⟨rfl, rfl⟩, rfl, rfl⟩
    refine ⟨ren_cl0 _ _ hv, ?_⟩
    simp only [List.map_cons, List.map_nil, ren_lift, putAll]
    simp
def rndN (p : Pg) (f : Nat) : Nat → List Nd → Option Nat
  | _, [] => none
  | i, n :: r => if n.1 = 7 ∧ (dfs p.fs f (p.fs.length + 1) n.2.1.toNat (List.replicate p.fs.length false)).1 = true then some i else rndN p f (i + 1) r
def rndF (p : Pg) : Nat → List (List Nd) → Option (Nat × Nat)
  | _, [] => none
  | f, l :: r => match rndN p f 0 l with
    | some i => some (f, i)
    | none => rndF p (f + 1) r
def rndV (o : Option (Nat × Nat)) : V := match o with
  | some (f, i) => .tup [.i (.int .i64 f), .i (.int .i64 i), .i (.bool true)]
  | none => .tup [.i (.int .i64 0), .i (.int .i64 0), .i (.bool false)]
set_option maxHeartbeats 1000000 in
theorem round48 (p : Pg) (hc : Calls0 p) (hl : p.fs.length ≤ 1000) (hw : ∀ f ∈ p.fs, f.length ≤ 1000) : CallW Try.prog G0 48 [pgV p] [] (fun r st' => r = rndV (rndF p 0 p.fs) ∧ st' = []) := by
  refine call_of_bodyF 0 (Nat.le_refl _) Try.func48 rfl (fun a w => Try.call48 a w) (wpx_ok (own := own0) _ _ _ ?_)
  repeat ((conv => whnf); first | refine Br.t ?_ | refine Br.f ?_ | refine ⟨rfl, ?_⟩)
  conv => whnf
  refine loop_ok (α := Nat) (fun f => ⟨mkS 42 [(1, .ptr 0 0 0 0), (2, .i (.int .i64 0)), (3, .i (.int .i64 0)), (4, .i (.bool false)), (10, .i (.sl (p.fs.map encF))), (11, .i (.int .i64 (p.fs.map encF).length)), (12, .i (.int .i64 f))], [pgB p]⟩)
    (fun f => f ≤ p.fs.length ∧ rndF p f (p.fs.drop f) = rndF p 0 p.fs) (fun f => p.fs.length - f) 0 ⟨Nat.zero_le _, rfl⟩
    (Le.slots (by simp [leS, mkS])) (fun f hf => wpx_ok (own := own0) _ _ _ ?_)
  obtain ⟨h1, h2⟩ := hf
  repeat ((conv => whnf); first | refine Br.t ?_ | refine Br.f ?_ | refine ⟨rfl, ?_⟩)
  conv => whnf
  refine Br.mk (fun g => ?_) (fun g => ?_)
  · have g : f < p.fs.length := by simpa using g
    obtain ⟨L, hL⟩ : ∃ L, L = p.fs[f] := ⟨_, rfl⟩
    have hLm : L ∈ p.fs := hL ▸ List.getElem_mem g
    have eL : (p.fs.map encF).getD (f : Int).toNat [] = encF L := by rw [hL]; exact getD_enc g
    have edr : p.fs.drop f = L :: p.fs.drop (f + 1) := by rw [hL]; exact List.drop_eq_getElem_cons g
    have hLl := hw L hLm
    have hLc := hc L hLm
    rw [edr, rndF] at h2
    repeat ((conv => whnf); first | refine Br.t ?_ | refine Br.f ?_ | refine ⟨rfl, ?_⟩)
    conv => whnf
    rw [eL]
    refine ⟨⟨by omega, by simp; omega, rfl⟩, ?_⟩
    repeat ((conv => whnf); first | refine Br.t ?_ | refine Br.f ?_ | refine ⟨rfl, ?_⟩)
    conv => whnf
    refine loop_ok (α := Nat) (fun i => ⟨mkS 42 [(1, .ptr 0 0 0 0), (2, .i (.int .i64 0)), (3, .i (.int .i64 0)), (4, .i (.bool false)), (5, .i (.int .i64 f)), (10, .i (.sl (p.fs.map encF))), (11, .i (.int .i64 (p.fs.map encF).length)), (12, .i (.int .i64 f)), (17, .i (.sl (L.map encNd))), (18, .i (.int .i64 (L.map encNd).length)), (19, .i (.int .i64 i))], [pgB p]⟩)
      (fun i => i ≤ L.length ∧ rndN p f i (L.drop i) = rndN p f 0 L) (fun i => L.length - i) 0 ⟨Nat.zero_le _, rfl⟩
      (Le.slots (by simp [leS, mkS])) (fun i hi => wpx_ok (own := own0) _ _ _ ?_)
    obtain ⟨h3, h4⟩ := hi
    repeat ((conv => whnf); first | refine Br.t ?_ | refine Br.f ?_ | refine ⟨rfl, ?_⟩)
    conv => whnf
    refine Br.mk (fun g1 => ?_) (fun g1 => ?_)
    · have g1 : i < L.length := by simpa using g1
      obtain ⟨x, hx⟩ : ∃ x, x = L[i] := ⟨_, rfl⟩
      have hxm : x ∈ L := hx ▸ List.getElem_mem g1
      have ex : (L.map encNd).getD (i : Int).toNat [] = encNd x := by rw [hx]; exact getD_enc g1
      have exd : L.drop i = x :: L.drop (i + 1) := by rw [hx]; exact List.drop_eq_getElem_cons g1
      have hxc := hLc x hxm
      rw [exd, rndN] at h4
      repeat ((conv => whnf); first | refine Br.t ?_ | refine Br.f ?_ | refine ⟨rfl, ?_⟩)
      conv => whnf
      rw [ex]
      refine ⟨⟨by omega, by simp; omega, rfl⟩, ?_⟩
      repeat ((conv => whnf); first | refine Br.t ?_ | refine Br.f ?_ | refine ⟨rfl, ?_⟩)
      conv => whnf
      by_cases g7 : x.1 = 7
      · obtain ⟨a1, a2⟩ := hxc g7
        have ea : ((x.2.1.toNat : Nat) : Int) = x.2.1 := by omega
        have hr := reaches57 p hc hl hw f (p.fs.length + 1) x.2.1.toNat (List.replicate p.fs.length false) (by omega) (by simp) (by simp)
        rw [ea] at hr
        obtain ⟨b', t', hd⟩ : ∃ b t', dfs p.fs f (p.fs.length + 1) x.2.1.toNat (List.replicate p.fs.length false) = (b, t') := ⟨_, _, rfl⟩
        rw [hd] at hr h4
        simp only [g7, true_and] at hr h4
        refine draw_ok (own := own0) [11, 12] [(4, 12), (5, 12), (6, 12), (7, 12)] [(.i (.bool b'), [pgB p, .row 0 4 false [(encNd x).map .i], .row 1 1 false (lift (t'.map elB))])] rfl (by kernel_rfl) (Nat.zero_le _) ?_
        repeat ((conv => whnf); first | refine Br.t ?_ | refine Br.f ?_ | refine ⟨rfl, ?_⟩)
        conv => whnf
        refine Br.mk (fun q => ?_) (fun q => by simp at q; exact absurd g7 q)
        repeat ((conv => whnf); first | refine Br.t ?_ | refine Br.f ?_ | refine ⟨rfl, ?_⟩)
        conv => whnf
        refine ⟨⟨by omega, rfl, by show (1 : Int) * _ ≤ _; rw [List.length_map]; omega, by rw [List.length_map]; show _ ≤ (9223372036854775807 : Int); omega⟩, ?_⟩
        repeat ((conv => whnf); first | refine Br.t ?_ | refine Br.f ?_ | refine ⟨rfl, ?_⟩)
        conv => whnf
        have eN : (((p.fs.map encF).length : Nat) : Int).toNat = p.fs.length := by simp
        rw [← eN] at hr
        have e0 : ∀ N, lift ((List.replicate N false).map elB) = List.replicate N (List.map ofC (Value.bool false).cells.toList) := by intro N; rw [List.map_replicate]; unfold lift; rw [List.map_replicate]; rfl
        have hq := atP [pgB p, .row 0 4 false [(encNd x).map .i]] [] hr rfl rfl
        rw [e0] at hq
        refine ⟨hq, ?_⟩
        repeat ((conv => whnf); first | refine Br.t ?_ | refine Br.f ?_ | refine ⟨rfl, ?_⟩)
        conv => whnf
        refine ⟨by repeat ((conv => whnf); first | exact trivial | refine ⟨rfl, ?_⟩), by repeat ((conv => whnf); first | exact trivial | refine ⟨by (conv => whnf); first | exact ⟨rfl, rfl⟩ | exact ⟨rfl, rfl, rfl⟩, ?_⟩), ?_⟩
        conv => whnf
        cases b' with
        | true =>
          rw [if_pos rfl] at h4
          rw [← h4] at h2
          simp only at h2
          rw [← h2]
          repeat ((conv => whnf); first | refine Br.t ?_ | refine Br.f ?_ | refine ⟨rfl, ?_⟩)
          conv => whnf
          refine fin (target := []) rfl (Nat.zero_le _) (by simp) rfl rfl
        | false =>
          rw [if_neg (by simp)] at h4
          repeat ((conv => whnf); first | refine Br.t ?_ | refine Br.f ?_ | refine ⟨rfl, ?_⟩)
          conv => whnf
          refine ⟨i + 1, ⟨by omega, h4⟩, by omega, Le.back (fun _ => 0) (by intro id hid; rfl) (by simp) rfl ?_ ?_ ?_⟩
          · intro o ho
            simp only [List.mem_singleton] at ho
            subst ho
            exact pgB_cl p _
          · simp [leS, mkS, V.up]
            exact i64_id (by omega) (by omega)
          · rfl
      · rw [if_neg (fun h => g7 h.1)] at h4
        refine draw_ok (own := own0) [11, 12] [(4, 12), (5, 12), (6, 12), (7, 12)] [] rfl (by kernel_rfl) (Nat.zero_le _) ?_
        repeat ((conv => whnf); first | refine Br.t ?_ | refine Br.f ?_ | refine ⟨rfl, ?_⟩)
        conv => whnf
        refine Br.mk (fun q => by simp at q; exact absurd q g7) (fun q => ?_)
        repeat ((conv => whnf); first | refine Br.t ?_ | refine Br.f ?_ | refine ⟨rfl, ?_⟩)
        conv => whnf
        refine ⟨by repeat ((conv => whnf); first | exact trivial | refine ⟨rfl, ?_⟩), by repeat ((conv => whnf); first | exact trivial | refine ⟨by (conv => whnf); first | exact ⟨rfl, rfl⟩ | exact ⟨rfl, rfl, rfl⟩, ?_⟩), ?_⟩
        conv => whnf
        refine Br.mk (fun q2 => by simp at q2) (fun q2 => ?_)
        repeat ((conv => whnf); first | refine Br.t ?_ | refine Br.f ?_ | refine ⟨rfl, ?_⟩)
        conv => whnf
        refine ⟨i + 1, ⟨by omega, h4⟩, by omega, Le.back (fun _ => 0) (by intro id hid; rfl) (by simp) rfl ?_ ?_ ?_⟩
        · intro o ho
          simp only [List.mem_singleton] at ho
          subst ho
          exact pgB_cl p _
        · simp [leS, mkS, V.up]
          exact i64_id (by omega) (by omega)
        · rfl
    · have g1 : i = L.length := by simp at g1; omega
      subst g1
      rw [List.drop_length, rndN] at h4
      rw [← h4] at h2
      simp only at h2
      repeat ((conv => whnf); first | refine Br.t ?_ | refine Br.f ?_ | refine ⟨rfl, ?_⟩)
      conv => whnf
      refine ⟨f + 1, ⟨by omega, h2⟩, by omega, Le.slots ?_⟩
      simp [leS, mkS]
      exact i64_id (by omega) (by omega)
  · have g : f = p.fs.length := by simp at g; omega
    subst g
    rw [List.drop_length, rndF] at h2
    rw [← h2]
    repeat ((conv => whnf); first | refine Br.t ?_ | refine Br.f ?_ | refine ⟨rfl, ?_⟩)
    conv => whnf
    refine fin (target := []) rfl (Nat.zero_le _) (by simp) rfl rfl
end Go.Proofs.Ytdbmfnhbgacldaa.Am

/- Contracts: what is wrong with a program first. -/
namespace Go.Proofs.Ytdbmfnhbgacldaa.Am
set_option autoImplicit false
set_option linter.unusedVariables false
set_option linter.unusedSimpArgs false
set_option maxRecDepth 10000
set_option pp.maxSteps 20000
set_option pp.proofs false
def badN (p : Pg) (z : Int) : Nat → List Nd → Option Nat
  | _, [] => none
  | i, n :: r => if mayF p n z = true then badN p z (i + 1) r else some i
def chkF (p : Pg) : Nat → List (List Nd) → Option (Int × Int × Int)
  | _, [] => none
  | f, L :: r => if L.length = 0 then some ((f : Int), -1, 1) else if 64 < L.length then some ((f : Int), -1, 4) else match badN p L.length 0 L with
    | some i => some ((f : Int), (i : Int), 3)
    | none => chkF p (f + 1) r
def chk (p : Pg) : Int × Int × Int :=
  if p.g < 0 ∨ p.l < 0 ∨ p.s < 0 ∨ p.fs.length = 0 then (-1, -1, 1) else if p.g > 16 ∨ p.l > 16 ∨ p.s > 8 ∨ p.fs.length > 16 then (-1, -1, 4) else
  match chkF p 0 p.fs with
  | some r => r
  | none => match rndF p 0 p.fs with
    | some (f, i) => ((f : Int), (i : Int), 8)
    | none => (0, 0, 0)
def tri (r : Int × Int × Int) : V := .tup [.i (.int .i64 r.1), .i (.int .i64 r.2.1), .i (.int .i64 r.2.2)]
theorem badN_none {p : Pg} {z : Int} : ∀ {i : Nat} {l : List Nd}, badN p z i l = none → ∀ n ∈ l, mayF p n z = true
  | i, [], _ => by simp
  | i, n :: r, h => by
    rw [badN] at h
    split at h
    · intro m hm
      simp only [List.mem_cons] at hm
      rcases hm with rfl | hm
      · assumption
      · exact badN_none h m hm
    · cases h
theorem chkF_none {p : Pg} : ∀ {f : Nat} {l : List (List Nd)}, chkF p f l = none → ∀ L ∈ l, 0 < L.length ∧ L.length ≤ 64 ∧ ∀ n ∈ L, mayF p n L.length = true
  | f, [], _ => by simp
  | f, L :: r, h => by
    rw [chkF] at h
    split at h
    · cases h
    · split at h
      · cases h
      · split at h
        · cases h
        · rename_i h1 h2 h3
          intro m hm
          simp only [List.mem_cons] at hm
          rcases hm with rfl | hm
          · exact ⟨by omega, by omega, badN_none h3⟩
          · exact chkF_none h m hm
theorem may_call {p : Pg} {n : Nd} {z : Int} (h : mayF p n z = true) (h7 : n.1 = 7) : 0 ≤ n.2.1 ∧ n.2.1 < p.fs.length := by
  unfold mayF fieldsF at h
  simp [h7, inB, mx1] at h
  obtain ⟨⟨⟨h1, h2, h3⟩, h4⟩, h5⟩ := h
  refine ⟨h2, ?_⟩
  split at h3
  · omega
  · exact h3
theorem calls_ok {p : Pg} (h : chkF p 0 p.fs = none) : Calls0 p := fun f hf n hn h7 => may_call ((chkF_none h f hf).2.2 n hn) h7
def okPg (p : Pg) : Prop := p.fs.length ≤ 9223372036854775807 ∧ ∀ f ∈ p.fs, f.length ≤ 9223372036854775807
set_option maxHeartbeats 2000000 in
theorem check31 (p : Pg) (hp : okPg p) : CallW Try.prog G0 31 [pgV p] [] (fun r st' => r = tri (chk p) ∧ st' = []) := by
  refine call_of_bodyF 0 (Nat.le_refl _) Try.func31 rfl (fun a w => Try.call31 a w) (wpx_ok (own := own0) _ _ _ ?_)
  obtain ⟨hl, hw⟩ := hp
  repeat ((conv => whnf); first | refine Br.t ?_ | refine Br.f ?_ | refine ⟨rfl, ?_⟩)
  conv => whnf
  refine Br.mk (fun h => ?_) (fun b1 => ?_)
  · simp at h
    have e1 : chk p = (-1, -1, 1) := by unfold chk; rw [if_pos (by omega)]
    rw [e1]
    repeat ((conv => whnf); first | refine Br.t ?_ | refine Br.f ?_ | refine ⟨rfl, ?_⟩)
    conv => whnf
    refine fin (target := []) rfl (Nat.zero_le _) (by simp) rfl rfl
  · simp at b1
    repeat ((conv => whnf); first | refine Br.t ?_ | refine Br.f ?_ | refine ⟨rfl, ?_⟩)
    conv => whnf
    refine Br.mk (fun h => ?_) (fun b2 => ?_)
    · simp at h
      have e1 : chk p = (-1, -1, 1) := by unfold chk; rw [if_pos (by omega)]
      rw [e1]
      repeat ((conv => whnf); first | refine Br.t ?_ | refine Br.f ?_ | refine ⟨rfl, ?_⟩)
      conv => whnf
      refine fin (target := []) rfl (Nat.zero_le _) (by simp) rfl rfl
    · simp at b2
      repeat ((conv => whnf); first | refine Br.t ?_ | refine Br.f ?_ | refine ⟨rfl, ?_⟩)
      conv => whnf
      refine Br.mk (fun h => ?_) (fun b3 => ?_)
      · simp at h
        have e1 : chk p = (-1, -1, 1) := by unfold chk; rw [if_pos (by omega)]
        rw [e1]
        repeat ((conv => whnf); first | refine Br.t ?_ | refine Br.f ?_ | refine ⟨rfl, ?_⟩)
        conv => whnf
        refine fin (target := []) rfl (Nat.zero_le _) (by simp) rfl rfl
      · simp at b3
        repeat ((conv => whnf); first | refine Br.t ?_ | refine Br.f ?_ | refine ⟨rfl, ?_⟩)
        conv => whnf
        refine Br.mk (fun h => ?_) (fun b4 => ?_)
        · have h : p.fs.length = 0 := by simp at h; simp [h]
          have e1 : chk p = (-1, -1, 1) := by unfold chk; rw [if_pos (by omega)]
          rw [e1]
          repeat ((conv => whnf); first | refine Br.t ?_ | refine Br.f ?_ | refine ⟨rfl, ?_⟩)
          conv => whnf
          refine fin (target := []) rfl (Nat.zero_le _) (by simp) rfl rfl
        · have b4 : p.fs.length ≠ 0 := by intro e; simp at b4; exact b4 (List.eq_nil_of_length_eq_zero e)
          repeat ((conv => whnf); first | refine Br.t ?_ | refine Br.f ?_ | refine ⟨rfl, ?_⟩)
          conv => whnf
          refine Br.mk (fun h => ?_) (fun c1 => ?_)
          · simp at h
            have e4 : chk p = (-1, -1, 4) := by unfold chk; rw [if_neg (by omega), if_pos (by omega)]
            rw [e4]
            repeat ((conv => whnf); first | refine Br.t ?_ | refine Br.f ?_ | refine ⟨rfl, ?_⟩)
            conv => whnf
            refine fin (target := []) rfl (Nat.zero_le _) (by simp) rfl rfl
          · simp at c1
            repeat ((conv => whnf); first | refine Br.t ?_ | refine Br.f ?_ | refine ⟨rfl, ?_⟩)
            conv => whnf
            refine Br.mk (fun h => ?_) (fun c2 => ?_)
            · simp at h
              have e4 : chk p = (-1, -1, 4) := by unfold chk; rw [if_neg (by omega), if_pos (by omega)]
              rw [e4]
              repeat ((conv => whnf); first | refine Br.t ?_ | refine Br.f ?_ | refine ⟨rfl, ?_⟩)
              conv => whnf
              refine fin (target := []) rfl (Nat.zero_le _) (by simp) rfl rfl
            · simp at c2
              repeat ((conv => whnf); first | refine Br.t ?_ | refine Br.f ?_ | refine ⟨rfl, ?_⟩)
              conv => whnf
              refine Br.mk (fun h => ?_) (fun c3 => ?_)
              · simp at h
                have e4 : chk p = (-1, -1, 4) := by unfold chk; rw [if_neg (by omega), if_pos (by omega)]
                rw [e4]
                repeat ((conv => whnf); first | refine Br.t ?_ | refine Br.f ?_ | refine ⟨rfl, ?_⟩)
                conv => whnf
                refine fin (target := []) rfl (Nat.zero_le _) (by simp) rfl rfl
              · simp at c3
                repeat ((conv => whnf); first | refine Br.t ?_ | refine Br.f ?_ | refine ⟨rfl, ?_⟩)
                conv => whnf
                refine Br.mk (fun h => ?_) (fun c4 => ?_)
                · have h : 16 < p.fs.length := by simp at h; omega
                  have e4 : chk p = (-1, -1, 4) := by unfold chk; rw [if_neg (by omega), if_pos (by omega)]
                  rw [e4]
                  repeat ((conv => whnf); first | refine Br.t ?_ | refine Br.f ?_ | refine ⟨rfl, ?_⟩)
                  conv => whnf
                  refine fin (target := []) rfl (Nat.zero_le _) (by simp) rfl rfl
                · have c4 : p.fs.length ≤ 16 := by simp at c4; omega
                  have e0 : chk p = match chkF p 0 p.fs with
                    | some r => r
                    | none => match rndF p 0 p.fs with
                      | some (f, i) => ((f : Int), (i : Int), 8)
                      | none => (0, 0, 0) := by unfold chk; rw [if_neg (by omega), if_neg (by omega)]
                  rw [e0]
                  repeat ((conv => whnf); first | refine Br.t ?_ | refine Br.f ?_ | refine ⟨rfl, ?_⟩)
                  conv => whnf
                  refine loop_ok (α := Nat) (fun f => ⟨mkS 94 [(1, .ptr 0 0 0 0), (2, .i (.int .i64 0)), (3, .i (.int .i64 0)), (4, .i (.int .i64 0)), (51, .i (.sl (p.fs.map encF))), (52, .i (.int .i64 (p.fs.map encF).length)), (53, .i (.int .i64 f))], [pgB p]⟩)
                    (fun f => f ≤ p.fs.length ∧ chkF p f (p.fs.drop f) = chkF p 0 p.fs) (fun f => p.fs.length - f) 0 ⟨Nat.zero_le _, rfl⟩
                    (Le.slots (by simp [leS, mkS])) (fun f hf => wpx_ok (own := own0) _ _ _ ?_)
                  obtain ⟨h1, h2⟩ := hf
                  repeat ((conv => whnf); first | refine Br.t ?_ | refine Br.f ?_ | refine ⟨rfl, ?_⟩)
                  conv => whnf
                  refine Br.mk (fun g => ?_) (fun g => ?_)
                  · have g : f < p.fs.length := by simpa using g
                    obtain ⟨L, hL⟩ : ∃ L, L = p.fs[f] := ⟨_, rfl⟩
                    have hLm : L ∈ p.fs := hL ▸ List.getElem_mem g
                    have eL : (p.fs.map encF).getD (f : Int).toNat [] = encF L := by rw [hL]; exact getD_enc g
                    have edr : p.fs.drop f = L :: p.fs.drop (f + 1) := by rw [hL]; exact List.drop_eq_getElem_cons g
                    have hLl := hw L hLm
                    rw [edr, chkF] at h2
                    repeat ((conv => whnf); first | refine Br.t ?_ | refine Br.f ?_ | refine ⟨rfl, ?_⟩)
                    conv => whnf
                    rw [eL]
                    refine ⟨⟨by omega, by simp; omega, rfl⟩, ?_⟩
                    repeat ((conv => whnf); first | refine Br.t ?_ | refine Br.f ?_ | refine ⟨rfl, ?_⟩)
                    conv => whnf
                    refine Br.mk (fun d => ?_) (fun d => ?_)
                    · have d : L.length = 0 := by simp at d; simp [d]
                      rw [if_pos d] at h2
                      rw [← h2]
                      repeat ((conv => whnf); first | refine Br.t ?_ | refine Br.f ?_ | refine ⟨rfl, ?_⟩)
                      conv => whnf
                      refine fin (target := []) rfl (Nat.zero_le _) (by simp) rfl rfl
                    · have d : ¬ L.length = 0 := by intro e; simp at d; exact d (List.eq_nil_of_length_eq_zero e)
                      rw [if_neg d] at h2
                      repeat ((conv => whnf); first | refine Br.t ?_ | refine Br.f ?_ | refine ⟨rfl, ?_⟩)
                      conv => whnf
                      refine Br.mk (fun d2 => ?_) (fun d2 => ?_)
                      · have d2 : 64 < L.length := by simp at d2; omega
                        rw [if_pos d2] at h2
                        rw [← h2]
                        repeat ((conv => whnf); first | refine Br.t ?_ | refine Br.f ?_ | refine ⟨rfl, ?_⟩)
                        conv => whnf
                        refine fin (target := []) rfl (Nat.zero_le _) (by simp) rfl rfl
                      · have d2 : ¬ 64 < L.length := by simp at d2; omega
                        rw [if_neg d2] at h2
                        repeat ((conv => whnf); first | refine Br.t ?_ | refine Br.f ?_ | refine ⟨rfl, ?_⟩)
                        conv => whnf
                        refine loop_ok (α := Nat) (fun i => ⟨mkS 94 [(1, .ptr 0 0 0 0), (2, .i (.int .i64 0)), (3, .i (.int .i64 0)), (4, .i (.int .i64 0)), (5, .i (.int .i64 f)), (6, .i (.sl (L.map encNd))), (51, .i (.sl (p.fs.map encF))), (52, .i (.int .i64 (p.fs.map encF).length)), (53, .i (.int .i64 f)), (68, .i (.sl (L.map encNd))), (69, .i (.int .i64 (L.map encNd).length)), (70, .i (.int .i64 i))], [pgB p]⟩)
                          (fun i => i ≤ L.length ∧ badN p L.length i (L.drop i) = badN p L.length 0 L) (fun i => L.length - i) 0 ⟨Nat.zero_le _, rfl⟩
                          (Le.slots (by simp [leS, mkS])) (fun i hi => wpx_ok (own := own0) _ _ _ ?_)
                        obtain ⟨h3, h4⟩ := hi
                        repeat ((conv => whnf); first | refine Br.t ?_ | refine Br.f ?_ | refine ⟨rfl, ?_⟩)
                        conv => whnf
                        refine Br.mk (fun g1 => ?_) (fun g1 => ?_)
                        · have g1 : i < L.length := by simpa using g1
                          obtain ⟨x, hx⟩ : ∃ x, x = L[i] := ⟨_, rfl⟩
                          have ex : (L.map encNd).getD (i : Int).toNat [] = encNd x := by rw [hx]; exact getD_enc g1
                          have exd : L.drop i = x :: L.drop (i + 1) := by rw [hx]; exact List.drop_eq_getElem_cons g1
                          rw [exd, badN] at h4
                          repeat ((conv => whnf); first | refine Br.t ?_ | refine Br.f ?_ | refine ⟨rfl, ?_⟩)
                          conv => whnf
                          rw [ex]
                          refine ⟨⟨by omega, by simp; omega, rfl⟩, ?_⟩
                          repeat ((conv => whnf); first | refine Br.t ?_ | refine Br.f ?_ | refine ⟨rfl, ?_⟩)
                          conv => whnf
                          have cm := may47 p x (((L.map encNd).length : Nat) : Int)
                          refine CallW.mono (cm.pure _ rfl rfl) ?_
                          rintro r st' ⟨rfl, rfl⟩
                          rw [List.length_map]
                          obtain ⟨q, hq⟩ : ∃ q, mayF p x L.length = q := ⟨_, rfl⟩
                          rw [hq] at h4 ⊢
                          cases q with
                          | false =>
                            rw [if_neg (by simp)] at h4
                            rw [← h4] at h2
                            simp only at h2
                            rw [← h2]
                            repeat ((conv => whnf); first | refine Br.t ?_ | refine Br.f ?_ | refine ⟨rfl, ?_⟩)
                            conv => whnf
                            refine fin (target := []) rfl (Nat.zero_le _) (by simp) rfl rfl
                          | true =>
                            rw [if_pos rfl] at h4
                            repeat ((conv => whnf); first | refine Br.t ?_ | refine Br.f ?_ | refine ⟨rfl, ?_⟩)
                            conv => whnf
                            refine ⟨i + 1, ⟨by omega, h4⟩, by omega, Le.back (fun _ => 0) (by intro id hid; rfl) (by simp) rfl ?_ ?_ ?_⟩
                            · intro o ho
                              simp only [List.mem_singleton] at ho
                              subst ho
                              exact pgB_cl p _
                            · simp [leS, mkS, V.up]
                              exact i64_id (by omega) (by omega)
                            · rfl
                        · have g1 : i = L.length := by simp at g1; omega
                          subst g1
                          rw [List.drop_length, badN] at h4
                          rw [← h4] at h2
                          simp only at h2
                          repeat ((conv => whnf); first | refine Br.t ?_ | refine Br.f ?_ | refine ⟨rfl, ?_⟩)
                          conv => whnf
                          refine ⟨f + 1, ⟨by omega, h2⟩, by omega, Le.slots ?_⟩
                          simp [leS, mkS]
                          exact i64_id (by omega) (by omega)
                  · have g : f = p.fs.length := by simp at g; omega
                    subst g
                    rw [List.drop_length, chkF] at h2
                    have hc := calls_ok h2.symm
                    have h64 : ∀ f ∈ p.fs, f.length ≤ 1000 := fun f hf => by have := (chkF_none h2.symm f hf).2.1; omega
                    rw [← h2]
                    repeat ((conv => whnf); first | refine Br.t ?_ | refine Br.f ?_ | refine ⟨rfl, ?_⟩)
                    conv => whnf
                    refine CallW.mono ((round48 p hc (by omega) h64).pure _ rfl ?_) ?_
                    · cases rndF p 0 p.fs with
                      | none => rfl
                      | some x => rfl
                    rintro r st' ⟨rfl, rfl⟩
                    cases rndF p 0 p.fs with
                    | none =>
                      repeat ((conv => whnf); first | refine Br.t ?_ | refine Br.f ?_ | refine ⟨rfl, ?_⟩)
                      conv => whnf
                      refine fin (target := []) rfl (Nat.zero_le _) (by simp) rfl rfl
                    | some x =>
                      obtain ⟨f', i'⟩ := x
                      repeat ((conv => whnf); first | refine Br.t ?_ | refine Br.f ?_ | refine ⟨rfl, ?_⟩)
                      conv => whnf
                      refine fin (target := []) rfl (Nat.zero_le _) (by simp) rfl rfl
end Go.Proofs.Ytdbmfnhbgacldaa.Am

/- Contracts: small programs. -/
namespace Go.Proofs.Ytdbmfnhbgacldaa.Am
set_option autoImplicit false
set_option linter.unusedVariables false
set_option linter.unusedSimpArgs false
set_option maxRecDepth 10000
set_option pp.maxSteps 20000
set_option pp.proofs false
def smallB (p : Pg) : Bool := decide (p.fs.length ≤ 40) && p.fs.all fun f => decide (f.length ≤ 100)
theorem small16 (p : Pg) (hp : okPg p) : CallW Try.prog G0 16 [pgV p] [] (fun r st' => r = .i (.bool (smallB p)) ∧ st' = []) := by
  refine call_of_bodyF 0 (Nat.le_refl _) Try.func16 rfl (fun a w => Try.call16 a w) (wpx_ok (own := own0) _ _ _ ?_)
  obtain ⟨hl, hw⟩ := hp
  repeat ((conv => whnf); first | refine Br.t ?_ | refine Br.f ?_ | refine ⟨rfl, ?_⟩)
  conv => whnf
  refine Br.mk (fun h => ?_) (fun h => ?_)
  · have h : ¬ p.fs.length ≤ 40 := by simp at h; omega
    repeat ((conv => whnf); first | refine Br.t ?_ | refine Br.f ?_ | refine ⟨rfl, ?_⟩)
    conv => whnf
    refine fin (target := []) rfl (Nat.zero_le _) (by simp) ?_ rfl
    simp [smallB, h]
  · have h : p.fs.length ≤ 40 := by simp at h; omega
    repeat ((conv => whnf); first | refine Br.t ?_ | refine Br.f ?_ | refine ⟨rfl, ?_⟩)
    conv => whnf
    refine loop_ok (α := Nat) (fun i => ⟨mkS 22 [(1, .ptr 0 0 0 0), (2, .i (.bool false)), (3, .i (.int .i64 i))], [pgB p]⟩)
      (fun i => i ≤ p.fs.length ∧ (p.fs.take i).all (fun f => decide (f.length ≤ 100)) = true) (fun i => p.fs.length - i) 0 ⟨Nat.zero_le _, rfl⟩
      (Le.slots (by simp [leS, mkS])) (fun i hi => wpx_ok (own := own0) _ _ _ ?_)
    obtain ⟨h1, h2⟩ := hi
    repeat ((conv => whnf); first | refine Br.t ?_ | refine Br.f ?_ | refine ⟨rfl, ?_⟩)
    conv => whnf
    refine Br.mk (fun g => ?_) (fun g => ?_)
    · have g : i < p.fs.length := by simpa using g
      obtain ⟨L, hL⟩ : ∃ L, L = p.fs[i] := ⟨_, rfl⟩
      have hLm : L ∈ p.fs := hL ▸ List.getElem_mem g
      have eL : (p.fs.map encF).getD (i : Int).toNat [] = encF L := by rw [hL]; exact getD_enc g
      have et : p.fs.take (i + 1) = p.fs.take i ++ [L] := by rw [hL]; simp
      repeat ((conv => whnf); first | refine Br.t ?_ | refine Br.f ?_ | refine ⟨rfl, ?_⟩)
      conv => whnf
      rw [eL]
      refine ⟨⟨by omega, by simp; omega, rfl⟩, ?_⟩
      repeat ((conv => whnf); first | refine Br.t ?_ | refine Br.f ?_ | refine ⟨rfl, ?_⟩)
      conv => whnf
      refine Br.mk (fun d => ?_) (fun d => ?_)
      · have d : ¬ L.length ≤ 100 := by simp at d; omega
        repeat ((conv => whnf); first | refine Br.t ?_ | refine Br.f ?_ | refine ⟨rfl, ?_⟩)
        conv => whnf
        refine fin (target := []) rfl (Nat.zero_le _) (by simp) ?_ rfl
        have : smallB p = false := by
          unfold smallB
          rw [Bool.and_eq_false_iff]
          right
          rw [List.all_eq_false]
          exact ⟨L, hLm, by simpa using d⟩
        rw [this]
      · have d : L.length ≤ 100 := by simp at d; omega
        repeat ((conv => whnf); first | refine Br.t ?_ | refine Br.f ?_ | refine ⟨rfl, ?_⟩)
        conv => whnf
        refine ⟨i + 1, ⟨by omega, by rw [et, List.all_append, h2]; simp [d]⟩, by omega, Le.slots ?_⟩
        simp [leS, mkS]
        exact i64_id (by omega) (by omega)
    · have g : i = p.fs.length := by simp at g; omega
      subst g
      rw [List.take_length] at h2
      repeat ((conv => whnf); first | refine Br.t ?_ | refine Br.f ?_ | refine ⟨rfl, ?_⟩)
      conv => whnf
      refine fin (target := []) rfl (Nat.zero_le _) (by simp) ?_ rfl
      simp only [smallB, h2, Bool.and_true, h, decide_true]
theorem chkF_code {p : Pg} : ∀ {f : Nat} {l : List (List Nd)} {r : Int × Int × Int}, chkF p f l = some r → r.2.2 ≠ 0
  | f, [], r, h => by simp [chkF] at h
  | f, L :: l, r, h => by
    rw [chkF] at h
    split at h
    · cases h; simp
    · split at h
      · cases h; simp
      · split at h
        · cases h; simp
        · exact chkF_code h
structure PgOk (p : Pg) : Prop where
  g : 0 ≤ p.g ∧ p.g ≤ 16
  l : 0 ≤ p.l ∧ p.l ≤ 16
  s : 0 ≤ p.s ∧ p.s ≤ 8
  n : 0 < p.fs.length ∧ p.fs.length ≤ 16
  f : ∀ L ∈ p.fs, 0 < L.length ∧ L.length ≤ 64 ∧ ∀ x ∈ L, mayF p x L.length = true
  r : rndF p 0 p.fs = none
theorem chk_zero {p : Pg} (h : (chk p).2.2 = 0) : PgOk p := by
  unfold chk at h
  split at h
  · simp at h
  · rename_i h1
    split at h
    · simp at h
    · rename_i h2
      cases hc : chkF p 0 p.fs with
      | some r => rw [hc] at h; exact absurd h (chkF_code hc)
      | none =>
        rw [hc] at h
        simp only at h
        cases hr : rndF p 0 p.fs with
        | some x => rw [hr] at h; simp at h
        | none => exact ⟨by omega, by omega, by omega, by omega, chkF_none hc, hr⟩
theorem chk_ok {p : Pg} (h : PgOk p) : chk p = (0, 0, 0) := by
  have hc : chkF p 0 p.fs = none := by
    have key : ∀ (l : List (List Nd)) (f : Nat), (∀ L ∈ l, 0 < L.length ∧ L.length ≤ 64 ∧ ∀ x ∈ L, mayF p x L.length = true) → chkF p f l = none := by
      intro l
      induction l with
      | nil => intro f _; rfl
      | cons L l ih =>
        intro f hl
        obtain ⟨a, b, c⟩ := hl L (by simp)
        have hb : ∀ (m : List Nd) (i : Nat), (∀ x ∈ m, mayF p x L.length = true) → badN p L.length i m = none := by
          intro m
          induction m with
          | nil => intro i _; rfl
          | cons x m ihm =>
            intro i hm
            rw [badN, if_pos (hm x (by simp))]
            exact ihm (i + 1) (fun y hy => hm y (by simp [hy]))
        rw [chkF, if_neg (by omega), if_neg (by omega), hb L 0 c]
        exact ih (f + 1) (fun M hM => hl M (by simp [hM]))
    exact key p.fs 0 h.f
  unfold chk
  have := h.g; have := h.l; have := h.s; have := h.n
  rw [if_neg (by omega), if_neg (by omega), hc, h.r]
theorem PgOk.calls {p : Pg} (h : PgOk p) : Calls0 p := fun f hf n hn h7 => may_call ((h.f f hf).2.2 n hn) h7
end Go.Proofs.Ytdbmfnhbgacldaa.Am

/- The search along calls: what it tells; calls that go round nowhere. -/
namespace Go.Proofs.Ytdbmfnhbgacldaa.Am
set_option autoImplicit false
set_option linter.unusedVariables false
set_option linter.unusedSimpArgs false
/-- steps along E, one at least -/
inductive Conn (E : Nat → Nat → Prop) : Nat → Nat → Prop
  | one {a b : Nat} : E a b → Conn E a b
  | step {a b c : Nat} : E a b → Conn E b c → Conn E a c
theorem Conn.trans {E : Nat → Nat → Prop} {a b c : Nat} (h : Conn E a b) (k : Conn E b c) : Conn E a c := by
  induction h with
  | one h => exact .step h k
  | step h _ ih => exact .step h (ih k)
theorem Conn.closed {E : Nat → Nat → Prop} {S : Nat → Prop} (hS : ∀ a b, S a → E a b → S b) {a b : Nat} (h : Conn E a b) : S a → S b := by
  induction h with
  | one h => exact fun ha => hS _ _ ha h
  | step h _ ih => exact fun ha => ih (hS _ _ ha h)
/-- function a has a call of function b -/
def E (fs : List (List Nd)) (a b : Nat) : Prop := ∃ n ∈ fs.getD a [], n.1 = 7 ∧ n.2.1 = (b : Int)
theorem fs_mem {fs : List (List Nd)} {a : Nat} (h : a < fs.length) : fs.getD a [] ∈ fs := by
  rw [List.getD_eq_getElem?_getD, List.getElem?_eq_getElem h]; exact List.getElem_mem h
theorem fs_out {fs : List (List Nd)} {a : Nat} (h : fs.length ≤ a) : fs.getD a [] = [] := by
  rw [List.getD_eq_getElem?_getD, List.getElem?_eq_none h]; rfl
theorem E_lt {p : Pg} (h : Calls0 p) {a b : Nat} (he : E p.fs a b) : a < p.fs.length ∧ b < p.fs.length := by
  obtain ⟨n, hm, h7, h1⟩ := he
  by_cases ha : a < p.fs.length
  · have := h _ (fs_mem ha) n hm h7
    exact ⟨ha, by omega⟩
  · rw [fs_out (by omega)] at hm; cases hm
def sn (s : List Bool) (i : Nat) : Bool := s.getD i false
theorem sn_set (s : List Bool) (i j : Nat) (h : i < s.length) : sn (s.set i true) j = (decide (i = j) || sn s j) := by
  unfold sn
  rw [List.getD_eq_getElem?_getD, List.getD_eq_getElem?_getD, List.getElem?_set]
  by_cases e : i = j
  · subst e; simp [h]
  · simp [e]
theorem unseen_le : ∀ (s t : List Bool), s.length = t.length → (∀ i, sn s i = true → sn t i = true) → t.count false ≤ s.count false
  | [], [], _, _ => Nat.le_refl _
  | x :: s, y :: t, hl, h => by
    have ih := unseen_le s t (by simpa using hl) (fun i hi => by have := h (i + 1); simpa [sn] using this (by simpa [sn] using hi))
    have h0 := h 0
    simp only [sn, List.getD_cons_zero] at h0
    rw [List.count_cons, List.count_cons]
    cases x <;> cases y <;> simp_all <;> omega
theorem sn_some {s : List Bool} {i : Nat} (hi : i < s.length) (h : sn s i = false) : s[i]? = some false := by
  unfold sn at h
  rw [List.getD_eq_getElem?_getD, List.getElem?_eq_getElem hi] at h
  rw [List.getElem?_eq_getElem hi]
  simpa using h
/-- what a search that found nothing leaves -/
def Lft (fs : List (List Nd)) (tg : Nat) (s t : List Bool) : Prop := ∀ v, sn t v = true → sn s v = false → v ≠ tg ∧ ∀ u, E fs v u → sn t u = true
structure Fnd (fs : List (List Nd)) (tg : Nat) (seen : List Bool) (fr : Nat) (r : Bool × List Bool) : Prop where
  len : r.2.length = fs.length
  mono : ∀ i, sn seen i = true → sn r.2 i = true
  hit : r.1 = true → fr = tg ∨ Conn (E fs) fr tg
  miss : r.1 = false → sn r.2 fr = true ∧ Lft fs tg seen r.2
theorem go_fnd (fs : List (List Nd)) (tg k : Nat) (ih : ∀ (fr : Nat) (seen : List Bool), fr < fs.length → seen.length = fs.length → seen.count false < k → Fnd fs tg seen fr (dfs fs tg k fr seen))
    (base : List Bool) (hb : base.length = fs.length) (hbk : base.count false < k) (fr : Nat) :
    ∀ (L : List Nd) (t : List Bool), (∀ n ∈ L, n.1 = 7 → n.2.1.toNat < fs.length ∧ E fs fr n.2.1.toNat) → t.length = fs.length → (∀ j, sn base j = true → sn t j = true) → Lft fs tg base t →
      (goL (dfs fs tg k) L t).2.length = fs.length ∧ (∀ j, sn t j = true → sn (goL (dfs fs tg k) L t).2 j = true) ∧ ((goL (dfs fs tg k) L t).1 = true → Conn (E fs) fr tg) ∧
      ((goL (dfs fs tg k) L t).1 = false → Lft fs tg base (goL (dfs fs tg k) L t).2 ∧ ∀ n ∈ L, n.1 = 7 → sn (goL (dfs fs tg k) L t).2 n.2.1.toNat = true)
  | [], t, _, ht, _, hL => ⟨ht, fun _ h => h, fun h => (by cases h), fun _ => ⟨hL, fun n h => (by cases h)⟩⟩
  | n :: L, t, hE, ht, hm, hL => by
    have hE' : ∀ n ∈ L, n.1 = 7 → n.2.1.toNat < fs.length ∧ E fs fr n.2.1.toNat := fun m h => hE m (List.mem_cons_of_mem _ h)
    rw [goL]
    by_cases h7 : n.1 = 7
    · rw [if_pos h7]
      obtain ⟨ha, hEa⟩ := hE n List.mem_cons_self h7
      have hcnt := unseen_le base t (by omega) hm
      obtain ⟨f1, f2, f3, f4⟩ := ih n.2.1.toNat t ha ht (by omega)
      split
      · rename_i hr
        refine ⟨f1, f2, fun _ => ?_, fun h => (by cases h)⟩
        rcases f3 hr with h | h
        · rw [← h]; exact .one hEa
        · exact .step hEa h
      · rename_i hr
        obtain ⟨hs1, hL1⟩ := f4 (by simpa using hr)
        have hLt' : Lft fs tg base (dfs fs tg k n.2.1.toNat t).2 := fun v hv hnv => by
          cases hx : sn t v
          · exact hL1 v hv hx
          · obtain ⟨p, q⟩ := hL v hx hnv
            exact ⟨p, fun u hu => f2 u (q u hu)⟩
        obtain ⟨g1, g2, g3, g4⟩ := go_fnd fs tg k ih base hb hbk fr L _ hE' f1 (fun j h => f2 j (hm j h)) hLt'
        refine ⟨g1, fun j h => g2 j (f2 j h), g3, fun h => ?_⟩
        obtain ⟨x, y⟩ := g4 h
        refine ⟨x, fun m hmm h7m => ?_⟩
        rcases List.mem_cons.1 hmm with rfl | hmm
        · exact g2 _ hs1
        · exact y m hmm h7m
    · rw [if_neg h7]
      obtain ⟨g1, g2, g3, g4⟩ := go_fnd fs tg k ih base hb hbk fr L t hE' ht hm hL
      refine ⟨g1, g2, g3, fun h => ?_⟩
      obtain ⟨x, y⟩ := g4 h
      refine ⟨x, fun m hmm h7m => ?_⟩
      rcases List.mem_cons.1 hmm with rfl | hmm
      · exact absurd h7m h7
      · exact y m hmm h7m
theorem dfs_fnd {p : Pg} (hc : Calls0 p) (tg : Nat) : ∀ (k fr : Nat) (seen : List Bool), fr < p.fs.length → seen.length = p.fs.length → seen.count false < k → Fnd p.fs tg seen fr (dfs p.fs tg k fr seen)
  | 0, fr, seen, _, _, h => by omega
  | k + 1, fr, seen, hfr, hl, hk => by
    simp only [dfs]
    by_cases e : fr = tg
    · rw [if_pos e]
      exact ⟨hl, fun _ h => h, fun _ => .inl e, fun h => (by cases h)⟩
    · rw [if_neg e]
      cases hs : seen.getD fr false with
      | true =>
        rw [if_pos rfl]
        exact ⟨hl, fun _ h => h, fun h => (by cases h), fun _ => ⟨hs, fun v h1 h2 => (by simp only at h1; rw [h1] at h2; cases h2)⟩⟩
      | false =>
        rw [if_neg (by simp)]
        have hset := count_set seen fr (sn_some (by omega) hs)
        have hseen : ∀ i, sn seen i = true → sn (seen.set fr true) i = true := fun i hi => by rw [sn_set _ _ _ (by omega), hi, Bool.or_true]
        have hfrs : sn (seen.set fr true) fr = true := by rw [sn_set _ _ _ (by omega)]; simp
        obtain ⟨g1, g2, g3, g4⟩ := go_fnd p.fs tg k (dfs_fnd hc tg k) (seen.set fr true) (by rw [List.length_set]; exact hl) (by omega) fr (p.fs.getD fr []) (seen.set fr true)
          (fun n hn h7 => by
            have := hc _ (fs_mem hfr) n hn h7
            exact ⟨by omega, n, hn, h7, by omega⟩) (by rw [List.length_set]; exact hl) (fun _ h => h) (fun v h1 h2 => (by rw [h1] at h2; cases h2))
        refine ⟨g1, fun i hi => g2 i (hseen i hi), fun hr => .inr (g3 hr), fun hr => ⟨g2 _ hfrs, fun v hv hnv => ?_⟩⟩
        obtain ⟨hL, hA⟩ := g4 hr
        by_cases ev : v = fr
        · subst ev
          refine ⟨e, fun u hu => ?_⟩
          obtain ⟨nd, hnd, h7, hu1⟩ := hu
          have := hA nd hnd h7
          rw [hu1, Int.toNat_natCast] at this
          exact this
        · refine hL v hv ?_
          rw [sn_set _ _ _ (by omega), hnv, decide_eq_false (fun h => ev h.symm)]; rfl
/-- the search from nothing seen tells whether 'tg' is come to -/
theorem reach {p : Pg} (hc : Calls0 p) (tg fr : Nat) (hfr : fr < p.fs.length) :
    (dfs p.fs tg (p.fs.length + 1) fr (List.replicate p.fs.length false)).1 = true ↔ fr = tg ∨ Conn (E p.fs) fr tg := by
  obtain ⟨h0, _, h1, h2⟩ := dfs_fnd hc tg (p.fs.length + 1) fr (List.replicate p.fs.length false) hfr (by simp) (by simp)
  refine ⟨h1, fun h => ?_⟩
  cases hr : (dfs p.fs tg (p.fs.length + 1) fr (List.replicate p.fs.length false)).1 with
  | true => rfl
  | false =>
    obtain ⟨hs, hL⟩ := h2 hr
    have hno : ∀ i, sn (List.replicate p.fs.length false) i = false := fun i => by
      unfold sn
      rw [List.getD_eq_getElem?_getD, List.getElem?_replicate]
      split <;> rfl
    have hin : sn (dfs p.fs tg (p.fs.length + 1) fr (List.replicate p.fs.length false)).2 tg = true := by
      rcases h with rfl | h
      · exact hs
      · exact h.closed (S := fun v => sn (dfs p.fs tg (p.fs.length + 1) fr (List.replicate p.fs.length false)).2 v = true) (fun a b ha hab => (hL a ha (hno a)).2 b hab) hs
    exact absurd rfl (hL tg hin (hno tg)).1
theorem rndN_none {p : Pg} {f : Nat} : ∀ {i : Nat} {l : List Nd}, rndN p f i l = none → ∀ n ∈ l, n.1 = 7 → ¬ (dfs p.fs f (p.fs.length + 1) n.2.1.toNat (List.replicate p.fs.length false)).1 = true
  | i, [], _ => by simp
  | i, n :: r, h => by
    rw [rndN] at h
    split at h
    · cases h
    · rename_i h1
      intro m hm h7 hd
      rcases List.mem_cons.1 hm with rfl | hm
      · exact h1 ⟨h7, hd⟩
      · exact rndN_none h m hm h7 hd
theorem rndF_none {p : Pg} : ∀ {f : Nat} {l : List (List Nd)}, rndF p f l = none → ∀ j, j < l.length → ∀ n ∈ l.getD j [], n.1 = 7 → ¬ (dfs p.fs (f + j) (p.fs.length + 1) n.2.1.toNat (List.replicate p.fs.length false)).1 = true
  | f, [], _ => by simp
  | f, L :: r, h => by
    rw [rndF] at h
    split at h
    · cases h
    · rename_i h1
      intro j hj n hn
      cases j with
      | zero => exact rndN_none h1 n hn
      | succ j =>
        have := rndF_none h j (by simpa using hj) n (by simpa using hn)
        rwa [Nat.add_assoc, Nat.add_comm 1] at this
/-- calls go round nowhere -/
theorem acyc {p : Pg} (hc : Calls0 p) (h : rndF p 0 p.fs = none) (f : Nat) : ¬ Conn (E p.fs) f f := by
  intro hf
  have key : ∀ b, E p.fs f b → ¬ (b = f ∨ Conn (E p.fs) b f) := by
    intro b hb
    obtain ⟨h1, h2⟩ := E_lt hc hb
    obtain ⟨n, hn, h7, he⟩ := hb
    have := rndF_none h f h1 n hn h7
    rw [Nat.zero_add, he, Int.toNat_natCast] at this
    exact fun hx => this ((reach hc f b h2).2 hx)
  cases hf with
  | one h => exact key _ h (.inl rfl)
  | step h k => exact key _ h (.inr k)
theorem countP_lt {α : Type} {p q : α → Bool} : ∀ {l : List α}, (∀ x ∈ l, p x = true → q x = true) → (∃ x ∈ l, q x = true ∧ p x = false) → l.countP p < l.countP q
  | [], _, h => by obtain ⟨x, h, _⟩ := h; cases h
  | y :: l, hm, h => by
    obtain ⟨x, hx, h1, h2⟩ := h
    have hle : l.countP p ≤ l.countP q := List.countP_mono_left fun x hx => hm x (List.mem_cons_of_mem _ hx)
    rw [List.countP_cons, List.countP_cons]
    rcases List.mem_cons.1 hx with rfl | hx
    · rw [h1, h2]; simp; omega
    · have := countP_lt (l := l) (fun x hx => hm x (List.mem_cons_of_mem _ hx)) ⟨x, hx, h1, h2⟩
      have h3 := hm y List.mem_cons_self
      cases hp : p y <;> cases hq : q y <;> simp <;> first | omega | (rw [hp, hq] at h3; simp at h3)
open Classical in
/-- where calls go round nowhere, some function of any has no call of one of these -/
theorem sink {fs : List (List Nd)} (hl : ∀ a b, E fs a b → b < fs.length) (ha : ∀ f, ¬ Conn (E fs) f f) (S : Nat → Prop) : ∀ (m f : Nat), S f → (List.range fs.length).countP (fun g => decide (Conn (E fs) f g)) = m → ∃ f, S f ∧ ∀ g, E fs f g → ¬ S g := by
  intro m
  induction m using Nat.strongRecOn with
  | ind m ih =>
    intro f hf hm
    by_cases h : ∃ g, E fs f g ∧ S g
    · obtain ⟨g, h1, h2⟩ := h
      refine ih _ ?_ g h2 rfl
      rw [← hm]
      refine countP_lt (fun x _ hx => ?_) ⟨g, by simpa using hl _ _ h1, by simpa using Conn.one h1, by simpa using ha g⟩
      simp only [decide_eq_true_eq] at hx ⊢
      exact .step h1 hx
    · exact ⟨f, hf, fun g h1 h2 => h ⟨g, h1, h2⟩⟩
/-! Functions taken out one by one. -/
def freeB (out : List Bool) (f : Nat) (L : List Nd) : Bool := !sn out f && L.all fun x => decide (x.1 ≠ 7) || sn out x.2.1.toNat
def pass : Nat → List (List Nd) → List Bool × Nat → List Bool × Nat
  | _, [], s => s
  | f, L :: r, s => pass (f + 1) r (if freeB s.1 f L then (s.1.set f true, s.2 + 1) else s)
def passes (fs : List (List Nd)) : Nat → List Bool × Nat → List Bool × Nat
  | 0, s => s
  | k + 1, s => passes fs k (pass 0 fs s)
/-- out is as long as 16, n of these are out, and none beyond those that there are -/
structure OutOk (fs : List (List Nd)) (s : List Bool × Nat) : Prop where
  len : s.1.length = 16
  cnt : s.1.count true = s.2
  beyond : ∀ j, fs.length ≤ j → sn s.1 j = false
theorem count_set_true : ∀ (l : List Bool) (i : Nat), l[i]? = some false → (l.set i true).count true = l.count true + 1
  | [], i, h => by simp at h
  | b :: l, 0, h => by simp at h; subst h; simp
  | b :: l, i + 1, h => by
    have := count_set_true l i (by simpa using h)
    simp only [List.set_cons_succ, List.count_cons]
    omega
theorem count_le : ∀ (l : List Bool) (n : Nat), (∀ j, n ≤ j → sn l j = false) → l.count true ≤ n
  | [], n, _ => by simp
  | b :: l, 0, h => by
    have h0 := h 0 (Nat.le_refl _)
    simp only [sn, List.getD_cons_zero] at h0
    subst h0
    have := count_le l 0 (fun j hj => by simpa [sn] using h (j + 1) (by omega))
    rw [List.count_cons]; simpa using this
  | b :: l, n + 1, h => by
    have := count_le l n (fun j hj => by simpa [sn] using h (j + 1) (by omega))
    rw [List.count_cons]; split <;> omega
theorem count_full : ∀ (l : List Bool) (n : Nat), n ≤ l.length → l.count true < n → ∃ j, j < n ∧ sn l j = false
  | l, 0, _, h => by omega
  | [], n + 1, h, _ => by simp at h
  | b :: l, n + 1, hl, h => by
    cases b with
    | false => exact ⟨0, by omega, rfl⟩
    | true =>
      rw [List.count_cons] at h
      obtain ⟨j, h1, h2⟩ := count_full l n (by simpa using hl) (by simp at h; omega)
      exact ⟨j + 1, by omega, by simpa [sn] using h2⟩
theorem step_ok {fs : List (List Nd)} (h16 : fs.length ≤ 16) {s : List Bool × Nat} (h : OutOk fs s) {f : Nat} (hf : f < fs.length) (L : List Nd) : OutOk fs (if freeB s.1 f L then (s.1.set f true, s.2 + 1) else s) := by
  obtain ⟨h1, h2, h3⟩ := h
  split
  · rename_i hfr
    unfold freeB at hfr
    simp only [Bool.and_eq_true, Bool.not_eq_true'] at hfr
    refine ⟨by simpa using h1, ?_, fun j hj => ?_⟩
    · rw [count_set_true _ _ (sn_some (by omega) hfr.1), h2]
    · rw [sn_set _ _ _ (by omega), h3 j hj, decide_eq_false (by omega)]; rfl
  · exact ⟨h1, h2, h3⟩
theorem pass_ok {fs : List (List Nd)} (h16 : fs.length ≤ 16) : ∀ (l : List (List Nd)) (f : Nat) (s : List Bool × Nat), f + l.length = fs.length → OutOk fs s → OutOk fs (pass f l s) ∧ s.2 ≤ (pass f l s).2
  | [], f, s, _, h => ⟨h, Nat.le_refl _⟩
  | L :: r, f, s, hl, h => by
    simp only [List.length_cons] at hl
    rw [pass]
    obtain ⟨g1, g2⟩ := pass_ok h16 r (f + 1) _ (by omega) (step_ok h16 h (show f < fs.length by omega) L)
    refine ⟨g1, Nat.le_trans ?_ g2⟩
    split
    · exact Nat.le_succ _
    · exact Nat.le_refl _
theorem pass_hit {fs : List (List Nd)} (h16 : fs.length ≤ 16) : ∀ (l : List (List Nd)) (f i : Nat) (s : List Bool × Nat), f + l.length = fs.length → OutOk fs s → i < l.length → sn s.1 (f + i) = false → (∀ n ∈ l.getD i [], n.1 = 7 → sn s.1 n.2.1.toNat = true) → s.2 < (pass f l s).2
  | [], f, i, s, _, _, h, _, _ => by simp at h
  | L :: r, f, i, s, hl, hs, hi, h1, h2 => by
    simp only [List.length_cons] at hl
    rw [pass]
    have hok := step_ok h16 hs (show f < fs.length by omega) L
    cases i with
    | zero =>
      have hfr : freeB s.1 f L = true := by
        unfold freeB
        rw [Nat.add_zero] at h1
        rw [h1, Bool.not_false, Bool.true_and, List.all_eq_true]
        intro n hn
        by_cases h7 : n.1 = 7
        · rw [h2 n (by simpa using hn) h7, Bool.or_true]
        · simp [h7]
      have := (pass_ok h16 r (f + 1) _ (by omega) hok).2
      rw [if_pos hfr] at this ⊢
      exact this
    | succ i =>
      have e : f + (i + 1) = f + 1 + i := by omega
      rw [e] at h1
      have hlen := hs.len
      have key := pass_hit h16 r (f + 1) i _ (by omega) hok (by simpa using hi) (by
        split
        · rw [sn_set _ _ _ (by omega), h1, decide_eq_false (by omega)]; rfl
        · exact h1) (fun n hn h7 => by
        have := h2 n (by simpa using hn) h7
        split
        · rw [sn_set _ _ _ (by omega), this, Bool.or_true]
        · exact this)
      refine Nat.lt_of_le_of_lt ?_ key
      split
      · exact Nat.le_succ _
      · exact Nat.le_refl _
theorem pass_more {p : Pg} (hc : Calls0 p) (h16 : p.fs.length ≤ 16) (ha : ∀ f, ¬ Conn (E p.fs) f f) {s : List Bool × Nat} (h : OutOk p.fs s) (hn : s.2 < p.fs.length) : s.2 < (pass 0 p.fs s).2 := by
  obtain ⟨j, h1, h2⟩ := count_full s.1 p.fs.length (by rw [h.len]; exact h16) (by rw [h.cnt]; exact hn)
  obtain ⟨f, ⟨hf1, hf2⟩, hf3⟩ := sink (fun a b hab => (E_lt hc hab).2) ha (fun f => f < p.fs.length ∧ sn s.1 f = false) _ j ⟨h1, h2⟩ rfl
  refine pass_hit h16 p.fs 0 f s (by simp) h hf1 (by simpa using hf2) (fun n hn h7 => ?_)
  have hcn := hc _ (fs_mem hf1) n hn h7
  have hE : E p.fs f n.2.1.toNat := ⟨n, hn, h7, by omega⟩
  cases hx : sn s.1 n.2.1.toNat with
  | true => rfl
  | false => exact absurd ⟨(E_lt hc hE).2, hx⟩ (hf3 _ hE)
theorem passes_le {p : Pg} (hc : Calls0 p) (h16 : p.fs.length ≤ 16) (ha : ∀ f, ¬ Conn (E p.fs) f f) : ∀ (k : Nat) (s : List Bool × Nat), OutOk p.fs s → (passes p.fs k s).2 ≤ p.fs.length ∧ (s.2 + k ≤ (passes p.fs k s).2 ∨ (passes p.fs k s).2 = p.fs.length)
  | 0, s, h => by
    have := count_le s.1 _ h.beyond
    rw [h.cnt] at this
    exact ⟨this, .inl (Nat.le_refl _)⟩
  | k + 1, s, h => by
    obtain ⟨g1, g2⟩ := pass_ok h16 p.fs 0 s (by simp) h
    obtain ⟨i1, i2⟩ := passes_le hc h16 ha k _ g1
    rw [passes]
    refine ⟨i1, ?_⟩
    by_cases hn : s.2 < p.fs.length
    · have := pass_more hc h16 ha h hn
      rcases i2 with i2 | i2
      · exact .inl (by omega)
      · exact .inr i2
    · rcases i2 with i2 | i2
      · exact .inr (by omega)
      · exact .inr i2
/-- all are taken out -/
theorem all_out {p : Pg} (hc : Calls0 p) (h16 : p.fs.length ≤ 16) (h : rndF p 0 p.fs = none) : (passes p.fs p.fs.length (List.replicate 16 false, 0)).2 = p.fs.length := by
  have h0 : OutOk p.fs (List.replicate 16 false, 0) := ⟨by simp, by simp, fun j _ => by
    unfold sn
    rw [List.getD_eq_getElem?_getD, List.getElem?_replicate]
    split <;> rfl⟩
  obtain ⟨h1, h2⟩ := passes_le hc h16 (acyc hc h) p.fs.length _ h0
  rcases h2 with h2 | h2
  · simp only at h2; omega
  · exact h2
end Go.Proofs.Ytdbmfnhbgacldaa.Am

/- The document's table of calls: what comes to what, by rounds of three. -/
namespace Go.Proofs.Ytdbmfnhbgacldaa.Am
set_option autoImplicit false
set_option linter.unusedVariables false
set_option linter.unusedSimpArgs false
def cell (m : List (List Nat)) (a b : Nat) : Nat := (m.getD a []).getD b 0
def rowL (L : List Nd) (row : List Nat) : List Nat := L.foldl (fun r x => if x.1 = 7 then r.set x.2.1.toNat 1 else r) row
def rows0 (p : Pg) : List (List Nat) := p.fs.map fun L => rowL L (List.replicate p.fs.length 0)
def put1 (m : List (List Nat)) (a b : Nat) : List (List Nat) := m.set a ((m.getD a []).set b 1)
def stepB (k a : Nat) (m : List (List Nat)) (b : Nat) : List (List Nat) := if cell m a k = 1 ∧ cell m k b = 1 then put1 m a b else m
def stepA (n k : Nat) (m : List (List Nat)) (a : Nat) : List (List Nat) := (List.range n).foldl (stepB k a) m
def stepK (n : Nat) (m : List (List Nat)) (k : Nat) : List (List Nat) := (List.range n).foldl (stepA n k) m
def mat (p : Pg) : List (List Nat) := (List.range p.fs.length).foldl (stepK p.fs.length) (rows0 p)
theorem fold_succ {α : Type} (f : α → Nat → α) (x : α) (j : Nat) : (List.range (j + 1)).foldl f x = f ((List.range j).foldl f x) j := by
  rw [List.range_succ, List.foldl_append]; rfl
def on (m : List (List Nat)) (a b : Nat) : Prop := cell m a b = 1
def Sq (n : Nat) (m : List (List Nat)) : Prop := m.length = n ∧ ∀ a, a < n → (m.getD a []).length = n
theorem getD_set_eq {α : Type} (l : List α) (i j : Nat) (x d : α) (h : i < l.length) : (l.set i x).getD j d = if i = j then x else l.getD j d := by
  rw [List.getD_eq_getElem?_getD, List.getD_eq_getElem?_getD, List.getElem?_set]
  by_cases e : i = j
  · subst e; simp [h]
  · simp [e]
theorem Sq.put {n : Nat} {m : List (List Nat)} (h : Sq n m) {a b : Nat} (ha : a < n) : Sq n (put1 m a b) := by
  refine ⟨by unfold put1; rw [List.length_set, h.1], fun c hc => ?_⟩
  unfold put1
  rw [getD_set_eq _ _ _ _ _ (by rw [h.1]; exact ha)]
  split
  · rw [List.length_set]; exact h.2 a ha
  · exact h.2 c hc
theorem on_put {n : Nat} {m : List (List Nat)} (h : Sq n m) {a b c d : Nat} (ha : a < n) (hb : b < n) : on (put1 m a b) c d ↔ (c = a ∧ d = b) ∨ on m c d := by
  unfold on put1 cell
  rw [getD_set_eq _ _ _ _ _ (by rw [h.1]; exact ha)]
  by_cases e : a = c
  · subst e
    rw [if_pos rfl, getD_set_eq _ _ _ _ _ (by rw [h.2 a ha]; exact hb)]
    by_cases e2 : b = d
    · subst e2; simp
    · rw [if_neg e2]
      constructor
      · exact .inr
      · rintro (⟨_, h⟩ | h)
        · exact absurd h.symm e2
        · exact h
  · rw [if_neg e]
    constructor
    · exact .inr
    · rintro (⟨h, _⟩ | h)
      · exact absurd h.symm e
      · exact h
/-- steps along E whose inner places are below K -/
inductive Via (E : Nat → Nat → Prop) (K : Nat) : Nat → Nat → Prop
  | one {a b : Nat} : E a b → Via E K a b
  | step {a c b : Nat} : E a c → c < K → Via E K c b → Via E K a b
theorem Via.split {E : Nat → Nat → Prop} {K a b : Nat} (h : Via E (K + 1) a b) : Via E K a b ∨ (Via E K a K ∧ Via E K K b) := by
  induction h with
  | one h => exact .inl (.one h)
  | @step a c b h hc _ ih =>
    by_cases e : c = K
    · subst e
      rcases ih with ih | ih
      · exact .inr ⟨.one h, ih⟩
      · exact .inr ⟨.one h, ih.2⟩
    · rcases ih with ih | ih
      · exact .inl (.step h (by omega) ih)
      · exact .inr ⟨.step h (by omega) ih.1, ih.2⟩
theorem Conn.via {E : Nat → Nat → Prop} {n : Nat} (hE : ∀ a b, E a b → b < n) {a b : Nat} (h : Conn E a b) : Via E n a b := by
  induction h with
  | one h => exact .one h
  | step h _ ih => exact .step h (hE _ _ h) ih
/-- what a round of k keeps: its start m0 -/
structure Inv (fs : List (List Nd)) (m0 m : List (List Nat)) : Prop where
  sq : Sq fs.length m
  sound : ∀ a b, a < fs.length → b < fs.length → on m a b → Conn (E fs) a b
  mono : ∀ a b, on m0 a b → on m a b
theorem stepB_fold (fs : List (List Nd)) (m0 m1 : List (List Nat)) (k a : Nat) (hk : k < fs.length) (ha : a < fs.length) (h1 : Inv fs m0 m1) : ∀ j, j ≤ fs.length →
    Inv fs m0 ((List.range j).foldl (stepB k a) m1) ∧ (∀ c e, on m1 c e → on ((List.range j).foldl (stepB k a) m1) c e) ∧ (∀ e, e < j → on m0 a k → on m0 k e → on ((List.range j).foldl (stepB k a) m1) a e)
  | 0, _ => ⟨h1, fun _ _ h => h, fun e h => by omega⟩
  | j + 1, hj => by
    obtain ⟨hI, hm, hd⟩ := stepB_fold fs m0 m1 k a hk ha h1 j (by omega)
    rw [fold_succ]
    generalize (List.range j).foldl (stepB k a) m1 = m at hI hm hd
    unfold stepB
    split
    · rename_i hc
      refine ⟨⟨hI.sq.put ha, fun c e hc1 he h => ?_, fun c e h => (on_put hI.sq ha (by omega)).2 (.inr (hI.mono c e h))⟩, fun c e h => (on_put hI.sq ha (by omega)).2 (.inr (hm c e h)), fun e he x y => ?_⟩
      · rcases (on_put hI.sq ha (by omega)).1 h with ⟨rfl, rfl⟩ | h
        · exact (hI.sound _ _ ha hk hc.1).trans (hI.sound _ _ hk (by omega) hc.2)
        · exact hI.sound c e hc1 he h
      · by_cases e' : e = j
        · subst e'; exact (on_put hI.sq ha (by omega)).2 (.inl ⟨rfl, rfl⟩)
        · exact (on_put hI.sq ha (by omega)).2 (.inr (hd e (by omega) x y))
    · rename_i hc
      refine ⟨hI, hm, fun e he x y => ?_⟩
      by_cases e' : e = j
      · subst e'; exact absurd ⟨hI.mono _ _ x, hI.mono _ _ y⟩ hc
      · exact hd e (by omega) x y
theorem stepA_fold (fs : List (List Nd)) (m0 : List (List Nat)) (k : Nat) (hk : k < fs.length) (h0 : Inv fs m0 m0) : ∀ j, j ≤ fs.length →
    Inv fs m0 ((List.range j).foldl (stepA fs.length k) m0) ∧ (∀ c e, c < j → e < fs.length → on m0 c k → on m0 k e → on ((List.range j).foldl (stepA fs.length k) m0) c e)
  | 0, _ => ⟨h0, fun c e h => by omega⟩
  | j + 1, hj => by
    obtain ⟨hI, hd⟩ := stepA_fold fs m0 k hk h0 j (by omega)
    rw [fold_succ]
    generalize (List.range j).foldl (stepA fs.length k) m0 = m at hI hd
    unfold stepA
    obtain ⟨g1, g2, g3⟩ := stepB_fold fs m0 m k j hk (by omega) hI fs.length (Nat.le_refl _)
    refine ⟨g1, fun c e hc he x y => ?_⟩
    by_cases e' : c = j
    · subst e'; exact g3 e he x y
    · exact g2 _ _ (hd c e (by omega) he x y)
theorem stepK_fold (fs : List (List Nd)) (m0 : List (List Nat)) (h0 : Inv fs [] m0) (hv : ∀ a b, a < fs.length → b < fs.length → E fs a b → on m0 a b) : ∀ j, j ≤ fs.length →
    Inv fs [] ((List.range j).foldl (stepK fs.length) m0) ∧ (∀ a b, a < fs.length → b < fs.length → Via (E fs) j a b → on ((List.range j).foldl (stepK fs.length) m0) a b)
  | 0, _ => ⟨h0, fun a b ha hb h => by
    cases h with
    | one h => exact hv a b ha hb h
    | step _ h _ => omega⟩
  | j + 1, hj => by
    obtain ⟨hI, hd⟩ := stepK_fold fs m0 h0 hv j (by omega)
    rw [fold_succ]
    generalize (List.range j).foldl (stepK fs.length) m0 = m at hI hd
    unfold stepK
    obtain ⟨g1, g2⟩ := stepA_fold fs m j (by omega) ⟨hI.sq, hI.sound, fun _ _ h => h⟩ fs.length (Nat.le_refl _)
    refine ⟨⟨g1.sq, g1.sound, fun a b h => by simp [on, cell] at h⟩, fun a b ha hb h => ?_⟩
    rcases h.split with h | ⟨x, y⟩
    · exact g1.mono _ _ (hd a b ha hb h)
    · exact g2 a b ha hb (hd a j ha (by omega) x) (hd j b (by omega) hb y)
theorem rowL_len : ∀ (L : List Nd) (row : List Nat), (rowL L row).length = row.length
  | [], row => rfl
  | x :: L, row => by
    rw [rowL, List.foldl_cons]
    have := rowL_len L (if x.1 = 7 then row.set x.2.1.toNat 1 else row)
    rw [rowL] at this
    rw [this]
    split
    · rw [List.length_set]
    · rfl
theorem rowL_on : ∀ (L : List Nd) (row : List Nat), (∀ x ∈ L, x.1 = 7 → 0 ≤ x.2.1 ∧ x.2.1 < row.length) → ∀ b, (rowL L row).getD b 0 = 1 ↔ row.getD b 0 = 1 ∨ ∃ x ∈ L, x.1 = 7 ∧ x.2.1 = (b : Int)
  | [], row, _, b => by simp [rowL]
  | x :: L, row, h, b => by
    rw [rowL, List.foldl_cons]
    have ih := rowL_on L (if x.1 = 7 then row.set x.2.1.toNat 1 else row) (fun y hy h7 => by
      have := h y (List.mem_cons_of_mem _ hy) h7
      split
      · rw [List.length_set]; exact this
      · exact this) b
    rw [rowL] at ih
    rw [ih]
    clear ih
    by_cases h7 : x.1 = 7
    · have hx := h x List.mem_cons_self h7
      rw [if_pos h7, getD_set_eq _ _ _ _ _ (by omega)]
      by_cases e : x.2.1.toNat = b
      · rw [if_pos e]
        have eb : x.2.1 = (b : Int) := by omega
        exact ⟨fun _ => .inr ⟨x, List.mem_cons_self, h7, eb⟩, fun _ => .inl rfl⟩
      · rw [if_neg e]
        constructor
        · rintro (h1 | ⟨y, h1, h2⟩)
          · exact .inl h1
          · exact .inr ⟨y, List.mem_cons_of_mem _ h1, h2⟩
        · rintro (h1 | ⟨y, h1, h2, h3⟩)
          · exact .inl h1
          · rcases List.mem_cons.1 h1 with rfl | h1
            · omega
            · exact .inr ⟨y, h1, h2, h3⟩
    · rw [if_neg h7]
      constructor
      · rintro (h1 | ⟨y, h1, h2⟩)
        · exact .inl h1
        · exact .inr ⟨y, List.mem_cons_of_mem _ h1, h2⟩
      · rintro (h1 | ⟨y, h1, h2, h3⟩)
        · exact .inl h1
        · rcases List.mem_cons.1 h1 with rfl | h1
          · exact absurd h2 h7
          · exact .inr ⟨y, h1, h2, h3⟩
theorem rows0_get (p : Pg) {a : Nat} (ha : a < p.fs.length) : (rows0 p).getD a [] = rowL (p.fs.getD a []) (List.replicate p.fs.length 0) := by
  simp [rows0, List.getD_eq_getElem?_getD, ha]
theorem rows0_on {p : Pg} (hc : Calls0 p) {a : Nat} (ha : a < p.fs.length) (b : Nat) : on (rows0 p) a b ↔ E p.fs a b := by
  unfold on cell
  rw [rows0_get p ha, rowL_on _ _ (fun x hx h7 => by have := hc _ (fs_mem ha) x hx h7; simpa using this)]
  constructor
  · rintro (h | h)
    · rw [List.getD_eq_getElem?_getD, List.getElem?_replicate] at h
      split at h <;> simp at h
    · exact h
  · exact .inr
theorem rows0_sq (p : Pg) : Sq p.fs.length (rows0 p) := ⟨by simp [rows0], fun a ha => by rw [rows0_get p ha, rowL_len]; simp⟩
/-- the table tells what comes to what -/
theorem mat_on {p : Pg} (hc : Calls0 p) : Sq p.fs.length (mat p) ∧ ∀ a b, a < p.fs.length → b < p.fs.length → (on (mat p) a b ↔ Conn (E p.fs) a b) := by
  obtain ⟨h1, h2⟩ := stepK_fold p.fs (rows0 p) ⟨rows0_sq p, fun a b ha hb h => .one ((rows0_on hc ha b).1 h), fun a b h => by simp [on, cell] at h⟩ (fun a b ha hb h => (rows0_on hc ha b).2 h) p.fs.length (Nat.le_refl _)
  exact ⟨h1.sq, fun a b ha hb => ⟨h1.sound a b ha hb, fun h => h2 a b ha hb (h.via fun _ _ e => (E_lt hc e).2)⟩⟩
end Go.Proofs.Ytdbmfnhbgacldaa.Am

/- Contracts: the document's table of calls. -/
namespace Go.Proofs.Ytdbmfnhbgacldaa.Am
set_option autoImplicit false
set_option linter.unusedVariables false
set_option linter.unusedSimpArgs false
set_option maxRecDepth 10000
set_option pp.maxSteps 3000
set_option pp.proofs false
theorem fOs_in {vs : List Ob} {K : List Ob → Prop} (h : K vs) : fOs vs K := by rw [fOs_eq]; exact h
theorem fS_in {s : S} {K : S → Prop} (h : K s) : fS s K := by rw [fS_eq]; exact h
theorem told_in {sl : List V} {st : List Ob} {d : Nat} {b : Bool} {K : S → Prop} (h : fVs (sl.set d (.i (.bool b))) fun s => K ⟨s, st⟩) : fS (S.told ⟨sl, st⟩ d b) K := by
  rw [fVs_eq] at h; rw [fS_eq]; exact h
theorem skip_f {sl : List V} {st : List Ob} {d j : Nat} {b : Bool} {K : S → Prop} (h : fVs ((sl.set d (.i (.bool b))).set j (.tup [])) fun s => K ⟨s, st⟩) : fS (S.told ⟨sl, st⟩ d b) (fun s => fS (s.put (some j) (.tup []) s.st) K) := by
  rw [fVs_eq] at h; rw [fS_eq, fS_eq]; exact h
theorem op_ix {P : Program} {own : Bool} {st : List Ob} {ρ : Operand → V} {t : TypeId} {x i : Operand} {id ver off len sz : Nat} {ro : Bool} {es : List (List V)} {el : TypeId} {k : IntKind} {v : Int} (hs : st[id]? = some (.row ver sz ro es))
    (hx : ρ x = .ref id ver off len) (hi : ρ i = .i (.int k v)) (he : elemA P t = some el) (ha : (aggA P el).isSome = true) (hz : sz = szA P el) :
    opA P own st ρ (.indexAddr t x i) = some (some (0 ≤ v ∧ v < len), .ptr id ver (off + v.toNat) 0, st) := by
  simp only [opA, hx, hi, indexAddrA, he, ha, hs, hz, and_self, if_true, Option.map_some]
theorem op_load {P : Program} {own : Bool} {st : List Ob} {ρ : Operand → V} {t : TypeId} {a : Operand} {id ver e j sz : Nat} {ro : Bool} {es : List (List V)} {v : V} (hs : st[id]? = some (.row ver sz ro es))
    (ha : ρ a = .ptr id ver e j) (ht : aggA P t = some false) (hv : (es.getD e []).getD j .undef = v) :
    opA P own st ρ (.load t a) = some (some (Nat.blt j (es.getD e []).length = true), v, st) := by
  simp only [opA, ha, loadA, hs, if_true, partA, ht, Option.map_some, hv]
theorem op_store {P : Program} {own : Bool} {st st' : List Ob} {ρ : Operand → V} {t : TypeId} {a x : Operand} {id ver e j sz : Nat} {es : List (List V)} {v : V} (hs : st[id]? = some (.row ver sz false es))
    (ha : ρ a = .ptr id ver e j) (hv : ρ x = v) (h' : st.set id (.row ver sz false (es.set e (putCells (es.getD e []) j v.cells))) = st') :
    opA P own st ρ (.store t a x) = some (some (((aggA P t).isSome && Nat.beq (szA P t) v.cells.length && knownAll st v.cells && Nat.ble (j + v.cells.length) (es.getD e []).length) = true), .tup [], st') := by
  simp only [opA, ha, storeA, hs, if_true, Option.map_some, hv, h']
theorem op_lit1 {P : Program} {own : Bool} {st : List Ob} {ρ : Operand → V} {t el : TypeId} {x : Operand} {z : V} {id ver n sz : Nat} {ro : Bool} {es : List (List V)} (hs : st[id]? = some (.row ver sz ro es)) (hx : ρ x = .ref id ver 0 n) (he : elemA P t = some el) (hz : zeroA P el = some [z])
    (hg : (aggA P el).isSome = true) (h1 : szA P el = 1) : opA P own st ρ (.buildSlice t 1 #[(0, x)]) = some (some (true = true), .ref st.length 1 0 1, st ++ [.row 1 1 false [[.ref id ver 0 n]]]) := by
  have hk : (V.ref id ver 0 n).shaped st = true := by simp [V.shaped, V.known, hs]
  simp only [opA, List.map_cons, List.map_nil, hx, litA, he, hz, hg, h1, List.length_singleton, litEs, hk, if_true]
  simp [litEs, toIss, toIs, V.toI, V.cells, maxLen]
theorem op_app1 {P : Program} {own : Bool} {st st' : List Ob} {ρ : Operand → V} {t t1 : TypeId} {s x : Operand} {id ver len by_ idx verx : Nat} {ro : Bool} {es : List (List V)} {v : V} (hsx : st[idx]? = some (.row verx 1 ro [[v]])) (hss : st[id]? = some (.row ver 1 false es))
    (hs : ρ s = .ref id ver 0 len) (hx : ρ x = .ref idx verx 0 1) (he : elInfo P t = some (1, by_)) (ht : srcType P t1 = true) (h' : st.set id (.row (ver + 1) 1 false (es ++ [[v]])) = st') :
    opA P own st ρ (.call { callee := .builtin .append, args := #[s, x], argTypes := #[t, t1] }) = some (some ((∀ cs ∈ [[v]], knownAll st cs = true) ∧ len = es.length ∧ (len + 1) * by_ ≤ 140737488355328 ∧ len + 1 ≤ maxLen), .ref id (ver + 1) 0 (len + 1), st') := by
  have e : (([[v]] : List (List V)).drop 0).take 1 = [[v]] := rfl
  simp only [opA, List.map_cons, List.map_nil, builtinA, hs, hx, appA, he, ht, if_true, srcA, hsx, hss, and_self, e, Option.map_some, List.length_singleton, h']
theorem st_ok {P : Program} {st : List Ob} {t : TypeId} (ha : (aggA P t).isSome = true) (hz : szA P t = 1) (r : List Nat) (a : Nat) (h : a < r.length) (n : Int) : ((aggA P t).isSome && Nat.beq (szA P t) (V.i (.int .i64 n)).cells.length && knownAll st (V.i (.int .i64 n)).cells && Nat.ble (0 + (V.i (.int .i64 n)).cells.length) ((lift (r.map fun n : Nat => [I.int .i64 n])).getD (0 + a) []).length) = true := by
  rw [ha, hz, Nat.zero_add a, lift_getD (fun n : Nat => [I.int .i64 n]) r h]; rfl
theorem Le.pad {n : Nat} {sl : List V} {st : List Ob} : Le n ⟨sl, st⟩ ⟨sl, st ++ [.row 1 0 false []]⟩ := by
  intro D μ a w hn hr
  obtain ⟨r1, r2, r3, r4⟩ := new_row 1 hr.st (Grow.refl w) (x := none) (sz' := 0) (es' := []) (.inl ⟨rfl, rfl⟩)
  exact ⟨_, ⟨hr.dfr, ⟨hr.sl.1, fun j v hj => r4 _ _ (hr.sl.2 j v hj)⟩, r1⟩, r2, r3.mono hn⟩
theorem Le.pads {n : Nat} {sl : List V} {st : List Ob} : ∀ k, Le n ⟨sl, st⟩ ⟨sl, st ++ List.replicate k (.row 1 0 false [])⟩
  | 0 => by rw [List.replicate_zero, List.append_nil]; exact Le.refl _ _
  | k + 1 => by rw [List.replicate_succ', ← List.append_assoc]; exact (Le.pads k).trans Le.pad
def elN (n : Nat) : List I := [.int .i64 n]
def rowB (r : List Nat) : Ob := .row 1 1 false (lift (r.map elN))
def refs (n k : Nat) : List (List V) := (List.range k).map fun j => [.ref (j + 16) 1 0 n]
/-- the table's rows, each in its own place, behind sixteen others (so that their numbers are sixteen and more) -/
def tabG (p : Pg) (v : Nat) (es : List (List V)) (X : List Ob) : List Ob := pgB p :: .row v 1 false es :: .row 1 0 false [] :: .row 1 0 false [] :: .row 1 0 false [] :: .row 1 0 false [] :: .row 1 0 false [] :: .row 1 0 false [] :: .row 1 0 false [] :: .row 1 0 false [] ::
  .row 1 0 false [] :: .row 1 0 false [] :: .row 1 0 false [] :: .row 1 0 false [] :: .row 1 0 false [] :: .row 1 0 false [] :: X
def caTabB (p : Pg) (n k : Nat) (X : List Ob) : List Ob := tabG p 1 (refs n k) X
theorem tab_set (p : Pg) (n c : Nat) (X : List Ob) (k : Nat) (r : List Nat) (a : Nat) (hk : X[k]? = some (rowB r)) (ha : a < r.length) :
    (caTabB p n c X).set (k + 16) (.row 1 1 false ((lift (r.map elN)).set (0 + a) (putCells ((lift (r.map elN)).getD (0 + a) []) 0 (V.i (.int .i64 1)).cells))) = caTabB p n c (X.set k (rowB (r.set a 1))) := by
  rw [Nat.zero_add, lift_getD elN r ha]
  have e : putCells ((elN r[a]).map V.i) 0 (V.i (.int .i64 1)).cells = (elN 1).map V.i := rfl
  rw [e, lift_set elN r a 1]
  rfl
theorem tab_get (p : Pg) (n c : Nat) (X : List Ob) (k : Nat) : (caTabB p n c X)[k + 16]? = X[k]? := rfl
theorem rowL_snoc (L : List Nd) (x : Nd) (row : List Nat) : rowL (L ++ [x]) row = if x.1 = 7 then (rowL L row).set x.2.1.toNat 1 else rowL L row := by
  rw [rowL, List.foldl_append]; rfl
theorem up_rows (d : Nat → Nat) (k : Nat) (hd : ∀ j, k ≤ j → d j = 0) : ∀ (rs : List (List Nat)), upSt d k (rs.map rowB) = rs.map rowB := by
  intro rs
  induction rs generalizing k with
  | nil => rfl
  | cons r rs ih =>
    rw [List.map_cons, upSt, ih (k + 1) (fun j hj => hd j (by omega))]
    simp only [rowB, Ob.up, map_up_lift, hd k (Nat.le_refl _)]
theorem up_refs (d : Nat → Nat) (n k : Nat) (hd : ∀ j, 2 ≤ j → d j = 0) : (refs n k).map (V.up.upAll d) = refs n k := by
  simp only [refs, List.map_map]
  refine List.map_congr_left fun j _ => ?_
  simp [V.up.upAll, V.up, hd (j + 16) (by omega)]
theorem refs_snoc (n k : Nat) : refs n (k + 1) = refs n k ++ [[.ref (k + 16) 1 0 n]] := by simp [refs, List.range_succ]
theorem refs_len (n k : Nat) : (refs n k).length = k := by simp [refs]
theorem tab_len (p : Pg) (n k : Nat) (X : List Ob) : (caTabB p n k X).length = X.length + 16 := rfl
theorem tab_cl (p : Pg) (n : Nat) (rs : List (List Nat)) (k : Nat) (hk : k ≤ rs.length) : ∀ o ∈ caTabB p n k (rs.map rowB), o.cl (caTabB p n k (rs.map rowB)).length := by
  intro o ho
  rw [tab_len, List.length_map]
  simp only [caTabB, tabG, List.mem_cons] at ho
  have hnil : Ob.cl (rs.length + 16) (.row 1 0 false []) := fun cs h => by cases h
  rcases ho with rfl | rfl | rfl | rfl | rfl | rfl | rfl | rfl | rfl | rfl | rfl | rfl | rfl | rfl | rfl | rfl | ho
  · exact pgB_cl p _
  · intro cs hcs
    simp only [refs, List.mem_map, List.mem_range] at hcs
    obtain ⟨j, hj, rfl⟩ := hcs
    simp [V.cl.clAll, V.cl]; omega
  · exact hnil
  · exact hnil
  · exact hnil
  · exact hnil
  · exact hnil
  · exact hnil
  · exact hnil
  · exact hnil
  · exact hnil
  · exact hnil
  · exact hnil
  · exact hnil
  · exact hnil
  · exact hnil
  · simp only [List.mem_map] at ho
    obtain ⟨r, _, rfl⟩ := ho
    exact row_cl 1 1 (r.map elN) _ _ (by simp [rowB])
theorem map_get (M : List (List Nat)) (a : Nat) (h : a < M.length) : (M.map rowB)[a]? = some (rowB (M.getD a [])) := by
  simp [List.getD_eq_getElem?_getD, h]
theorem refs_get (n k a : Nat) (h : a < k) : (refs n k).getD (0 + ((a : Nat) : Int).toNat) [] = [.ref (a + 16) 1 0 n] := by
  rw [Nat.zero_add, Int.toNat_natCast]
  simp [refs, List.getD_eq_getElem?_getD, h]
theorem cell_get (M : List (List Nat)) (a k : Nat) (h : k < (M.getD a []).length) : (lift ((M.getD a []).map elN)).getD (0 + ((k : Nat) : Int).toNat) [] = [.i (.int .i64 (cell M a k : Nat))] := by
  rw [Nat.zero_add, Int.toNat_natCast, lift_getD elN _ h]
  have e : cell M a k = (M.getD a [])[k] := by rw [cell, List.getD_eq_getElem?_getD, List.getElem?_eq_getElem h]; rfl
  rw [e]; rfl
theorem set_rows (M : List (List Nat)) (a b : Nat) : (M.map rowB).set a (rowB ((M.getD a []).set b 1)) = (put1 M a b).map rowB := by
  rw [put1, List.map_set]
theorem Sq.stepB {n : Nat} {M : List (List Nat)} (h : Sq n M) {a : Nat} (ha : a < n) (k b : Nat) : Sq n (Am.stepB k a M b) := by
  unfold Am.stepB
  split
  · exact h.put ha
  · exact h
theorem fold_id {α : Type} (f : α → Nat → α) (x : α) : (List.range 0).foldl f x = x := rfl
/-! The table told as data. -/
def dRefs (n : Nat) (M : List (List Nat)) (j : Nat) : List (List V) := (List.range n).map fun i => if i < j then [.i (.sl ((M.getD i []).map elN))] else [.ref (i + 16) 1 0 n]
def dRows (n : Nat) (M : List (List Nat)) (j : Nat) : List Ob := (List.range n).map fun i => if i < j then .dead else rowB (M.getD i [])
def encM (M : List (List Nat)) : List (List I) := M.map fun r => [.sl (r.map elN)]
theorem dRefs_zero (n : Nat) (M : List (List Nat)) : dRefs n M 0 = refs n n := by
  simp only [dRefs, refs]
  refine List.map_congr_left fun i _ => ?_
  rw [if_neg (by omega)]
theorem dRows_zero {n : Nat} {M : List (List Nat)} (h : M.length = n) : dRows n M 0 = M.map rowB := by
  refine List.ext_getElem (by simp [dRows, h]) fun i h1 h2 => ?_
  have : i < M.length := by simpa using h2
  simp [dRows, List.getD_eq_getElem?_getD, this]
theorem dRefs_full {n : Nat} {M : List (List Nat)} (h : M.length = n) : dRefs n M n = lift (encM M) := by
  refine List.ext_getElem (by simp [dRefs, lift, encM, h]) fun i h1 h2 => ?_
  have hn : i < n := by simpa [dRefs] using h1
  have : i < M.length := by omega
  simp [dRefs, lift, encM, List.getD_eq_getElem?_getD, this, hn]
theorem dat_lift (id ver : Nat) (is es : List (List I)) : (lift es).map (V.dat.datAll id ver is) = lift es := by
  simp only [lift, List.map_map]
  refine List.map_congr_left fun cs _ => ?_
  simp only [Function.comp]
  induction cs with
  | nil => rfl
  | cons c cs ih => simp [V.dat.datAll, V.dat, ih]
theorem dat_refs {n : Nat} {M : List (List Nat)} (hs : Sq n M) (j : Nat) (hj : j < n) : (dRefs n M j).map (V.dat.datAll (j + 16) 1 ((M.getD j []).map elN)) = dRefs n M (j + 1) := by
  simp only [dRefs, List.map_map]
  refine List.map_congr_left fun i hi => ?_
  have hi : i < n := by simpa using hi
  simp only [Function.comp]
  by_cases h1 : i < j
  · rw [if_pos h1, if_pos (by omega)]; rfl
  · rw [if_neg h1]
    by_cases h2 : i = j
    · subst h2
      rw [if_pos (by omega)]
      simp only [V.dat.datAll, V.dat, if_true, List.drop_zero]
      rw [List.take_of_length_le (by rw [List.length_map, hs.2 i hi]; exact Nat.le_refl _)]
    · rw [if_neg (by omega)]
      simp only [V.dat.datAll, V.dat]
      rw [if_neg (by omega)]
theorem dat_rows (n : Nat) (M : List (List Nat)) (j : Nat) (hj : j < n) (is : List (List I)) : ((dRows n M j).map (Ob.dat (j + 16) 1 is)).set j .dead = dRows n M (j + 1) := by
  refine List.ext_getElem (by simp [dRows]) fun i h1 h2 => ?_
  have hi : i < n := by simpa [dRows] using h2
  rw [List.getElem_set]
  simp only [dRows, List.getElem_map, List.getElem_range]
  by_cases h : j = i
  · subst h; rw [if_pos rfl, if_pos (by omega)]
  · rw [if_neg h]
    by_cases h3 : i < j
    · rw [if_pos h3, if_pos (by omega)]; rfl
    · rw [if_neg h3, if_neg (by omega)]
      simp only [rowB, Ob.dat, dat_lift]
def caEndS (n : Nat) : List V := mkS 96 [(2, .ref 1 1 0 n)]
theorem data_step (p : Pg) {n : Nat} {M : List (List Nat)} (hs : Sq n M) (j : Nat) (hj : j < n) : Le 0 ⟨caEndS n, tabG p 1 (dRefs n M j) (dRows n M j)⟩ ⟨caEndS n, tabG p 1 (dRefs n M (j + 1)) (dRows n M (j + 1))⟩ := by
  refine Le.data (j + 16) 1 1 ((M.getD j []).map elN) ?_ ?_ ?_
  · show (dRows n M j)[j]? = _
    simp [dRows, hj, rowB]
  · simp [leS, caEndS, mkS, V.dat]
  · rw [← dat_refs hs j hj, ← dat_rows n M j hj ((M.getD j []).map elN)]
    rfl
theorem data_all (p : Pg) {n : Nat} {M : List (List Nat)} (hs : Sq n M) : ∀ j, j ≤ n → Le 0 ⟨caEndS n, caTabB p n n (M.map rowB)⟩ ⟨caEndS n, tabG p 1 (dRefs n M j) (dRows n M j)⟩
  | 0, _ => by rw [dRefs_zero, dRows_zero hs.1]; exact Le.refl _ _
  | j + 1, h => (data_all p hs j (by omega)).trans (data_step p hs j (by omega))
theorem data_tab (p : Pg) {n : Nat} {M : List (List Nat)} (hs : Sq n M) : Le 0 ⟨caEndS n, caTabB p n n (M.map rowB)⟩ ⟨mkS 96 [(2, .i (.sl (encM M)))], ((tabG p 1 (lift (encM M)) (dRows n M n)).map (Ob.dat 1 1 (encM M))).set 1 .dead⟩ := by
  refine (data_all p hs n (Nat.le_refl _)).trans ?_
  rw [dRefs_full hs.1]
  refine Le.data 1 1 1 (encM M) rfl ?_ rfl
  have hl : (encM M).length = n := by rw [encM, List.length_map, hs.1]
  simp [leS, caEndS, mkS, V.dat]
  rw [List.take_of_length_le (by omega)]
set_option maxHeartbeats 2000000 in
theorem calls_i (p : Pg) (n f : Nat) (L : List Nd) (X : List Ob) (hn : n ≤ 1000) (hf : f < n) (hXl : X.length = f) (eL : (p.fs.map encF).getD (f : Int).toNat [] = encF L) (hfl : f < p.fs.length) (hLl : L.length ≤ 1000) (hLc : ∀ y ∈ L, y.1 = 7 → 0 ≤ y.2.1 ∧ y.2.1 < n) :
    W Try.prog G0 0 (.loop (lp Try.f54 1)) (fun e s' => e = .exit 2 ∧ s' = ⟨(mkS 96 [(1, .ptr 0 0 0 0), (3, .i (.int .i64 n)), (4, .ref 1 1 0 f), (5, .i (.int .i64 f)), (6, .ref (f + 16) 1 0 n)]), caTabB p n f (X ++ [rowB (rowL L (List.replicate n 0))])⟩)
      ⟨mkS 96 [(1, .ptr 0 0 0 0), (3, .i (.int .i64 n)), (4, .ref 1 1 0 f), (5, .i (.int .i64 f)), (6, .ref (f + 16) 1 0 n), (7, .i (.int .i64 0))], caTabB p n f (X ++ [rowB (List.replicate n 0)])⟩ := by
  refine W.weak (loop_ok (α := Nat) (fun i => ⟨mkS 96 [(1, .ptr 0 0 0 0), (3, .i (.int .i64 n)), (4, .ref 1 1 0 f), (5, .i (.int .i64 f)), (6, .ref (f + 16) 1 0 n), (7, .i (.int .i64 i))], caTabB p n f (X ++ [rowB (rowL (L.take i) (List.replicate n 0))])⟩)
    (fun i => i ≤ L.length) (fun i => L.length - i) 0 (Nat.zero_le _) (by rw [List.take_zero]; exact Le.refl _ _) (fun i hi => wpx_ok (own := own0) _ _ _ ?_))
  repeat ((conv => whnf); first | (refine Br.t ?_; try with_reducible refine told_in ?_) | (refine Br.f ?_; first | refine skip_f ?_ | skip) | refine ⟨rfl, ?_⟩ | refine fOs_in ?_)
  conv => whnf
  rw [eL]
  refine ⟨⟨by omega, by simp; omega, rfl⟩, ?_⟩
  repeat ((conv => whnf); first | (refine Br.t ?_; try with_reducible refine told_in ?_) | (refine Br.f ?_; first | refine skip_f ?_ | skip) | refine ⟨rfl, ?_⟩ | refine fOs_in ?_)
  conv => whnf
  refine Br.mk (fun g1 => ?_) (fun g1 => ?_)
  · have g1 : i < L.length := by simpa using g1
    obtain ⟨y, hy⟩ : ∃ y, y = L[i] := ⟨_, rfl⟩
    have hym : y ∈ L := hy ▸ List.getElem_mem g1
    have ey : (L.map encNd).getD (i : Int).toNat [] = encNd y := by rw [hy]; exact getD_enc g1
    have hyc := hLc y hym
    have et : L.take (i + 1) = L.take i ++ [y] := by rw [hy]; simp
    repeat ((conv => whnf); first | (refine Br.t ?_; try with_reducible refine told_in ?_) | (refine Br.f ?_; first | refine skip_f ?_ | skip) | refine ⟨rfl, ?_⟩ | refine fOs_in ?_)
    conv => whnf
    rw [eL]
    refine ⟨⟨by omega, by simp; omega, rfl⟩, ?_⟩
    repeat ((conv => whnf); first | (refine Br.t ?_; try with_reducible refine told_in ?_) | (refine Br.f ?_; first | refine skip_f ?_ | skip) | refine ⟨rfl, ?_⟩ | refine fOs_in ?_)
    conv => whnf
    rw [ey]
    refine ⟨⟨by omega, by simp; omega, rfl⟩, ?_⟩
    repeat ((conv => whnf); first | (refine Br.t ?_; try with_reducible refine told_in ?_) | (refine Br.f ?_; first | refine skip_f ?_ | skip) | refine ⟨rfl, ?_⟩ | refine fOs_in ?_)
    conv => whnf
    refine Br.mk (fun g7 => ?_) (fun g7 => ?_)
    · have g7 : y.1 = 7 := by simpa using g7
      obtain ⟨a1, a2⟩ := hyc g7
      repeat ((conv => whnf); first | (refine Br.t ?_; try with_reducible refine told_in ?_) | (refine Br.f ?_; first | refine skip_f ?_ | skip) | refine ⟨rfl, ?_⟩ | refine fOs_in ?_)
      conv => whnf
      rw [eL]
      refine ⟨⟨by omega, by simp; omega, rfl⟩, ?_⟩
      repeat ((conv => whnf); first | (refine Br.t ?_; try with_reducible refine told_in ?_) | (refine Br.f ?_; first | refine skip_f ?_ | skip) | refine ⟨rfl, ?_⟩ | refine fOs_in ?_)
      conv => whnf
      rw [ey]
      refine ⟨⟨by omega, by simp; omega, rfl⟩, ?_⟩
      repeat ((conv => whnf); first | (refine Br.t ?_; try with_reducible refine told_in ?_) | (refine Br.f ?_; first | refine skip_f ?_ | skip) | refine ⟨rfl, ?_⟩ | refine fOs_in ?_)
      conv => whnf
      have hXr : (X ++ [rowB (rowL (L.take i) (List.replicate n 0))])[f]? = some (rowB (rowL (L.take i) (List.replicate n 0))) := by
        rw [List.getElem?_append_right (by omega), hXl, Nat.sub_self]
        rfl
      have hr := (tab_get p n f (X ++ [rowB (rowL (L.take i) (List.replicate n 0))]) f).trans hXr
      have hst := tab_set p n f (X ++ [rowB (rowL (L.take i) (List.replicate n 0))]) f _ y.2.1.toNat hXr (by rw [rowL_len, List.length_replicate]; omega)
      rw [List.set_append_right _ _ (by omega), hXl, Nat.sub_self] at hst
      conv in (opA _ _ _ _ _) => tactic => exact op_ix hr rfl rfl rfl rfl rfl
      repeat ((conv => whnf); first | (refine Br.t ?_; try with_reducible refine told_in ?_) | (refine Br.f ?_; first | refine skip_f ?_ | skip) | refine ⟨rfl, ?_⟩ | refine fOs_in ?_)
      conv => whnf
      refine ⟨⟨by omega, by omega⟩, ?_⟩
      repeat ((conv => whnf); first | (refine Br.t ?_; try with_reducible refine told_in ?_) | (refine Br.f ?_; first | refine skip_f ?_ | skip) | refine ⟨rfl, ?_⟩ | refine fOs_in ?_)
      conv => whnf
      conv in (opA _ _ _ _ _) => tactic => exact op_store hr rfl rfl hst
      repeat ((conv => whnf); first | (refine Br.t ?_; try with_reducible refine told_in ?_) | (refine Br.f ?_; first | refine skip_f ?_ | skip) | refine ⟨rfl, ?_⟩ | refine fOs_in ?_)
      conv => whnf
      refine ⟨?_, ?_⟩
      · exact st_ok rfl rfl _ _ (by rw [rowL_len, List.length_replicate]; omega) _
      · repeat ((conv => whnf); first | (refine Br.t ?_; try with_reducible refine told_in ?_) | (refine Br.f ?_; first | refine skip_f ?_ | skip) | refine ⟨rfl, ?_⟩ | refine fOs_in ?_)
        conv => whnf
        refine ⟨i + 1, by omega, by omega, ?_⟩
        rw [et, rowL_snoc, if_pos g7]
        refine Le.slots ?_
        simp [leS, mkS]
        exact i64_id (by omega) (by omega)
    · have g7 : y.1 ≠ 7 := by simpa using g7
      repeat ((conv => whnf); first | (refine Br.t ?_; try with_reducible refine told_in ?_) | (refine Br.f ?_; first | refine skip_f ?_ | skip) | refine ⟨rfl, ?_⟩ | refine fOs_in ?_)
      conv => whnf
      refine ⟨i + 1, by omega, by omega, ?_⟩
      rw [et, rowL_snoc, if_neg g7]
      refine Le.slots ?_
      simp [leS, mkS]
      exact i64_id (by omega) (by omega)
  · have g1 : i = L.length := by simp at g1; omega
    subst g1
    repeat ((conv => whnf); first | (refine Br.t ?_; try with_reducible refine told_in ?_) | (refine Br.f ?_; first | refine skip_f ?_ | skip) | refine ⟨rfl, ?_⟩ | refine fOs_in ?_)
    conv => whnf
    rw [List.take_length]
    refine ⟨_, Le.slots ?_, rfl, rfl⟩
    simp [leS, mkS]
end Go.Proofs.Ytdbmfnhbgacldaa.Am

/- Contracts: the table of calls, its rows. -/
namespace Go.Proofs.Ytdbmfnhbgacldaa.Am
set_option autoImplicit false
set_option linter.unusedVariables false
set_option linter.unusedSimpArgs false
set_option maxRecDepth 10000
set_option pp.maxSteps 3000
set_option pp.proofs false
set_option maxHeartbeats 2000000 in
theorem calls_f (p : Pg) (hc : Calls0 p) (hn : p.fs.length ≤ 1000) (hw : ∀ f ∈ p.fs, f.length ≤ 1000) (n : Nat) (hnn : n = p.fs.length) :
    W Try.prog G0 0 (.loop (lp Try.f54 0)) (fun e s' => e = .exit 0 ∧ s' = ⟨mkS 96 [(3, .i (.int .i64 n)), (4, .ref 1 1 0 n)], caTabB p n n ((rows0 p).map rowB)⟩)
      ⟨mkS 96 [(1, .ptr 0 0 0 0), (3, .i (.int .i64 n)), (4, .ref 1 1 0 0), (5, .i (.int .i64 0))], caTabB p n 0 []⟩ := by
  refine W.weak (loop_ok (α := Nat) (fun f => ⟨mkS 96 [(1, .ptr 0 0 0 0), (3, .i (.int .i64 n)), (4, .ref 1 1 0 f), (5, .i (.int .i64 f))], caTabB p n f (((rows0 p).take f).map rowB)⟩)
    (fun f => f ≤ p.fs.length) (fun f => p.fs.length - f) 0 (Nat.zero_le _) (by rw [List.take_zero]; exact Le.refl _ _) (fun f hf => W.weak (wpx_ok (own := own0) _ _ _ ?_)))
  have hl : ((rows0 p).take f).length = f := by simp [rows0]; omega
  obtain ⟨X, hX⟩ : ∃ X, X = ((rows0 p).take f).map rowB := ⟨_, rfl⟩
  have hXl : X.length = f := by rw [hX, List.length_map, hl]
  rw [← hX]
  repeat ((conv => whnf); first | (refine Br.t ?_; try with_reducible refine told_in ?_) | (refine Br.f ?_; first | refine skip_f ?_ | skip) | refine ⟨rfl, ?_⟩ | refine fOs_in ?_)
  conv => whnf
  refine Br.mk (fun g => ?_) (fun g => ?_)
  · have g : f < n := by simpa using g
    obtain ⟨L, hL⟩ : ∃ L, L = p.fs[f] := ⟨_, rfl⟩
    have hLm : L ∈ p.fs := hL ▸ List.getElem_mem _
    have eL : (p.fs.map encF).getD (f : Int).toNat [] = encF L := by rw [hL]; exact getD_enc (by omega)
    have hLl := hw L hLm
    have hLc := hc L hLm
    rw [← hnn] at hLc
    repeat ((conv => whnf); first | (refine Br.t ?_; try with_reducible refine told_in ?_) | (refine Br.f ?_; first | refine skip_f ?_ | skip) | refine ⟨rfl, ?_⟩ | refine fOs_in ?_)
    conv => whnf
    refine ⟨⟨by omega, rfl, by show (8 : Int) * _ ≤ _; omega, by show _ ≤ (9223372036854775807 : Int); omega⟩, ?_⟩
    change fW (.ref (X.length + 16) 1 0 (n : Int).toNat) _
    rw [hXl, Int.toNat_natCast]
    repeat ((conv => whnf); first | (refine Br.t ?_; try with_reducible refine told_in ?_) | (refine Br.f ?_; first | refine skip_f ?_ | skip) | refine ⟨rfl, ?_⟩ | refine fOs_in ?_)
    conv => whnf
    have e0 : rowB (List.replicate n 0) = .row 1 1 false (List.replicate n [.i (.int .i64 0)]) := by
      simp [rowB, lift, elN]
    refine W.le (s' := ⟨mkS 96 [(1, .ptr 0 0 0 0), (3, .i (.int .i64 n)), (4, .ref 1 1 0 f), (5, .i (.int .i64 f)), (6, .ref (f + 16) 1 0 n), (7, .i (.int .i64 0))], caTabB p n f (X ++ [rowB (List.replicate n 0)])⟩) (by rw [e0]; exact Le.slots (by simp [leS, mkS])) ?_
    refine W.mono (calls_i p n f L X (by omega) g hXl eL (by omega) hLl hLc) ?_
    rintro e s' ⟨rfl, rfl⟩
    obtain ⟨r, hr⟩ : ∃ r, r = rowL L (List.replicate n 0) := ⟨_, rfl⟩
    rw [← hr]
    have hXr : (X ++ [rowB r])[f]? = some (rowB r) := by
      rw [List.getElem?_append_right (by omega), hXl, Nat.sub_self]
      rfl
    have hg := (tab_get p n f (X ++ [rowB r]) f).trans hXr
    repeat ((conv => whnf); first | (refine Br.t ?_; try with_reducible refine told_in ?_) | (refine Br.f ?_; first | refine skip_f ?_ | skip) | refine ⟨rfl, ?_⟩ | refine fOs_in ?_)
    conv => whnf
    conv in (opA _ _ _ _ _) => tactic => exact op_lit1 hg rfl rfl rfl rfl rfl
    repeat ((conv => whnf); first | (refine Br.t ?_; try with_reducible refine told_in ?_) | (refine Br.f ?_; first | refine skip_f ?_ | skip) | refine ⟨rfl, ?_⟩ | refine fOs_in ?_)
    conv => whnf
    have hsx : (caTabB p n f (X ++ [rowB r] ++ [.row 1 1 false [[.ref (f + 16) 1 0 n]]]))[(caTabB p n f (X ++ [rowB r])).length]? = some (.row 1 1 false [[.ref (f + 16) 1 0 n]]) := by
      show ((caTabB p n f (X ++ [rowB r])) ++ [Ob.row 1 1 false [[.ref (f + 16) 1 0 n]]])[_]? = _
      rw [List.getElem?_append_right (Nat.le_refl _), Nat.sub_self]; rfl
    conv in (opA _ _ _ _ _) => tactic => exact op_app1 hsx rfl rfl rfl rfl rfl rfl
    repeat ((conv => whnf); first | (refine Br.t ?_; try with_reducible refine told_in ?_) | (refine Br.f ?_; first | refine skip_f ?_ | skip) | refine ⟨rfl, ?_⟩ | refine fOs_in ?_)
    conv => whnf
    refine ⟨⟨fun cs hcs => ?_, (refs_len n f).symm, by show (f + 1) * 24 ≤ _; omega, len_mx (by omega)⟩, ?_⟩
    · simp only [List.mem_singleton] at hcs
      subst hcs
      have hgg : (caTabB p n f (X ++ [rowB r] ++ [.row 1 1 false [[.ref (f + 16) 1 0 n]]]))[f + 16]? = some (rowB r) := by
        show (X ++ [rowB r] ++ [Ob.row 1 1 false [[.ref (f + 16) 1 0 n]]])[f]? = _
        rw [List.getElem?_append_left (by simp; omega)]
        exact hXr
      show ((match (caTabB p n f (X ++ [rowB r] ++ [.row 1 1 false [[.ref (f + 16) 1 0 n]]]))[f + 16]? with | some (.row ver' _ _ _) => 1 == ver' | _ => false) && true) = true
      rw [hgg]
      rfl
    · repeat ((conv => whnf); first | (refine Br.t ?_; try with_reducible refine told_in ?_) | (refine Br.f ?_; first | refine skip_f ?_ | skip) | refine ⟨rfl, ?_⟩ | refine fOs_in ?_)
      conv => whnf
      have eY : X ++ [rowB r] = ((rows0 p).take (f + 1)).map rowB := by
        have h1 : f < (rows0 p).length := by simp [rows0]; omega
        have h2 : (rows0 p)[f] = r := by
          rw [hr, hL]
          simp [rows0, hnn]
        rw [List.take_succ_eq_append_getElem h1, List.map_append, ← hX, h2]
        rfl
      refine ⟨_, Le.refl _ _, f + 1, by omega, by omega, Le.back (fun id => if id = 1 then 1 else 0) (by intro id hid; simp at hid) (by simp) ?_ ?_ ?_ ?_⟩
      · simp [mkS, V.cl.clAll, V.cl, tab_len]
      · exact tab_cl p n _ _ (by simp [rows0]; omega)
      · simp [leS, mkS, V.up]
        exact i64_id (by omega) (by omega)
      · have e1 : refs n f ++ [[.ref (f + 16) 1 0 n]] = (refs n (f + 1)).map (V.up.upAll (fun id => if id = 1 then 1 else 0)) := by
          rw [up_refs _ _ _ (fun j hj => if_neg (by omega)), refs_snoc]
        have e2 : ∀ (rs : List (List Nat)) (o : Ob), List.take (rs.map rowB).length (rs.map rowB ++ [o]) = upSt (fun id => if id = 1 then 1 else 0) 16 (rs.map rowB) := fun rs o => by
          rw [up_rows _ _ (fun j hj => if_neg (by omega)), List.take_left]
        rw [eY]
        show tabG p 2 (refs n f ++ [[.ref (f + 16) 1 0 n]]) (List.take (((rows0 p).take (f + 1)).map rowB).length (((rows0 p).take (f + 1)).map rowB ++ [Ob.row 1 1 false [[.ref (f + 16) 1 0 n]]])) = tabG p 2 ((refs n (f + 1)).map (V.up.upAll (fun id => if id = 1 then 1 else 0))) (upSt (fun id => if id = 1 then 1 else 0) 16 (((rows0 p).take (f + 1)).map rowB))
        rw [e1, e2]
  · have g : f = p.fs.length := by simp at g; omega
    subst g
    have hall : (rows0 p).take p.fs.length = rows0 p := List.take_of_length_le (by simp [rows0])
    rw [hall] at hX
    repeat ((conv => whnf); first | (refine Br.t ?_; try with_reducible refine told_in ?_) | (refine Br.f ?_; first | refine skip_f ?_ | skip) | refine ⟨rfl, ?_⟩ | refine fOs_in ?_)
    conv => whnf
    refine ⟨⟨mkS 96 [(3, .i (.int .i64 n)), (4, .ref 1 1 0 n)], caTabB p n n X⟩, by rw [← hnn]; exact Le.slots (by simp [leS, mkS]), ?_⟩
    exact ⟨_, Le.refl _ _, rfl, by rw [hX]⟩
end Go.Proofs.Ytdbmfnhbgacldaa.Am

/- Contracts: the table of calls, in full. -/
namespace Go.Proofs.Ytdbmfnhbgacldaa.Am
set_option autoImplicit false
set_option linter.unusedVariables false
set_option linter.unusedSimpArgs false
set_option maxRecDepth 10000
set_option pp.maxSteps 3000
set_option pp.proofs false
set_option maxHeartbeats 2000000 in
theorem calls_b (p : Pg) (n k a : Nat) (M1 : List (List Nat)) (hn : n ≤ 1000) (g1 : k < n) (g2 : a < n) (hs : Sq n M1) :
    W Try.prog G0 0 (.loop (lp Try.f54 4)) (fun e s' => e = .exit 8 ∧ Sq n (stepA n k M1 a) ∧ s' = ⟨mkS 96 [(3, .i (.int .i64 n)), (4, .ref 1 1 0 n), (8, .i (.int .i64 k)), (9, .i (.int .i64 a))], caTabB p n n ((stepA n k M1 a).map rowB)⟩)
      ⟨mkS 96 [(3, .i (.int .i64 n)), (4, .ref 1 1 0 n), (8, .i (.int .i64 k)), (9, .i (.int .i64 a)), (10, .i (.int .i64 0))], caTabB p n n (M1.map rowB)⟩ := by
  refine W.weak (loop_ok (α := Nat) (fun b => ⟨mkS 96 [(3, .i (.int .i64 n)), (4, .ref 1 1 0 n), (8, .i (.int .i64 k)), (9, .i (.int .i64 a)), (10, .i (.int .i64 b))], caTabB p n n (((List.range b).foldl (stepB k a) M1).map rowB)⟩)
    (fun b => b ≤ n ∧ Sq n ((List.range b).foldl (stepB k a) M1)) (fun b => n - b) 0 ⟨Nat.zero_le _, hs⟩ (Le.refl _ _) (fun b hb => wpx_ok (own := own0) _ _ _ ?_))
  obtain ⟨hb1, hb2⟩ := hb
  obtain ⟨M2, hM2⟩ : ∃ M2, M2 = (List.range b).foldl (stepB k a) M1 := ⟨_, rfl⟩
  rw [← hM2] at hb2 ⊢
  repeat ((conv => whnf); first | (refine Br.t ?_; try with_reducible refine told_in ?_) | (refine Br.f ?_; first | refine skip_f ?_ | skip) | refine ⟨rfl, ?_⟩ | refine fOs_in ?_)
  conv => whnf
  refine Br.mk (fun g3 => ?_) (fun g3 => ?_)
  · have g3 : b < n := by simpa using g3
    have hsq := hb2.stepB g2 k b
    have hla := hb2.2 a g2
    have hlk := hb2.2 k g1
    have hga := (tab_get p n n (M2.map rowB) a).trans (map_get M2 a (by rw [hb2.1]; exact g2))
    have hgk := (tab_get p n n (M2.map rowB) k).trans (map_get M2 k (by rw [hb2.1]; exact g1))
    obtain ⟨X, hX2⟩ : ∃ X, X = M2.map rowB := ⟨_, rfl⟩
    rw [← hX2] at hga hgk
    rw [← hX2]
    repeat ((conv => whnf); first | (refine Br.t ?_; try with_reducible refine told_in ?_) | (refine Br.f ?_; first | refine skip_f ?_ | skip) | refine ⟨rfl, ?_⟩ | refine fOs_in ?_)
    conv => whnf
    refine ⟨⟨by omega, by omega⟩, ?_⟩
    repeat ((conv => whnf); first | (refine Br.t ?_; try with_reducible refine told_in ?_) | (refine Br.f ?_; first | refine skip_f ?_ | skip) | refine ⟨rfl, ?_⟩ | refine fOs_in ?_)
    conv => whnf
    rw [refs_get n n a (by omega)]
    repeat ((conv => whnf); first | (refine Br.t ?_; try with_reducible refine told_in ?_) | (refine Br.f ?_; first | refine skip_f ?_ | skip) | refine ⟨rfl, ?_⟩ | refine fOs_in ?_)
    conv => whnf
    obtain ⟨v1, hv1⟩ : ∃ v, v = cell M2 a k := ⟨_, rfl⟩
    obtain ⟨v2, hv2⟩ : ∃ v, v = cell M2 k b := ⟨_, rfl⟩
    conv in (opA _ _ _ _ _) => tactic => exact op_ix hga rfl rfl rfl rfl rfl
    repeat ((conv => whnf); first | (refine Br.t ?_; try with_reducible refine told_in ?_) | (refine Br.f ?_; first | refine skip_f ?_ | skip) | refine ⟨rfl, ?_⟩ | refine fOs_in ?_)
    conv => whnf
    refine ⟨⟨by omega, by omega⟩, ?_⟩
    repeat ((conv => whnf); first | (refine Br.t ?_; try with_reducible refine told_in ?_) | (refine Br.f ?_; first | refine skip_f ?_ | skip) | refine ⟨rfl, ?_⟩ | refine fOs_in ?_)
    conv => whnf
    conv in (opA _ _ _ _ _) => tactic => exact op_load (v := .i (.int .i64 (v1 : Nat))) hga rfl rfl (by rw [cell_get M2 a k (by omega), ← hv1]; rfl)
    repeat ((conv => whnf); first | (refine Br.t ?_; try with_reducible refine told_in ?_) | (refine Br.f ?_; first | refine skip_f ?_ | skip) | refine ⟨rfl, ?_⟩ | refine fOs_in ?_)
    conv => whnf
    refine ⟨by rw [cell_get M2 a k (by omega)]; rfl, ?_⟩
    repeat ((conv => whnf); first | (refine Br.t ?_; try with_reducible refine told_in ?_) | (refine Br.f ?_; first | refine skip_f ?_ | skip) | refine ⟨rfl, ?_⟩ | refine fOs_in ?_)
    conv => whnf
    refine Br.mk (fun c1 => told_in ?_) (fun c1 => skip_f ?_)
    · have c1 : cell M2 a k = 1 := by rw [← hv1]; simp at c1; omega
      repeat ((conv => whnf); first | (refine Br.t ?_; try with_reducible refine told_in ?_) | (refine Br.f ?_; first | refine skip_f ?_ | skip) | refine ⟨rfl, ?_⟩ | refine fOs_in ?_)
      conv => whnf
      refine ⟨⟨by omega, by omega⟩, ?_⟩
      repeat ((conv => whnf); first | (refine Br.t ?_; try with_reducible refine told_in ?_) | (refine Br.f ?_; first | refine skip_f ?_ | skip) | refine ⟨rfl, ?_⟩ | refine fOs_in ?_)
      conv => whnf
      rw [refs_get n n k (by omega)]
      repeat ((conv => whnf); first | (refine Br.t ?_; try with_reducible refine told_in ?_) | (refine Br.f ?_; first | refine skip_f ?_ | skip) | refine ⟨rfl, ?_⟩ | refine fOs_in ?_)
      conv => whnf
      conv in (opA _ _ _ _ _) => tactic => exact op_ix hgk rfl rfl rfl rfl rfl
      repeat ((conv => whnf); first | (refine Br.t ?_; try with_reducible refine told_in ?_) | (refine Br.f ?_; first | refine skip_f ?_ | skip) | refine ⟨rfl, ?_⟩ | refine fOs_in ?_)
      conv => whnf
      refine ⟨⟨by omega, by omega⟩, ?_⟩
      repeat ((conv => whnf); first | (refine Br.t ?_; try with_reducible refine told_in ?_) | (refine Br.f ?_; first | refine skip_f ?_ | skip) | refine ⟨rfl, ?_⟩ | refine fOs_in ?_)
      conv => whnf
      conv in (opA _ _ _ _ _) => tactic => exact op_load (v := .i (.int .i64 (v2 : Nat))) hgk rfl rfl (by rw [cell_get M2 k b (by omega), ← hv2]; rfl)
      repeat ((conv => whnf); first | (refine Br.t ?_; try with_reducible refine told_in ?_) | (refine Br.f ?_; first | refine skip_f ?_ | skip) | refine ⟨rfl, ?_⟩ | refine fOs_in ?_)
      conv => whnf
      refine ⟨by rw [cell_get M2 k b (by omega)]; rfl, ?_⟩
      repeat ((conv => whnf); first | (refine Br.t ?_; try with_reducible refine told_in ?_) | (refine Br.f ?_; first | refine skip_f ?_ | skip) | refine ⟨rfl, ?_⟩ | refine fOs_in ?_)
      conv => whnf
      refine Br.mk (fun c2 => ?_) (fun c2 => ?_)
      · have c2 : cell M2 k b = 1 := by rw [← hv2]; simp at c2; omega
        have hst := tab_set p n n X a (M2.getD a []) b (by rw [hX2]; exact map_get M2 a (by rw [hb2.1]; exact g2)) (by omega)
        rw [hX2, set_rows, ← hX2] at hst
        repeat ((conv => whnf); first | (refine Br.t ?_; try with_reducible refine told_in ?_) | (refine Br.f ?_; first | refine skip_f ?_ | skip) | refine ⟨rfl, ?_⟩ | refine fOs_in ?_)
        conv => whnf
        refine ⟨⟨by omega, by omega⟩, ?_⟩
        repeat ((conv => whnf); first | (refine Br.t ?_; try with_reducible refine told_in ?_) | (refine Br.f ?_; first | refine skip_f ?_ | skip) | refine ⟨rfl, ?_⟩ | refine fOs_in ?_)
        conv => whnf
        rw [refs_get n n a (by omega)]
        repeat ((conv => whnf); first | (refine Br.t ?_; try with_reducible refine told_in ?_) | (refine Br.f ?_; first | refine skip_f ?_ | skip) | refine ⟨rfl, ?_⟩ | refine fOs_in ?_)
        conv => whnf
        conv in (opA _ _ _ _ _) => tactic => exact op_ix hga rfl rfl rfl rfl rfl
        repeat ((conv => whnf); first | (refine Br.t ?_; try with_reducible refine told_in ?_) | (refine Br.f ?_; first | refine skip_f ?_ | skip) | refine ⟨rfl, ?_⟩ | refine fOs_in ?_)
        conv => whnf
        refine ⟨⟨by omega, by omega⟩, ?_⟩
        repeat ((conv => whnf); first | (refine Br.t ?_; try with_reducible refine told_in ?_) | (refine Br.f ?_; first | refine skip_f ?_ | skip) | refine ⟨rfl, ?_⟩ | refine fOs_in ?_)
        conv => whnf
        conv in (opA _ _ _ _ _) => tactic => exact op_store hga rfl rfl hst
        repeat ((conv => whnf); first | (refine Br.t ?_; try with_reducible refine told_in ?_) | (refine Br.f ?_; first | refine skip_f ?_ | skip) | refine ⟨rfl, ?_⟩ | refine fOs_in ?_)
        conv => whnf
        refine ⟨st_ok rfl rfl _ _ (by omega) _, ?_⟩
        repeat ((conv => whnf); first | (refine Br.t ?_; try with_reducible refine told_in ?_) | (refine Br.f ?_; first | refine skip_f ?_ | skip) | refine ⟨rfl, ?_⟩ | refine fOs_in ?_)
        conv => whnf
        refine ⟨b + 1, ⟨by omega, ?_⟩, by omega, ?_⟩
        · rw [fold_succ, ← hM2]; exact hsq
        · rw [fold_succ, ← hM2]
          unfold stepB
          rw [if_pos ⟨c1, c2⟩]
          refine Le.slots ?_
          simp [leS, mkS]
          exact i64_id (by omega) (by omega)
      · have c2 : ¬ cell M2 k b = 1 := by rw [← hv2]; simp at c2; omega
        repeat ((conv => whnf); first | (refine Br.t ?_; try with_reducible refine told_in ?_) | (refine Br.f ?_; first | refine skip_f ?_ | skip) | refine ⟨rfl, ?_⟩ | refine fOs_in ?_)
        conv => whnf
        refine ⟨b + 1, ⟨by omega, ?_⟩, by omega, ?_⟩
        · rw [fold_succ, ← hM2]; exact hsq
        · rw [fold_succ, ← hM2]
          unfold stepB
          rw [if_neg (fun h => c2 h.2), ← hX2]
          refine Le.slots ?_
          simp [leS, mkS]
          exact i64_id (by omega) (by omega)
    · have c1 : ¬ cell M2 a k = 1 := by rw [← hv1]; simp at c1; omega
      repeat ((conv => whnf); first | (refine Br.t ?_; try with_reducible refine told_in ?_) | (refine Br.f ?_; first | refine skip_f ?_ | skip) | refine ⟨rfl, ?_⟩ | refine fOs_in ?_)
      conv => whnf
      refine ⟨b + 1, ⟨by omega, ?_⟩, by omega, ?_⟩
      · rw [fold_succ, ← hM2]; exact hsq
      · rw [fold_succ, ← hM2]
        unfold stepB
        rw [if_neg (fun h => c1 h.1), ← hX2]
        refine Le.slots ?_
        simp [leS, mkS]
        exact i64_id (by omega) (by omega)
  · have g3 : b = n := by simp at g3; omega
    subst g3
    repeat ((conv => whnf); first | (refine Br.t ?_; try with_reducible refine told_in ?_) | (refine Br.f ?_; first | refine skip_f ?_ | skip) | refine ⟨rfl, ?_⟩ | refine fOs_in ?_)
    conv => whnf
    have e2 : M2 = stepA b k M1 a := hM2
    rw [← e2]
    refine ⟨⟨mkS 96 [(3, .i (.int .i64 b)), (4, .ref 1 1 0 b), (8, .i (.int .i64 k)), (9, .i (.int .i64 a))], caTabB p b b (M2.map rowB)⟩, ?_, rfl, hb2, rfl⟩
    rw [hM2]
    exact Le.slots (by simp [leS, mkS])
set_option maxHeartbeats 2000000 in
theorem calls_a (p : Pg) (n k : Nat) (M : List (List Nat)) (hn : n ≤ 1000) (g1 : k < n) (hs : Sq n M) :
    W Try.prog G0 0 (.loop (lp Try.f54 3)) (fun e s' => e = .exit 6 ∧ Sq n (stepK n M k) ∧ s' = ⟨mkS 96 [(3, .i (.int .i64 n)), (4, .ref 1 1 0 n), (8, .i (.int .i64 k))], caTabB p n n ((stepK n M k).map rowB)⟩)
      ⟨mkS 96 [(3, .i (.int .i64 n)), (4, .ref 1 1 0 n), (8, .i (.int .i64 k)), (9, .i (.int .i64 0))], caTabB p n n (M.map rowB)⟩ := by
  refine W.weak (loop_ok (α := Nat) (fun a => ⟨mkS 96 [(3, .i (.int .i64 n)), (4, .ref 1 1 0 n), (8, .i (.int .i64 k)), (9, .i (.int .i64 a))], caTabB p n n (((List.range a).foldl (stepA n k) M).map rowB)⟩)
    (fun a => a ≤ n ∧ Sq n ((List.range a).foldl (stepA n k) M)) (fun a => n - a) 0 ⟨Nat.zero_le _, hs⟩ (Le.refl _ _) (fun a ha => wpx_ok (own := own0) _ _ _ ?_))
  obtain ⟨ha1, ha2⟩ := ha
  obtain ⟨M1, hM1⟩ : ∃ M1, M1 = (List.range a).foldl (stepA n k) M := ⟨_, rfl⟩
  rw [← hM1] at ha2 ⊢
  repeat ((conv => whnf); first | (refine Br.t ?_; try with_reducible refine told_in ?_) | (refine Br.f ?_; first | refine skip_f ?_ | skip) | refine ⟨rfl, ?_⟩ | refine fOs_in ?_)
  conv => whnf
  refine Br.mk (fun g2 => ?_) (fun g2 => ?_)
  · have g2 : a < n := by simpa using g2
    repeat ((conv => whnf); first | (refine Br.t ?_; try with_reducible refine told_in ?_) | (refine Br.f ?_; first | refine skip_f ?_ | skip) | refine ⟨rfl, ?_⟩ | refine fOs_in ?_)
    conv => whnf
    refine W.le (Le.slots (sl' := mkS 96 [(3, .i (.int .i64 n)), (4, .ref 1 1 0 n), (8, .i (.int .i64 k)), (9, .i (.int .i64 a)), (10, .i (.int .i64 0))]) (by simp [leS, mkS])) (W.mono (calls_b p n k a M1 hn g1 g2 ha2) ?_)
    rintro e s' ⟨rfl, hq, rfl⟩
    repeat ((conv => whnf); first | (refine Br.t ?_; try with_reducible refine told_in ?_) | (refine Br.f ?_; first | refine skip_f ?_ | skip) | refine ⟨rfl, ?_⟩ | refine fOs_in ?_)
    conv => whnf
    refine ⟨a + 1, ⟨by omega, ?_⟩, by omega, ?_⟩
    · rw [fold_succ, ← hM1]; exact hq
    · rw [fold_succ, ← hM1]
      refine Le.slots ?_
      simp [leS, mkS]
      exact i64_id (by omega) (by omega)
  · have g2 : a = n := by simp at g2; omega
    subst g2
    repeat ((conv => whnf); first | (refine Br.t ?_; try with_reducible refine told_in ?_) | (refine Br.f ?_; first | refine skip_f ?_ | skip) | refine ⟨rfl, ?_⟩ | refine fOs_in ?_)
    conv => whnf
    have e2 : M1 = stepK a M k := hM1
    rw [← e2]
    refine ⟨⟨mkS 96 [(3, .i (.int .i64 a)), (4, .ref 1 1 0 a), (8, .i (.int .i64 k))], caTabB p a a (M1.map rowB)⟩, ?_, rfl, ha2, rfl⟩
    rw [hM1]
    exact Le.slots (by simp [leS, mkS])
set_option maxHeartbeats 2000000 in
theorem calls_k (p : Pg) (n : Nat) (hn : n ≤ 1000) (hnn : n = p.fs.length) :
    W Try.prog G0 0 (.loop (lp Try.f54 2)) (fun e s' => e = .exit 4 ∧ Sq n (mat p) ∧ s' = ⟨mkS 96 [(3, .i (.int .i64 n)), (4, .ref 1 1 0 n)], caTabB p n n ((mat p).map rowB)⟩)
      ⟨mkS 96 [(3, .i (.int .i64 n)), (4, .ref 1 1 0 n), (8, .i (.int .i64 0))], caTabB p n n ((rows0 p).map rowB)⟩ := by
  refine W.weak (loop_ok (α := Nat) (fun k => ⟨mkS 96 [(3, .i (.int .i64 n)), (4, .ref 1 1 0 n), (8, .i (.int .i64 k))], caTabB p n n (((List.range k).foldl (stepK n) (rows0 p)).map rowB)⟩)
    (fun k => k ≤ n ∧ Sq n ((List.range k).foldl (stepK n) (rows0 p))) (fun k => n - k) 0 ⟨Nat.zero_le _, by rw [hnn]; exact rows0_sq p⟩ (Le.refl _ _) (fun k hk => wpx_ok (own := own0) _ _ _ ?_))
  obtain ⟨hk1, hk2⟩ := hk
  obtain ⟨M, hM⟩ : ∃ M, M = (List.range k).foldl (stepK n) (rows0 p) := ⟨_, rfl⟩
  rw [← hM] at hk2 ⊢
  repeat ((conv => whnf); first | (refine Br.t ?_; try with_reducible refine told_in ?_) | (refine Br.f ?_; first | refine skip_f ?_ | skip) | refine ⟨rfl, ?_⟩ | refine fOs_in ?_)
  conv => whnf
  refine Br.mk (fun g1 => ?_) (fun g1 => ?_)
  · have g1 : k < n := by simpa using g1
    repeat ((conv => whnf); first | (refine Br.t ?_; try with_reducible refine told_in ?_) | (refine Br.f ?_; first | refine skip_f ?_ | skip) | refine ⟨rfl, ?_⟩ | refine fOs_in ?_)
    conv => whnf
    refine W.le (Le.slots (sl' := mkS 96 [(3, .i (.int .i64 n)), (4, .ref 1 1 0 n), (8, .i (.int .i64 k)), (9, .i (.int .i64 0))]) (by simp [leS, mkS])) (W.mono (calls_a p n k M hn g1 hk2) ?_)
    rintro e s' ⟨rfl, hq, rfl⟩
    repeat ((conv => whnf); first | (refine Br.t ?_; try with_reducible refine told_in ?_) | (refine Br.f ?_; first | refine skip_f ?_ | skip) | refine ⟨rfl, ?_⟩ | refine fOs_in ?_)
    conv => whnf
    refine ⟨k + 1, ⟨by omega, ?_⟩, by omega, ?_⟩
    · rw [fold_succ, ← hM]; exact hq
    · rw [fold_succ, ← hM]
      refine Le.slots ?_
      simp [leS, mkS]
      exact i64_id (by omega) (by omega)
  · have g1 : k = n := by simp at g1; omega
    have hMm : M = mat p := by rw [hM, g1, hnn]; rfl
    subst g1
    repeat ((conv => whnf); first | (refine Br.t ?_; try with_reducible refine told_in ?_) | (refine Br.f ?_; first | refine skip_f ?_ | skip) | refine ⟨rfl, ?_⟩ | refine fOs_in ?_)
    conv => whnf
    rw [← hMm]
    refine ⟨⟨mkS 96 [(3, .i (.int .i64 k)), (4, .ref 1 1 0 k)], caTabB p k k (M.map rowB)⟩, ?_, rfl, hk2, rfl⟩
    rw [hM]
    exact Le.slots (by simp [leS, mkS])
set_option maxHeartbeats 2000000 in
theorem refcalls (p : Pg) (hc : Calls0 p) (hn : p.fs.length ≤ 1000) (hw : ∀ f ∈ p.fs, f.length ≤ 1000) : CallW Try.prog G0 54 [pgV p] [] (fun r st' => r = .i (.sl (encM (mat p))) ∧ st' = []) := by
  refine call_of_bodyF 0 (Nat.le_refl _) Try.func54 rfl (fun a w => Try.call54 a w) (W.weak (wpx_ok (own := own0) _ _ _ ?_))
  obtain ⟨n, hnn⟩ : ∃ n, n = p.fs.length := ⟨_, rfl⟩
  repeat ((conv => whnf); first | (refine Br.t ?_; try with_reducible refine told_in ?_) | (refine Br.f ?_; first | refine skip_f ?_ | skip) | refine ⟨rfl, ?_⟩ | refine fOs_in ?_)
  conv => whnf
  refine W.le (s' := ⟨mkS 96 [(1, .ptr 0 0 0 0), (3, .i (.int .i64 n)), (4, .ref 1 1 0 0), (5, .i (.int .i64 0))], caTabB p n 0 []⟩) ((Le.nil (n := 0) 4 1 rfl).trans ((Le.pads 14).trans (Le.slots (by simp [leS, mkS, hnn])))) (W.mono (calls_f p hc hn hw n hnn) ?_)
  rintro e s' ⟨rfl, rfl⟩
  repeat ((conv => whnf); first | (refine Br.t ?_; try with_reducible refine told_in ?_) | (refine Br.f ?_; first | refine skip_f ?_ | skip) | refine ⟨rfl, ?_⟩ | refine fOs_in ?_)
  conv => whnf
  refine W.le (Le.slots (sl' := mkS 96 [(3, .i (.int .i64 n)), (4, .ref 1 1 0 n), (8, .i (.int .i64 0))]) (by simp [leS, mkS])) (W.mono (calls_k p n (by omega) hnn) ?_)
  rintro e s' ⟨rfl, hq, rfl⟩
  repeat ((conv => whnf); first | (refine Br.t ?_; try with_reducible refine told_in ?_) | (refine Br.f ?_; first | refine skip_f ?_ | skip) | refine ⟨rfl, ?_⟩ | refine fOs_in ?_)
  conv => whnf
  refine ⟨_, (Le.slots (sl' := caEndS n) (by simp [leS, mkS, caEndS])).trans (data_tab p hq), ?_⟩
  repeat ((conv => whnf); first | (refine Br.t ?_; try with_reducible refine told_in ?_) | (refine Br.f ?_; first | refine skip_f ?_ | skip) | refine ⟨rfl, ?_⟩ | refine fOs_in ?_)
  conv => whnf
  refine fin (target := []) rfl (Nat.zero_le _) (by simp) rfl rfl
end Go.Proofs.Ytdbmfnhbgacldaa.Am

/- Contracts: the document's word on which nodes may be. -/
namespace Go.Proofs.Ytdbmfnhbgacldaa.Am
set_option autoImplicit false
set_option linter.unusedVariables false
set_option linter.unusedSimpArgs false
set_option maxRecDepth 10000
set_option pp.maxSteps 3000
set_option pp.proofs false
def sizeR (p : Pg) (c : Nat) (z : Int) : Int := if c = 103 then p.g else if c = 108 then p.l else if c = 115 then p.s else if c = 102 then p.fs.length else if c = 110 then mx1 z else 1
theorem refsize (p : Pg) (c : Nat) (z : Int) : CallW Try.prog G0 59 [pgV p, .i (.int .u8 c), .i (.int .i64 z)] [] (fun r st' => r = .i (.int .i64 (sizeR p c z)) ∧ st' = []) := by
  refine call_of_bodyF 0 (Nat.le_refl _) Try.func59 rfl (fun a w => Try.call59 a w) (wpx_ok (own := own0) _ _ _ ?_)
  unfold sizeR
  repeat ((conv => whnf); first | refine Br.t ?_ | refine Br.f ?_ | refine ⟨rfl, ?_⟩)
  conv => whnf
  refine Br.mk (fun h => ?_) (fun h => ?_)
  · have h : c = 103 := by simp at h; omega
    subst h
    repeat ((conv => whnf); first | refine Br.t ?_ | refine Br.f ?_ | refine ⟨rfl, ?_⟩)
    conv => whnf
    refine fin (target := []) rfl (Nat.zero_le _) (by simp) rfl rfl
  · have h : ¬ c = 103 := by simp at h; omega
    rw [if_neg h]
    repeat ((conv => whnf); first | refine Br.t ?_ | refine Br.f ?_ | refine ⟨rfl, ?_⟩)
    conv => whnf
    refine Br.mk (fun h => ?_) (fun h => ?_)
    · have h : c = 108 := by simp at h; omega
      subst h
      repeat ((conv => whnf); first | refine Br.t ?_ | refine Br.f ?_ | refine ⟨rfl, ?_⟩)
      conv => whnf
      refine fin (target := []) rfl (Nat.zero_le _) (by simp) rfl rfl
    · have h : ¬ c = 108 := by simp at h; omega
      rw [if_neg h]
      repeat ((conv => whnf); first | refine Br.t ?_ | refine Br.f ?_ | refine ⟨rfl, ?_⟩)
      conv => whnf
      refine Br.mk (fun h => ?_) (fun h => ?_)
      · have h : c = 115 := by simp at h; omega
        subst h
        repeat ((conv => whnf); first | refine Br.t ?_ | refine Br.f ?_ | refine ⟨rfl, ?_⟩)
        conv => whnf
        refine fin (target := []) rfl (Nat.zero_le _) (by simp) rfl rfl
      · have h : ¬ c = 115 := by simp at h; omega
        rw [if_neg h]
        repeat ((conv => whnf); first | refine Br.t ?_ | refine Br.f ?_ | refine ⟨rfl, ?_⟩)
        conv => whnf
        refine Br.mk (fun h => ?_) (fun h => ?_)
        · have h : c = 102 := by simp at h; omega
          subst h
          repeat ((conv => whnf); first | refine Br.t ?_ | refine Br.f ?_ | refine ⟨rfl, ?_⟩)
          conv => whnf
          refine fin (target := []) rfl (Nat.zero_le _) (by simp) ?_ rfl
          simp
        · have h : ¬ c = 102 := by simp at h; omega
          rw [if_neg h]
          repeat ((conv => whnf); first | refine Br.t ?_ | refine Br.f ?_ | refine ⟨rfl, ?_⟩)
          conv => whnf
          refine Br.mk (fun h => ?_) (fun h => ?_)
          · have h : c = 110 := by simp at h; omega
            subst h
            repeat ((conv => whnf); first | refine Br.t ?_ | refine Br.f ?_ | refine ⟨rfl, ?_⟩)
            conv => whnf
            refine fin (target := []) rfl (Nat.zero_le _) (by simp) rfl rfl
          · have h : ¬ c = 110 := by simp at h; omega
            rw [if_neg h]
            repeat ((conv => whnf); first | refine Br.t ?_ | refine Br.f ?_ | refine ⟨rfl, ?_⟩)
            conv => whnf
            refine fin (target := []) rfl (Nat.zero_le _) (by simp) rfl rfl
/-- a row's letters -/
def rowR (k : Int) : List UInt8 := if k = 0 then [45, 110, 45] else if k = 1 ∨ k = 2 then [103, 110, 45] else if k = 3 ∨ k = 4 then [108, 110, 45] else if k = 5 then [102, 110, 115] else if k = 6 then [115, 110, 45] else
  if k = 7 then [102, 110, 45] else if k = 8 then [45, 110, 110] else if k = 9 then [45, 45, 45] else []
theorem kind10 {k : Int} (h0 : 0 ≤ k) (h9 : k ≤ 9) : k = 0 ∨ k = 1 ∨ k = 2 ∨ k = 3 ∨ k = 4 ∨ k = 5 ∨ k = 6 ∨ k = 7 ∨ k = 8 ∨ k = 9 := by omega
theorem rowR_none {k : Int} (h : k < 0 ∨ 9 < k) : rowR k = [] := by
  unfold rowR
  repeat' rw [if_neg (by omega)]
theorem refrow (k : Int) : CallW Try.prog G0 58 [.i (.int .i64 k)] [] (fun r st' => r = .i (.str ⟨(rowR k).toArray⟩) ∧ st' = []) := by
  refine call_of_bodyF 0 (Nat.le_refl _) Try.func58 rfl (fun a w => Try.call58 a w) (wpx_ok (own := own0) _ _ _ ?_)
  repeat ((conv => whnf); first | refine Br.t ?_ | refine Br.f ?_ | refine ⟨rfl, ?_⟩)
  conv => whnf
  refine Br.mk (fun h => ?_) (fun h => ?_)
  · have h : k < 0 := by simpa using h
    rw [rowR_none (.inl h)]
    repeat ((conv => whnf); first | refine Br.t ?_ | refine Br.f ?_ | refine ⟨rfl, ?_⟩)
    conv => whnf
    refine fin (target := []) rfl (Nat.zero_le _) (by simp) rfl rfl
  · have h : 0 ≤ k := by simpa using h
    repeat ((conv => whnf); first | refine Br.t ?_ | refine Br.f ?_ | refine ⟨rfl, ?_⟩)
    conv => whnf
    refine Br.mk (fun h9 => ?_) (fun h9 => ?_)
    · have h9 : 9 < k := by simpa using h9
      rw [rowR_none (.inr h9)]
      repeat ((conv => whnf); first | refine Br.t ?_ | refine Br.f ?_ | refine ⟨rfl, ?_⟩)
      conv => whnf
      refine fin (target := []) rfl (Nat.zero_le _) (by simp) rfl rfl
    · have h9 : k ≤ 9 := by simpa using h9
      repeat ((conv => whnf); first | refine Br.t ?_ | refine Br.f ?_ | refine ⟨rfl, ?_⟩)
      conv => whnf
      rcases kind10 h h9 with rfl | rfl | rfl | rfl | rfl | rfl | rfl | rfl | rfl | rfl
      all_goals
        refine ⟨⟨by omega, by simp, rfl⟩, ?_⟩
        repeat ((conv => whnf); first | refine Br.t ?_ | refine Br.f ?_ | refine ⟨rfl, ?_⟩)
        conv => whnf
        refine fin (target := []) rfl (Nat.zero_le _) (by simp) rfl rfl
/-- from a field on -/
def mayG (p : Pg) (z : Int) : List (Int × UInt8) → Bool
  | [] => true
  | (v, c) :: r => if v < 0 ∨ sizeR p c.toNat z ≤ v then false else mayG p z r
theorem mayG_ok (p : Pg) (k a x y z : Int) {c0 c1 c2 : UInt8} (h : rowR k = [c0, c1, c2]) : mayG p z [(a, c0), (x, c1), (y, c2)] = mayF p (k, a, x, y) z := by
  have hk : 0 ≤ k ∧ k ≤ 9 := by
    by_cases h1 : k < 0 ∨ 9 < k
    · rw [rowR_none h1] at h; cases h
    · omega
  rcases kind10 hk.1 hk.2 with rfl | rfl | rfl | rfl | rfl | rfl | rfl | rfl | rfl | rfl <;>
  · simp [rowR] at h
    obtain ⟨rfl, rfl, rfl⟩ := h
    rw [Bool.eq_iff_iff]
    simp [mayG, mayF, fieldsF, sizeR, inB, mx1]
    (repeat' split) <;> omega
theorem may_none (p : Pg) (k a x y z : Int) (h : k < 0 ∨ 9 < k) : mayF p (k, a, x, y) z = false := by
  have : (fieldsF p k z).2.2.2 = false := by
    unfold fieldsF
    repeat' rw [if_neg (by omega)]
  unfold mayF
  simp [this]
def mayS (p : Pg) (k a x y z : Int) (c0 c1 c2 : UInt8) (i : Int) : List V := mkS 46 [(2, .i (.int .i64 z)), (3, .ptr 0 0 0 0), (4, .ptr 1 0 0 0), (7, .i (.str ⟨#[c0, c1, c2]⟩)), (8, .i (.sl [[.int .i64 a], [.int .i64 x], [.int .i64 y]])), (9, .i (.int .i64 i))]
theorem drop3 {i : Nat} (h : i < 3) {α : Type} (a b c : α) : ∃ x, [a, b, c].drop i = x :: [a, b, c].drop (i + 1) ∧ [a, b, c][i]? = some x := by
  rcases i with _ | _ | _ | i
  · exact ⟨a, rfl, rfl⟩
  · exact ⟨b, rfl, rfl⟩
  · exact ⟨c, rfl, rfl⟩
  · omega
set_option maxHeartbeats 1000000 in
theorem refmay (p : Pg) (n : Nd) (z : Int) : CallW Try.prog G0 53 [pgV p, ndV n, .i (.int .i64 z)] [] (fun r st' => r = .i (.bool (mayF p n z)) ∧ st' = []) := by
  refine call_of_bodyF 0 (Nat.le_refl _) Try.func53 rfl (fun a w => Try.call53 a w) (wpx_ok (own := own0) _ _ _ ?_)
  obtain ⟨k, a, x, y⟩ := n
  repeat ((conv => whnf); first | refine Br.t ?_ | refine Br.f ?_ | refine ⟨rfl, ?_⟩)
  conv => whnf
  refine CallW.mono ((refrow k).pure _ rfl rfl) ?_
  rintro r st' ⟨rfl, rfl⟩
  by_cases hk : k < 0 ∨ 9 < k
  · rw [may_none p k a x y z hk, rowR_none hk]
    repeat ((conv => whnf); first | refine Br.t ?_ | refine Br.f ?_ | refine ⟨rfl, ?_⟩)
    conv => whnf
    refine fin (target := []) rfl (Nat.zero_le _) (by simp) rfl rfl
  · obtain ⟨c0, c1, c2, hr⟩ : ∃ c0 c1 c2, rowR k = [c0, c1, c2] := by
      rcases kind10 (k := k) (by omega) (by omega) with rfl | rfl | rfl | rfl | rfl | rfl | rfl | rfl | rfl | rfl <;> exact ⟨_, _, _, rfl⟩
    rw [← mayG_ok p k a x y z hr, hr]
    obtain ⟨R, hR⟩ : ∃ R, R = mayG p z [(a, c0), (x, c1), (y, c2)] := ⟨_, rfl⟩
    rw [← hR]
    repeat ((conv => whnf); first | refine Br.t ?_ | refine Br.f ?_ | refine ⟨rfl, ?_⟩)
    conv => whnf
    refine loop_ok (α := Nat) (fun i => ⟨mayS p k a x y z c0 c1 c2 i, [pgB p, .row 0 4 false [[.i (.int .i64 k), .i (.int .i64 a), .i (.int .i64 x), .i (.int .i64 y)]]]⟩)
      (fun i => i ≤ 3 ∧ mayG p z ([(a, c0), (x, c1), (y, c2)].drop i) = R) (fun i => 3 - i) 0 ⟨Nat.zero_le _, hR.symm⟩
      (Le.slots (by simp [leS, mkS, mayS])) (fun i hi => wpx_ok (own := own0) _ _ _ ?_)
    obtain ⟨h1, h2⟩ := hi
    repeat ((conv => whnf); first | refine Br.t ?_ | refine Br.f ?_ | refine ⟨rfl, ?_⟩)
    conv => whnf
    refine Br.mk (fun g => ?_) (fun g => ?_)
    · have g : i < 3 := by simp at g; omega
      obtain ⟨⟨v, c⟩, hd, hg⟩ := drop3 g (a, c0) (x, c1) (y, c2)
      have hv : [a, x, y][i]? = some v ∧ [c0, c1, c2][i]? = some c := by
        rcases i with _ | _ | _ | i
        · simp at hg ⊢; exact hg
        · simp at hg ⊢; exact hg
        · simp at hg ⊢; exact hg
        · omega
      have ec : (#[c0, c1, c2] : Array UInt8).getD (i : Int).toNat 0 = c := by
        rw [Int.toNat_natCast, Array.getD_eq_getD_getElem?]
        simpa using congrArg (Option.getD · 0) hv.2
      have ev' : ([[I.int .i64 a], [.int .i64 x], [.int .i64 y]] : List (List I)).getD (i : Int).toNat [] = [.int .i64 v] := by
        rw [Int.toNat_natCast]
        rcases i with _ | _ | _ | i
        · simp at hv; simp [hv.1]
        · simp at hv; simp [hv.1]
        · simp at hv; simp [hv.1]
        · omega
      rw [hd, mayG] at h2
      refine draw_ok (own := own0) [] [] [(.i (.int .i64 (sizeR p c.toNat z)), [pgB p, .row 0 4 false [[.i (.int .i64 k), .i (.int .i64 a), .i (.int .i64 x), .i (.int .i64 y)]]])] rfl (by kernel_rfl) (Nat.zero_le _) ?_
      repeat ((conv => whnf); first | refine Br.t ?_ | refine Br.f ?_ | refine ⟨rfl, ?_⟩)
      conv => whnf
      refine ⟨⟨by omega, by show (i : Int) < 3; omega⟩, ?_⟩
      repeat ((conv => whnf); first | refine Br.t ?_ | refine Br.f ?_ | refine ⟨rfl, ?_⟩)
      conv => whnf
      refine ⟨by rw [ec]; exact (refsize p c.toNat z).pure _ rfl rfl, ?_⟩
      repeat ((conv => whnf); first | refine Br.t ?_ | refine Br.f ?_ | refine ⟨rfl, ?_⟩)
      conv => whnf
      refine ⟨by repeat ((conv => whnf); first | exact trivial | refine ⟨rfl, ?_⟩), trivial, ?_⟩
      conv => whnf
      rw [ev']
      refine ⟨⟨by omega, by simp; omega, rfl⟩, ?_⟩
      repeat ((conv => whnf); first | refine Br.t ?_ | refine Br.f ?_ | refine ⟨rfl, ?_⟩)
      conv => whnf
      refine Br.mk (fun g1 => ?_) (fun g1 => ?_)
      · have g1 : v < 0 := by simpa using g1
        rw [if_pos (.inl g1)] at h2
        subst h2
        repeat ((conv => whnf); first | refine Br.t ?_ | refine Br.f ?_ | refine ⟨rfl, ?_⟩)
        conv => whnf
        refine fin (target := []) rfl (Nat.zero_le _) (by simp) rfl rfl
      · have g1 : 0 ≤ v := by simpa using g1
        repeat ((conv => whnf); first | refine Br.t ?_ | refine Br.f ?_ | refine ⟨rfl, ?_⟩)
        conv => whnf
        rw [ev']
        refine ⟨⟨by omega, by simp; omega, rfl⟩, ?_⟩
        repeat ((conv => whnf); first | refine Br.t ?_ | refine Br.f ?_ | refine ⟨rfl, ?_⟩)
        conv => whnf
        refine Br.mk (fun g2 => ?_) (fun g2 => ?_)
        · have g2 : sizeR p c.toNat z ≤ v := by simpa using g2
          rw [if_pos (.inr g2)] at h2
          subst h2
          repeat ((conv => whnf); first | refine Br.t ?_ | refine Br.f ?_ | refine ⟨rfl, ?_⟩)
          conv => whnf
          refine fin (target := []) rfl (Nat.zero_le _) (by simp) rfl rfl
        · have g2 : v < sizeR p c.toNat z := by simpa using g2
          rw [if_neg (by omega)] at h2
          repeat ((conv => whnf); first | refine Br.t ?_ | refine Br.f ?_ | refine ⟨rfl, ?_⟩)
          conv => whnf
          refine ⟨i + 1, ⟨by omega, h2⟩, by omega, Le.back (fun _ => 0) (by intro id hid; rfl) (by simp) rfl ?_ ?_ ?_⟩
          · intro o ho
            simp only [List.mem_cons, List.not_mem_nil, or_false] at ho
            rcases ho with rfl | rfl
            · exact pgB_cl p _
            · intro cs hcs; simp only [List.mem_singleton] at hcs; subst hcs; rfl
          · simp [leS, mkS, V.up, mayS]
            exact i64_id (by omega) (by omega)
          · rfl
    · have g : i = 3 := by simp at g; omega
      subst g
      rw [show [(a, c0), (x, c1), (y, c2)].drop 3 = [] from rfl, mayG] at h2
      subst h2
      repeat ((conv => whnf); first | refine Br.t ?_ | refine Br.f ?_ | refine ⟨rfl, ?_⟩)
      conv => whnf
      refine fin (target := []) rfl (Nat.zero_le _) (by simp) rfl rfl
end Go.Proofs.Ytdbmfnhbgacldaa.Am

/- Contracts: the document's word on what is wrong with a program first is the program's. -/
namespace Go.Proofs.Ytdbmfnhbgacldaa.Am
set_option autoImplicit false
set_option linter.unusedVariables false
set_option linter.unusedSimpArgs false
set_option maxRecDepth 10000
set_option pp.maxSteps 3000
set_option pp.proofs false
def rndMN (p : Pg) (f : Nat) : Nat → List Nd → Option Nat
  | _, [] => none
  | i, n :: r => if n.1 = 7 ∧ (n.2.1 = (f : Int) ∨ cell (mat p) n.2.1.toNat f = 1) then some i else rndMN p f (i + 1) r
def rndM (p : Pg) : Nat → List (List Nd) → Option (Nat × Nat)
  | _, [] => none
  | f, l :: r => match rndMN p f 0 l with
    | some i => some (f, i)
    | none => rndM p (f + 1) r
theorem rndMN_eq {p : Pg} (hc : Calls0 p) {f : Nat} (hf : f < p.fs.length) : ∀ (i : Nat) (l : List Nd), (∀ n ∈ l, n.1 = 7 → 0 ≤ n.2.1 ∧ n.2.1 < p.fs.length) → rndMN p f i l = rndN p f i l
  | i, [], _ => rfl
  | i, n :: r, h => by
    have ih := rndMN_eq hc hf (i + 1) r (fun m hm => h m (List.mem_cons_of_mem _ hm))
    rw [rndMN, rndN, ih]
    by_cases h7 : n.1 = 7
    · obtain ⟨a1, a2⟩ := h n List.mem_cons_self h7
      have hr := reach hc f n.2.1.toNat (by omega)
      have hm := (mat_on hc).2 n.2.1.toNat f (by omega) hf
      have e : (n.1 = 7 ∧ (n.2.1 = (f : Int) ∨ cell (mat p) n.2.1.toNat f = 1)) ↔ (n.1 = 7 ∧ (dfs p.fs f (p.fs.length + 1) n.2.1.toNat (List.replicate p.fs.length false)).1 = true) := by
        rw [hr, ← hm]
        unfold on
        constructor
        · rintro ⟨_, h | h⟩
          · exact ⟨h7, .inl (by omega)⟩
          · exact ⟨h7, .inr h⟩
        · rintro ⟨_, h | h⟩
          · exact ⟨h7, .inl (by omega)⟩
          · exact ⟨h7, .inr h⟩
      simp only [e]
    · rw [if_neg (fun h => h7 h.1), if_neg (fun h => h7 h.1)]
theorem rndM_eq {p : Pg} (hc : Calls0 p) : ∀ (f : Nat) (l : List (List Nd)), f + l.length = p.fs.length → (∀ L ∈ l, L ∈ p.fs) → rndM p f l = rndF p f l
  | f, [], _, _ => rfl
  | f, L :: r, hl, hm => by
    simp only [List.length_cons] at hl
    rw [rndM, rndF, rndMN_eq hc (by omega) 0 L (hc L (hm L List.mem_cons_self)), rndM_eq hc (f + 1) r (by omega) (fun L hL => hm L (List.mem_cons_of_mem _ hL))]
    try rfl
def rcS (n : Nat) (l : List (Nat × V)) : List V := mkS 146 ([(1, .ptr 0 0 0 0), (5, .i (.int .i64 n))] ++ l)
theorem encM_get {M : List (List Nat)} {a : Nat} (h : a < M.length) : (encM M).getD (a : Int).toNat [] = [.sl ((M.getD a []).map elN)] := by
  rw [Int.toNat_natCast, encM]
  simp [List.getD_eq_getElem?_getD, h]
theorem row_get {r : List Nat} {b : Nat} (h : b < r.length) : (r.map elN).getD (b : Int).toNat [] = [.int .i64 (r.getD b 0 : Nat)] := by
  rw [Int.toNat_natCast]
  simp [List.getD_eq_getElem?_getD, h, elN]
/-- the nodes' turn -/
theorem rc_node (p : Pg) (f : Nat) (L : List Nd) (hf : f < p.fs.length) (hfl : p.fs.length ≤ 16) (eL : (p.fs.map encF).getD (f : Int).toNat [] = encF L) (hLl : L.length ≤ 64) (Q : Exit → S → Prop)
    (hbad : ∀ i, i < L.length → badN p L.length 0 L = some i → Q .ret ⟨rcS p.fs.length [(2, .i (.int .i64 f)), (3, .i (.int .i64 i)), (4, .i (.int .i64 3))], [pgB p]⟩)
    (hok : badN p L.length 0 L = none → Q (.exit 2) ⟨rcS p.fs.length [(6, .i (.int .i64 f))], [pgB p]⟩) :
    W Try.prog G0 0 (.loop (lp Try.f45 1)) Q ⟨rcS p.fs.length [(6, .i (.int .i64 f)), (7, .i (.int .i64 0))], [pgB p]⟩ := by
  refine W.weak (loop_ok (α := Nat) (fun i => ⟨rcS p.fs.length [(6, .i (.int .i64 f)), (7, .i (.int .i64 i))], [pgB p]⟩)
    (fun i => i ≤ L.length ∧ badN p L.length i (L.drop i) = badN p L.length 0 L) (fun i => L.length - i) 0 ⟨Nat.zero_le _, rfl⟩ (Le.refl _ _) (fun i hi => wpx_ok (own := own0) _ _ _ ?_))
  obtain ⟨h3, h4⟩ := hi
  repeat ((conv => whnf); first | refine Br.t ?_ | refine Br.f ?_ | refine ⟨rfl, ?_⟩)
  conv => whnf
  rw [eL]
  refine ⟨⟨by omega, by simp; omega, rfl⟩, ?_⟩
  repeat ((conv => whnf); first | refine Br.t ?_ | refine Br.f ?_ | refine ⟨rfl, ?_⟩)
  conv => whnf
  refine Br.mk (fun g1 => ?_) (fun g1 => ?_)
  · have g1 : i < L.length := by simpa using g1
    obtain ⟨x, hx⟩ : ∃ x, x = L[i] := ⟨_, rfl⟩
    have ex : (L.map encNd).getD (i : Int).toNat [] = encNd x := by rw [hx]; exact getD_enc g1
    have exd : L.drop i = x :: L.drop (i + 1) := by rw [hx]; exact List.drop_eq_getElem_cons g1
    rw [exd, badN] at h4
    obtain ⟨q, hq⟩ : ∃ q, mayF p x L.length = q := ⟨_, rfl⟩
    have cm := refmay p x (((L.map encNd).length : Nat) : Int)
    rw [List.length_map, hq] at cm
    refine draw_ok (own := own0) [] [] [(.i (.bool q), [pgB p])] rfl (by kernel_rfl) (Nat.zero_le _) ?_
    repeat ((conv => whnf); first | refine Br.t ?_ | refine Br.f ?_ | refine ⟨rfl, ?_⟩)
    conv => whnf
    rw [eL]
    refine ⟨⟨by omega, by simp; omega, rfl⟩, ?_⟩
    repeat ((conv => whnf); first | refine Br.t ?_ | refine Br.f ?_ | refine ⟨rfl, ?_⟩)
    conv => whnf
    rw [ex]
    refine ⟨⟨by omega, by simp; omega, rfl⟩, ?_⟩
    repeat ((conv => whnf); first | refine Br.t ?_ | refine Br.f ?_ | refine ⟨rfl, ?_⟩)
    conv => whnf
    rw [eL]
    refine ⟨⟨by omega, by simp; omega, rfl⟩, ?_⟩
    repeat ((conv => whnf); first | refine Br.t ?_ | refine Br.f ?_ | refine ⟨rfl, ?_⟩)
    conv => whnf
    refine ⟨by rw [List.length_map]; exact cm.pure _ rfl rfl, ?_⟩
    repeat ((conv => whnf); first | refine Br.t ?_ | refine Br.f ?_ | refine ⟨rfl, ?_⟩)
    conv => whnf
    refine ⟨by repeat ((conv => whnf); first | exact trivial | refine ⟨rfl, ?_⟩), trivial, ?_⟩
    conv => whnf
    rw [hq] at h4
    cases q with
    | false =>
      rw [if_neg (by simp)] at h4
      repeat ((conv => whnf); first | refine Br.t ?_ | refine Br.f ?_ | refine ⟨rfl, ?_⟩)
      conv => whnf
      exact ⟨_, Le.slots (by simp [leS, mkS, rcS]), hbad i g1 h4.symm⟩
    | true =>
      rw [if_pos rfl] at h4
      repeat ((conv => whnf); first | refine Br.t ?_ | refine Br.f ?_ | refine ⟨rfl, ?_⟩)
      conv => whnf
      refine ⟨i + 1, ⟨by omega, h4⟩, by omega, Le.slots ?_⟩
      simp [leS, mkS, rcS]
      exact i64_id (by omega) (by omega)
  · have g1 : i = L.length := by simp at g1; omega
    subst g1
    rw [List.drop_length, badN] at h4
    repeat ((conv => whnf); first | refine Br.t ?_ | refine Br.f ?_ | refine ⟨rfl, ?_⟩)
    conv => whnf
    exact ⟨_, Le.slots (by simp [leS, mkS, rcS]), hok h4.symm⟩
/-- the functions' turn -/
theorem rc_fn (p : Pg) (hfl : p.fs.length ≤ 16) (hw : ∀ f ∈ p.fs, f.length ≤ 9223372036854775807) (Q : Exit → S → Prop)
    (hbad : ∀ r, chkF p 0 p.fs = some r → Q .ret ⟨rcS p.fs.length [(2, .i (.int .i64 r.1)), (3, .i (.int .i64 r.2.1)), (4, .i (.int .i64 r.2.2))], [pgB p]⟩)
    (hok : chkF p 0 p.fs = none → Q (.exit 0) ⟨rcS p.fs.length [], [pgB p]⟩) :
    W Try.prog G0 0 (.loop (lp Try.f45 0)) Q ⟨rcS p.fs.length [(6, .i (.int .i64 0))], [pgB p]⟩ := by
  refine W.weak (loop_ok (α := Nat) (fun f => ⟨rcS p.fs.length [(6, .i (.int .i64 f))], [pgB p]⟩)
    (fun f => f ≤ p.fs.length ∧ chkF p f (p.fs.drop f) = chkF p 0 p.fs) (fun f => p.fs.length - f) 0 ⟨Nat.zero_le _, rfl⟩ (Le.refl _ _) (fun f hf => wpx_ok (own := own0) _ _ _ ?_))
  obtain ⟨h1, h2⟩ := hf
  repeat ((conv => whnf); first | refine Br.t ?_ | refine Br.f ?_ | refine ⟨rfl, ?_⟩)
  conv => whnf
  refine Br.mk (fun g => ?_) (fun g => ?_)
  · have g : f < p.fs.length := by simpa using g
    obtain ⟨L, hL⟩ : ∃ L, L = p.fs[f] := ⟨_, rfl⟩
    have hLm : L ∈ p.fs := hL ▸ List.getElem_mem g
    have eL : (p.fs.map encF).getD (f : Int).toNat [] = encF L := by rw [hL]; exact getD_enc g
    have edr : p.fs.drop f = L :: p.fs.drop (f + 1) := by rw [hL]; exact List.drop_eq_getElem_cons g
    have hLl := hw L hLm
    rw [edr, chkF] at h2
    repeat ((conv => whnf); first | refine Br.t ?_ | refine Br.f ?_ | refine ⟨rfl, ?_⟩)
    conv => whnf
    rw [eL]
    refine ⟨⟨by omega, by simp; omega, rfl⟩, ?_⟩
    repeat ((conv => whnf); first | refine Br.t ?_ | refine Br.f ?_ | refine ⟨rfl, ?_⟩)
    conv => whnf
    refine Br.mk (fun d => ?_) (fun d => ?_)
    · have d : L.length = 0 := by simp at d; simp [d]
      rw [if_pos d] at h2
      repeat ((conv => whnf); first | refine Br.t ?_ | refine Br.f ?_ | refine ⟨rfl, ?_⟩)
      conv => whnf
      exact ⟨_, Le.slots (by simp [leS, mkS, rcS]), hbad _ h2.symm⟩
    · have d : ¬ L.length = 0 := by intro e; simp at d; exact d (List.eq_nil_of_length_eq_zero e)
      rw [if_neg d] at h2
      repeat ((conv => whnf); first | refine Br.t ?_ | refine Br.f ?_ | refine ⟨rfl, ?_⟩)
      conv => whnf
      rw [eL]
      refine ⟨⟨by omega, by simp; omega, rfl⟩, ?_⟩
      repeat ((conv => whnf); first | refine Br.t ?_ | refine Br.f ?_ | refine ⟨rfl, ?_⟩)
      conv => whnf
      refine Br.mk (fun d2 => ?_) (fun d2 => ?_)
      · have d2 : 64 < L.length := by simp at d2; omega
        rw [if_pos d2] at h2
        repeat ((conv => whnf); first | refine Br.t ?_ | refine Br.f ?_ | refine ⟨rfl, ?_⟩)
        conv => whnf
        exact ⟨_, Le.slots (by simp [leS, mkS, rcS]), hbad _ h2.symm⟩
      · have d2 : ¬ 64 < L.length := by simp at d2; omega
        rw [if_neg d2] at h2
        repeat ((conv => whnf); first | refine Br.t ?_ | refine Br.f ?_ | refine ⟨rfl, ?_⟩)
        conv => whnf
        refine W.le (Le.slots (sl' := rcS p.fs.length [(6, .i (.int .i64 f)), (7, .i (.int .i64 0))]) (by simp [leS, mkS, rcS])) (rc_node p f L g hfl eL (by omega) _ (fun i hi hb => ?_) (fun hb => ?_))
        · rw [hb] at h2
          simp only at h2
          repeat ((conv => whnf); first | refine Br.t ?_ | refine Br.f ?_ | refine ⟨rfl, ?_⟩)
          conv => whnf
          exact ⟨_, Le.slots (by simp [leS, mkS, rcS]), hbad _ h2.symm⟩
        · rw [hb] at h2
          simp only at h2
          repeat ((conv => whnf); first | refine Br.t ?_ | refine Br.f ?_ | refine ⟨rfl, ?_⟩)
          conv => whnf
          refine ⟨f + 1, ⟨by omega, h2⟩, by omega, Le.slots ?_⟩
          simp [leS, mkS, rcS]
          exact i64_id (by omega) (by omega)
  · have g : f = p.fs.length := by simp at g; omega
    subst g
    rw [List.drop_length, chkF] at h2
    repeat ((conv => whnf); first | refine Br.t ?_ | refine Br.f ?_ | refine ⟨rfl, ?_⟩)
    conv => whnf
    exact ⟨_, Le.slots (by simp [leS, mkS, rcS]), hok h2.symm⟩
end Go.Proofs.Ytdbmfnhbgacldaa.Am

/- Contracts: the document's check of a program, in full. -/
namespace Go.Proofs.Ytdbmfnhbgacldaa.Am
set_option autoImplicit false
set_option linter.unusedVariables false
set_option linter.unusedSimpArgs false
set_option maxRecDepth 10000
set_option pp.maxSteps 3000
set_option pp.proofs false

set_option maxHeartbeats 1000000 in
theorem rc_call (p : Pg) (f : Nat) (L : List Nd) (hf : f < p.fs.length) (hfl : p.fs.length ≤ 16) (eL : (p.fs.map encF).getD (f : Int).toNat [] = encF L) (hLl : L.length ≤ 64) (hM : Sq p.fs.length (mat p)) (hLc : ∀ n ∈ L, n.1 = 7 → 0 ≤ n.2.1 ∧ n.2.1 < p.fs.length) (Q : Exit → S → Prop)
    (hbad : ∀ i, i < L.length → rndMN p f 0 L = some i → Q .ret ⟨rcS p.fs.length [(2, .i (.int .i64 f)), (3, .i (.int .i64 i)), (4, .i (.int .i64 8))], [pgB p]⟩)
    (hok : rndMN p f 0 L = none → Q (.exit 6) ⟨rcS p.fs.length [(8, .i (.sl (encM (mat p)))), (9, .i (.int .i64 f))], [pgB p]⟩) :
    W Try.prog G0 0 (.loop (lp Try.f45 3)) Q ⟨rcS p.fs.length [(8, .i (.sl (encM (mat p)))), (9, .i (.int .i64 f)), (10, .i (.int .i64 0))], [pgB p]⟩ := by
  refine W.weak (loop_ok (α := Nat) (fun i => ⟨rcS p.fs.length [(8, .i (.sl (encM (mat p)))), (9, .i (.int .i64 f)), (10, .i (.int .i64 i))], [pgB p]⟩)
    (fun i => i ≤ L.length ∧ rndMN p f i (L.drop i) = rndMN p f 0 L) (fun i => L.length - i) 0 ⟨Nat.zero_le _, rfl⟩ (Le.refl _ _) (fun i hi => wpx_ok (own := own0) _ _ _ ?_))
  obtain ⟨h3, h4⟩ := hi
  repeat ((conv => whnf); first | refine Br.t ?_ | refine Br.f ?_ | refine ⟨rfl, ?_⟩)
  conv => whnf
  rw [eL]
  refine ⟨⟨by omega, by simp; omega, rfl⟩, ?_⟩
  repeat ((conv => whnf); first | refine Br.t ?_ | refine Br.f ?_ | refine ⟨rfl, ?_⟩)
  conv => whnf
  refine Br.mk (fun g1 => ?_) (fun g1 => ?_)
  · have g1 : i < L.length := by simpa using g1
    obtain ⟨x, hx⟩ : ∃ x, x = L[i] := ⟨_, rfl⟩
    have hxm : x ∈ L := hx ▸ List.getElem_mem g1
    have ex : (L.map encNd).getD (i : Int).toNat [] = encNd x := by rw [hx]; exact getD_enc g1
    have exd : L.drop i = x :: L.drop (i + 1) := by rw [hx]; exact List.drop_eq_getElem_cons g1
    rw [exd, rndMN] at h4
    repeat ((conv => whnf); first | refine Br.t ?_ | refine Br.f ?_ | refine ⟨rfl, ?_⟩)
    conv => whnf
    rw [eL]
    refine ⟨⟨by omega, by simp; omega, rfl⟩, ?_⟩
    repeat ((conv => whnf); first | refine Br.t ?_ | refine Br.f ?_ | refine ⟨rfl, ?_⟩)
    conv => whnf
    rw [ex]
    refine ⟨⟨by omega, by simp; omega, rfl⟩, ?_⟩
    repeat ((conv => whnf); first | refine Br.t ?_ | refine Br.f ?_ | refine ⟨rfl, ?_⟩)
    conv => whnf
    refine Br.mk (fun g7 => ?_) (fun g7 => ?_)
    · have g7 : x.1 = 7 := by simpa using g7
      obtain ⟨a1, a2⟩ := hLc x hxm g7
      obtain ⟨a, ha⟩ : ∃ a : Nat, (a : Int) = x.2.1 := ⟨x.2.1.toNat, by omega⟩
      rw [← ha] at a1 a2
      rw [← ha, Int.toNat_natCast] at h4
      have hla : ((mat p).getD a []).length = p.fs.length := hM.2 a (by omega)
      repeat ((conv => whnf); first | refine Br.t ?_ | refine Br.f ?_ | refine ⟨rfl, ?_⟩)
      conv => whnf
      rw [← ha]
      repeat ((conv => whnf); first | refine Br.t ?_ | refine Br.f ?_ | refine ⟨rfl, ?_⟩)
      conv => whnf
      refine Br.mk (fun g8 => ?_) (fun g8 => ?_)
      · have g8 : (a : Int) = f := by simpa using g8
        rw [if_pos ⟨g7, .inl g8⟩] at h4
        repeat ((conv => whnf); first | refine Br.t ?_ | refine Br.f ?_ | refine ⟨rfl, ?_⟩)
        conv => whnf
        refine ⟨_, Le.back (s := ⟨rcS p.fs.length [(2, .i (.int .i64 f)), (3, .i (.int .i64 i)), (4, .i (.int .i64 8))], [pgB p]⟩) (fun _ => 0) (by intro id hid; rfl) (by simp) rfl ?_ ?_ rfl, hbad i g1 h4.symm⟩
        · intro o ho
          simp only [List.mem_singleton] at ho
          subst ho
          exact pgB_cl p _
        · simp [leS, mkS, V.up, rcS]
      · have g8 : ¬ (a : Int) = f := by simpa using g8
        repeat ((conv => whnf); first | refine Br.t ?_ | refine Br.f ?_ | refine ⟨rfl, ?_⟩)
        conv => whnf
        rw [encM_get (by rw [hM.1]; omega)]
        refine ⟨⟨by omega, by rw [encM, List.length_map, hM.1]; omega, rfl⟩, ?_⟩
        repeat ((conv => whnf); first | refine Br.t ?_ | refine Br.f ?_ | refine ⟨rfl, ?_⟩)
        conv => whnf
        rw [row_get (by omega)]
        refine ⟨⟨by omega, by rw [List.length_map]; omega, rfl⟩, ?_⟩
        repeat ((conv => whnf); first | refine Br.t ?_ | refine Br.f ?_ | refine ⟨rfl, ?_⟩)
        conv => whnf
        have e : ((mat p).getD a []).getD f 0 = cell (mat p) a f := rfl
        rw [e]
        refine Br.mk (fun g9 => ?_) (fun g9 => ?_)
        · have g9 : cell (mat p) a f = 1 := by simp at g9; omega
          rw [if_pos ⟨g7, .inr g9⟩] at h4
          repeat ((conv => whnf); first | refine Br.t ?_ | refine Br.f ?_ | refine ⟨rfl, ?_⟩)
          conv => whnf
          refine ⟨_, Le.back (s := ⟨rcS p.fs.length [(2, .i (.int .i64 f)), (3, .i (.int .i64 i)), (4, .i (.int .i64 8))], [pgB p]⟩) (fun _ => 0) (by intro id hid; rfl) (by simp) rfl ?_ ?_ rfl, hbad i g1 h4.symm⟩
          · intro o ho
            simp only [List.mem_singleton] at ho
            subst ho
            exact pgB_cl p _
          · simp [leS, mkS, V.up, rcS]
        · have g9 : ¬ cell (mat p) a f = 1 := by simp at g9; omega
          rw [if_neg (fun h => h.2.elim g8 g9)] at h4
          repeat ((conv => whnf); first | refine Br.t ?_ | refine Br.f ?_ | refine ⟨rfl, ?_⟩)
          conv => whnf
          refine ⟨i + 1, ⟨by omega, h4⟩, by omega, Le.back (fun _ => 0) (by intro id hid; rfl) (by simp) rfl ?_ ?_ ?_⟩
          · intro o ho
            simp only [List.mem_singleton] at ho
            subst ho
            exact pgB_cl p _
          · simp [leS, mkS, V.up, rcS]
            exact i64_id (by omega) (by omega)
          · rfl
    · have g7 : ¬ x.1 = 7 := by simpa using g7
      rw [if_neg (fun h => g7 h.1)] at h4
      repeat ((conv => whnf); first | refine Br.t ?_ | refine Br.f ?_ | refine ⟨rfl, ?_⟩)
      conv => whnf
      refine ⟨i + 1, ⟨by omega, h4⟩, by omega, Le.back (fun _ => 0) (by intro id hid; rfl) (by simp) rfl ?_ ?_ ?_⟩
      · intro o ho
        simp only [List.mem_singleton] at ho
        subst ho
        exact pgB_cl p _
      · simp [leS, mkS, V.up, rcS]
        exact i64_id (by omega) (by omega)
      · rfl
  · have g1 : i = L.length := by simp at g1; omega
    subst g1
    rw [List.drop_length, rndMN] at h4
    repeat ((conv => whnf); first | refine Br.t ?_ | refine Br.f ?_ | refine ⟨rfl, ?_⟩)
    conv => whnf
    exact ⟨_, Le.slots (by simp [leS, mkS, rcS]), hok h4.symm⟩
set_option maxHeartbeats 1000000 in
theorem rc_calls (p : Pg) (hc : Calls0 p) (hfl : p.fs.length ≤ 16) (hw : ∀ f ∈ p.fs, f.length ≤ 64) (Q : Exit → S → Prop)
    (hbad : ∀ r, rndF p 0 p.fs = some r → Q .ret ⟨rcS p.fs.length [(2, .i (.int .i64 r.1)), (3, .i (.int .i64 r.2)), (4, .i (.int .i64 8))], [pgB p]⟩)
    (hok : rndF p 0 p.fs = none → Q (.exit 4) ⟨rcS p.fs.length [], [pgB p]⟩) :
    W Try.prog G0 0 (.loop (lp Try.f45 2)) Q ⟨rcS p.fs.length [(8, .i (.sl (encM (mat p)))), (9, .i (.int .i64 0))], [pgB p]⟩ := by
  rw [← rndM_eq hc 0 p.fs (by omega) (fun L h => h)] at hbad hok
  refine W.weak (loop_ok (α := Nat) (fun f => ⟨rcS p.fs.length [(8, .i (.sl (encM (mat p)))), (9, .i (.int .i64 f))], [pgB p]⟩)
    (fun f => f ≤ p.fs.length ∧ rndM p f (p.fs.drop f) = rndM p 0 p.fs) (fun f => p.fs.length - f) 0 ⟨Nat.zero_le _, rfl⟩ (Le.refl _ _) (fun f hf => wpx_ok (own := own0) _ _ _ ?_))
  obtain ⟨h1, h2⟩ := hf
  repeat ((conv => whnf); first | refine Br.t ?_ | refine Br.f ?_ | refine ⟨rfl, ?_⟩)
  conv => whnf
  refine Br.mk (fun g => ?_) (fun g => ?_)
  · have g : f < p.fs.length := by simpa using g
    obtain ⟨L, hL⟩ : ∃ L, L = p.fs[f] := ⟨_, rfl⟩
    have hLm : L ∈ p.fs := hL ▸ List.getElem_mem g
    have eL : (p.fs.map encF).getD (f : Int).toNat [] = encF L := by rw [hL]; exact getD_enc g
    have edr : p.fs.drop f = L :: p.fs.drop (f + 1) := by rw [hL]; exact List.drop_eq_getElem_cons g
    rw [edr, rndM] at h2
    repeat ((conv => whnf); first | refine Br.t ?_ | refine Br.f ?_ | refine ⟨rfl, ?_⟩)
    conv => whnf
    refine W.le (Le.slots (sl' := rcS p.fs.length [(8, .i (.sl (encM (mat p)))), (9, .i (.int .i64 f)), (10, .i (.int .i64 0))]) (by simp [leS, mkS, rcS])) (rc_call p f L g hfl eL (hw L hLm) (mat_on hc).1 (hc L hLm) _ (fun i hi hb => ?_) (fun hb => ?_))
    · rw [hb] at h2
      simp only at h2
      repeat ((conv => whnf); first | refine Br.t ?_ | refine Br.f ?_ | refine ⟨rfl, ?_⟩)
      conv => whnf
      exact ⟨_, Le.slots (by simp [leS, mkS, rcS]), hbad _ h2.symm⟩
    · rw [hb] at h2
      simp only at h2
      repeat ((conv => whnf); first | refine Br.t ?_ | refine Br.f ?_ | refine ⟨rfl, ?_⟩)
      conv => whnf
      refine ⟨f + 1, ⟨by omega, h2⟩, by omega, Le.slots ?_⟩
      simp [leS, mkS, rcS]
      exact i64_id (by omega) (by omega)
  · have g : f = p.fs.length := by simp at g; omega
    subst g
    rw [List.drop_length, rndM] at h2
    repeat ((conv => whnf); first | refine Br.t ?_ | refine Br.f ?_ | refine ⟨rfl, ?_⟩)
    conv => whnf
    exact ⟨_, Le.slots (by simp [leS, mkS, rcS]), hok h2.symm⟩
set_option maxHeartbeats 1000000 in
theorem refcheck (p : Pg) (hp : okPg p) : CallW Try.prog G0 45 [pgV p] [] (fun r st' => r = tri (chk p) ∧ st' = []) := by
  refine call_of_bodyF 0 (Nat.le_refl _) Try.func45 rfl (fun a w => Try.call45 a w) (wpx_ok (own := own0) _ _ _ ?_)
  obtain ⟨hl, hw⟩ := hp
  repeat ((conv => whnf); first | refine Br.t ?_ | refine Br.f ?_ | refine ⟨rfl, ?_⟩)
  conv => whnf
  refine Br.mk (fun h => ?_) (fun b1 => ?_)
  · simp at h
    have e1 : chk p = (-1, -1, 1) := by unfold chk; rw [if_pos (by omega)]
    rw [e1]
    repeat ((conv => whnf); first | refine Br.t ?_ | refine Br.f ?_ | refine ⟨rfl, ?_⟩)
    conv => whnf
    refine fin (target := []) rfl (Nat.zero_le _) (by simp) rfl rfl
  · simp at b1
    repeat ((conv => whnf); first | refine Br.t ?_ | refine Br.f ?_ | refine ⟨rfl, ?_⟩)
    conv => whnf
    refine Br.mk (fun h => ?_) (fun b2 => ?_)
    · simp at h
      have e1 : chk p = (-1, -1, 1) := by unfold chk; rw [if_pos (by omega)]
      rw [e1]
      repeat ((conv => whnf); first | refine Br.t ?_ | refine Br.f ?_ | refine ⟨rfl, ?_⟩)
      conv => whnf
      refine fin (target := []) rfl (Nat.zero_le _) (by simp) rfl rfl
    · simp at b2
      repeat ((conv => whnf); first | refine Br.t ?_ | refine Br.f ?_ | refine ⟨rfl, ?_⟩)
      conv => whnf
      refine Br.mk (fun h => ?_) (fun b3 => ?_)
      · simp at h
        have e1 : chk p = (-1, -1, 1) := by unfold chk; rw [if_pos (by omega)]
        rw [e1]
        repeat ((conv => whnf); first | refine Br.t ?_ | refine Br.f ?_ | refine ⟨rfl, ?_⟩)
        conv => whnf
        refine fin (target := []) rfl (Nat.zero_le _) (by simp) rfl rfl
      · simp at b3
        repeat ((conv => whnf); first | refine Br.t ?_ | refine Br.f ?_ | refine ⟨rfl, ?_⟩)
        conv => whnf
        refine Br.mk (fun h => ?_) (fun b4 => ?_)
        · have h : p.fs.length = 0 := by simp at h; simp [h]
          have e1 : chk p = (-1, -1, 1) := by unfold chk; rw [if_pos (by omega)]
          rw [e1]
          repeat ((conv => whnf); first | refine Br.t ?_ | refine Br.f ?_ | refine ⟨rfl, ?_⟩)
          conv => whnf
          refine fin (target := []) rfl (Nat.zero_le _) (by simp) rfl rfl
        · have b4 : p.fs.length ≠ 0 := by intro e; simp at b4; exact b4 (List.eq_nil_of_length_eq_zero e)
          repeat ((conv => whnf); first | refine Br.t ?_ | refine Br.f ?_ | refine ⟨rfl, ?_⟩)
          conv => whnf
          refine Br.mk (fun h => ?_) (fun c1 => ?_)
          · simp at h
            have e4 : chk p = (-1, -1, 4) := by unfold chk; rw [if_neg (by omega), if_pos (by omega)]
            rw [e4]
            repeat ((conv => whnf); first | refine Br.t ?_ | refine Br.f ?_ | refine ⟨rfl, ?_⟩)
            conv => whnf
            refine fin (target := []) rfl (Nat.zero_le _) (by simp) rfl rfl
          · simp at c1
            repeat ((conv => whnf); first | refine Br.t ?_ | refine Br.f ?_ | refine ⟨rfl, ?_⟩)
            conv => whnf
            refine Br.mk (fun h => ?_) (fun c2 => ?_)
            · simp at h
              have e4 : chk p = (-1, -1, 4) := by unfold chk; rw [if_neg (by omega), if_pos (by omega)]
              rw [e4]
              repeat ((conv => whnf); first | refine Br.t ?_ | refine Br.f ?_ | refine ⟨rfl, ?_⟩)
              conv => whnf
              refine fin (target := []) rfl (Nat.zero_le _) (by simp) rfl rfl
            · simp at c2
              repeat ((conv => whnf); first | refine Br.t ?_ | refine Br.f ?_ | refine ⟨rfl, ?_⟩)
              conv => whnf
              refine Br.mk (fun h => ?_) (fun c3 => ?_)
              · simp at h
                have e4 : chk p = (-1, -1, 4) := by unfold chk; rw [if_neg (by omega), if_pos (by omega)]
                rw [e4]
                repeat ((conv => whnf); first | refine Br.t ?_ | refine Br.f ?_ | refine ⟨rfl, ?_⟩)
                conv => whnf
                refine fin (target := []) rfl (Nat.zero_le _) (by simp) rfl rfl
              · simp at c3
                repeat ((conv => whnf); first | refine Br.t ?_ | refine Br.f ?_ | refine ⟨rfl, ?_⟩)
                conv => whnf
                refine Br.mk (fun h => ?_) (fun c4 => ?_)
                · have h : 16 < p.fs.length := by simp at h; omega
                  have e4 : chk p = (-1, -1, 4) := by unfold chk; rw [if_neg (by omega), if_pos (by omega)]
                  rw [e4]
                  repeat ((conv => whnf); first | refine Br.t ?_ | refine Br.f ?_ | refine ⟨rfl, ?_⟩)
                  conv => whnf
                  refine fin (target := []) rfl (Nat.zero_le _) (by simp) rfl rfl
                · have c4 : p.fs.length ≤ 16 := by simp at c4; omega
                  have e0 : chk p = match chkF p 0 p.fs with
                    | some r => r
                    | none => match rndF p 0 p.fs with
                      | some (f, i) => ((f : Int), (i : Int), 8)
                      | none => (0, 0, 0) := by unfold chk; rw [if_neg (by omega), if_neg (by omega)]; try rfl
                  rw [e0]
                  repeat ((conv => whnf); first | refine Br.t ?_ | refine Br.f ?_ | refine ⟨rfl, ?_⟩)
                  conv => whnf
                  refine W.le (Le.slots (sl' := rcS p.fs.length [(6, .i (.int .i64 0))]) (by simp [leS, mkS, rcS])) (rc_fn p c4 hw _ (fun r hr => ?_) (fun hr => ?_))
                  · rw [hr]
                    repeat ((conv => whnf); first | refine Br.t ?_ | refine Br.f ?_ | refine ⟨rfl, ?_⟩)
                    conv => whnf
                    refine fin (target := []) rfl (Nat.zero_le _) (by simp) rfl rfl
                  · have hc := calls_ok hr
                    have h64 : ∀ f ∈ p.fs, f.length ≤ 64 := fun f hf => (chkF_none hr f hf).2.1
                    rw [hr]
                    repeat ((conv => whnf); first | refine Br.t ?_ | refine Br.f ?_ | refine ⟨rfl, ?_⟩)
                    conv => whnf
                    refine CallW.mono ((refcalls p hc (by omega) (fun f hf => by have := h64 f hf; omega)).pure _ rfl rfl) ?_
                    rintro r st' ⟨rfl, rfl⟩
                    repeat ((conv => whnf); first | refine Br.t ?_ | refine Br.f ?_ | refine ⟨rfl, ?_⟩)
                    conv => whnf
                    refine W.le (Le.slots (sl' := rcS p.fs.length [(8, .i (.sl (encM (mat p)))), (9, .i (.int .i64 0))]) (by simp [leS, mkS, rcS])) (rc_calls p hc c4 h64 _ (fun r hr => ?_) (fun hr => ?_))
                    · rw [hr]
                      repeat ((conv => whnf); first | refine Br.t ?_ | refine Br.f ?_ | refine ⟨rfl, ?_⟩)
                      conv => whnf
                      refine fin (target := []) rfl (Nat.zero_le _) (by simp) rfl rfl
                    · rw [hr]
                      repeat ((conv => whnf); first | refine Br.t ?_ | refine Br.f ?_ | refine ⟨rfl, ?_⟩)
                      conv => whnf
                      refine fin (target := []) rfl (Nat.zero_le _) (by simp) rfl rfl
end Go.Proofs.Ytdbmfnhbgacldaa.Am

/- Contracts: small programs, like programs. -/
namespace Go.Proofs.Ytdbmfnhbgacldaa.Am
set_option autoImplicit false
set_option linter.unusedVariables false
set_option linter.unusedSimpArgs false
set_option maxRecDepth 10000
set_option pp.maxSteps 20000
set_option pp.proofs false
def samePg (p q : Pg) : Bool := decide (p.g = q.g) && decide (p.l = q.l) && decide (p.s = q.s) && decide (p.fs = q.fs)
set_option maxHeartbeats 2000000 in
theorem same18 (p q : Pg) (hp : okPg p) (hq : okPg q) : CallW Try.prog G0 18 [pgV p, pgV q] [] (fun r st' => r = .i (.bool (samePg p q)) ∧ st' = []) := by
  refine call_of_bodyF 0 (Nat.le_refl _) Try.func18 rfl (fun a w => Try.call18 a w) (wpx_ok (own := own0) _ _ _ ?_)
  obtain ⟨hl, hw⟩ := hp
  obtain ⟨hl', hw'⟩ := hq
  repeat ((conv => whnf); first | refine Br.t ?_ | refine Br.f ?_ | refine ⟨rfl, ?_⟩)
  conv => whnf
  refine Br.mk (fun d => ?_) (fun d1 => ?_)
  · have d : p.g ≠ q.g := by simpa using d
    repeat ((conv => whnf); first | refine Br.t ?_ | refine Br.f ?_ | refine ⟨rfl, ?_⟩)
    conv => whnf
    refine fin (target := []) rfl (Nat.zero_le _) (by simp) ?_ rfl
    have : samePg p q = false := by simp [samePg, d]
    rw [this]
  · have d1 : p.g = q.g := by simpa using d1
    repeat ((conv => whnf); first | refine Br.t ?_ | refine Br.f ?_ | refine ⟨rfl, ?_⟩)
    conv => whnf
    refine Br.mk (fun d => ?_) (fun d2 => ?_)
    · have d : p.l ≠ q.l := by simpa using d
      repeat ((conv => whnf); first | refine Br.t ?_ | refine Br.f ?_ | refine ⟨rfl, ?_⟩)
      conv => whnf
      refine fin (target := []) rfl (Nat.zero_le _) (by simp) ?_ rfl
      have : samePg p q = false := by simp [samePg, d]
      rw [this]
    · have d2 : p.l = q.l := by simpa using d2
      repeat ((conv => whnf); first | refine Br.t ?_ | refine Br.f ?_ | refine ⟨rfl, ?_⟩)
      conv => whnf
      refine Br.mk (fun d => ?_) (fun d3 => ?_)
      · have d : p.s ≠ q.s := by simpa using d
        repeat ((conv => whnf); first | refine Br.t ?_ | refine Br.f ?_ | refine ⟨rfl, ?_⟩)
        conv => whnf
        refine fin (target := []) rfl (Nat.zero_le _) (by simp) ?_ rfl
        have : samePg p q = false := by simp [samePg, d]
        rw [this]
      · have d3 : p.s = q.s := by simpa using d3
        repeat ((conv => whnf); first | refine Br.t ?_ | refine Br.f ?_ | refine ⟨rfl, ?_⟩)
        conv => whnf
        refine Br.mk (fun d => ?_) (fun d4 => ?_)
        · have d : p.fs ≠ q.fs := by
            intro e
            rw [e] at d
            simp at d
          repeat ((conv => whnf); first | refine Br.t ?_ | refine Br.f ?_ | refine ⟨rfl, ?_⟩)
          conv => whnf
          refine fin (target := []) rfl (Nat.zero_le _) (by simp) ?_ rfl
          have : samePg p q = false := by simp [samePg, d]
          rw [this]
        · have d4 : p.fs.length = q.fs.length := by simp at d4; omega
          repeat ((conv => whnf); first | refine Br.t ?_ | refine Br.f ?_ | refine ⟨rfl, ?_⟩)
          conv => whnf
          refine loop_ok (α := Nat) (fun f => ⟨mkS 82 [(2, .ptr 0 0 0 0), (3, .ptr 1 0 0 0), (4, .i (.bool false)), (5, .i (.int .i64 f))], [pgB p, pgB q]⟩)
            (fun f => f ≤ p.fs.length ∧ p.fs.take f = q.fs.take f) (fun f => p.fs.length - f) 0 ⟨Nat.zero_le _, rfl⟩
            (Le.slots (by simp [leS, mkS])) (fun f hf => wpx_ok (own := own0) _ _ _ ?_)
          obtain ⟨h1, h2⟩ := hf
          repeat ((conv => whnf); first | refine Br.t ?_ | refine Br.f ?_ | refine ⟨rfl, ?_⟩)
          conv => whnf
          refine Br.mk (fun g => ?_) (fun g => ?_)
          · have g : f < p.fs.length := by simpa using g
            obtain ⟨L, hL⟩ : ∃ L, L = p.fs[f] := ⟨_, rfl⟩
            obtain ⟨M, hM⟩ : ∃ M, M = q.fs[f]'(by omega) := ⟨_, rfl⟩
            have hLm := hw L (hL ▸ List.getElem_mem g)
            have hMm := hw' M (hM ▸ List.getElem_mem (by omega))
            have eL : (p.fs.map encF).getD (f : Int).toNat [] = encF L := by rw [hL]; exact getD_enc g
            have eM : (q.fs.map encF).getD (f : Int).toNat [] = encF M := by rw [hM]; exact getD_enc (by omega)
            have et : p.fs.take (f + 1) = p.fs.take f ++ [L] := by rw [hL]; simp
            have et' : q.fs.take (f + 1) = q.fs.take f ++ [M] := by rw [hM]; simp
            repeat ((conv => whnf); first | refine Br.t ?_ | refine Br.f ?_ | refine ⟨rfl, ?_⟩)
            conv => whnf
            refine draw_ok (own := own0) [] [] [] rfl (by kernel_rfl) (Nat.zero_le _) ?_
            repeat ((conv => whnf); first | refine Br.t ?_ | refine Br.f ?_ | refine ⟨rfl, ?_⟩)
            conv => whnf
            rw [eL]
            refine ⟨⟨by omega, by simp; omega, rfl⟩, ?_⟩
            repeat ((conv => whnf); first | refine Br.t ?_ | refine Br.f ?_ | refine ⟨rfl, ?_⟩)
            conv => whnf
            rw [eM]
            refine ⟨⟨by omega, by simp; omega, rfl⟩, ?_⟩
            repeat ((conv => whnf); first | refine Br.t ?_ | refine Br.f ?_ | refine ⟨rfl, ?_⟩)
            conv => whnf
            refine ⟨by repeat ((conv => whnf); first | exact trivial | refine ⟨rfl, ?_⟩), trivial, ?_⟩
            conv => whnf
            refine Br.mk (fun d => ?_) (fun d5 => ?_)
            · have d : p.fs ≠ q.fs := by
                intro e
                have : L = M := by rw [hL, hM]; simp [e]
                rw [this] at d
                simp at d
              repeat ((conv => whnf); first | refine Br.t ?_ | refine Br.f ?_ | refine ⟨rfl, ?_⟩)
              conv => whnf
              refine fin (target := []) rfl (Nat.zero_le _) (by simp) ?_ rfl
              have : samePg p q = false := by simp [samePg, d]
              rw [this]
            · have d5 : L.length = M.length := by simp at d5; omega
              repeat ((conv => whnf); first | refine Br.t ?_ | refine Br.f ?_ | refine ⟨rfl, ?_⟩)
              conv => whnf
              refine loop_ok (α := Nat) (fun i => ⟨mkS 82 [(2, .ptr 0 0 0 0), (3, .ptr 1 0 0 0), (4, .i (.bool false)), (5, .i (.int .i64 f)), (6, .i (.int .i64 i))], [pgB p, pgB q]⟩)
                (fun i => i ≤ L.length ∧ L.take i = M.take i) (fun i => L.length - i) 0 ⟨Nat.zero_le _, rfl⟩
                (Le.slots (by simp [leS, mkS])) (fun i hi => wpx_ok (own := own0) _ _ _ ?_)
              obtain ⟨h3, h4⟩ := hi
              repeat ((conv => whnf); first | refine Br.t ?_ | refine Br.f ?_ | refine ⟨rfl, ?_⟩)
              conv => whnf
              rw [eL]
              refine ⟨⟨by omega, by simp; omega, rfl⟩, ?_⟩
              repeat ((conv => whnf); first | refine Br.t ?_ | refine Br.f ?_ | refine ⟨rfl, ?_⟩)
              conv => whnf
              refine Br.mk (fun g1 => ?_) (fun g1 => ?_)
              · have g1 : i < L.length := by simpa using g1
                obtain ⟨x, hx⟩ : ∃ x, x = L[i] := ⟨_, rfl⟩
                obtain ⟨y, hy⟩ : ∃ y, y = M[i]'(by omega) := ⟨_, rfl⟩
                have ex : (L.map encNd).getD (i : Int).toNat [] = encNd x := by rw [hx]; exact getD_enc g1
                have ey : (M.map encNd).getD (i : Int).toNat [] = encNd y := by rw [hy]; exact getD_enc (by omega)
                have ext : L.take (i + 1) = L.take i ++ [x] := by rw [hx]; simp
                have eyt : M.take (i + 1) = M.take i ++ [y] := by rw [hy]; simp
                repeat ((conv => whnf); first | refine Br.t ?_ | refine Br.f ?_ | refine ⟨rfl, ?_⟩)
                conv => whnf
                refine draw_ok (own := own0) [] [] [] rfl (by kernel_rfl) (Nat.zero_le _) ?_
                repeat ((conv => whnf); first | refine Br.t ?_ | refine Br.f ?_ | refine ⟨rfl, ?_⟩)
                conv => whnf
                rw [eL]
                refine ⟨⟨by omega, by simp; omega, rfl⟩, ?_⟩
                repeat ((conv => whnf); first | refine Br.t ?_ | refine Br.f ?_ | refine ⟨rfl, ?_⟩)
                conv => whnf
                rw [ex]
                refine ⟨⟨by omega, by simp; omega, rfl⟩, ?_⟩
                repeat ((conv => whnf); first | refine Br.t ?_ | refine Br.f ?_ | refine ⟨rfl, ?_⟩)
                conv => whnf
                rw [eM]
                refine ⟨⟨by omega, by simp; omega, rfl⟩, ?_⟩
                repeat ((conv => whnf); first | refine Br.t ?_ | refine Br.f ?_ | refine ⟨rfl, ?_⟩)
                conv => whnf
                rw [ey]
                refine ⟨⟨by omega, by simp; omega, rfl⟩, ?_⟩
                repeat ((conv => whnf); first | refine Br.t ?_ | refine Br.f ?_ | refine ⟨rfl, ?_⟩)
                conv => whnf
                refine ⟨by kernel_rfl, ?_⟩
                repeat ((conv => whnf); first | refine Br.t ?_ | refine Br.f ?_ | refine ⟨rfl, ?_⟩)
                conv => whnf
                refine ⟨by repeat ((conv => whnf); first | exact trivial | refine ⟨rfl, ?_⟩), trivial, ?_⟩
                conv => whnf
                refine Br.mk (fun d => ?_) (fun d6 => ?_)
                · have d : p.fs ≠ q.fs := by
                    intro e
                    have e1 : L = M := by rw [hL, hM]; simp [e]
                    have e2 : x = y := by rw [hx, hy]; simp [e1]
                    rw [e2] at d
                    simp at d
                  repeat ((conv => whnf); first | refine Br.t ?_ | refine Br.f ?_ | refine ⟨rfl, ?_⟩)
                  conv => whnf
                  refine fin (target := []) rfl (Nat.zero_le _) (by simp) ?_ rfl
                  have : samePg p q = false := by simp [samePg, d]
                  rw [this]
                · have d6 : x = y := by
                    obtain ⟨x1, x2, x3, x4⟩ := x
                    obtain ⟨y1, y2, y3, y4⟩ := y
                    simp at d6
                    simp [d6]
                  repeat ((conv => whnf); first | refine Br.t ?_ | refine Br.f ?_ | refine ⟨rfl, ?_⟩)
                  conv => whnf
                  refine ⟨i + 1, ⟨by omega, by rw [ext, eyt, h4, d6]⟩, by omega, Le.slots ?_⟩
                  simp [leS, mkS]
                  exact i64_id (by omega) (by omega)
              · have g1 : i = L.length := by simp at g1; omega
                have e1 : L = M := by rw [List.take_of_length_le (by omega), List.take_of_length_le (by omega)] at h4; exact h4
                repeat ((conv => whnf); first | refine Br.t ?_ | refine Br.f ?_ | refine ⟨rfl, ?_⟩)
                conv => whnf
                refine ⟨f + 1, ⟨by omega, by rw [et, et', h2, e1]⟩, by omega, Le.slots ?_⟩
                simp [leS, mkS]
                exact i64_id (by omega) (by omega)
          · have g : f = p.fs.length := by simp at g; omega
            have e1 : p.fs = q.fs := by rw [List.take_of_length_le (by omega), List.take_of_length_le (by omega)] at h2; exact h2
            repeat ((conv => whnf); first | refine Br.t ?_ | refine Br.f ?_ | refine ⟨rfl, ?_⟩)
            conv => whnf
            refine fin (target := []) rfl (Nat.zero_le _) (by simp) ?_ rfl
            simp [samePg, d1, d2, d3, e1]
end Go.Proofs.Ytdbmfnhbgacldaa.Am
namespace Go.Proofs.Ytdbmfnhbgacldaa.Am
set_option autoImplicit false
set_option linter.unusedVariables false
set_option linter.unusedSimpArgs false
set_option maxRecDepth 10000
set_option pp.maxSteps 20000
set_option pp.proofs false
def partsL (k : Int) : List Nat := if k = 9 then [] else if k = 0 then [2] else if k = 5 then [1, 2, 3] else if k = 8 then [2, 3] else [1, 2]
def ndB (n : Nd) : Ob := .row 0 4 false [(encNd n).map .i]
def ptrB (id : Nat) (l : List Nat) : Ob := .row 1 1 false (l.map fun c => [.ptr id 0 0 c])
theorem parts32a (n : Nd) (h : n.1 = 9) : CallW Try.prog G0 32 [.ptr 0 0 0 0] [ndB n] (fun r st' => r = .nils ∧ st' = [ndB n]) := by
  refine call_of_body Try.func32 rfl (fun a w => Try.call32 a w) (wpx_ok (own := ownAll) _ _ _ ?_)
  obtain ⟨k, a, x, y⟩ := n
  simp only at h
  subst h
  repeat ((conv => whnf); first | refine Br.t ?_ | refine Br.f ?_ | refine ⟨rfl, ?_⟩)
  conv => whnf
  exact rfl
theorem parts32 (n : Nd) (h : n.1 ≠ 9) : CallW Try.prog G0 32 [.ptr 0 0 0 0] [ndB n] (fun r st' => r = .ref 1 1 0 (partsL n.1).length ∧ st' = [ndB n, ptrB 0 (partsL n.1)]) := by
  refine call_of_body Try.func32 rfl (fun a w => Try.call32 a w) (wpx_ok (own := ownAll) _ _ _ ?_)
  obtain ⟨k, a, x, y⟩ := n
  simp only at h ⊢
  repeat ((conv => whnf); first | refine Br.t ?_ | refine Br.f ?_ | refine ⟨rfl, ?_⟩)
  conv => whnf
  refine Br.mk (fun q => by simp at q; exact absurd q h) (fun q9 => ?_)
  repeat ((conv => whnf); first | refine Br.t ?_ | refine Br.f ?_ | refine ⟨rfl, ?_⟩)
  conv => whnf
  refine Br.mk (fun q => ?_) (fun q0 => ?_)
  · have q : k = 0 := by simpa using q
    subst q
    repeat ((conv => whnf); first | refine Br.t ?_ | refine Br.f ?_ | refine ⟨rfl, ?_⟩)
    conv => whnf
    exact rfl
  · have q0 : k ≠ 0 := by simpa using q0
    repeat ((conv => whnf); first | refine Br.t ?_ | refine Br.f ?_ | refine ⟨rfl, ?_⟩)
    conv => whnf
    refine Br.mk (fun q => ?_) (fun q5 => ?_)
    · have q : k = 5 := by simpa using q
      subst q
      repeat ((conv => whnf); first | refine Br.t ?_ | refine Br.f ?_ | refine ⟨rfl, ?_⟩)
      conv => whnf
      refine draw_ok (own := ownAll) [9] [] [] rfl (by kernel_rfl) (by simp) ?_
      repeat ((conv => whnf); first | refine Br.t ?_ | refine Br.f ?_ | refine ⟨rfl, ?_⟩)
      conv => whnf
      refine ⟨by repeat ((conv => whnf); first | exact trivial | refine ⟨rfl, ?_⟩), trivial, ?_⟩
      conv => whnf
      exact ⟨rfl, rfl⟩
    · have q5 : k ≠ 5 := by simpa using q5
      repeat ((conv => whnf); first | refine Br.t ?_ | refine Br.f ?_ | refine ⟨rfl, ?_⟩)
      conv => whnf
      refine Br.mk (fun q => ?_) (fun q8 => ?_)
      · have q : k = 8 := by simpa using q
        subst q
        repeat ((conv => whnf); first | refine Br.t ?_ | refine Br.f ?_ | refine ⟨rfl, ?_⟩)
        conv => whnf
        refine draw_ok (own := ownAll) [6] [] [] rfl (by kernel_rfl) (by simp) ?_
        repeat ((conv => whnf); first | refine Br.t ?_ | refine Br.f ?_ | refine ⟨rfl, ?_⟩)
        conv => whnf
        refine ⟨by repeat ((conv => whnf); first | exact trivial | refine ⟨rfl, ?_⟩), trivial, ?_⟩
        conv => whnf
        exact ⟨rfl, rfl⟩
      · have q8 : k ≠ 8 := by simpa using q8
        repeat ((conv => whnf); first | refine Br.t ?_ | refine Br.f ?_ | refine ⟨rfl, ?_⟩)
        conv => whnf
        refine draw_ok (own := ownAll) [6] [] [] rfl (by kernel_rfl) (by simp) ?_
        repeat ((conv => whnf); first | refine Br.t ?_ | refine Br.f ?_ | refine ⟨rfl, ?_⟩)
        conv => whnf
        refine ⟨by repeat ((conv => whnf); first | exact trivial | refine ⟨rfl, ?_⟩), trivial, ?_⟩
        conv => whnf
        have ep : partsL k = [1, 2] := by unfold partsL; rw [if_neg h, if_neg q0, if_neg q5, if_neg q8]
        rw [ep]
        exact ⟨rfl, rfl⟩
end Go.Proofs.Ytdbmfnhbgacldaa.Am

/- Plain laws and contracts: a program's bytes. -/
namespace Go.Proofs.Ytdbmfnhbgacldaa.Am
set_option autoImplicit false
set_option linter.unusedVariables false
set_option linter.unusedSimpArgs false
set_option maxRecDepth 10000
set_option pp.maxSteps 20000
set_option pp.proofs false
def fld (x : Nd) (c : Nat) : Int := if c = 1 then x.2.1 else if c = 2 then x.2.2.1 else x.2.2.2
def nodeN (x : Nd) : List Nat := putN x.1.toNat ++ (partsL x.1).flatMap fun c => putN (fld x c).toNat
def fnN (L : List Nd) : List Nat := putN L.length ++ L.flatMap nodeN
def numsP (p : Pg) : List Nat := [p.g.toNat, p.l.toNat, p.s.toNat, p.fs.length]
def alp : List Nat := [97, 108, 112, 49]
def progN (p : Pg) : List Nat := alp ++ (numsP p).flatMap putN ++ p.fs.flatMap fnN
theorem mx1_lt {a A : Int} (h : a < mx1 A) : a < max A 1 := by
  unfold mx1 at h
  by_cases q : 1 > A
  · rw [if_pos q] at h; omega
  · rw [if_neg q] at h; omega
theorem may_node {p : Pg} {x : Nd} {z : Int} (hg : p.g ≤ 16) (hl : p.l ≤ 16) (hs : p.s ≤ 8) (hn : p.fs.length ≤ 16) (hz : z ≤ 64) (h : mayF p x z = true) :
    (0 ≤ x.1 ∧ x.1 ≤ 9) ∧ (∀ c, 0 ≤ fld x c ∧ fld x c ≤ 64) ∧ ∀ c, c = 1 ∨ c = 2 ∨ c = 3 → c ∉ partsL x.1 → fld x c = 0 := by
  obtain ⟨k, a, y, w⟩ := x
  unfold mayF fieldsF at h
  simp only at h
  have main : ∀ A B C : Int, inB a (mx1 A) = true → inB y (mx1 B) = true → inB w (mx1 C) = true → (0 ≤ a ∧ a < max A 1) ∧ (0 ≤ y ∧ y < max B 1) ∧ (0 ≤ w ∧ w < max C 1) := by
    intro A B C h1 h2 h3
    simp only [inB, Bool.and_eq_true, decide_eq_true_eq] at h1 h2 h3
    refine ⟨⟨h1.1, ?_⟩, ⟨h2.1, ?_⟩, ⟨h3.1, ?_⟩⟩
    · exact mx1_lt h1.2
    · exact mx1_lt h2.2
    · exact mx1_lt h3.2
  have fin : ∀ A B C : Int, A ≤ 64 → B ≤ 64 → C ≤ 64 → (0 ≤ k ∧ k ≤ 9) → inB a (mx1 A) = true → inB y (mx1 B) = true → inB w (mx1 C) = true → ((1 ∉ partsL k) → A ≤ 0) → ((2 ∉ partsL k) → B ≤ 0) → ((3 ∉ partsL k) → C ≤ 0) →
      (0 ≤ k ∧ k ≤ 9) ∧ (∀ c, 0 ≤ fld (k, a, y, w) c ∧ fld (k, a, y, w) c ≤ 64) ∧ ∀ c, c = 1 ∨ c = 2 ∨ c = 3 → c ∉ partsL k → fld (k, a, y, w) c = 0 := by
    intro A B C hA hB hC hk h1 h2 h3 p1 p2 p3
    obtain ⟨⟨a1, a2⟩, ⟨b1, b2⟩, c1, c2⟩ := main A B C h1 h2 h3
    refine ⟨hk, fun c => ?_, fun c hc hnot => ?_⟩
    · unfold fld
      split
      · simp only; omega
      · split <;> simp only <;> omega
    · rcases hc with rfl | rfl | rfl
      · have := p1 hnot; show a = 0; omega
      · have := p2 hnot; show y = 0; omega
      · have := p3 hnot; show w = 0; omega
  by_cases k0 : k = 0
  · subst k0
    have h : (((true && inB a (mx1 0)) && inB y (mx1 z)) && inB w (mx1 0)) = true := h
    simp only [Bool.and_eq_true] at h
    exact fin 0 z 0 (by omega) (by omega) (by omega) (by omega) h.1.1.2 h.1.2 h.2 (by first | omega | exact fun hn => absurd (by decide) hn) (by first | omega | exact fun hn => absurd (by decide) hn) (by first | omega | exact fun hn => absurd (by decide) hn)
  by_cases k1 : k = 1
  · subst k1
    have h : (((decide (p.g > 0) && inB a (mx1 p.g)) && inB y (mx1 z)) && inB w (mx1 0)) = true := h
    simp only [Bool.and_eq_true] at h
    exact fin p.g z 0 (by omega) (by omega) (by omega) (by omega) h.1.1.2 h.1.2 h.2 (by first | omega | exact fun hn => absurd (by decide) hn) (by first | omega | exact fun hn => absurd (by decide) hn) (by first | omega | exact fun hn => absurd (by decide) hn)
  by_cases k2 : k = 2
  · subst k2
    have h : (((decide (p.g > 0) && inB a (mx1 p.g)) && inB y (mx1 z)) && inB w (mx1 0)) = true := h
    simp only [Bool.and_eq_true] at h
    exact fin p.g z 0 (by omega) (by omega) (by omega) (by omega) h.1.1.2 h.1.2 h.2 (by first | omega | exact fun hn => absurd (by decide) hn) (by first | omega | exact fun hn => absurd (by decide) hn) (by first | omega | exact fun hn => absurd (by decide) hn)
  by_cases k3 : k = 3
  · subst k3
    have h : (((decide (p.l > 0) && inB a (mx1 p.l)) && inB y (mx1 z)) && inB w (mx1 0)) = true := h
    simp only [Bool.and_eq_true] at h
    exact fin p.l z 0 (by omega) (by omega) (by omega) (by omega) h.1.1.2 h.1.2 h.2 (by first | omega | exact fun hn => absurd (by decide) hn) (by first | omega | exact fun hn => absurd (by decide) hn) (by first | omega | exact fun hn => absurd (by decide) hn)
  by_cases k4 : k = 4
  · subst k4
    have h : (((decide (p.l > 0) && inB a (mx1 p.l)) && inB y (mx1 z)) && inB w (mx1 0)) = true := h
    simp only [Bool.and_eq_true] at h
    exact fin p.l z 0 (by omega) (by omega) (by omega) (by omega) h.1.1.2 h.1.2 h.2 (by first | omega | exact fun hn => absurd (by decide) hn) (by first | omega | exact fun hn => absurd (by decide) hn) (by first | omega | exact fun hn => absurd (by decide) hn)
  by_cases k5 : k = 5
  · subst k5
    have h : ((((decide (p.s > 0) && decide ((p.fs.length : Int) > 0)) && inB a (mx1 (p.fs.length : Int))) && inB y (mx1 z)) && inB w (mx1 p.s)) = true := h
    simp only [Bool.and_eq_true] at h
    exact fin (p.fs.length : Int) z p.s (by omega) (by omega) (by omega) (by omega) h.1.1.2 h.1.2 h.2 (by first | omega | exact fun hn => absurd (by decide) hn) (by first | omega | exact fun hn => absurd (by decide) hn) (by first | omega | exact fun hn => absurd (by decide) hn)
  by_cases k6 : k = 6
  · subst k6
    have h : (((decide (p.s > 0) && inB a (mx1 p.s)) && inB y (mx1 z)) && inB w (mx1 0)) = true := h
    simp only [Bool.and_eq_true] at h
    exact fin p.s z 0 (by omega) (by omega) (by omega) (by omega) h.1.1.2 h.1.2 h.2 (by first | omega | exact fun hn => absurd (by decide) hn) (by first | omega | exact fun hn => absurd (by decide) hn) (by first | omega | exact fun hn => absurd (by decide) hn)
  by_cases k7 : k = 7
  · subst k7
    have h : (((decide ((p.fs.length : Int) > 0) && inB a (mx1 (p.fs.length : Int))) && inB y (mx1 z)) && inB w (mx1 0)) = true := h
    simp only [Bool.and_eq_true] at h
    exact fin (p.fs.length : Int) z 0 (by omega) (by omega) (by omega) (by omega) h.1.1.2 h.1.2 h.2 (by first | omega | exact fun hn => absurd (by decide) hn) (by first | omega | exact fun hn => absurd (by decide) hn) (by first | omega | exact fun hn => absurd (by decide) hn)
  by_cases k8 : k = 8
  · subst k8
    have h : (((true && inB a (mx1 0)) && inB y (mx1 z)) && inB w (mx1 z)) = true := h
    simp only [Bool.and_eq_true] at h
    exact fin 0 z z (by omega) (by omega) (by omega) (by omega) h.1.1.2 h.1.2 h.2 (by first | omega | exact fun hn => absurd (by decide) hn) (by first | omega | exact fun hn => absurd (by decide) hn) (by first | omega | exact fun hn => absurd (by decide) hn)
  by_cases k9 : k = 9
  · subst k9
    have h : (((true && inB a (mx1 0)) && inB y (mx1 0)) && inB w (mx1 0)) = true := h
    simp only [Bool.and_eq_true] at h
    exact fin 0 0 0 (by omega) (by omega) (by omega) (by omega) h.1.1.2 h.1.2 h.2 (by first | omega | exact fun hn => absurd (by decide) hn) (by first | omega | exact fun hn => absurd (by decide) hn) (by first | omega | exact fun hn => absurd (by decide) hn)
  simp [k0, k1, k2, k3, k4, k5, k6, k7, k8, k9] at h
end Go.Proofs.Ytdbmfnhbgacldaa.Am
namespace Go.Proofs.Ytdbmfnhbgacldaa.Am
set_option autoImplicit false
set_option linter.unusedVariables false
set_option linter.unusedSimpArgs false
set_option maxRecDepth 10000
set_option pp.maxSteps 20000
set_option pp.proofs false
theorem upP {f : FuncId} {args : List V} {v : V} {k k' : Nat} {zs zs' : List (List I)} (o d : Ob) (post : List Ob) (h : CallW Try.prog G0 f args (wr k zs) (fun r st' => r = v ∧ st' = wr k' zs')) (ha : V.cl.clAll 2 args = true) (hv : V.cl 0 v = true) :
    CallW Try.prog G0 f (V.ren.renAll (fm [1, 3] (wrU o d k zs ++ post).length) args) (wrU o d k zs ++ post) (fun r st' => r = v ∧ st' = wrU o d k' zs' ++ post) := by
  refine (CallW.rise (bargs := V.ren.renAll (fm [1, 3] (wrU o d k zs ++ post).length) args) (big := wrU o d k zs ++ post) [1, 3] [] h rfl (by decide) (by simp [wrU]) ?_ (wr_cl _ _) (by simp) (renAll_len _ _) (args_ren ha) (.inl rfl)).mono ?_
  · simp only [wr, wrU, List.map_cons, List.map_nil, ren_lift]
    rfl
  · rintro r st' ⟨r0, s0, ⟨rfl, rfl⟩, rfl, rfl⟩
    refine ⟨ren_cl0 _ _ hv, ?_⟩
    simp only [wr, wrU, List.map_cons, List.map_nil, ren_lift]
    show putAll _ [1, 3] [Ob.row 0 1 false [[V.ref 3 (k' + 1) 0 zs'.length]], Ob.row (k' + 1) 1 false (lift zs')] = _
    simp [putAll]
def elI (i : Nat) : List I := [.int .i64 i]
theorem parts_len (k : Int) : (partsL k).length ≤ 3 := by unfold partsL; (repeat' split) <;> decide
theorem parts_mem {k : Int} {c : Nat} (h : c ∈ partsL k) : c = 1 ∨ c = 2 ∨ c = 3 := by
  unfold partsL at h
  (repeat' split at h) <;> simp at h <;> omega
theorem flat_le {α : Type} {f : α → List Nat} {b : Nat} : ∀ {l : List α}, (∀ x ∈ l, (f x).length ≤ b) → (l.flatMap f).length ≤ b * l.length
  | [], _ => by simp
  | x :: l, h => by
    have h1 := h x (by simp)
    have h2 := flat_le (l := l) (fun y hy => h y (by simp [hy]))
    rw [List.flatMap_cons, List.length_append, List.length_cons, Nat.mul_add, Nat.mul_one]
    omega
/-- a node whose fields are small -/
def ndOk (x : Nd) : Prop := (0 ≤ x.1 ∧ x.1 ≤ 9) ∧ (∀ c, 0 ≤ fld x c ∧ fld x c ≤ 64) ∧ ∀ c, c = 1 ∨ c = 2 ∨ c = 3 → c ∉ partsL x.1 → fld x c = 0
theorem PgOk.nd {p : Pg} (h : PgOk p) {L : List Nd} (hL : L ∈ p.fs) {x : Nd} (hx : x ∈ L) : ndOk x := by
  obtain ⟨a, b, c⟩ := h.f L hL
  exact may_node h.g.2 h.l.2 (by have := h.s.2; omega) h.n.2 (by omega) (c x hx)
theorem put_le {n : Nat} (h : n < 4294967296) : (putN n).length ≤ 5 := putN_len 4 n (by omega)
theorem node_len {x : Nd} (h : ndOk x) : (nodeN x).length ≤ 20 := by
  have h1 := put_le (n := x.1.toNat) (by have := h.1; omega)
  have h2 := flat_le (b := 5) (l := partsL x.1) (f := fun c => putN (fld x c).toNat) (fun c hc => put_le (by have := h.2.1 c; omega))
  have h3 := parts_len x.1
  rw [nodeN, List.length_append]
  omega
theorem fn_len {L : List Nd} (h : L.length ≤ 64) (hx : ∀ x ∈ L, ndOk x) : (fnN L).length ≤ 1285 := by
  have h1 := put_le (n := L.length) (by omega)
  have h2 := flat_le (b := 20) (l := L) (f := nodeN) (fun x hm => node_len (hx x hm))
  rw [fnN, List.length_append]
  omega
theorem wrU_cl (p : Pg) (zs : List (List I)) (m : Nat) (hm : 4 ≤ m) : ∀ o ∈ wrU (pgB p) .dead 0 zs, o.cl m := by
  intro o ho
  simp only [wrU, List.mem_cons, List.not_mem_nil, or_false] at ho
  rcases ho with rfl | rfl | rfl | rfl
  · exact pgB_cl p m
  · intro cs hcs
    simp only [List.mem_singleton] at hcs
    subst hcs
    simp [V.cl.clAll, V.cl]; omega
  · trivial
  · exact row_cl 1 1 zs m _ (by simp)
theorem ndB_cl (x : Nd) (m : Nat) : (ndB x).cl m := by
  intro cs hcs
  simp only [List.mem_singleton] at hcs
  subst hcs
  rfl
theorem ptrB_cl (id : Nat) (l : List Nat) (m : Nat) (h : id < m) : (ptrB id l).cl m := by
  intro cs hcs
  simp only [List.mem_map] at hcs
  obtain ⟨c, _, rfl⟩ := hcs
  simp [V.cl.clAll, V.cl, h]
theorem fld_load (x : Nd) (c : Nat) (hc : c = 1 ∨ c = 2 ∨ c = 3) : ((encNd x).map V.i).getD c .undef = .i (.int .i64 (fld x c)) := by
  rcases hc with rfl | rfl | rfl <;> rfl
theorem ptr_ren (f : Nat → Nat) (id : Nat) (l : List Nat) : Ob.ren f (ptrB id l) = ptrB (f id) l := by
  simp [ptrB, Ob.ren, V.ren.renAll, V.ren]
theorem ptr_up (d : Nat → Nat) (l : List Nat) (h : d 4 = 0) : (l.map fun c => [V.ptr 4 0 0 c]).map (V.up.upAll d) = l.map fun c => [V.ptr 4 0 0 c] := by
  rw [List.map_map]
  apply List.map_congr_left
  intro c _
  simp [V.up.upAll, V.up, h]
set_option maxHeartbeats 4000000 in
theorem write17 (p : Pg) (hp : okPg p) : CallW Try.prog G0 17 [pgV p] [] (fun r st' => r = .tup [.i (.sl (if (chk p).2.2 = 0 then (progN p).map by8 else [])), .i (.int .i64 (chk p).2.2)] ∧ st' = []) := by
  refine call_of_bodyF 0 (Nat.le_refl _) Try.func17 rfl (fun a w => Try.call17 a w) (wpx_ok (own := fun t => t == 25) _ _ _ ?_)
  repeat ((conv => whnf); first | refine Br.t ?_ | refine Br.f ?_ | refine ⟨rfl, ?_⟩)
  conv => whnf
  refine CallW.mono ((check31 p hp).pure _ rfl rfl) ?_
  rintro r st' ⟨rfl, rfl⟩
  by_cases hz : (chk p).2.2 = 0
  · have ok := chk_zero hz
    have ec := chk_ok ok
    rw [if_pos hz, hz]
    obtain ⟨g1, g2⟩ := ok.g; obtain ⟨l1, l2⟩ := ok.l; obtain ⟨s1, s2⟩ := ok.s; obtain ⟨n1, n2⟩ := ok.n
    rw [ec]
    repeat ((conv => whnf); first | refine Br.t ?_ | refine Br.f ?_ | refine ⟨rfl, ?_⟩)
    conv => whnf
    refine ⟨⟨rfl, by decide⟩, ?_⟩
    repeat ((conv => whnf); first | refine Br.t ?_ | refine Br.f ?_ | refine ⟨rfl, ?_⟩)
    conv => whnf
    refine CallW.mono (up0 _ _ (raw0 (alp.map by8) (bytes_one _) (by decide)) rfl) ?_
    rintro r st' ⟨rfl, rfl⟩
    repeat ((conv => whnf); first | refine Br.t ?_ | refine Br.f ?_ | refine ⟨rfl, ?_⟩)
    conv => whnf
    refine loop_ok (α := Nat) (fun j => ⟨mkS 79 [(1, .ptr 0 0 0 0), (2, .nils), (3, .i (.int .i64 0)), (7, .ptr 1 0 0 0), (37, .i (.sl ((numsP p).map elI))), (38, .i (.int .i64 4)), (39, .i (.int .i64 j))], wrU (pgB p) .dead 0 ((alp ++ ((numsP p).take j).flatMap putN).map by8)⟩)
      (fun j => j ≤ 4) (fun j => 4 - j) 0 (by decide) (Le.slots ?_) (fun j hj => wpx_ok (own := own0) _ _ _ ?_)
    · simp [leS, mkS, numsP, elI]
      omega
    have hA : ∀ j, ((((numsP p).take j).flatMap putN)).length ≤ 20 := fun j => by
      have := flat_le (b := 5) (l := (numsP p).take j) (f := putN) (fun x hx => put_le (by
        have := List.mem_of_mem_take hx
        simp [numsP] at this
        omega))
      have : ((numsP p).take j).length ≤ 4 := by rw [List.length_take]; simp [numsP]; omega
      omega
    have hB : ∀ f, (((p.fs.take f).flatMap fnN)).length ≤ 20560 := fun f => by
      have := flat_le (b := 1285) (l := p.fs.take f) (f := fnN) (fun L hL => fn_len (ok.f L (List.mem_of_mem_take hL)).2.1 (fun x hx => ok.nd (List.mem_of_mem_take hL) hx))
      have : (p.fs.take f).length ≤ 16 := by rw [List.length_take]; omega
      omega
    repeat ((conv => whnf); first | refine Br.t ?_ | refine Br.f ?_ | refine ⟨rfl, ?_⟩)
    conv => whnf
    refine Br.mk (fun g => ?_) (fun g => ?_)
    · have g : j < (numsP p).length := by simp at g; simp [numsP]; omega
      obtain ⟨x, hx⟩ : ∃ x, x = (numsP p)[j] := ⟨_, rfl⟩
      have ex : ((numsP p).map elI).getD (j : Int).toNat [] = elI x := by rw [hx]; exact getD_enc g
      have et : (numsP p).take (j + 1) = (numsP p).take j ++ [x] := by rw [hx]; simp
      have hx32 : x ≤ 100 := by
        have := hx ▸ List.getElem_mem g
        simp [numsP] at this
        omega
      have hlen : (alp ++ ((numsP p).take j).flatMap putN).length ≤ 24 := by have := hA j; rw [List.length_append]; simp only [alp, List.length_cons, List.length_nil]; omega
      obtain ⟨Z, hZ⟩ : ∃ Z, alp ++ ((numsP p).take j).flatMap putN = Z := ⟨_, rfl⟩
      have hnl : (numsP p).length = 4 := by simp [numsP]
      rw [hZ] at hlen ⊢
      repeat ((conv => whnf); first | refine Br.t ?_ | refine Br.f ?_ | refine ⟨rfl, ?_⟩)
      conv => whnf
      rw [ex]
      refine ⟨⟨by omega, by rw [List.length_map]; omega, rfl⟩, ?_⟩
      repeat ((conv => whnf); first | refine Br.t ?_ | refine Br.f ?_ | refine ⟨rfl, ?_⟩)
      conv => whnf
      refine CallW.mono (upP (pgB p) .dead [] (num 0 (Z.map by8) x (by omega) (by rw [List.length_map]; omega)) rfl rfl) ?_
      rintro r st' ⟨rfl, rfl⟩
      rw [← List.map_append]
      repeat ((conv => whnf); first | refine Br.t ?_ | refine Br.f ?_ | refine ⟨rfl, ?_⟩)
      conv => whnf
      refine ⟨j + 1, by simp [numsP] at g; omega, by simp [numsP] at g; omega, ?_⟩
      rw [et, List.flatMap_append, show [x].flatMap putN = putN x by simp, ← List.append_assoc, hZ]
      refine Le.down (fun id => if id = 3 then 1 else 0) (by intro id hid; simp at hid) ?_ ?_
      · simp [leS, mkS, V.up]
        exact i64_id (by omega) (by omega)
      · simp only [upSt, Ob.up, map_up_lift, wrU]
        rfl
    · have g : j = 4 := by simp at g; omega
      subst g
      repeat ((conv => whnf); first | refine Br.t ?_ | refine Br.f ?_ | refine ⟨rfl, ?_⟩)
      conv => whnf
      refine loop_ok (α := Nat) (fun f => ⟨mkS 79 [(1, .ptr 0 0 0 0), (2, .nils), (3, .i (.int .i64 0)), (7, .ptr 1 0 0 0), (47, .i (.sl (p.fs.map encF))), (48, .i (.int .i64 (p.fs.map encF).length)), (49, .i (.int .i64 f))], wrU (pgB p) .dead 0 ((alp ++ (numsP p).flatMap putN ++ (p.fs.take f).flatMap fnN).map by8)⟩)
        (fun f => f ≤ p.fs.length) (fun f => p.fs.length - f) 0 (Nat.zero_le _) ?_ (fun f hf => wpx_ok (own := own0) _ _ _ ?_)
      · rw [List.take_zero, List.flatMap_nil, List.append_nil]
        exact Le.slots (by simp [leS, mkS])
      repeat ((conv => whnf); first | refine Br.t ?_ | refine Br.f ?_ | refine ⟨rfl, ?_⟩)
      conv => whnf
      refine Br.mk (fun g => ?_) (fun g => ?_)
      · have g : f < p.fs.length := by simpa using g
        obtain ⟨L, hL⟩ : ∃ L, L = p.fs[f] := ⟨_, rfl⟩
        have hLm : L ∈ p.fs := hL ▸ List.getElem_mem g
        have eL : (p.fs.map encF).getD (f : Int).toNat [] = encF L := by rw [hL]; exact getD_enc g
        have etL : p.fs.take (f + 1) = p.fs.take f ++ [L] := by rw [hL]; simp
        obtain ⟨L1, L2, _⟩ := ok.f L hLm
        have hnd := fun x hx => ok.nd hLm (x := x) hx
        have hlen : (alp ++ (numsP p).flatMap putN ++ (p.fs.take f).flatMap fnN).length ≤ 20600 := by
          have h1 := hA 4
          rw [List.take_of_length_le (by simp [numsP])] at h1
          have h2 := hB f
          rw [List.length_append, List.length_append]; simp only [alp, List.length_cons, List.length_nil]; omega
        obtain ⟨Z, hZ⟩ : ∃ Z, alp ++ (numsP p).flatMap putN ++ (p.fs.take f).flatMap fnN = Z := ⟨_, rfl⟩
        rw [hZ] at hlen ⊢
        repeat ((conv => whnf); first | refine Br.t ?_ | refine Br.f ?_ | refine ⟨rfl, ?_⟩)
        conv => whnf
        rw [eL]
        refine ⟨⟨by omega, by simp; omega, rfl⟩, ?_⟩
        repeat ((conv => whnf); first | refine Br.t ?_ | refine Br.f ?_ | refine ⟨rfl, ?_⟩)
        conv => whnf
        have cn : CallW Try.prog G0 27 [.ptr 0 0 0 0, .i (.int .i64 ((L.map encNd).length : Nat))] (wr 0 (Z.map by8)) (fun r st' => r = .tup [] ∧ st' = wr 1 (Z.map by8 ++ (putN L.length).map by8)) := by
          rw [List.length_map]
          exact num 0 (Z.map by8) L.length (by omega) (by rw [List.length_map]; omega)
        refine CallW.mono (upP (pgB p) .dead [] cn rfl rfl) ?_
        rintro r st' ⟨rfl, rfl⟩
        rw [← List.map_append]
        repeat ((conv => whnf); first | refine Br.t ?_ | refine Br.f ?_ | refine ⟨rfl, ?_⟩)
        conv => whnf
        refine loop_ok (α := Nat) (fun i => ⟨mkS 79 [(1, .ptr 0 0 0 0), (2, .nils), (3, .i (.int .i64 0)), (7, .ptr 1 0 0 0), (47, .i (.sl (p.fs.map encF))), (48, .i (.int .i64 (p.fs.map encF).length)), (49, .i (.int .i64 f)), (56, .i (.sl (L.map encNd))), (57, .i (.int .i64 (L.map encNd).length)), (58, .i (.int .i64 i))], wrU (pgB p) .dead 0 ((Z ++ putN L.length ++ (L.take i).flatMap nodeN).map by8)⟩)
          (fun i => i ≤ L.length) (fun i => L.length - i) 0 (Nat.zero_le _) ?_ (fun i hi => wpx_ok (own := own0) _ _ _ ?_)
        · rw [List.take_zero, List.flatMap_nil, List.append_nil]
          refine Le.down (fun id => if id = 3 then 1 else 0) (by intro id hid; simp at hid) ?_ ?_
          · simp [leS, mkS, V.up]
          · simp only [upSt, Ob.up, map_up_lift, wrU]
            rfl
        repeat ((conv => whnf); first | refine Br.t ?_ | refine Br.f ?_ | refine ⟨rfl, ?_⟩)
        conv => whnf
        refine Br.mk (fun g1 => ?_) (fun g1 => ?_)
        · have g1 : i < L.length := by simpa using g1
          obtain ⟨x, hx⟩ : ∃ x, x = L[i] := ⟨_, rfl⟩
          have hxm : x ∈ L := hx ▸ List.getElem_mem g1
          have ex : (L.map encNd).getD (i : Int).toNat [] = encNd x := by rw [hx]; exact getD_enc g1
          have etx : L.take (i + 1) = L.take i ++ [x] := by rw [hx]; simp
          obtain ⟨⟨k1, k2⟩, kf, _⟩ := hnd x hxm
          have hlen2 : (Z ++ putN L.length ++ (L.take i).flatMap nodeN).length ≤ 22000 := by
            have h1 := flat_le (b := 20) (l := L.take i) (f := nodeN) (fun y hy => node_len (hnd y (List.mem_of_mem_take hy)))
            have h2 : (L.take i).length ≤ 64 := by rw [List.length_take]; omega
            have h3 := put_le (n := L.length) (by omega)
            rw [List.length_append, List.length_append]; omega
          obtain ⟨Y, hY⟩ : ∃ Y, Z ++ putN L.length ++ (L.take i).flatMap nodeN = Y := ⟨_, rfl⟩
          rw [hY] at hlen2 ⊢
          have ek : ((x.1.toNat : Nat) : Int) = x.1 := by omega
          repeat ((conv => whnf); first | refine Br.t ?_ | refine Br.f ?_ | refine ⟨rfl, ?_⟩)
          conv => whnf
          rw [ex]
          refine ⟨⟨by omega, by simp; omega, rfl⟩, ?_⟩
          repeat ((conv => whnf); first | refine Br.t ?_ | refine Br.f ?_ | refine ⟨rfl, ?_⟩)
          conv => whnf
          have ck := num 0 (Y.map by8) x.1.toNat (by omega) (by rw [List.length_map]; omega)
          rw [ek] at ck
          refine CallW.mono (upP (pgB p) .dead [ndB x] ck rfl rfl) ?_
          rintro r st' ⟨rfl, rfl⟩
          rw [← List.map_append]
          have hk := put_le (n := x.1.toNat) (by omega)
          obtain ⟨X, hX⟩ : ∃ X, Y ++ putN x.1.toNat = X := ⟨_, rfl⟩
          have hXl : X.length ≤ 22010 := by rw [← hX, List.length_append]; omega
          rw [hX]
          repeat ((conv => whnf); first | refine Br.t ?_ | refine Br.f ?_ | refine ⟨rfl, ?_⟩)
          conv => whnf
          by_cases k9 : x.1 = 9
          · have en : nodeN x = putN x.1.toNat := by rw [nodeN, k9]; simp [partsL]
            refine CallW.mono (CallW.under (wrU (pgB p) .dead 1 (X.map by8)) (parts32a x k9) (by intro o ho; simp only [List.mem_singleton] at ho; subst ho; exact ndB_cl x _) rfl) ?_
            rintro r st' ⟨r0, s0, ⟨rfl, rfl⟩, _, rfl, rfl⟩
            repeat ((conv => whnf); first | refine Br.t ?_ | refine Br.f ?_ | refine ⟨rfl, ?_⟩)
            conv => whnf
            refine loop_ok (α := Unit) (fun _ => ⟨mkS 79 [(1, .ptr 0 0 0 0), (2, .nils), (3, .i (.int .i64 0)), (7, .ptr 1 0 0 0), (47, .i (.sl (p.fs.map encF))), (48, .i (.int .i64 (p.fs.map encF).length)), (49, .i (.int .i64 f)), (56, .i (.sl (L.map encNd))), (57, .i (.int .i64 (L.map encNd).length)), (58, .i (.int .i64 i)), (66, .i (.int .i64 0)), (67, .i (.int .i64 0))], wrU (pgB p) .dead 1 (X.map by8) ++ [ndB x]⟩)
              (fun _ => True) (fun _ => 0) () trivial (Le.slots (by simp [leS, mkS])) (fun _ _ => wpx_ok (own := own0) _ _ _ ?_)
            repeat ((conv => whnf); first | refine Br.t ?_ | refine Br.f ?_ | refine ⟨rfl, ?_⟩)
            conv => whnf
            refine ⟨i + 1, by omega, by omega, ?_⟩
            rw [etx, List.flatMap_append, show [x].flatMap nodeN = nodeN x by simp, en, ← List.append_assoc, hY, hX]
            refine Le.back (fun id => if id = 3 then 1 else 0) (by intro id hid; simp at hid) (by simp [wrU]) rfl (by intro o ho; exact wrU_cl p _ _ (by simp [wrU]) o ho) ?_ ?_
            · simp [leS, mkS, V.up]
              exact i64_id (by omega) (by omega)
            · simp only [upSt, Ob.up, map_up_lift, wrU]
              rfl
          · have en : nodeN x = putN x.1.toNat ++ (partsL x.1).flatMap fun c => putN (fld x c).toNat := rfl
            have pl := parts_len x.1
            have pm := fun c (h : c ∈ partsL x.1) => parts_mem h
            have pc := parts32 x k9
            generalize partsL x.1 = P at en pl pm pc
            refine CallW.mono (CallW.under (wrU (pgB p) .dead 1 (X.map by8)) pc (by intro o ho; simp only [List.mem_singleton] at ho; subst ho; exact ndB_cl x _) rfl) ?_
            rintro r st' ⟨r0, s0, ⟨rfl, rfl⟩, _, rfl, rfl⟩
            rw [show [ndB x, ptrB 0 P].map (Ob.ren fun i => (wrU (pgB p) .dead 1 (X.map by8)).length + i) = [ndB x, ptrB 4 P] by
              simp only [List.map_cons, List.map_nil]
              rw [ptr_ren]
              rfl]
            repeat ((conv => whnf); first | refine Br.t ?_ | refine Br.f ?_ | refine ⟨rfl, ?_⟩)
            conv => whnf
            refine loop_ok (α := Nat) (fun j => ⟨mkS 79 [(1, .ptr 0 0 0 0), (2, .nils), (3, .i (.int .i64 0)), (7, .ptr 1 0 0 0), (47, .i (.sl (p.fs.map encF))), (48, .i (.int .i64 (p.fs.map encF).length)), (49, .i (.int .i64 f)), (56, .i (.sl (L.map encNd))), (57, .i (.int .i64 (L.map encNd).length)), (58, .i (.int .i64 i)), (65, .ref 5 1 0 P.length), (66, .i (.int .i64 P.length)), (67, .i (.int .i64 j))], wrU (pgB p) .dead 0 ((X ++ (P.take j).flatMap fun c => putN (fld x c).toNat).map by8) ++ [ndB x, ptrB 4 P]⟩)
              (fun j => j ≤ P.length) (fun j => P.length - j) 0 (Nat.zero_le _) ?_ (fun j hj => wpx_ok (own := own0) _ _ _ ?_)
            · rw [List.take_zero, List.flatMap_nil, List.append_nil]
              refine Le.down (fun id => if id = 3 then 1 else 0) (by intro id hid; simp at hid) ?_ ?_
              · simp [leS, mkS, V.up]
              · simp only [upSt, Ob.up, map_up_lift, wrU, List.cons_append, List.nil_append, ptrB]
                rw [ptr_up _ _ (by decide)]
                rfl
            have hfl : ((P.take j).flatMap fun c => putN (fld x c).toNat).length ≤ 15 := by
              have h1 := flat_le (b := 5) (l := P.take j) (f := fun c => putN (fld x c).toNat) (fun c hc => put_le (by have := kf c; omega))
              have h2 : (P.take j).length ≤ 3 := by rw [List.length_take]; omega
              omega
            have hVl : (X ++ (P.take j).flatMap fun c => putN (fld x c).toNat).length ≤ 22100 := by rw [List.length_append]; omega
            obtain ⟨W, hW⟩ : ∃ W, (X ++ (P.take j).flatMap fun c => putN (fld x c).toNat) = W := ⟨_, rfl⟩
            rw [hW] at hVl ⊢
            repeat ((conv => whnf); first | refine Br.t ?_ | refine Br.f ?_ | refine ⟨rfl, ?_⟩)
            conv => whnf
            refine Br.mk (fun g2 => ?_) (fun g2 => ?_)
            · have g2 : j < P.length := by simp at g2; omega
              obtain ⟨c, hc⟩ : ∃ c, c = P[j] := ⟨_, rfl⟩
              have hcm : c ∈ P := hc ▸ List.getElem_mem g2
              have eP : (P.map fun c => [V.ptr 4 0 0 c]).getD (0 + (j : Int).toNat) [] = [V.ptr 4 0 0 c] := by rw [hc, Nat.zero_add, Int.toNat_natCast]; simp [List.getD_eq_getElem?_getD, g2]
              have etc : P.take (j + 1) = P.take j ++ [c] := by rw [hc]; simp
              have hf := kf c
              have ef : (((fld x c).toNat : Nat) : Int) = fld x c := by omega
              have cn := num 0 (W.map by8) (fld x c).toNat (by omega) (by rw [List.length_map]; omega)
              rw [ef] at cn
              repeat ((conv => whnf); first | refine Br.t ?_ | refine Br.f ?_ | refine ⟨rfl, ?_⟩)
              conv => whnf
              refine ⟨by omega, ?_⟩
              repeat ((conv => whnf); first | refine Br.t ?_ | refine Br.f ?_ | refine ⟨rfl, ?_⟩)
              conv => whnf
              rw [eP]
              repeat ((conv => whnf); first | refine Br.t ?_ | refine Br.f ?_ | refine ⟨rfl, ?_⟩)
              conv => whnf
              have hcc := pm c hcm
              rcases hcc with rfl | rfl | rfl
              · repeat ((conv => whnf); first | refine Br.t ?_ | refine Br.f ?_ | refine ⟨rfl, ?_⟩)
                conv => whnf
                refine CallW.mono (upP (pgB p) .dead [ndB x, ptrB 4 P] cn rfl rfl) ?_
                rintro r st' ⟨rfl, rfl⟩
                rw [← List.map_append]
                repeat ((conv => whnf); first | refine Br.t ?_ | refine Br.f ?_ | refine ⟨rfl, ?_⟩)
                conv => whnf
                refine ⟨j + 1, by omega, by omega, ?_⟩
                rw [etc, List.flatMap_append, List.flatMap_singleton, ← List.append_assoc, hW]
                refine Le.down (fun id => if id = 3 then 1 else 0) (by intro id hid; simp at hid) ?_ ?_
                · simp [leS, mkS, V.up]
                  exact i64_id (by omega) (by omega)
                · simp only [upSt, Ob.up, map_up_lift, wrU, List.cons_append, List.nil_append, ptrB]
                  rw [ptr_up _ _ (by decide)]
                  rfl
              · repeat ((conv => whnf); first | refine Br.t ?_ | refine Br.f ?_ | refine ⟨rfl, ?_⟩)
                conv => whnf
                refine CallW.mono (upP (pgB p) .dead [ndB x, ptrB 4 P] cn rfl rfl) ?_
                rintro r st' ⟨rfl, rfl⟩
                rw [← List.map_append]
                repeat ((conv => whnf); first | refine Br.t ?_ | refine Br.f ?_ | refine ⟨rfl, ?_⟩)
                conv => whnf
                refine ⟨j + 1, by omega, by omega, ?_⟩
                rw [etc, List.flatMap_append, List.flatMap_singleton, ← List.append_assoc, hW]
                refine Le.down (fun id => if id = 3 then 1 else 0) (by intro id hid; simp at hid) ?_ ?_
                · simp [leS, mkS, V.up]
                  exact i64_id (by omega) (by omega)
                · simp only [upSt, Ob.up, map_up_lift, wrU, List.cons_append, List.nil_append, ptrB]
                  rw [ptr_up _ _ (by decide)]
                  rfl
              · repeat ((conv => whnf); first | refine Br.t ?_ | refine Br.f ?_ | refine ⟨rfl, ?_⟩)
                conv => whnf
                refine CallW.mono (upP (pgB p) .dead [ndB x, ptrB 4 P] cn rfl rfl) ?_
                rintro r st' ⟨rfl, rfl⟩
                rw [← List.map_append]
                repeat ((conv => whnf); first | refine Br.t ?_ | refine Br.f ?_ | refine ⟨rfl, ?_⟩)
                conv => whnf
                refine ⟨j + 1, by omega, by omega, ?_⟩
                rw [etc, List.flatMap_append, List.flatMap_singleton, ← List.append_assoc, hW]
                refine Le.down (fun id => if id = 3 then 1 else 0) (by intro id hid; simp at hid) ?_ ?_
                · simp [leS, mkS, V.up]
                  exact i64_id (by omega) (by omega)
                · simp only [upSt, Ob.up, map_up_lift, wrU, List.cons_append, List.nil_append, ptrB]
                  rw [ptr_up _ _ (by decide)]
                  rfl
            · have g2 : j = P.length := by simp at g2; omega
              subst g2
              repeat ((conv => whnf); first | refine Br.t ?_ | refine Br.f ?_ | refine ⟨rfl, ?_⟩)
              conv => whnf
              rw [List.take_length] at hW
              refine ⟨i + 1, by omega, by omega, ?_⟩
              rw [etx, List.flatMap_append, show [x].flatMap nodeN = nodeN x by simp, en, ← List.append_assoc, hY, ← List.append_assoc, hX, hW]
              refine Le.back (fun _ => 0) (by intro id hid; rfl) (by simp [wrU]) rfl (by intro o ho; exact wrU_cl p _ _ (by simp [wrU]) o ho) ?_ ?_
              · simp [leS, mkS, V.up]
                exact i64_id (by omega) (by omega)
              · simp only [upSt, Ob.up, map_up_lift, wrU]
                rfl
        · have g1 : i = L.length := by simp at g1; omega
          subst g1
          repeat ((conv => whnf); first | refine Br.t ?_ | refine Br.f ?_ | refine ⟨rfl, ?_⟩)
          conv => whnf
          refine ⟨f + 1, by omega, by omega, ?_⟩
          rw [etL, List.flatMap_append, show [L].flatMap fnN = fnN L by simp, ← List.append_assoc, hZ, List.take_length, fnN, ← List.append_assoc]
          refine Le.slots ?_
          simp [leS, mkS]
          exact i64_id (by omega) (by omega)
      · have g : f = p.fs.length := by simp at g; omega
        subst g
        repeat ((conv => whnf); first | refine Br.t ?_ | refine Br.f ?_ | refine ⟨rfl, ?_⟩)
        conv => whnf
        have h1 := hA 4
        rw [List.take_of_length_le (by simp [numsP])] at h1
        have h2 := hB p.fs.length
        rw [List.take_length] at h2 ⊢
        refine CallW.mono (upP (pgB p) .dead [] (bytes 0 ((progN p).map by8) (bytes_one _) (by simp [progN, alp]; simp at h1 h2; omega)) rfl rfl) ?_
        rintro r st' ⟨rfl, rfl⟩
        repeat ((conv => whnf); first | refine Br.t ?_ | refine Br.f ?_ | refine ⟨rfl, ?_⟩)
        conv => whnf
        refine fin (target := []) rfl (Nat.zero_le _) (by simp) rfl rfl
  · rw [if_neg hz]
    repeat ((conv => whnf); first | refine Br.t ?_ | refine Br.f ?_ | refine ⟨rfl, ?_⟩)
    conv => whnf
    refine Br.mk (fun q => ?_) (fun q => by simp at q; exact absurd q hz)
    repeat ((conv => whnf); first | refine Br.t ?_ | refine Br.f ?_ | refine ⟨rfl, ?_⟩)
    conv => whnf
    refine fin (target := []) rfl (Nat.zero_le _) (by simp) rfl rfl
end Go.Proofs.Ytdbmfnhbgacldaa.Am

/- Plain laws and contracts: programs that may be are alike just if their bytes are. -/
namespace Go.Proofs.Ytdbmfnhbgacldaa.Am
set_option autoImplicit false
set_option linter.unusedVariables false
set_option linter.unusedSimpArgs false
set_option maxRecDepth 10000
set_option pp.maxSteps 20000
set_option pp.proofs false
theorem put_inj {n m : Nat} {r r' : List Nat} (hn : n < 4294967296) (hm : m < 4294967296) (h : putN n ++ r = putN m ++ r') : n = m ∧ r = r' := by
  have h1 := getV_put n 0 0 r (by omega) (by omega)
  have h2 := getV_put m 0 0 r' (by omega) (by omega)
  rw [h, h2] at h1
  simp at h1
  have e : m = n := h1.1
  subst e
  exact ⟨rfl, List.append_cancel_left h⟩
theorem flds_inj {x y : Nd} (hx : ndOk x) (hy : ndOk y) : ∀ (l : List Nat) (r r' : List Nat), (l.flatMap fun c => putN (fld x c).toNat) ++ r = (l.flatMap fun c => putN (fld y c).toNat) ++ r' → (∀ c ∈ l, fld x c = fld y c) ∧ r = r'
  | [], r, r', h => ⟨by simp, h⟩
  | c :: l, r, r', h => by
    rw [List.flatMap_cons, List.flatMap_cons, List.append_assoc, List.append_assoc] at h
    have h1 := hx.2.1 c
    have h2 := hy.2.1 c
    obtain ⟨e1, e2⟩ := put_inj (by omega) (by omega) h
    obtain ⟨e3, e4⟩ := flds_inj hx hy l r r' e2
    refine ⟨fun d hd => ?_, e4⟩
    simp only [List.mem_cons] at hd
    rcases hd with rfl | hd
    · omega
    · exact e3 d hd
theorem node_inj {x y : Nd} {r r' : List Nat} (hx : ndOk x) (hy : ndOk y) (h : nodeN x ++ r = nodeN y ++ r') : x = y ∧ r = r' := by
  rw [nodeN, nodeN, List.append_assoc, List.append_assoc] at h
  have h1 := hx.1
  have h2 := hy.1
  obtain ⟨e1, e2⟩ := put_inj (by omega) (by omega) h
  have ek : x.1 = y.1 := by omega
  rw [ek] at e2
  obtain ⟨e3, e4⟩ := flds_inj hx hy _ r r' e2
  have key : ∀ c, c = 1 ∨ c = 2 ∨ c = 3 → fld x c = fld y c := by
    intro c hc
    by_cases hm : c ∈ partsL y.1
    · exact e3 c hm
    · rw [hx.2.2 c hc (by rw [ek]; exact hm), hy.2.2 c hc hm]
  have k1 := key 1 (by omega)
  have k2 := key 2 (by omega)
  have k3 := key 3 (by omega)
  obtain ⟨x1, x2, x3, x4⟩ := x
  obtain ⟨y1, y2, y3, y4⟩ := y
  simp only [fld] at k1 k2 k3 ek
  simp at k1 k2 k3
  refine ⟨?_, e4⟩
  rw [ek, k1, k2, k3]
theorem nodes_inj : ∀ (l m : List Nd) (r r' : List Nat), l.length = m.length → (∀ x ∈ l, ndOk x) → (∀ x ∈ m, ndOk x) → l.flatMap nodeN ++ r = m.flatMap nodeN ++ r' → l = m ∧ r = r'
  | [], [], r, r', _, _, _, h => ⟨rfl, h⟩
  | [], y :: m, r, r', hl, _, _, h => by simp at hl
  | x :: l, [], r, r', hl, _, _, h => by simp at hl
  | x :: l, y :: m, r, r', hl, hx, hy, h => by
    rw [List.flatMap_cons, List.flatMap_cons, List.append_assoc, List.append_assoc] at h
    obtain ⟨e1, e2⟩ := node_inj (hx x (by simp)) (hy y (by simp)) h
    obtain ⟨e3, e4⟩ := nodes_inj l m r r' (by simpa using hl) (fun z hz => hx z (by simp [hz])) (fun z hz => hy z (by simp [hz])) e2
    exact ⟨by rw [e1, e3], e4⟩
theorem fns_inj : ∀ (l m : List (List Nd)), l.length = m.length → (∀ L ∈ l, L.length ≤ 64 ∧ ∀ x ∈ L, ndOk x) → (∀ L ∈ m, L.length ≤ 64 ∧ ∀ x ∈ L, ndOk x) → l.flatMap fnN = m.flatMap fnN → l = m
  | [], [], _, _, _, h => rfl
  | [], y :: m, hl, _, _, h => by simp at hl
  | x :: l, [], hl, _, _, h => by simp at hl
  | x :: l, y :: m, hl, hx, hy, h => by
    rw [List.flatMap_cons, List.flatMap_cons, fnN, fnN, List.append_assoc, List.append_assoc] at h
    have a := (hx x (by simp)).1
    have b := (hy y (by simp)).1
    obtain ⟨e1, e2⟩ := put_inj (by omega) (by omega) h
    obtain ⟨e3, e4⟩ := nodes_inj x y _ _ e1 (hx x (by simp)).2 (hy y (by simp)).2 e2
    have e5 := fns_inj l m (by simpa using hl) (fun z hz => hx z (by simp [hz])) (fun z hz => hy z (by simp [hz])) e4
    rw [e3, e5]
theorem prog_inj {p q : Pg} (hp : PgOk p) (hq : PgOk q) (h : progN p = progN q) : p.g = q.g ∧ p.l = q.l ∧ p.s = q.s ∧ p.fs = q.fs := by
  unfold progN numsP at h
  rw [List.append_assoc, List.append_assoc] at h
  have h := List.append_cancel_left h
  simp only [List.flatMap_cons, List.flatMap_nil, List.append_assoc, List.nil_append] at h
  have := hp.g; have := hq.g; have := hp.l; have := hq.l; have := hp.s; have := hq.s; have := hp.n; have := hq.n
  obtain ⟨e1, h⟩ := put_inj (by omega) (by omega) h
  obtain ⟨e2, h⟩ := put_inj (by omega) (by omega) h
  obtain ⟨e3, h⟩ := put_inj (by omega) (by omega) h
  obtain ⟨e4, h⟩ := put_inj (by omega) (by omega) h
  refine ⟨by omega, by omega, by omega, fns_inj _ _ e4 (fun L hL => ⟨(hp.f L hL).2.1, fun x hx => hp.nd hL hx⟩) (fun L hL => ⟨(hq.f L hL).2.1, fun x hx => hq.nd hL hx⟩) h⟩
theorem samePg_iff {p q : Pg} : samePg p q = true ↔ p = q := by
  obtain ⟨g, l, s, fs⟩ := p
  obtain ⟨g', l', s', fs'⟩ := q
  simp [samePg]
  constructor
  · rintro ⟨⟨⟨a, b⟩, c⟩, d⟩; exact ⟨a, b, c, d⟩
  · rintro ⟨a, b, c, d⟩; exact ⟨⟨⟨a, b⟩, c⟩, d⟩
theorem progN_byte {p : Pg} (h : PgOk p) : (∀ b ∈ progN p, b < 256) ∧ (progN p).length ≤ 22000 := by
  refine ⟨fun b hb => ?_, ?_⟩
  · simp only [progN, alp, List.mem_append, List.mem_flatMap, fnN, nodeN] at hb
    rcases hb with (hb | ⟨n, _, hb⟩) | ⟨L, _, hb | ⟨x, _, hb | ⟨c, _, hb⟩⟩⟩
    · simp at hb; omega
    · exact putN_byte _ b hb
    · exact putN_byte _ b hb
    · exact putN_byte _ b hb
    · exact putN_byte _ b hb
  · have h1 := flat_le (b := 5) (l := numsP p) (f := putN) (fun x hx => put_le (by
      have := h.g; have := h.l; have := h.s; have := h.n
      simp [numsP] at hx
      omega))
    have h2 := flat_le (b := 1285) (l := p.fs) (f := fnN) (fun L hL => fn_len (h.f L hL).2.1 (fun x hx => h.nd hL hx))
    have := h.n
    rw [progN, List.length_append, List.length_append]
    simp only [alp, numsP, List.length_cons, List.length_nil] at h1 ⊢
    omega
def p0 : Pg := ⟨0, 0, 0, [[(9, 0, 0, 0)]]⟩
theorem chk_p0 : (chk p0).2.2 = 0 := by decide
theorem prog_p0 : progN p0 = [97, 108, 112, 49, 0, 0, 0, 1, 1, 9] := by
  show alp ++ (putN 0 ++ (putN 0 ++ (putN 0 ++ (putN 1 ++ [])))) ++ ((putN 1 ++ ((putN 9 ++ []) ++ [])) ++ []) = _
  rw [(num_nat 0).2 (by decide), (num_nat 1).2 (by decide), (num_nat 9).2 (by decide)]
  rfl
theorem okPg_p0 : okPg p0 := ⟨by decide, by decide⟩
theorem awake15 : CallW Try.prog G0 15 [] [] (fun r st' => r = .i (.bool true) ∧ st' = []) := by
  refine call_of_bodyF 0 (Nat.le_refl _) Try.func15 rfl (fun a w => Try.call15 a w) (wpx_ok (own := own0) _ _ _ ?_)
  repeat ((conv => whnf); first | refine Br.t ?_ | refine Br.f ?_ | refine ⟨rfl, ?_⟩)
  conv => whnf
  have c := write17 p0 okPg_p0
  rw [if_pos chk_p0, chk_p0, prog_p0] at c
  refine CallW.mono (c.pure _ rfl rfl) ?_
  rintro r st' ⟨rfl, rfl⟩
  repeat ((conv => whnf); first | refine Br.t ?_ | refine Br.f ?_ | refine ⟨rfl, ?_⟩)
  conv => whnf
  refine ⟨isB_ok (isB_map [97, 108, 112, 49, 0, 0, 0, 1, 1, 9]), ?_⟩
  repeat ((conv => whnf); first | refine Br.t ?_ | refine Br.f ?_ | refine ⟨rfl, ?_⟩)
  conv => whnf
  refine fin (target := []) rfl (Nat.zero_le _) (by simp) rfl rfl
set_option maxHeartbeats 1000000 in
theorem law4 (p q : Pg) (hp : okPg p) (hq : okPg q) : CallW Try.prog G0 4 [pgV p, pgV q] [] (fun r st' => r = .i (.bool true) ∧ st' = []) := by
  refine call_of_bodyF 0 (Nat.le_refl _) Try.func4 rfl (fun a w => Try.call4 a w) (wpx_ok (own := own0) _ _ _ ?_)
  repeat ((conv => whnf); first | refine Br.t ?_ | refine Br.f ?_ | refine ⟨rfl, ?_⟩)
  conv => whnf
  refine CallW.mono (awake15.pure _ rfl rfl) ?_
  rintro r st' ⟨rfl, rfl⟩
  repeat ((conv => whnf); first | refine Br.t ?_ | refine Br.f ?_ | refine ⟨rfl, ?_⟩)
  conv => whnf
  refine CallW.mono ((small16 p hp).pure _ rfl rfl) ?_
  rintro r st' ⟨rfl, rfl⟩
  repeat ((conv => whnf); first | refine Br.t ?_ | refine Br.f ?_ | refine ⟨rfl, ?_⟩)
  conv => whnf
  refine Br.mk (fun z => ?_) (fun z => ?_)
  · repeat ((conv => whnf); first | refine Br.t ?_ | refine Br.f ?_ | refine ⟨rfl, ?_⟩)
    conv => whnf
    refine CallW.mono (awake15.pure _ rfl rfl) ?_
    rintro r st' ⟨rfl, rfl⟩
    repeat ((conv => whnf); first | refine Br.t ?_ | refine Br.f ?_ | refine ⟨rfl, ?_⟩)
    conv => whnf
    refine fin (target := []) rfl (Nat.zero_le _) (by simp) rfl rfl
  · repeat ((conv => whnf); first | refine Br.t ?_ | refine Br.f ?_ | refine ⟨rfl, ?_⟩)
    conv => whnf
    refine CallW.mono ((small16 q hq).pure _ rfl rfl) ?_
    rintro r st' ⟨rfl, rfl⟩
    repeat ((conv => whnf); first | refine Br.t ?_ | refine Br.f ?_ | refine ⟨rfl, ?_⟩)
    conv => whnf
    refine Br.mk (fun z => ?_) (fun z => ?_)
    · repeat ((conv => whnf); first | refine Br.t ?_ | refine Br.f ?_ | refine ⟨rfl, ?_⟩)
      conv => whnf
      refine CallW.mono (awake15.pure _ rfl rfl) ?_
      rintro r st' ⟨rfl, rfl⟩
      repeat ((conv => whnf); first | refine Br.t ?_ | refine Br.f ?_ | refine ⟨rfl, ?_⟩)
      conv => whnf
      refine fin (target := []) rfl (Nat.zero_le _) (by simp) rfl rfl
    · repeat ((conv => whnf); first | refine Br.t ?_ | refine Br.f ?_ | refine ⟨rfl, ?_⟩)
      conv => whnf
      refine CallW.mono ((write17 p hp).pure _ rfl rfl) ?_
      rintro r st' ⟨rfl, rfl⟩
      repeat ((conv => whnf); first | refine Br.t ?_ | refine Br.f ?_ | refine ⟨rfl, ?_⟩)
      conv => whnf
      refine CallW.mono ((write17 q hq).pure _ rfl rfl) ?_
      rintro r st' ⟨rfl, rfl⟩
      by_cases h1 : (chk p).2.2 = 0
      · by_cases h2 : (chk q).2.2 = 0
        · have op := chk_zero h1
          have oq := chk_zero h2
          have ei : strOf (progN p) = strOf (progN q) ↔ p = q := by
            constructor
            · intro e
              have e1 := strOf_inj (progN_byte op).1 (progN_byte oq).1 e
              obtain ⟨a, b, c, d⟩ := prog_inj op oq e1
              obtain ⟨g, l, s, fs⟩ := p
              obtain ⟨g', l', s', fs'⟩ := q
              simp only at a b c d
              rw [a, b, c, d]
            · rintro rfl; rfl
          rw [if_pos h1, if_pos h2, h1, h2]
          repeat ((conv => whnf); first | refine Br.t ?_ | refine Br.f ?_ | refine ⟨rfl, ?_⟩)
          conv => whnf
          refine draw_ok (own := own0) [] [] [(.i (.bool (samePg p q)), [pgB p, pgB q])] rfl (by kernel_rfl) (Nat.zero_le _) ?_
          repeat ((conv => whnf); first | refine Br.t ?_ | refine Br.f ?_ | refine ⟨rfl, ?_⟩)
          conv => whnf
          refine ⟨isB_ok (isB_map (progN p)), ?_⟩
          repeat ((conv => whnf); first | refine Br.t ?_ | refine Br.f ?_ | refine ⟨rfl, ?_⟩)
          conv => whnf
          refine ⟨isB_ok (isB_map (progN q)), ?_⟩
          repeat ((conv => whnf); first | refine Br.t ?_ | refine Br.f ?_ | refine ⟨rfl, ?_⟩)
          conv => whnf
          refine ⟨(same18 p q hp hq).pure _ rfl rfl, ?_⟩
          repeat ((conv => whnf); first | refine Br.t ?_ | refine Br.f ?_ | refine ⟨rfl, ?_⟩)
          conv => whnf
          refine ⟨by repeat ((conv => whnf); first | exact trivial | refine ⟨rfl, ?_⟩), trivial, ?_⟩
          conv => whnf
          refine fin (target := []) rfl (Nat.zero_le _) (by simp) ?_ rfl
          show V.i (I.bool (((strOf (progN p)).data.toList == (strOf (progN q)).data.toList) == samePg p q)) = _
          by_cases e : p = q
          · rw [samePg_iff.2 e, e]; simp
          · have e1 : samePg p q = false := by rw [Bool.eq_false_iff]; exact fun h => e (samePg_iff.1 h)
            have e2 : ((strOf (progN p)).data.toList == (strOf (progN q)).data.toList) = false := by
              rw [Bool.eq_false_iff]
              intro h
              apply e
              apply ei.1
              apply ByteArray.ext
              apply Array.toList_inj.1
              simpa using h
            rw [e1, e2]; rfl
        · rw [if_pos h1, if_neg h2, h1]
          repeat ((conv => whnf); first | refine Br.t ?_ | refine Br.f ?_ | refine ⟨rfl, ?_⟩)
          conv => whnf
          refine Br.mk (fun z => ?_) (fun z => by simp at z; exact absurd z h2)
          repeat ((conv => whnf); first | refine Br.t ?_ | refine Br.f ?_ | refine ⟨rfl, ?_⟩)
          conv => whnf
          refine fin (target := []) rfl (Nat.zero_le _) (by simp) rfl rfl
      · rw [if_neg h1]
        repeat ((conv => whnf); first | refine Br.t ?_ | refine Br.f ?_ | refine ⟨rfl, ?_⟩)
        conv => whnf
        refine Br.mk (fun z => ?_) (fun z => by simp at z; exact absurd z h1)
        repeat ((conv => whnf); first | refine Br.t ?_ | refine Br.f ?_ | refine ⟨rfl, ?_⟩)
        conv => whnf
        refine fin (target := []) rfl (Nat.zero_le _) (by simp) rfl rfl
end Go.Proofs.Ytdbmfnhbgacldaa.Am
