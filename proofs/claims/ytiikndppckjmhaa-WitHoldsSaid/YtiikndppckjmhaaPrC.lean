/- Contracts: which nodes may be. -/
import Derived.Test.YtiikndppckjmhaaBsA
import Derived.Test.YtiikndppckjmhaaAmZ
import Derived.Test.YtiikndppckjmhaaAmRf
namespace Go.Proofs.Ytiikndppckjmhaa.Am
set_option autoImplicit false
set_option linter.unusedVariables false
set_option linter.unusedSimpArgs false
set_option maxRecDepth 10000
set_option pp.maxSteps 20000
set_option pp.proofs false
abbrev Nd := Int × Int × Int × Int
def encNd (n : Nd) : List I := [.int .i64 n.1, .int .i64 n.2.1, .int .i64 n.2.2.1, .int .i64 n.2.2.2]
def encF (f : List Nd) : List I := [.sl (f.map encNd)]
structure Pg where
  g : Int
  l : Int
  s : Int
  fs : List (List Nd)
def encP4 (p : Pg) : List I := [.int .i64 p.g, .int .i64 p.l, .int .i64 p.s, .sl (p.fs.map encF)]
def pgV (p : Pg) : V := .agg ((encP4 p).map .i)
def pgB (p : Pg) : Ob := .row 0 4 false [(encP4 p).map .i]
def ndV (n : Nd) : V := .agg ((encNd n).map .i)
def fieldsF (p : Pg) (k z : Int) : Int × Int × Int × Bool :=
  if k = 0 then (0, z, 0, true) else if k = 1 ∨ k = 2 then (p.g, z, 0, decide (p.g > 0)) else if k = 3 ∨ k = 4 then (p.l, z, 0, decide (p.l > 0)) else
  if k = 5 then ((p.fs.length : Int), z, p.s, decide (p.s > 0) && decide ((p.fs.length : Int) > 0)) else if k = 6 then (p.s, z, 0, decide (p.s > 0)) else
  if k = 7 then ((p.fs.length : Int), z, 0, decide ((p.fs.length : Int) > 0)) else if k = 8 then (0, z, z, true) else if k = 9 then (0, 0, 0, true) else (0, 0, 0, false)
def fldV (r : Int × Int × Int × Bool) : V := .tup [.i (.int .i64 r.1), .i (.int .i64 r.2.1), .i (.int .i64 r.2.2.1), .i (.bool r.2.2.2)]
set_option maxHeartbeats 1000000 in
theorem fields55 (p : Pg) (k z : Int) : CallW Try.prog G0 111 [pgV p, .i (.int .i64 k), .i (.int .i64 z)] [] (fun r st' => r = fldV (fieldsF p k z) ∧ st' = []) := by
  refine call_of_bodyF 0 (Nat.le_refl _) Try.func111 rfl (fun a w => Try.call111 a w) (wpx_ok (own := own0) _ _ _ ?_)
  repeat ((conv => whnf); first | refine Br.t ?_ | refine Br.f ?_ | refine ⟨rfl, ?_⟩)
  conv => whnf
  refine Br.mk (fun h => ?_) (fun h0 => ?_)
  · have hk : k = 0 := by simpa using h
    subst hk
    repeat ((conv => whnf); first | refine Br.t ?_ | refine Br.f ?_ | refine ⟨rfl, ?_⟩)
    conv => whnf
    refine fin (target := []) rfl (Nat.zero_le _) (by simp) rfl rfl
  · have h0 : k ≠ 0 := by simpa using h0
    repeat ((conv => whnf); first | refine Br.t ?_ | refine Br.f ?_ | refine ⟨rfl, ?_⟩)
    conv => whnf
    refine Br.mk (fun h => ?_) (fun h1 => ?_)
    · have hk : k = 1 := by simpa using h
      subst hk
      repeat ((conv => whnf); first | refine Br.t ?_ | refine Br.f ?_ | refine ⟨rfl, ?_⟩)
      conv => whnf
      refine draw_ok (own := own0) [] [] [] rfl (by kernel_rfl) (Nat.zero_le _) ?_
      repeat ((conv => whnf); first | refine Br.t ?_ | refine Br.f ?_ | refine ⟨rfl, ?_⟩)
      conv => whnf
      refine ⟨by repeat ((conv => whnf); first | exact trivial | refine ⟨rfl, ?_⟩), trivial, ?_⟩
      conv => whnf
      refine fin (target := []) rfl (Nat.zero_le _) (by simp) rfl rfl
    · have h1 : k ≠ 1 := by simpa using h1
      repeat ((conv => whnf); first | refine Br.t ?_ | refine Br.f ?_ | refine ⟨rfl, ?_⟩)
      conv => whnf
      refine Br.mk (fun h => ?_) (fun h2 => ?_)
      · have hk : k = 2 := by simpa using h
        subst hk
        repeat ((conv => whnf); first | refine Br.t ?_ | refine Br.f ?_ | refine ⟨rfl, ?_⟩)
        conv => whnf
        refine draw_ok (own := own0) [] [] [] rfl (by kernel_rfl) (Nat.zero_le _) ?_
        repeat ((conv => whnf); first | refine Br.t ?_ | refine Br.f ?_ | refine ⟨rfl, ?_⟩)
        conv => whnf
        refine ⟨by repeat ((conv => whnf); first | exact trivial | refine ⟨rfl, ?_⟩), trivial, ?_⟩
        conv => whnf
        refine fin (target := []) rfl (Nat.zero_le _) (by simp) rfl rfl
      · have h2 : k ≠ 2 := by simpa using h2
        repeat ((conv => whnf); first | refine Br.t ?_ | refine Br.f ?_ | refine ⟨rfl, ?_⟩)
        conv => whnf
        refine Br.mk (fun h => ?_) (fun h3 => ?_)
        · have hk : k = 3 := by simpa using h
          subst hk
          repeat ((conv => whnf); first | refine Br.t ?_ | refine Br.f ?_ | refine ⟨rfl, ?_⟩)
          conv => whnf
          refine draw_ok (own := own0) [] [] [] rfl (by kernel_rfl) (Nat.zero_le _) ?_
          repeat ((conv => whnf); first | refine Br.t ?_ | refine Br.f ?_ | refine ⟨rfl, ?_⟩)
          conv => whnf
          refine ⟨by repeat ((conv => whnf); first | exact trivial | refine ⟨rfl, ?_⟩), trivial, ?_⟩
          conv => whnf
          refine fin (target := []) rfl (Nat.zero_le _) (by simp) rfl rfl
        · have h3 : k ≠ 3 := by simpa using h3
          repeat ((conv => whnf); first | refine Br.t ?_ | refine Br.f ?_ | refine ⟨rfl, ?_⟩)
          conv => whnf
          refine Br.mk (fun h => ?_) (fun h4 => ?_)
          · have hk : k = 4 := by simpa using h
            subst hk
            repeat ((conv => whnf); first | refine Br.t ?_ | refine Br.f ?_ | refine ⟨rfl, ?_⟩)
            conv => whnf
            refine draw_ok (own := own0) [] [] [] rfl (by kernel_rfl) (Nat.zero_le _) ?_
            repeat ((conv => whnf); first | refine Br.t ?_ | refine Br.f ?_ | refine ⟨rfl, ?_⟩)
            conv => whnf
            refine ⟨by repeat ((conv => whnf); first | exact trivial | refine ⟨rfl, ?_⟩), trivial, ?_⟩
            conv => whnf
            refine fin (target := []) rfl (Nat.zero_le _) (by simp) rfl rfl
          · have h4 : k ≠ 4 := by simpa using h4
            repeat ((conv => whnf); first | refine Br.t ?_ | refine Br.f ?_ | refine ⟨rfl, ?_⟩)
            conv => whnf
            refine Br.mk (fun h => ?_) (fun h5 => ?_)
            · have hk : k = 5 := by simpa using h
              subst hk
              repeat ((conv => whnf); first | refine Br.t ?_ | refine Br.f ?_ | refine ⟨rfl, ?_⟩)
              conv => whnf
              refine draw_ok (own := own0) [] [] [] rfl (by kernel_rfl) (Nat.zero_le _) ?_
              repeat ((conv => whnf); first | refine Br.t ?_ | refine Br.f ?_ | refine ⟨rfl, ?_⟩)
              conv => whnf
              refine Br.mk (fun q => ?_) (fun q => ?_)
              · repeat ((conv => whnf); first | refine Br.t ?_ | refine Br.f ?_ | refine ⟨rfl, ?_⟩)
                conv => whnf
                refine ⟨by repeat ((conv => whnf); first | exact trivial | refine ⟨rfl, ?_⟩), trivial, ?_⟩
                conv => whnf
                refine fin (target := []) rfl (Nat.zero_le _) (by simp) ?_ rfl
                show _ = V.tup [.i (.int .i64 p.fs.length), .i (.int .i64 z), .i (.int .i64 p.s), .i (.bool (decide (p.s > 0) && decide ((p.fs.length : Int) > 0)))]
                rw [q, List.length_map]
                rfl
              · repeat ((conv => whnf); first | refine Br.t ?_ | refine Br.f ?_ | refine ⟨rfl, ?_⟩)
                conv => whnf
                refine ⟨by repeat ((conv => whnf); first | exact trivial | refine ⟨rfl, ?_⟩), trivial, ?_⟩
                conv => whnf
                refine fin (target := []) rfl (Nat.zero_le _) (by simp) ?_ rfl
                show _ = V.tup [.i (.int .i64 p.fs.length), .i (.int .i64 z), .i (.int .i64 p.s), .i (.bool (decide (p.s > 0) && decide ((p.fs.length : Int) > 0)))]
                rw [q, List.length_map]
                rfl
            · have h5 : k ≠ 5 := by simpa using h5
              repeat ((conv => whnf); first | refine Br.t ?_ | refine Br.f ?_ | refine ⟨rfl, ?_⟩)
              conv => whnf
              refine Br.mk (fun h => ?_) (fun h6 => ?_)
              · have hk : k = 6 := by simpa using h
                subst hk
                repeat ((conv => whnf); first | refine Br.t ?_ | refine Br.f ?_ | refine ⟨rfl, ?_⟩)
                conv => whnf
                refine draw_ok (own := own0) [] [] [] rfl (by kernel_rfl) (Nat.zero_le _) ?_
                repeat ((conv => whnf); first | refine Br.t ?_ | refine Br.f ?_ | refine ⟨rfl, ?_⟩)
                conv => whnf
                refine ⟨by repeat ((conv => whnf); first | exact trivial | refine ⟨rfl, ?_⟩), trivial, ?_⟩
                conv => whnf
                refine fin (target := []) rfl (Nat.zero_le _) (by simp) rfl rfl
              · have h6 : k ≠ 6 := by simpa using h6
                repeat ((conv => whnf); first | refine Br.t ?_ | refine Br.f ?_ | refine ⟨rfl, ?_⟩)
                conv => whnf
                refine Br.mk (fun h => ?_) (fun h7 => ?_)
                · have hk : k = 7 := by simpa using h
                  subst hk
                  repeat ((conv => whnf); first | refine Br.t ?_ | refine Br.f ?_ | refine ⟨rfl, ?_⟩)
                  conv => whnf
                  refine fin (target := []) rfl (Nat.zero_le _) (by simp) ?_ rfl
                  simp [fieldsF, fldV]
                · have h7 : k ≠ 7 := by simpa using h7
                  repeat ((conv => whnf); first | refine Br.t ?_ | refine Br.f ?_ | refine ⟨rfl, ?_⟩)
                  conv => whnf
                  refine Br.mk (fun h => ?_) (fun h8 => ?_)
                  · have hk : k = 8 := by simpa using h
                    subst hk
                    repeat ((conv => whnf); first | refine Br.t ?_ | refine Br.f ?_ | refine ⟨rfl, ?_⟩)
                    conv => whnf
                    refine fin (target := []) rfl (Nat.zero_le _) (by simp) rfl rfl
                  · have h8 : k ≠ 8 := by simpa using h8
                    repeat ((conv => whnf); first | refine Br.t ?_ | refine Br.f ?_ | refine ⟨rfl, ?_⟩)
                    conv => whnf
                    refine Br.mk (fun h => ?_) (fun h9 => ?_)
                    · have hk : k = 9 := by simpa using h
                      subst hk
                      repeat ((conv => whnf); first | refine Br.t ?_ | refine Br.f ?_ | refine ⟨rfl, ?_⟩)
                      conv => whnf
                      refine fin (target := []) rfl (Nat.zero_le _) (by simp) rfl rfl
                    · have h9 : k ≠ 9 := by simpa using h9
                      repeat ((conv => whnf); first | refine Br.t ?_ | refine Br.f ?_ | refine ⟨rfl, ?_⟩)
                      conv => whnf
                      refine fin (target := []) rfl (Nat.zero_le _) (by simp) ?_ rfl
                      simp [fieldsF, fldV, h0, h1, h2, h3, h4, h5, h6, h7, h8, h9]
theorem within56 (n l : Int) : CallW Try.prog G0 112 [.i (.int .i64 n), .i (.int .i64 l)] [] (fun r st' => r = .i (.bool (decide (0 ≤ n) && decide (n < l))) ∧ st' = []) := by
  refine call_of_bodyF 0 (Nat.le_refl _) Try.func112 rfl (fun a w => Try.call112 a w) (wpx_ok (own := own0) _ _ _ ?_)
  conv => whnf
  refine Br.mk (fun h => ?_) (fun h => ?_)
  · simp at h
    repeat ((conv => whnf); first | refine Br.t ?_ | refine Br.f ?_ | refine ⟨rfl, ?_⟩)
    conv => whnf
    refine fin (target := []) rfl (Nat.zero_le _) (by simp) ?_ rfl
    simp [h]
  · simp at h
    repeat ((conv => whnf); first | refine Br.t ?_ | refine Br.f ?_ | refine ⟨rfl, ?_⟩)
    conv => whnf
    refine fin (target := []) rfl (Nat.zero_le _) (by simp) ?_ rfl
    rw [decide_eq_false (by omega : ¬ 0 ≤ n)]; rfl
def mx1 (x : Int) : Int := if 1 > x then 1 else x
def inB (n l : Int) : Bool := decide (0 ≤ n) && decide (n < l)
def mayF (p : Pg) (n : Nd) (z : Int) : Bool :=
  let r := fieldsF p n.1 z
  r.2.2.2 && inB n.2.1 (mx1 r.1) && inB n.2.2.1 (mx1 r.2.1) && inB n.2.2.2 (mx1 r.2.2.1)
theorem may47 (p : Pg) (n : Nd) (z : Int) : CallW Try.prog G0 98 [pgV p, ndV n, .i (.int .i64 z)] [] (fun r st' => r = .i (.bool (mayF p n z)) ∧ st' = []) := by
  refine call_of_bodyF 0 (Nat.le_refl _) Try.func98 rfl (fun a w => Try.call98 a w) (wpx_ok (own := own0) _ _ _ ?_)
  obtain ⟨k, a, x, y⟩ := n
  repeat ((conv => whnf); first | refine Br.t ?_ | refine Br.f ?_ | refine ⟨rfl, ?_⟩)
  conv => whnf
  refine CallW.mono ((fields55 p k z).pure _ rfl rfl) ?_
  rintro r st' ⟨rfl, rfl⟩
  have hm : mayF p (k, a, x, y) z = ((fieldsF p k z).2.2.2 && inB a (mx1 (fieldsF p k z).1) && inB x (mx1 (fieldsF p k z).2.1) && inB y (mx1 (fieldsF p k z).2.2.1)) := rfl
  rw [hm]
  obtain ⟨A, B, C, D⟩ := fieldsF p k z
  repeat ((conv => whnf); first | refine Br.t ?_ | refine Br.f ?_ | refine ⟨rfl, ?_⟩)
  conv => whnf
  refine Br.mk (fun h => ?_) (fun h => ?_)
  · subst h
    repeat ((conv => whnf); first | refine Br.t ?_ | refine Br.f ?_ | refine ⟨rfl, ?_⟩)
    conv => whnf
    refine CallW.mono ((within56 a (mx1 A)).pure _ rfl rfl) ?_
    rintro r st' ⟨rfl, rfl⟩
    obtain ⟨q, hq⟩ : ∃ q, inB a (mx1 A) = q := ⟨_, rfl⟩
    rw [show (decide (0 ≤ a) && decide (a < mx1 A)) = q from hq]
    simp only [hq]
    cases q with
    | false =>
      repeat ((conv => whnf); first | refine Br.t ?_ | refine Br.f ?_ | refine ⟨rfl, ?_⟩)
      conv => whnf
      refine fin (target := []) rfl (Nat.zero_le _) (by simp) rfl rfl
    | true =>
      repeat ((conv => whnf); first | refine Br.t ?_ | refine Br.f ?_ | refine ⟨rfl, ?_⟩)
      conv => whnf
      refine CallW.mono ((within56 x (mx1 B)).pure _ rfl rfl) ?_
      rintro r st' ⟨rfl, rfl⟩
      obtain ⟨q, hq⟩ : ∃ q, inB x (mx1 B) = q := ⟨_, rfl⟩
      rw [show (decide (0 ≤ x) && decide (x < mx1 B)) = q from hq]
      simp only [hq]
      cases q with
      | false =>
        repeat ((conv => whnf); first | refine Br.t ?_ | refine Br.f ?_ | refine ⟨rfl, ?_⟩)
        conv => whnf
        refine fin (target := []) rfl (Nat.zero_le _) (by simp) rfl rfl
      | true =>
        repeat ((conv => whnf); first | refine Br.t ?_ | refine Br.f ?_ | refine ⟨rfl, ?_⟩)
        conv => whnf
        refine CallW.mono ((within56 y (mx1 C)).pure _ rfl rfl) ?_
        rintro r st' ⟨rfl, rfl⟩
        repeat ((conv => whnf); first | refine Br.t ?_ | refine Br.f ?_ | refine ⟨rfl, ?_⟩)
        conv => whnf
        refine fin (target := []) rfl (Nat.zero_le _) (by simp) rfl rfl
  · subst h
    repeat ((conv => whnf); first | refine Br.t ?_ | refine Br.f ?_ | refine ⟨rfl, ?_⟩)
    conv => whnf
    refine fin (target := []) rfl (Nat.zero_le _) (by simp) rfl rfl
end Go.Proofs.Ytiikndppckjmhaa.Am
namespace Go.Proofs.Ytiikndppckjmhaa.Am
set_option autoImplicit false
set_option linter.unusedVariables false
set_option linter.unusedSimpArgs false
set_option maxRecDepth 10000
set_option pp.maxSteps 20000
set_option pp.proofs false
def elB (b : Bool) : List I := [.bool b]
def goL (f : Nat → List Bool → Bool × List Bool) : List Nd → List Bool → Bool × List Bool
  | [], t => (false, t)
  | n :: r, t => if n.1 = 7 then (if (f n.2.1.toNat t).1 then (true, (f n.2.1.toNat t).2) else goL f r (f n.2.1.toNat t).2) else goL f r t
def dfs (fs : List (List Nd)) (to : Nat) : Nat → Nat → List Bool → Bool × List Bool
  | 0 => fun _ t => (false, t)
  | k + 1 => fun fr t => if fr = to then (true, t) else if t.getD fr false then (false, t) else goL (dfs fs to k) (fs.getD fr []) (t.set fr true)
theorem count_set : ∀ (l : List Bool) (i : Nat), l[i]? = some false → (l.set i true).count false + 1 = l.count false
  | [], i, h => by simp at h
  | b :: l, 0, h => by simp at h; subst h; simp
  | b :: l, i + 1, h => by
    have := count_set l i (by simpa using h)
    simp only [List.set_cons_succ, List.count_cons]
    omega
theorem goL_len {f : Nat → List Bool → Bool × List Bool} (hf : ∀ i t, (f i t).2.length = t.length ∧ (f i t).2.count false ≤ t.count false) : ∀ (l : List Nd) (t : List Bool), (goL f l t).2.length = t.length ∧ (goL f l t).2.count false ≤ t.count false
  | [], t => ⟨rfl, Nat.le_refl _⟩
  | n :: r, t => by
    rw [goL]
    split
    · obtain ⟨h1, h2⟩ := hf n.2.1.toNat t
      split
      · exact ⟨h1, h2⟩
      · obtain ⟨h3, h4⟩ := goL_len hf r (f n.2.1.toNat t).2
        exact ⟨by omega, by omega⟩
    · exact goL_len hf r t
theorem dfs_len (fs : List (List Nd)) (to : Nat) : ∀ (k fr : Nat) (t : List Bool), (dfs fs to k fr t).2.length = t.length ∧ (dfs fs to k fr t).2.count false ≤ t.count false
  | 0, fr, t => ⟨rfl, Nat.le_refl _⟩
  | k + 1, fr, t => by
    simp only [dfs]
    split
    · exact ⟨rfl, Nat.le_refl _⟩
    · split
      · exact ⟨rfl, Nat.le_refl _⟩
      · rename_i h1 h2
        obtain ⟨h3, h4⟩ := goL_len (dfs_len fs to k) (fs.getD fr []) (t.set fr true)
        refine ⟨by simpa using h3, Nat.le_trans h4 ?_⟩
        by_cases hlt : fr < t.length
        · have hb : t[fr]? = some false := by
            rw [List.getD_eq_getElem?_getD, List.getElem?_eq_getElem hlt] at h2
            rw [List.getElem?_eq_getElem hlt]
            simpa using h2
          have := count_set t fr hb
          omega
        · rw [List.set_eq_of_length_le (by omega)]
          exact Nat.le_refl _
theorem lift_getD {α : Type} (f : α → List I) (xs : List α) {i : Nat} (h : i < xs.length) : (lift (xs.map f)).getD i [] = (f xs[i]).map V.i := by
  simp [lift, List.getD_eq_getElem?_getD, h]
theorem lift_set {α : Type} (f : α → List I) (xs : List α) (i : Nat) (x : α) : (lift (xs.map f)).set i ((f x).map V.i) = lift ((xs.set i x).map f) := by
  simp [lift, List.map_set]
theorem row_cl (ver sz : Nat) (is : List (List I)) (m : Nat) : ∀ o ∈ [Ob.row ver sz false (lift is)], o.cl m := by
  intro o ho
  simp only [List.mem_singleton] at ho
  subst ho
  intro cs hcs
  simp only [lift, List.mem_map] at hcs
  obtain ⟨c, hc, rfl⟩ := hcs
  clear hc
  induction c with
  | nil => rfl
  | cons x c ih => simp only [List.map_cons, V.cl.clAll, V.cl, Bool.true_and]; exact ih
/-- a contract over one row, in a store that has more -/
theorem atO {f : FuncId} {args : List V} {v : V} {ver sz : Nat} {is is' : List (List I)} (post : List Ob) (h : CallW Try.prog G0 f args [.row ver sz false (lift is)] (fun r st' => r = v ∧ st' = [.row ver sz false (lift is')])) (ha : V.cl.clAll 1 args = true) (hv : V.cl 0 v = true) :
    CallW Try.prog G0 f (V.ren.renAll (fm [0] (.row ver sz false (lift is) :: post).length) args) (.row ver sz false (lift is) :: post) (fun r st' => r = v ∧ st' = .row ver sz false (lift is') :: post) := by
  refine (CallW.rise (bargs := V.ren.renAll (fm [0] (.row ver sz false (lift is) :: post).length) args) (big := .row ver sz false (lift is) :: post) [0] [] h rfl (by simp) (by simp) ?_ (row_cl _ _ _ _) (by simp) (renAll_len _ _) (args_ren ha) (.inl rfl)).mono ?_
  · simp only [List.map_cons, List.map_nil, ren_lift]
    rfl
  · rintro r st' ⟨r0, s0, ⟨rfl, rfl⟩, rfl, rfl⟩
    refine ⟨ren_cl0 _ _ hv, ?_⟩
    simp only [List.map_cons, List.map_nil, ren_lift, putAll]
    simp
theorem pgB_cl (p : Pg) (m : Nat) : (pgB p).cl m := by
  intro cs hcs
  simp only [List.mem_singleton] at hcs
  subst hcs
  rfl
theorem seen_cl (t : List Bool) (p : Pg) : ∀ o ∈ [Ob.row 1 1 false (lift (t.map elB)), pgB p], o.cl 2 := by
  intro o ho
  simp only [List.mem_cons, List.not_mem_nil, or_false] at ho
  rcases ho with rfl | rfl
  · exact row_cl 1 1 (t.map elB) 2 _ (by simp)
  · exact pgB_cl p 2
def Calls0 (p : Pg) : Prop := ∀ f ∈ p.fs, ∀ n ∈ f, n.1 = 7 → 0 ≤ n.2.1 ∧ n.2.1 < p.fs.length
set_option maxHeartbeats 1000000 in
theorem reaches57 (p : Pg) (hc : Calls0 p) (hl : p.fs.length ≤ 1000) (hw : ∀ f ∈ p.fs, f.length ≤ 1000) (to : Nat) : ∀ (k fr : Nat) (seen : List Bool), fr < p.fs.length → seen.length = p.fs.length → seen.count false < k →
    CallW Try.prog G0 113 [pgV p, .i (.int .i64 fr), .i (.int .i64 to), .ref 0 1 0 p.fs.length] [.row 1 1 false (lift (seen.map elB))] (fun r st' => r = .i (.bool (dfs p.fs to k fr seen).1) ∧ st' = [.row 1 1 false (lift ((dfs p.fs to k fr seen).2.map elB))]) := by
  intro k
  induction k with
  | zero => intro fr seen _ _ h; omega
  | succ k ih =>
  intro fr seen hfr hsl hsc
  refine call_of_bodyF 1 (Nat.le_refl _) Try.func113 rfl (fun a w => Try.call113 a w) (wpx_ok (own := own0) _ _ _ ?_)
  simp only [dfs]
  repeat ((conv => whnf); first | refine Br.t ?_ | refine Br.f ?_ | refine ⟨rfl, ?_⟩)
  conv => whnf
  refine Br.mk (fun h => ?_) (fun h => ?_)
  · have h : fr = to := by simp at h; omega
    rw [if_pos h]
    repeat ((conv => whnf); first | refine Br.t ?_ | refine Br.f ?_ | refine ⟨rfl, ?_⟩)
    conv => whnf
    refine fin (target := [.row 1 1 false (lift (seen.map elB))]) rfl (by simp) (row_cl _ _ _ _) rfl rfl
  · have h : fr ≠ to := by simp at h; omega
    rw [if_neg h]
    obtain ⟨b, hb⟩ : ∃ b, b = seen[fr]'(by omega) := ⟨_, rfl⟩
    have eb : (lift (seen.map elB)).getD (0 + (fr : Int).toNat) [] = (elB b).map V.i := by rw [hb, Nat.zero_add, Int.toNat_natCast]; exact lift_getD _ _ (by omega)
    have ed : seen.getD fr false = b := by rw [hb]; simp [List.getD_eq_getElem?_getD, show fr < seen.length by omega]
    rw [ed]
    repeat ((conv => whnf); first | refine Br.t ?_ | refine Br.f ?_ | refine ⟨rfl, ?_⟩)
    conv => whnf
    refine ⟨by omega, ?_⟩
    repeat ((conv => whnf); first | refine Br.t ?_ | refine Br.f ?_ | refine ⟨rfl, ?_⟩)
    conv => whnf
    rw [eb]
    repeat ((conv => whnf); first | refine Br.t ?_ | refine Br.f ?_ | refine ⟨rfl, ?_⟩)
    conv => whnf
    refine Br.mk (fun h1 => ?_) (fun h1 => ?_)
    · subst h1
      rw [if_pos rfl]
      repeat ((conv => whnf); first | refine Br.t ?_ | refine Br.f ?_ | refine ⟨rfl, ?_⟩)
      conv => whnf
      refine fin (target := [.row 1 1 false (lift (seen.map elB))]) rfl (by simp) (row_cl _ _ _ _) rfl rfl
    · subst h1
      rw [if_neg (by simp)]
      repeat ((conv => whnf); first | refine Br.t ?_ | refine Br.f ?_ | refine ⟨rfl, ?_⟩)
      conv => whnf
      refine ⟨by omega, ?_⟩
      repeat ((conv => whnf); first | refine Br.t ?_ | refine Br.f ?_ | refine ⟨rfl, ?_⟩)
      conv => whnf
      rw [eb]
      refine ⟨by rfl, ?_⟩
      have es : (lift (seen.map elB)).set (0 + (fr : Int).toNat) [V.i (I.bool true)] = lift ((seen.set fr true).map elB) := by rw [Nat.zero_add, Int.toNat_natCast]; exact lift_set elB seen fr true
      have hsf : seen[fr]? = some false := by rw [List.getElem?_eq_getElem (by omega), hb]
      have hcnt := count_set seen fr hsf
      obtain ⟨L, hL⟩ : ∃ L, L = p.fs[fr] := ⟨_, rfl⟩
      have hLm : L ∈ p.fs := hL ▸ List.getElem_mem hfr
      have eL : (p.fs.map encF).getD (fr : Int).toNat [] = encF L := by rw [hL]; exact getD_enc hfr
      have eLd : p.fs.getD fr [] = L := by rw [hL]; simp [List.getD_eq_getElem?_getD, hfr]
      have hLl := hw L hLm
      have hLc := hc L hLm
      rw [eLd]
      repeat ((conv => whnf); first | refine Br.t ?_ | refine Br.f ?_ | refine ⟨rfl, ?_⟩)
      conv => whnf
      rw [eL]
      refine ⟨⟨by omega, by simp; omega, rfl⟩, ?_⟩
      repeat ((conv => whnf); first | refine Br.t ?_ | refine Br.f ?_ | refine ⟨rfl, ?_⟩)
      conv => whnf
      refine loop_ok (α := Nat × List Bool) (fun x => ⟨mkS 43 [(2, .i (.int .i64 to)), (3, .ref 0 1 0 p.fs.length), (4, .ptr 1 0 0 0), (8, .i (.bool false)), (25, .i (.sl (L.map encNd))), (26, .i (.int .i64 (L.map encNd).length)), (27, .i (.int .i64 x.1))], [.row 1 1 false (lift (x.2.map elB)), pgB p]⟩)
        (fun x => x.1 ≤ L.length ∧ x.2.length = p.fs.length ∧ x.2.count false < k ∧ goL (dfs p.fs to k) (L.drop x.1) x.2 = goL (dfs p.fs to k) L (seen.set fr true)) (fun x => L.length - x.1) (0, seen.set fr true) ⟨Nat.zero_le _, by simpa using hsl, by simp only; omega, rfl⟩
        (by dsimp only; rw [← es]; exact Le.slots (by simp [leS, mkS])) (fun x hx => wpx_ok (own := own0) _ _ _ ?_)
      obtain ⟨j, t⟩ := x
      obtain ⟨h1, h2, h3, h4⟩ := hx
      simp only at h1 h2 h3 h4
      dsimp only
      repeat ((conv => whnf); first | refine Br.t ?_ | refine Br.f ?_ | refine ⟨rfl, ?_⟩)
      conv => whnf
      refine Br.mk (fun g => ?_) (fun g => ?_)
      · have g : j < L.length := by simpa using g
        obtain ⟨x, hx⟩ : ∃ x, x = L[j] := ⟨_, rfl⟩
        have hxm : x ∈ L := hx ▸ List.getElem_mem g
        have ex : (L.map encNd).getD (j : Int).toNat [] = encNd x := by rw [hx]; exact getD_enc g
        have edr : L.drop j = x :: L.drop (j + 1) := by rw [hx]; exact List.drop_eq_getElem_cons g
        have hxc := hLc x hxm
        rw [edr, goL] at h4
        repeat ((conv => whnf); first | refine Br.t ?_ | refine Br.f ?_ | refine ⟨rfl, ?_⟩)
        conv => whnf
        rw [ex]
        refine ⟨⟨by omega, by simp; omega, rfl⟩, ?_⟩
        repeat ((conv => whnf); first | refine Br.t ?_ | refine Br.f ?_ | refine ⟨rfl, ?_⟩)
        conv => whnf
        refine Br.mk (fun g7 => ?_) (fun g7 => ?_)
        · have g7 : x.1 = 7 := by simpa using g7
          rw [if_pos g7] at h4
          obtain ⟨a1, a2⟩ := hxc g7
          have ea : ((x.2.1.toNat : Nat) : Int) = x.2.1 := by omega
          have hr := ih x.2.1.toNat t (by omega) h2 h3
          rw [ea] at hr
          obtain ⟨dl, dc⟩ := dfs_len p.fs to k x.2.1.toNat t
          obtain ⟨b', t', hd⟩ : ∃ b t', dfs p.fs to k x.2.1.toNat t = (b, t') := ⟨_, _, rfl⟩
          rw [hd] at hr h4 dl dc
          simp only at hr h4 dl dc
          repeat ((conv => whnf); first | refine Br.t ?_ | refine Br.f ?_ | refine ⟨rfl, ?_⟩)
          conv => whnf
          refine CallW.mono (atO [_, _] hr rfl rfl) ?_
          rintro r st' ⟨rfl, rfl⟩
          repeat ((conv => whnf); first | refine Br.t ?_ | refine Br.f ?_ | refine ⟨rfl, ?_⟩)
          conv => whnf
          refine Br.mk (fun g8 => ?_) (fun g8 => ?_)
          · subst g8
            rw [if_pos rfl] at h4
            rw [← h4]
            repeat ((conv => whnf); first | refine Br.t ?_ | refine Br.f ?_ | refine ⟨rfl, ?_⟩)
            conv => whnf
            refine fin (target := [.row 1 1 false (lift (t'.map elB))]) rfl (by simp) (row_cl _ _ _ _) rfl rfl
          · subst g8
            rw [if_neg (by simp)] at h4
            repeat ((conv => whnf); first | refine Br.t ?_ | refine Br.f ?_ | refine ⟨rfl, ?_⟩)
            conv => whnf
            refine ⟨(j + 1, t'), ⟨by simp only; omega, by simp only; omega, by simp only; omega, h4⟩, by simp only; omega, Le.back (fun _ => 0) (by intro id hid; rfl) (by simp) rfl ?_ ?_ ?_⟩
            · exact seen_cl _ p
            · simp [leS, mkS, V.up]
              exact i64_id (by omega) (by omega)
            · simp only [upSt, Ob.up, map_up_lift]
              rfl
        · have g7 : x.1 ≠ 7 := by simpa using g7
          rw [if_neg g7] at h4
          repeat ((conv => whnf); first | refine Br.t ?_ | refine Br.f ?_ | refine ⟨rfl, ?_⟩)
          conv => whnf
          refine ⟨(j + 1, t), ⟨by simp only; omega, h2, h3, h4⟩, by simp only; omega, Le.back (fun _ => 0) (by intro id hid; rfl) (by simp) rfl ?_ ?_ ?_⟩
          · exact seen_cl _ p
          · simp [leS, mkS, V.up]
            exact i64_id (by omega) (by omega)
          · simp only [upSt, Ob.up, map_up_lift]
            rfl
      · have g : j = L.length := by simp at g; omega
        subst g
        rw [List.drop_length, goL] at h4
        rw [← h4]
        repeat ((conv => whnf); first | refine Br.t ?_ | refine Br.f ?_ | refine ⟨rfl, ?_⟩)
        conv => whnf
        refine fin (target := [.row 1 1 false (lift (t.map elB))]) rfl (by simp) (row_cl _ _ _ _) rfl rfl
end Go.Proofs.Ytiikndppckjmhaa.Am
namespace Go.Proofs.Ytiikndppckjmhaa.Am
set_option autoImplicit false
set_option linter.unusedVariables false
set_option linter.unusedSimpArgs false
set_option maxRecDepth 10000
set_option pp.maxSteps 20000
set_option pp.proofs false
theorem atP {f : FuncId} {args : List V} {v : V} {ver sz : Nat} {is is' : List (List I)} (pre post : List Ob) (h : CallW Try.prog G0 f args [.row ver sz false (lift is)] (fun r st' => r = v ∧ st' = [.row ver sz false (lift is')])) (ha : V.cl.clAll 1 args = true) (hv : V.cl 0 v = true) :
    CallW Try.prog G0 f (V.ren.renAll (fm [pre.length] (pre ++ .row ver sz false (lift is) :: post).length) args) (pre ++ .row ver sz false (lift is) :: post) (fun r st' => r = v ∧ st' = pre ++ .row ver sz false (lift is') :: post) := by
  refine (CallW.rise (bargs := V.ren.renAll (fm [pre.length] (pre ++ .row ver sz false (lift is) :: post).length) args) (big := pre ++ .row ver sz false (lift is) :: post) [pre.length] [] h rfl (by simp) (by simp) ?_ (row_cl _ _ _ _) (by simp) (renAll_len _ _) (args_ren ha) (.inl rfl)).mono ?_
  · simp only [List.map_cons, List.map_nil, ren_lift]
    simp [List.getD_eq_getElem?_getD]
  · rintro r st' ⟨r0, s0, ⟨rfl, rfl⟩, rfl, rfl⟩
    refine ⟨ren_cl0 _ _ hv, ?_⟩
    simp only [List.map_cons, List.map_nil, ren_lift, putAll]
    simp
def rndN (p : Pg) (f : Nat) : Nat → List Nd → Option Nat
  | _, [] => none
  | i, n :: r => if n.1 = 7 ∧ (dfs p.fs f (p.fs.length + 1) n.2.1.toNat (List.replicate p.fs.length false)).1 = true then some i else rndN p f (i + 1) r
def rndF (p : Pg) : Nat → List (List Nd) → Option (Nat × Nat)
  | _, [] => none
  | f, l :: r => match rndN p f 0 l with
    | some i => some (f, i)
    | none => rndF p (f + 1) r
def rndV (o : Option (Nat × Nat)) : V := match o with
  | some (f, i) => .tup [.i (.int .i64 f), .i (.int .i64 i), .i (.bool true)]
  | none => .tup [.i (.int .i64 0), .i (.int .i64 0), .i (.bool false)]
set_option maxHeartbeats 1000000 in
theorem round48 (p : Pg) (hc : Calls0 p) (hl : p.fs.length ≤ 1000) (hw : ∀ f ∈ p.fs, f.length ≤ 1000) : CallW Try.prog G0 99 [pgV p] [] (fun r st' => r = rndV (rndF p 0 p.fs) ∧ st' = []) := by
  refine call_of_bodyF 0 (Nat.le_refl _) Try.func99 rfl (fun a w => Try.call99 a w) (wpx_ok (own := own0) _ _ _ ?_)
  repeat ((conv => whnf); first | refine Br.t ?_ | refine Br.f ?_ | refine ⟨rfl, ?_⟩)
  conv => whnf
  refine loop_ok (α := Nat) (fun f => ⟨mkS 42 [(1, .ptr 0 0 0 0), (2, .i (.int .i64 0)), (3, .i (.int .i64 0)), (4, .i (.bool false)), (10, .i (.sl (p.fs.map encF))), (11, .i (.int .i64 (p.fs.map encF).length)), (12, .i (.int .i64 f))], [pgB p]⟩)
    (fun f => f ≤ p.fs.length ∧ rndF p f (p.fs.drop f) = rndF p 0 p.fs) (fun f => p.fs.length - f) 0 ⟨Nat.zero_le _, rfl⟩
    (Le.slots (by simp [leS, mkS])) (fun f hf => wpx_ok (own := own0) _ _ _ ?_)
  obtain ⟨h1, h2⟩ := hf
  repeat ((conv => whnf); first | refine Br.t ?_ | refine Br.f ?_ | refine ⟨rfl, ?_⟩)
  conv => whnf
  refine Br.mk (fun g => ?_) (fun g => ?_)
  · have g : f < p.fs.length := by simpa using g
    obtain ⟨L, hL⟩ : ∃ L, L = p.fs[f] := ⟨_, rfl⟩
    have hLm : L ∈ p.fs := hL ▸ List.getElem_mem g
    have eL : (p.fs.map encF).getD (f : Int).toNat [] = encF L := by rw [hL]; exact getD_enc g
    have edr : p.fs.drop f = L :: p.fs.drop (f + 1) := by rw [hL]; exact List.drop_eq_getElem_cons g
    have hLl := hw L hLm
    have hLc := hc L hLm
    rw [edr, rndF] at h2
    repeat ((conv => whnf); first | refine Br.t ?_ | refine Br.f ?_ | refine ⟨rfl, ?_⟩)
    conv => whnf
    rw [eL]
    refine ⟨⟨by omega, by simp; omega, rfl⟩, ?_⟩
    repeat ((conv => whnf); first | refine Br.t ?_ | refine Br.f ?_ | refine ⟨rfl, ?_⟩)
    conv => whnf
    refine loop_ok (α := Nat) (fun i => ⟨mkS 42 [(1, .ptr 0 0 0 0), (2, .i (.int .i64 0)), (3, .i (.int .i64 0)), (4, .i (.bool false)), (5, .i (.int .i64 f)), (10, .i (.sl (p.fs.map encF))), (11, .i (.int .i64 (p.fs.map encF).length)), (12, .i (.int .i64 f)), (17, .i (.sl (L.map encNd))), (18, .i (.int .i64 (L.map encNd).length)), (19, .i (.int .i64 i))], [pgB p]⟩)
      (fun i => i ≤ L.length ∧ rndN p f i (L.drop i) = rndN p f 0 L) (fun i => L.length - i) 0 ⟨Nat.zero_le _, rfl⟩
      (Le.slots (by simp [leS, mkS])) (fun i hi => wpx_ok (own := own0) _ _ _ ?_)
    obtain ⟨h3, h4⟩ := hi
    repeat ((conv => whnf); first | refine Br.t ?_ | refine Br.f ?_ | refine ⟨rfl, ?_⟩)
    conv => whnf
    refine Br.mk (fun g1 => ?_) (fun g1 => ?_)
    · have g1 : i < L.length := by simpa using g1
      obtain ⟨x, hx⟩ : ∃ x, x = L[i] := ⟨_, rfl⟩
      have hxm : x ∈ L := hx ▸ List.getElem_mem g1
      have ex : (L.map encNd).getD (i : Int).toNat [] = encNd x := by rw [hx]; exact getD_enc g1
      have exd : L.drop i = x :: L.drop (i + 1) := by rw [hx]; exact List.drop_eq_getElem_cons g1
      have hxc := hLc x hxm
      rw [exd, rndN] at h4
      repeat ((conv => whnf); first | refine Br.t ?_ | refine Br.f ?_ | refine ⟨rfl, ?_⟩)
      conv => whnf
      rw [ex]
      refine ⟨⟨by omega, by simp; omega, rfl⟩, ?_⟩
      repeat ((conv => whnf); first | refine Br.t ?_ | refine Br.f ?_ | refine ⟨rfl, ?_⟩)
      conv => whnf
      by_cases g7 : x.1 = 7
      · obtain ⟨a1, a2⟩ := hxc g7
        have ea : ((x.2.1.toNat : Nat) : Int) = x.2.1 := by omega
        have hr := reaches57 p hc hl hw f (p.fs.length + 1) x.2.1.toNat (List.replicate p.fs.length false) (by omega) (by simp) (by simp)
        rw [ea] at hr
        obtain ⟨b', t', hd⟩ : ∃ b t', dfs p.fs f (p.fs.length + 1) x.2.1.toNat (List.replicate p.fs.length false) = (b, t') := ⟨_, _, rfl⟩
        rw [hd] at hr h4
        simp only [g7, true_and] at hr h4
        refine draw_ok (own := own0) [11, 12] [(4, 12), (5, 12), (6, 12), (7, 12)] [(.i (.bool b'), [pgB p, .row 0 4 false [(encNd x).map .i], .row 1 1 false (lift (t'.map elB))])] rfl (by kernel_rfl) (Nat.zero_le _) ?_
        repeat ((conv => whnf); first | refine Br.t ?_ | refine Br.f ?_ | refine ⟨rfl, ?_⟩)
        conv => whnf
        refine Br.mk (fun q => ?_) (fun q => by simp at q; exact absurd g7 q)
        repeat ((conv => whnf); first | refine Br.t ?_ | refine Br.f ?_ | refine ⟨rfl, ?_⟩)
        conv => whnf
        refine ⟨⟨by omega, rfl, by show (1 : Int) * _ ≤ _; rw [List.length_map]; omega, by rw [List.length_map]; show _ ≤ (9223372036854775807 : Int); omega⟩, ?_⟩
        repeat ((conv => whnf); first | refine Br.t ?_ | refine Br.f ?_ | refine ⟨rfl, ?_⟩)
        conv => whnf
        have eN : (((p.fs.map encF).length : Nat) : Int).toNat = p.fs.length := by simp
        rw [← eN] at hr
        have e0 : ∀ N, lift ((List.replicate N false).map elB) = List.replicate N (List.map ofC (Value.bool false).cells.toList) := by intro N; rw [List.map_replicate]; unfold lift; rw [List.map_replicate]; rfl
        have hq := atP [pgB p, .row 0 4 false [(encNd x).map .i]] [] hr rfl rfl
        rw [e0] at hq
        refine ⟨hq, ?_⟩
        repeat ((conv => whnf); first | refine Br.t ?_ | refine Br.f ?_ | refine ⟨rfl, ?_⟩)
        conv => whnf
        refine ⟨by repeat ((conv => whnf); first | exact trivial | refine ⟨rfl, ?_⟩), by repeat ((conv => whnf); first | exact trivial | refine ⟨by (conv => whnf); first | exact ⟨rfl, rfl⟩ | exact ⟨rfl, rfl, rfl⟩, ?_⟩), ?_⟩
        conv => whnf
        cases b' with
        | true =>
          rw [if_pos rfl] at h4
          rw [← h4] at h2
          simp only at h2
          rw [← h2]
          repeat ((conv => whnf); first | refine Br.t ?_ | refine Br.f ?_ | refine ⟨rfl, ?_⟩)
          conv => whnf
          refine fin (target := []) rfl (Nat.zero_le _) (by simp) rfl rfl
        | false =>
          rw [if_neg (by simp)] at h4
          repeat ((conv => whnf); first | refine Br.t ?_ | refine Br.f ?_ | refine ⟨rfl, ?_⟩)
          conv => whnf
          refine ⟨i + 1, ⟨by omega, h4⟩, by omega, Le.back (fun _ => 0) (by intro id hid; rfl) (by simp) rfl ?_ ?_ ?_⟩
          · intro o ho
            simp only [List.mem_singleton] at ho
            subst ho
            exact pgB_cl p _
          · simp [leS, mkS, V.up]
            exact i64_id (by omega) (by omega)
          · rfl
      · rw [if_neg (fun h => g7 h.1)] at h4
        refine draw_ok (own := own0) [11, 12] [(4, 12), (5, 12), (6, 12), (7, 12)] [] rfl (by kernel_rfl) (Nat.zero_le _) ?_
        repeat ((conv => whnf); first | refine Br.t ?_ | refine Br.f ?_ | refine ⟨rfl, ?_⟩)
        conv => whnf
        refine Br.mk (fun q => by simp at q; exact absurd q g7) (fun q => ?_)
        repeat ((conv => whnf); first | refine Br.t ?_ | refine Br.f ?_ | refine ⟨rfl, ?_⟩)
        conv => whnf
        refine ⟨by repeat ((conv => whnf); first | exact trivial | refine ⟨rfl, ?_⟩), by repeat ((conv => whnf); first | exact trivial | refine ⟨by (conv => whnf); first | exact ⟨rfl, rfl⟩ | exact ⟨rfl, rfl, rfl⟩, ?_⟩), ?_⟩
        conv => whnf
        refine Br.mk (fun q2 => by simp at q2) (fun q2 => ?_)
        repeat ((conv => whnf); first | refine Br.t ?_ | refine Br.f ?_ | refine ⟨rfl, ?_⟩)
        conv => whnf
        refine ⟨i + 1, ⟨by omega, h4⟩, by omega, Le.back (fun _ => 0) (by intro id hid; rfl) (by simp) rfl ?_ ?_ ?_⟩
        · intro o ho
          simp only [List.mem_singleton] at ho
          subst ho
          exact pgB_cl p _
        · simp [leS, mkS, V.up]
          exact i64_id (by omega) (by omega)
        · rfl
    · have g1 : i = L.length := by simp at g1; omega
      subst g1
      rw [List.drop_length, rndN] at h4
      rw [← h4] at h2
      simp only at h2
      repeat ((conv => whnf); first | refine Br.t ?_ | refine Br.f ?_ | refine ⟨rfl, ?_⟩)
      conv => whnf
      refine ⟨f + 1, ⟨by omega, h2⟩, by omega, Le.slots ?_⟩
      simp [leS, mkS]
      exact i64_id (by omega) (by omega)
  · have g : f = p.fs.length := by simp at g; omega
    subst g
    rw [List.drop_length, rndF] at h2
    rw [← h2]
    repeat ((conv => whnf); first | refine Br.t ?_ | refine Br.f ?_ | refine ⟨rfl, ?_⟩)
    conv => whnf
    refine fin (target := []) rfl (Nat.zero_le _) (by simp) rfl rfl
end Go.Proofs.Ytiikndppckjmhaa.Am
