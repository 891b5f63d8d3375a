/- Plain laws and contracts: a program's bytes. -/
import Derived.Test.YtdbmfnhbgacldaaPrF
namespace Go.Proofs.Ytdbmfnhbgacldaa.Am
set_option autoImplicit false
set_option linter.unusedVariables false
set_option linter.unusedSimpArgs false
set_option maxRecDepth 10000
set_option pp.maxSteps 20000
set_option pp.proofs false
def fld (x : Nd) (c : Nat) : Int := if c = 1 then x.2.1 else if c = 2 then x.2.2.1 else x.2.2.2
def nodeN (x : Nd) : List Nat := putN x.1.toNat ++ (partsL x.1).flatMap fun c => putN (fld x c).toNat
def fnN (L : List Nd) : List Nat := putN L.length ++ L.flatMap nodeN
def numsP (p : Pg) : List Nat := [p.g.toNat, p.l.toNat, p.s.toNat, p.fs.length]
def alp : List Nat := [97, 108, 112, 49]
def progN (p : Pg) : List Nat := alp ++ (numsP p).flatMap putN ++ p.fs.flatMap fnN
theorem chkF_code {p : Pg} : ∀ {f : Nat} {l : List (List Nd)} {r : Int × Int × Int}, chkF p f l = some r → r.2.2 ≠ 0
  | f, [], r, h => by simp [chkF] at h
  | f, L :: l, r, h => by
    rw [chkF] at h
    split at h
    · cases h; simp
    · split at h
      · cases h; simp
      · split at h
        · cases h; simp
        · exact chkF_code h
structure PgOk (p : Pg) : Prop where
  g : 0 ≤ p.g ∧ p.g ≤ 16
  l : 0 ≤ p.l ∧ p.l ≤ 16
  s : 0 ≤ p.s ∧ p.s ≤ 8
  n : 0 < p.fs.length ∧ p.fs.length ≤ 16
  f : ∀ L ∈ p.fs, 0 < L.length ∧ L.length ≤ 64 ∧ ∀ x ∈ L, mayF p x L.length = true
  r : rndF p 0 p.fs = none
theorem chk_zero {p : Pg} (h : (chk p).2.2 = 0) : PgOk p := by
  unfold chk at h
  split at h
  · simp at h
  · rename_i h1
    split at h
    · simp at h
    · rename_i h2
      cases hc : chkF p 0 p.fs with
      | some r => rw [hc] at h; exact absurd h (chkF_code hc)
      | none =>
        rw [hc] at h
        simp only at h
        cases hr : rndF p 0 p.fs with
        | some x => rw [hr] at h; simp at h
        | none => exact ⟨by omega, by omega, by omega, by omega, chkF_none hc, hr⟩
theorem chk_ok {p : Pg} (h : PgOk p) : chk p = (0, 0, 0) := by
  have hc : chkF p 0 p.fs = none := by
    have key : ∀ (l : List (List Nd)) (f : Nat), (∀ L ∈ l, 0 < L.length ∧ L.length ≤ 64 ∧ ∀ x ∈ L, mayF p x L.length = true) → chkF p f l = none := by
      intro l
      induction l with
      | nil => intro f _; rfl
      | cons L l ih =>
        intro f hl
        obtain ⟨a, b, c⟩ := hl L (by simp)
        have hb : ∀ (m : List Nd) (i : Nat), (∀ x ∈ m, mayF p x L.length = true) → badN p L.length i m = none := by
          intro m
          induction m with
          | nil => intro i _; rfl
          | cons x m ihm =>
            intro i hm
            rw [badN, if_pos (hm x (by simp))]
            exact ihm (i + 1) (fun y hy => hm y (by simp [hy]))
        rw [chkF, if_neg (by omega), if_neg (by omega), hb L 0 c]
        exact ih (f + 1) (fun M hM => hl M (by simp [hM]))
    exact key p.fs 0 h.f
  unfold chk
  have := h.g; have := h.l; have := h.s; have := h.n
  rw [if_neg (by omega), if_neg (by omega), hc, h.r]
theorem mx1_lt {a A : Int} (h : a < mx1 A) : a < max A 1 := by
  unfold mx1 at h
  by_cases q : 1 > A
  · rw [if_pos q] at h; omega
  · rw [if_neg q] at h; omega
theorem may_node {p : Pg} {x : Nd} {z : Int} (hg : p.g ≤ 16) (hl : p.l ≤ 16) (hs : p.s ≤ 8) (hn : p.fs.length ≤ 16) (hz : z ≤ 64) (h : mayF p x z = true) :
    (0 ≤ x.1 ∧ x.1 ≤ 9) ∧ (∀ c, 0 ≤ fld x c ∧ fld x c ≤ 64) ∧ ∀ c, c = 1 ∨ c = 2 ∨ c = 3 → c ∉ partsL x.1 → fld x c = 0 := by
  obtain ⟨k, a, y, w⟩ := x
  unfold mayF fieldsF at h
  simp only at h
  have main : ∀ A B C : Int, inB a (mx1 A) = true → inB y (mx1 B) = true → inB w (mx1 C) = true → (0 ≤ a ∧ a < max A 1) ∧ (0 ≤ y ∧ y < max B 1) ∧ (0 ≤ w ∧ w < max C 1) := by
    intro A B C h1 h2 h3
    simp only [inB, Bool.and_eq_true, decide_eq_true_eq] at h1 h2 h3
    refine ⟨⟨h1.1, ?_⟩, ⟨h2.1, ?_⟩, ⟨h3.1, ?_⟩⟩
    · exact mx1_lt h1.2
    · exact mx1_lt h2.2
    · exact mx1_lt h3.2
  have fin : ∀ A B C : Int, A ≤ 64 → B ≤ 64 → C ≤ 64 → (0 ≤ k ∧ k ≤ 9) → inB a (mx1 A) = true → inB y (mx1 B) = true → inB w (mx1 C) = true → ((1 ∉ partsL k) → A ≤ 0) → ((2 ∉ partsL k) → B ≤ 0) → ((3 ∉ partsL k) → C ≤ 0) →
      (0 ≤ k ∧ k ≤ 9) ∧ (∀ c, 0 ≤ fld (k, a, y, w) c ∧ fld (k, a, y, w) c ≤ 64) ∧ ∀ c, c = 1 ∨ c = 2 ∨ c = 3 → c ∉ partsL k → fld (k, a, y, w) c = 0 := by
    intro A B C hA hB hC hk h1 h2 h3 p1 p2 p3
    obtain ⟨⟨a1, a2⟩, ⟨b1, b2⟩, c1, c2⟩ := main A B C h1 h2 h3
    refine ⟨hk, fun c => ?_, fun c hc hnot => ?_⟩
    · unfold fld
      split
      · simp only; omega
      · split <;> simp only <;> omega
    · rcases hc with rfl | rfl | rfl
      · have := p1 hnot; show a = 0; omega
      · have := p2 hnot; show y = 0; omega
      · have := p3 hnot; show w = 0; omega
  by_cases k0 : k = 0
  · subst k0
    have h : (((true && inB a (mx1 0)) && inB y (mx1 z)) && inB w (mx1 0)) = true := h
    simp only [Bool.and_eq_true] at h
    exact fin 0 z 0 (by omega) (by omega) (by omega) (by omega) h.1.1.2 h.1.2 h.2 (by first | omega | exact fun hn => absurd (by decide) hn) (by first | omega | exact fun hn => absurd (by decide) hn) (by first | omega | exact fun hn => absurd (by decide) hn)
  by_cases k1 : k = 1
  · subst k1
    have h : (((decide (p.g > 0) && inB a (mx1 p.g)) && inB y (mx1 z)) && inB w (mx1 0)) = true := h
    simp only [Bool.and_eq_true] at h
    exact fin p.g z 0 (by omega) (by omega) (by omega) (by omega) h.1.1.2 h.1.2 h.2 (by first | omega | exact fun hn => absurd (by decide) hn) (by first | omega | exact fun hn => absurd (by decide) hn) (by first | omega | exact fun hn => absurd (by decide) hn)
  by_cases k2 : k = 2
  · subst k2
    have h : (((decide (p.g > 0) && inB a (mx1 p.g)) && inB y (mx1 z)) && inB w (mx1 0)) = true := h
    simp only [Bool.and_eq_true] at h
    exact fin p.g z 0 (by omega) (by omega) (by omega) (by omega) h.1.1.2 h.1.2 h.2 (by first | omega | exact fun hn => absurd (by decide) hn) (by first | omega | exact fun hn => absurd (by decide) hn) (by first | omega | exact fun hn => absurd (by decide) hn)
  by_cases k3 : k = 3
  · subst k3
    have h : (((decide (p.l > 0) && inB a (mx1 p.l)) && inB y (mx1 z)) && inB w (mx1 0)) = true := h
    simp only [Bool.and_eq_true] at h
    exact fin p.l z 0 (by omega) (by omega) (by omega) (by omega) h.1.1.2 h.1.2 h.2 (by first | omega | exact fun hn => absurd (by decide) hn) (by first | omega | exact fun hn => absurd (by decide) hn) (by first | omega | exact fun hn => absurd (by decide) hn)
  by_cases k4 : k = 4
  · subst k4
    have h : (((decide (p.l > 0) && inB a (mx1 p.l)) && inB y (mx1 z)) && inB w (mx1 0)) = true := h
    simp only [Bool.and_eq_true] at h
    exact fin p.l z 0 (by omega) (by omega) (by omega) (by omega) h.1.1.2 h.1.2 h.2 (by first | omega | exact fun hn => absurd (by decide) hn) (by first | omega | exact fun hn => absurd (by decide) hn) (by first | omega | exact fun hn => absurd (by decide) hn)
  by_cases k5 : k = 5
  · subst k5
    have h : ((((decide (p.s > 0) && decide ((p.fs.length : Int) > 0)) && inB a (mx1 (p.fs.length : Int))) && inB y (mx1 z)) && inB w (mx1 p.s)) = true := h
    simp only [Bool.and_eq_true] at h
    exact fin (p.fs.length : Int) z p.s (by omega) (by omega) (by omega) (by omega) h.1.1.2 h.1.2 h.2 (by first | omega | exact fun hn => absurd (by decide) hn) (by first | omega | exact fun hn => absurd (by decide) hn) (by first | omega | exact fun hn => absurd (by decide) hn)
  by_cases k6 : k = 6
  · subst k6
    have h : (((decide (p.s > 0) && inB a (mx1 p.s)) && inB y (mx1 z)) && inB w (mx1 0)) = true := h
    simp only [Bool.and_eq_true] at h
    exact fin p.s z 0 (by omega) (by omega) (by omega) (by omega) h.1.1.2 h.1.2 h.2 (by first | omega | exact fun hn => absurd (by decide) hn) (by first | omega | exact fun hn => absurd (by decide) hn) (by first | omega | exact fun hn => absurd (by decide) hn)
  by_cases k7 : k = 7
  · subst k7
    have h : (((decide ((p.fs.length : Int) > 0) && inB a (mx1 (p.fs.length : Int))) && inB y (mx1 z)) && inB w (mx1 0)) = true := h
    simp only [Bool.and_eq_true] at h
    exact fin (p.fs.length : Int) z 0 (by omega) (by omega) (by omega) (by omega) h.1.1.2 h.1.2 h.2 (by first | omega | exact fun hn => absurd (by decide) hn) (by first | omega | exact fun hn => absurd (by decide) hn) (by first | omega | exact fun hn => absurd (by decide) hn)
  by_cases k8 : k = 8
  · subst k8
    have h : (((true && inB a (mx1 0)) && inB y (mx1 z)) && inB w (mx1 z)) = true := h
    simp only [Bool.and_eq_true] at h
    exact fin 0 z z (by omega) (by omega) (by omega) (by omega) h.1.1.2 h.1.2 h.2 (by first | omega | exact fun hn => absurd (by decide) hn) (by first | omega | exact fun hn => absurd (by decide) hn) (by first | omega | exact fun hn => absurd (by decide) hn)
  by_cases k9 : k = 9
  · subst k9
    have h : (((true && inB a (mx1 0)) && inB y (mx1 0)) && inB w (mx1 0)) = true := h
    simp only [Bool.and_eq_true] at h
    exact fin 0 0 0 (by omega) (by omega) (by omega) (by omega) h.1.1.2 h.1.2 h.2 (by first | omega | exact fun hn => absurd (by decide) hn) (by first | omega | exact fun hn => absurd (by decide) hn) (by first | omega | exact fun hn => absurd (by decide) hn)
  simp [k0, k1, k2, k3, k4, k5, k6, k7, k8, k9] at h
end Go.Proofs.Ytdbmfnhbgacldaa.Am
namespace Go.Proofs.Ytdbmfnhbgacldaa.Am
set_option autoImplicit false
set_option linter.unusedVariables false
set_option linter.unusedSimpArgs false
set_option maxRecDepth 10000
set_option pp.maxSteps 20000
set_option pp.proofs false
theorem upP {f : FuncId} {args : List V} {v : V} {k k' : Nat} {zs zs' : List (List I)} (o d : Ob) (post : List Ob) (h : CallW Try.prog G0 f args (wr k zs) (fun r st' => r = v ∧ st' = wr k' zs')) (ha : V.cl.clAll 2 args = true) (hv : V.cl 0 v = true) :
    CallW Try.prog G0 f (V.ren.renAll (fm [1, 3] (wrU o d k zs ++ post).length) args) (wrU o d k zs ++ post) (fun r st' => r = v ∧ st' = wrU o d k' zs' ++ post) := by
  refine (CallW.rise (bargs := V.ren.renAll (fm [1, 3] (wrU o d k zs ++ post).length) args) (big := wrU o d k zs ++ post) [1, 3] [] h rfl (by decide) (by simp [wrU]) ?_ (wr_cl _ _) (by simp) (renAll_len _ _) (args_ren ha) (.inl rfl)).mono ?_
  · simp only [wr, wrU, List.map_cons, List.map_nil, ren_lift]
    rfl
  · rintro r st' ⟨r0, s0, ⟨rfl, rfl⟩, rfl, rfl⟩
    refine ⟨ren_cl0 _ _ hv, ?_⟩
    simp only [wr, wrU, List.map_cons, List.map_nil, ren_lift]
    show putAll _ [1, 3] [Ob.row 0 1 false [[V.ref 3 (k' + 1) 0 zs'.length]], Ob.row (k' + 1) 1 false (lift zs')] = _
    simp [putAll]
def elI (i : Nat) : List I := [.int .i64 i]
theorem parts_len (k : Int) : (partsL k).length ≤ 3 := by unfold partsL; (repeat' split) <;> decide
theorem parts_mem {k : Int} {c : Nat} (h : c ∈ partsL k) : c = 1 ∨ c = 2 ∨ c = 3 := by
  unfold partsL at h
  (repeat' split at h) <;> simp at h <;> omega
theorem flat_le {α : Type} {f : α → List Nat} {b : Nat} : ∀ {l : List α}, (∀ x ∈ l, (f x).length ≤ b) → (l.flatMap f).length ≤ b * l.length
  | [], _ => by simp
  | x :: l, h => by
    have h1 := h x (by simp)
    have h2 := flat_le (l := l) (fun y hy => h y (by simp [hy]))
    rw [List.flatMap_cons, List.length_append, List.length_cons, Nat.mul_add, Nat.mul_one]
    omega
/-- a node whose fields are small -/
def ndOk (x : Nd) : Prop := (0 ≤ x.1 ∧ x.1 ≤ 9) ∧ (∀ c, 0 ≤ fld x c ∧ fld x c ≤ 64) ∧ ∀ c, c = 1 ∨ c = 2 ∨ c = 3 → c ∉ partsL x.1 → fld x c = 0
theorem PgOk.nd {p : Pg} (h : PgOk p) {L : List Nd} (hL : L ∈ p.fs) {x : Nd} (hx : x ∈ L) : ndOk x := by
  obtain ⟨a, b, c⟩ := h.f L hL
  exact may_node h.g.2 h.l.2 (by have := h.s.2; omega) h.n.2 (by omega) (c x hx)
theorem put_le {n : Nat} (h : n < 4294967296) : (putN n).length ≤ 5 := putN_len 4 n (by omega)
theorem node_len {x : Nd} (h : ndOk x) : (nodeN x).length ≤ 20 := by
  have h1 := put_le (n := x.1.toNat) (by have := h.1; omega)
  have h2 := flat_le (b := 5) (l := partsL x.1) (f := fun c => putN (fld x c).toNat) (fun c hc => put_le (by have := h.2.1 c; omega))
  have h3 := parts_len x.1
  rw [nodeN, List.length_append]
  omega
theorem fn_len {L : List Nd} (h : L.length ≤ 64) (hx : ∀ x ∈ L, ndOk x) : (fnN L).length ≤ 1285 := by
  have h1 := put_le (n := L.length) (by omega)
  have h2 := flat_le (b := 20) (l := L) (f := nodeN) (fun x hm => node_len (hx x hm))
  rw [fnN, List.length_append]
  omega
theorem wrU_cl (p : Pg) (zs : List (List I)) (m : Nat) (hm : 4 ≤ m) : ∀ o ∈ wrU (pgB p) .dead 0 zs, o.cl m := by
  intro o ho
  simp only [wrU, List.mem_cons, List.not_mem_nil, or_false] at ho
  rcases ho with rfl | rfl | rfl | rfl
  · exact pgB_cl p m
  · intro cs hcs
    simp only [List.mem_singleton] at hcs
    subst hcs
    simp [V.cl.clAll, V.cl]; omega
  · trivial
  · exact row_cl 1 1 zs m _ (by simp)
theorem ndB_cl (x : Nd) (m : Nat) : (ndB x).cl m := by
  intro cs hcs
  simp only [List.mem_singleton] at hcs
  subst hcs
  rfl
theorem ptrB_cl (id : Nat) (l : List Nat) (m : Nat) (h : id < m) : (ptrB id l).cl m := by
  intro cs hcs
  simp only [List.mem_map] at hcs
  obtain ⟨c, _, rfl⟩ := hcs
  simp [V.cl.clAll, V.cl, h]
theorem fld_load (x : Nd) (c : Nat) (hc : c = 1 ∨ c = 2 ∨ c = 3) : ((encNd x).map V.i).getD c .undef = .i (.int .i64 (fld x c)) := by
  rcases hc with rfl | rfl | rfl <;> rfl
theorem ptr_ren (f : Nat → Nat) (id : Nat) (l : List Nat) : Ob.ren f (ptrB id l) = ptrB (f id) l := by
  simp [ptrB, Ob.ren, V.ren.renAll, V.ren]
theorem ptr_up (d : Nat → Nat) (l : List Nat) (h : d 4 = 0) : (l.map fun c => [V.ptr 4 0 0 c]).map (V.up.upAll d) = l.map fun c => [V.ptr 4 0 0 c] := by
  rw [List.map_map]
  apply List.map_congr_left
  intro c _
  simp [V.up.upAll, V.up, h]
set_option maxHeartbeats 4000000 in
theorem write17 (p : Pg) (hp : okPg p) : CallW Try.prog G0 17 [pgV p] [] (fun r st' => r = .tup [.i (.sl (if (chk p).2.2 = 0 then (progN p).map by8 else [])), .i (.int .i64 (chk p).2.2)] ∧ st' = []) := by
  refine call_of_bodyF 0 (Nat.le_refl _) Try.func17 rfl (fun a w => Try.call17 a w) (wpx_ok (own := fun t => t == 25) _ _ _ ?_)
  repeat ((conv => whnf); first | refine Br.t ?_ | refine Br.f ?_ | refine ⟨rfl, ?_⟩)
  conv => whnf
  refine CallW.mono ((check31 p hp).pure _ rfl rfl) ?_
  rintro r st' ⟨rfl, rfl⟩
  by_cases hz : (chk p).2.2 = 0
  · have ok := chk_zero hz
    have ec := chk_ok ok
    rw [if_pos hz, hz]
    obtain ⟨g1, g2⟩ := ok.g; obtain ⟨l1, l2⟩ := ok.l; obtain ⟨s1, s2⟩ := ok.s; obtain ⟨n1, n2⟩ := ok.n
    rw [ec]
    repeat ((conv => whnf); first | refine Br.t ?_ | refine Br.f ?_ | refine ⟨rfl, ?_⟩)
    conv => whnf
    refine ⟨⟨rfl, by decide⟩, ?_⟩
    repeat ((conv => whnf); first | refine Br.t ?_ | refine Br.f ?_ | refine ⟨rfl, ?_⟩)
    conv => whnf
    refine CallW.mono (up0 _ _ (raw0 (alp.map by8) (bytes_one _) (by decide)) rfl) ?_
    rintro r st' ⟨rfl, rfl⟩
    repeat ((conv => whnf); first | refine Br.t ?_ | refine Br.f ?_ | refine ⟨rfl, ?_⟩)
    conv => whnf
    refine loop_ok (α := Nat) (fun j => ⟨mkS 79 [(1, .ptr 0 0 0 0), (2, .nils), (3, .i (.int .i64 0)), (7, .ptr 1 0 0 0), (37, .i (.sl ((numsP p).map elI))), (38, .i (.int .i64 4)), (39, .i (.int .i64 j))], wrU (pgB p) .dead 0 ((alp ++ ((numsP p).take j).flatMap putN).map by8)⟩)
      (fun j => j ≤ 4) (fun j => 4 - j) 0 (by decide) (Le.slots ?_) (fun j hj => wpx_ok (own := own0) _ _ _ ?_)
    · simp [leS, mkS, numsP, elI]
      omega
    have hA : ∀ j, ((((numsP p).take j).flatMap putN)).length ≤ 20 := fun j => by
      have := flat_le (b := 5) (l := (numsP p).take j) (f := putN) (fun x hx => put_le (by
        have := List.mem_of_mem_take hx
        simp [numsP] at this
        omega))
      have : ((numsP p).take j).length ≤ 4 := by rw [List.length_take]; simp [numsP]; omega
      omega
    have hB : ∀ f, (((p.fs.take f).flatMap fnN)).length ≤ 20560 := fun f => by
      have := flat_le (b := 1285) (l := p.fs.take f) (f := fnN) (fun L hL => fn_len (ok.f L (List.mem_of_mem_take hL)).2.1 (fun x hx => ok.nd (List.mem_of_mem_take hL) hx))
      have : (p.fs.take f).length ≤ 16 := by rw [List.length_take]; omega
      omega
    repeat ((conv => whnf); first | refine Br.t ?_ | refine Br.f ?_ | refine ⟨rfl, ?_⟩)
    conv => whnf
    refine Br.mk (fun g => ?_) (fun g => ?_)
    · have g : j < (numsP p).length := by simp at g; simp [numsP]; omega
      obtain ⟨x, hx⟩ : ∃ x, x = (numsP p)[j] := ⟨_, rfl⟩
      have ex : ((numsP p).map elI).getD (j : Int).toNat [] = elI x := by rw [hx]; exact getD_enc g
      have et : (numsP p).take (j + 1) = (numsP p).take j ++ [x] := by rw [hx]; simp
      have hx32 : x ≤ 100 := by
        have := hx ▸ List.getElem_mem g
        simp [numsP] at this
        omega
      have hlen : (alp ++ ((numsP p).take j).flatMap putN).length ≤ 24 := by have := hA j; rw [List.length_append]; simp only [alp, List.length_cons, List.length_nil]; omega
      obtain ⟨Z, hZ⟩ : ∃ Z, alp ++ ((numsP p).take j).flatMap putN = Z := ⟨_, rfl⟩
      have hnl : (numsP p).length = 4 := by simp [numsP]
      rw [hZ] at hlen ⊢
      repeat ((conv => whnf); first | refine Br.t ?_ | refine Br.f ?_ | refine ⟨rfl, ?_⟩)
      conv => whnf
      rw [ex]
      refine ⟨⟨by omega, by rw [List.length_map]; omega, rfl⟩, ?_⟩
      repeat ((conv => whnf); first | refine Br.t ?_ | refine Br.f ?_ | refine ⟨rfl, ?_⟩)
      conv => whnf
      refine CallW.mono (upP (pgB p) .dead [] (num 0 (Z.map by8) x (by omega) (by rw [List.length_map]; omega)) rfl rfl) ?_
      rintro r st' ⟨rfl, rfl⟩
      rw [← List.map_append]
      repeat ((conv => whnf); first | refine Br.t ?_ | refine Br.f ?_ | refine ⟨rfl, ?_⟩)
      conv => whnf
      refine ⟨j + 1, by simp [numsP] at g; omega, by simp [numsP] at g; omega, ?_⟩
      rw [et, List.flatMap_append, show [x].flatMap putN = putN x by simp, ← List.append_assoc, hZ]
      refine Le.down (fun id => if id = 3 then 1 else 0) (by intro id hid; simp at hid) ?_ ?_
      · simp [leS, mkS, V.up]
        exact i64_id (by omega) (by omega)
      · simp only [upSt, Ob.up, map_up_lift, wrU]
        rfl
    · have g : j = 4 := by simp at g; omega
      subst g
      repeat ((conv => whnf); first | refine Br.t ?_ | refine Br.f ?_ | refine ⟨rfl, ?_⟩)
      conv => whnf
      refine loop_ok (α := Nat) (fun f => ⟨mkS 79 [(1, .ptr 0 0 0 0), (2, .nils), (3, .i (.int .i64 0)), (7, .ptr 1 0 0 0), (47, .i (.sl (p.fs.map encF))), (48, .i (.int .i64 (p.fs.map encF).length)), (49, .i (.int .i64 f))], wrU (pgB p) .dead 0 ((alp ++ (numsP p).flatMap putN ++ (p.fs.take f).flatMap fnN).map by8)⟩)
        (fun f => f ≤ p.fs.length) (fun f => p.fs.length - f) 0 (Nat.zero_le _) ?_ (fun f hf => wpx_ok (own := own0) _ _ _ ?_)
      · rw [List.take_zero, List.flatMap_nil, List.append_nil]
        exact Le.slots (by simp [leS, mkS])
      repeat ((conv => whnf); first | refine Br.t ?_ | refine Br.f ?_ | refine ⟨rfl, ?_⟩)
      conv => whnf
      refine Br.mk (fun g => ?_) (fun g => ?_)
      · have g : f < p.fs.length := by simpa using g
        obtain ⟨L, hL⟩ : ∃ L, L = p.fs[f] := ⟨_, rfl⟩
        have hLm : L ∈ p.fs := hL ▸ List.getElem_mem g
        have eL : (p.fs.map encF).getD (f : Int).toNat [] = encF L := by rw [hL]; exact getD_enc g
        have etL : p.fs.take (f + 1) = p.fs.take f ++ [L] := by rw [hL]; simp
        obtain ⟨L1, L2, _⟩ := ok.f L hLm
        have hnd := fun x hx => ok.nd hLm (x := x) hx
        have hlen : (alp ++ (numsP p).flatMap putN ++ (p.fs.take f).flatMap fnN).length ≤ 20600 := by
          have h1 := hA 4
          rw [List.take_of_length_le (by simp [numsP])] at h1
          have h2 := hB f
          rw [List.length_append, List.length_append]; simp only [alp, List.length_cons, List.length_nil]; omega
        obtain ⟨Z, hZ⟩ : ∃ Z, alp ++ (numsP p).flatMap putN ++ (p.fs.take f).flatMap fnN = Z := ⟨_, rfl⟩
        rw [hZ] at hlen ⊢
        repeat ((conv => whnf); first | refine Br.t ?_ | refine Br.f ?_ | refine ⟨rfl, ?_⟩)
        conv => whnf
        rw [eL]
        refine ⟨⟨by omega, by simp; omega, rfl⟩, ?_⟩
        repeat ((conv => whnf); first | refine Br.t ?_ | refine Br.f ?_ | refine ⟨rfl, ?_⟩)
        conv => whnf
        have cn : CallW Try.prog G0 27 [.ptr 0 0 0 0, .i (.int .i64 ((L.map encNd).length : Nat))] (wr 0 (Z.map by8)) (fun r st' => r = .tup [] ∧ st' = wr 1 (Z.map by8 ++ (putN L.length).map by8)) := by
          rw [List.length_map]
          exact num 0 (Z.map by8) L.length (by omega) (by rw [List.length_map]; omega)
        refine CallW.mono (upP (pgB p) .dead [] cn rfl rfl) ?_
        rintro r st' ⟨rfl, rfl⟩
        rw [← List.map_append]
        repeat ((conv => whnf); first | refine Br.t ?_ | refine Br.f ?_ | refine ⟨rfl, ?_⟩)
        conv => whnf
        refine loop_ok (α := Nat) (fun i => ⟨mkS 79 [(1, .ptr 0 0 0 0), (2, .nils), (3, .i (.int .i64 0)), (7, .ptr 1 0 0 0), (47, .i (.sl (p.fs.map encF))), (48, .i (.int .i64 (p.fs.map encF).length)), (49, .i (.int .i64 f)), (56, .i (.sl (L.map encNd))), (57, .i (.int .i64 (L.map encNd).length)), (58, .i (.int .i64 i))], wrU (pgB p) .dead 0 ((Z ++ putN L.length ++ (L.take i).flatMap nodeN).map by8)⟩)
          (fun i => i ≤ L.length) (fun i => L.length - i) 0 (Nat.zero_le _) ?_ (fun i hi => wpx_ok (own := own0) _ _ _ ?_)
        · rw [List.take_zero, List.flatMap_nil, List.append_nil]
          refine Le.down (fun id => if id = 3 then 1 else 0) (by intro id hid; simp at hid) ?_ ?_
          · simp [leS, mkS, V.up]
          · simp only [upSt, Ob.up, map_up_lift, wrU]
            rfl
        repeat ((conv => whnf); first | refine Br.t ?_ | refine Br.f ?_ | refine ⟨rfl, ?_⟩)
        conv => whnf
        refine Br.mk (fun g1 => ?_) (fun g1 => ?_)
        · have g1 : i < L.length := by simpa using g1
          obtain ⟨x, hx⟩ : ∃ x, x = L[i] := ⟨_, rfl⟩
          have hxm : x ∈ L := hx ▸ List.getElem_mem g1
          have ex : (L.map encNd).getD (i : Int).toNat [] = encNd x := by rw [hx]; exact getD_enc g1
          have etx : L.take (i + 1) = L.take i ++ [x] := by rw [hx]; simp
          obtain ⟨⟨k1, k2⟩, kf, _⟩ := hnd x hxm
          have hlen2 : (Z ++ putN L.length ++ (L.take i).flatMap nodeN).length ≤ 22000 := by
            have h1 := flat_le (b := 20) (l := L.take i) (f := nodeN) (fun y hy => node_len (hnd y (List.mem_of_mem_take hy)))
            have h2 : (L.take i).length ≤ 64 := by rw [List.length_take]; omega
            have h3 := put_le (n := L.length) (by omega)
            rw [List.length_append, List.length_append]; omega
          obtain ⟨Y, hY⟩ : ∃ Y, Z ++ putN L.length ++ (L.take i).flatMap nodeN = Y := ⟨_, rfl⟩
          rw [hY] at hlen2 ⊢
          have ek : ((x.1.toNat : Nat) : Int) = x.1 := by omega
          repeat ((conv => whnf); first | refine Br.t ?_ | refine Br.f ?_ | refine ⟨rfl, ?_⟩)
          conv => whnf
          rw [ex]
          refine ⟨⟨by omega, by simp; omega, rfl⟩, ?_⟩
          repeat ((conv => whnf); first | refine Br.t ?_ | refine Br.f ?_ | refine ⟨rfl, ?_⟩)
          conv => whnf
          have ck := num 0 (Y.map by8) x.1.toNat (by omega) (by rw [List.length_map]; omega)
          rw [ek] at ck
          refine CallW.mono (upP (pgB p) .dead [ndB x] ck rfl rfl) ?_
          rintro r st' ⟨rfl, rfl⟩
          rw [← List.map_append]
          have hk := put_le (n := x.1.toNat) (by omega)
          obtain ⟨X, hX⟩ : ∃ X, Y ++ putN x.1.toNat = X := ⟨_, rfl⟩
          have hXl : X.length ≤ 22010 := by rw [← hX, List.length_append]; omega
          rw [hX]
          repeat ((conv => whnf); first | refine Br.t ?_ | refine Br.f ?_ | refine ⟨rfl, ?_⟩)
          conv => whnf
          by_cases k9 : x.1 = 9
          · have en : nodeN x = putN x.1.toNat := by rw [nodeN, k9]; simp [partsL]
            refine CallW.mono (CallW.under (wrU (pgB p) .dead 1 (X.map by8)) (parts32a x k9) (by intro o ho; simp only [List.mem_singleton] at ho; subst ho; exact ndB_cl x _) rfl) ?_
            rintro r st' ⟨r0, s0, ⟨rfl, rfl⟩, _, rfl, rfl⟩
            repeat ((conv => whnf); first | refine Br.t ?_ | refine Br.f ?_ | refine ⟨rfl, ?_⟩)
            conv => whnf
            refine loop_ok (α := Unit) (fun _ => ⟨mkS 79 [(1, .ptr 0 0 0 0), (2, .nils), (3, .i (.int .i64 0)), (7, .ptr 1 0 0 0), (47, .i (.sl (p.fs.map encF))), (48, .i (.int .i64 (p.fs.map encF).length)), (49, .i (.int .i64 f)), (56, .i (.sl (L.map encNd))), (57, .i (.int .i64 (L.map encNd).length)), (58, .i (.int .i64 i)), (66, .i (.int .i64 0)), (67, .i (.int .i64 0))], wrU (pgB p) .dead 1 (X.map by8) ++ [ndB x]⟩)
              (fun _ => True) (fun _ => 0) () trivial (Le.slots (by simp [leS, mkS])) (fun _ _ => wpx_ok (own := own0) _ _ _ ?_)
            repeat ((conv => whnf); first | refine Br.t ?_ | refine Br.f ?_ | refine ⟨rfl, ?_⟩)
            conv => whnf
            refine ⟨i + 1, by omega, by omega, ?_⟩
            rw [etx, List.flatMap_append, show [x].flatMap nodeN = nodeN x by simp, en, ← List.append_assoc, hY, hX]
            refine Le.back (fun id => if id = 3 then 1 else 0) (by intro id hid; simp at hid) (by simp [wrU]) rfl (by intro o ho; exact wrU_cl p _ _ (by simp [wrU]) o ho) ?_ ?_
            · simp [leS, mkS, V.up]
              exact i64_id (by omega) (by omega)
            · simp only [upSt, Ob.up, map_up_lift, wrU]
              rfl
          · have en : nodeN x = putN x.1.toNat ++ (partsL x.1).flatMap fun c => putN (fld x c).toNat := rfl
            have pl := parts_len x.1
            have pm := fun c (h : c ∈ partsL x.1) => parts_mem h
            have pc := parts32 x k9
            generalize partsL x.1 = P at en pl pm pc
            refine CallW.mono (CallW.under (wrU (pgB p) .dead 1 (X.map by8)) pc (by intro o ho; simp only [List.mem_singleton] at ho; subst ho; exact ndB_cl x _) rfl) ?_
            rintro r st' ⟨r0, s0, ⟨rfl, rfl⟩, _, rfl, rfl⟩
            rw [show [ndB x, ptrB 0 P].map (Ob.ren fun i => (wrU (pgB p) .dead 1 (X.map by8)).length + i) = [ndB x, ptrB 4 P] by
              simp only [List.map_cons, List.map_nil]
              rw [ptr_ren]
              rfl]
            repeat ((conv => whnf); first | refine Br.t ?_ | refine Br.f ?_ | refine ⟨rfl, ?_⟩)
            conv => whnf
            refine loop_ok (α := Nat) (fun j => ⟨mkS 79 [(1, .ptr 0 0 0 0), (2, .nils), (3, .i (.int .i64 0)), (7, .ptr 1 0 0 0), (47, .i (.sl (p.fs.map encF))), (48, .i (.int .i64 (p.fs.map encF).length)), (49, .i (.int .i64 f)), (56, .i (.sl (L.map encNd))), (57, .i (.int .i64 (L.map encNd).length)), (58, .i (.int .i64 i)), (65, .ref 5 1 0 P.length), (66, .i (.int .i64 P.length)), (67, .i (.int .i64 j))], wrU (pgB p) .dead 0 ((X ++ (P.take j).flatMap fun c => putN (fld x c).toNat).map by8) ++ [ndB x, ptrB 4 P]⟩)
              (fun j => j ≤ P.length) (fun j => P.length - j) 0 (Nat.zero_le _) ?_ (fun j hj => wpx_ok (own := own0) _ _ _ ?_)
            · rw [List.take_zero, List.flatMap_nil, List.append_nil]
              refine Le.down (fun id => if id = 3 then 1 else 0) (by intro id hid; simp at hid) ?_ ?_
              · simp [leS, mkS, V.up]
              · simp only [upSt, Ob.up, map_up_lift, wrU, List.cons_append, List.nil_append, ptrB]
                rw [ptr_up _ _ (by decide)]
                rfl
            have hfl : ((P.take j).flatMap fun c => putN (fld x c).toNat).length ≤ 15 := by
              have h1 := flat_le (b := 5) (l := P.take j) (f := fun c => putN (fld x c).toNat) (fun c hc => put_le (by have := kf c; omega))
              have h2 : (P.take j).length ≤ 3 := by rw [List.length_take]; omega
              omega
            have hVl : (X ++ (P.take j).flatMap fun c => putN (fld x c).toNat).length ≤ 22100 := by rw [List.length_append]; omega
            obtain ⟨W, hW⟩ : ∃ W, (X ++ (P.take j).flatMap fun c => putN (fld x c).toNat) = W := ⟨_, rfl⟩
            rw [hW] at hVl ⊢
            repeat ((conv => whnf); first | refine Br.t ?_ | refine Br.f ?_ | refine ⟨rfl, ?_⟩)
            conv => whnf
            refine Br.mk (fun g2 => ?_) (fun g2 => ?_)
            · have g2 : j < P.length := by simp at g2; omega
              obtain ⟨c, hc⟩ : ∃ c, c = P[j] := ⟨_, rfl⟩
              have hcm : c ∈ P := hc ▸ List.getElem_mem g2
              have eP : (P.map fun c => [V.ptr 4 0 0 c]).getD (0 + (j : Int).toNat) [] = [V.ptr 4 0 0 c] := by rw [hc, Nat.zero_add, Int.toNat_natCast]; simp [List.getD_eq_getElem?_getD, g2]
              have etc : P.take (j + 1) = P.take j ++ [c] := by rw [hc]; simp
              have hf := kf c
              have ef : (((fld x c).toNat : Nat) : Int) = fld x c := by omega
              have cn := num 0 (W.map by8) (fld x c).toNat (by omega) (by rw [List.length_map]; omega)
              rw [ef] at cn
              repeat ((conv => whnf); first | refine Br.t ?_ | refine Br.f ?_ | refine ⟨rfl, ?_⟩)
              conv => whnf
              refine ⟨by omega, ?_⟩
              repeat ((conv => whnf); first | refine Br.t ?_ | refine Br.f ?_ | refine ⟨rfl, ?_⟩)
              conv => whnf
              rw [eP]
              repeat ((conv => whnf); first | refine Br.t ?_ | refine Br.f ?_ | refine ⟨rfl, ?_⟩)
              conv => whnf
              have hcc := pm c hcm
              rcases hcc with rfl | rfl | rfl
              · repeat ((conv => whnf); first | refine Br.t ?_ | refine Br.f ?_ | refine ⟨rfl, ?_⟩)
                conv => whnf
                refine CallW.mono (upP (pgB p) .dead [ndB x, ptrB 4 P] cn rfl rfl) ?_
                rintro r st' ⟨rfl, rfl⟩
                rw [← List.map_append]
                repeat ((conv => whnf); first | refine Br.t ?_ | refine Br.f ?_ | refine ⟨rfl, ?_⟩)
                conv => whnf
                refine ⟨j + 1, by omega, by omega, ?_⟩
                rw [etc, List.flatMap_append, List.flatMap_singleton, ← List.append_assoc, hW]
                refine Le.down (fun id => if id = 3 then 1 else 0) (by intro id hid; simp at hid) ?_ ?_
                · simp [leS, mkS, V.up]
                  exact i64_id (by omega) (by omega)
                · simp only [upSt, Ob.up, map_up_lift, wrU, List.cons_append, List.nil_append, ptrB]
                  rw [ptr_up _ _ (by decide)]
                  rfl
              · repeat ((conv => whnf); first | refine Br.t ?_ | refine Br.f ?_ | refine ⟨rfl, ?_⟩)
                conv => whnf
                refine CallW.mono (upP (pgB p) .dead [ndB x, ptrB 4 P] cn rfl rfl) ?_
                rintro r st' ⟨rfl, rfl⟩
                rw [← List.map_append]
                repeat ((conv => whnf); first | refine Br.t ?_ | refine Br.f ?_ | refine ⟨rfl, ?_⟩)
                conv => whnf
                refine ⟨j + 1, by omega, by omega, ?_⟩
                rw [etc, List.flatMap_append, List.flatMap_singleton, ← List.append_assoc, hW]
                refine Le.down (fun id => if id = 3 then 1 else 0) (by intro id hid; simp at hid) ?_ ?_
                · simp [leS, mkS, V.up]
                  exact i64_id (by omega) (by omega)
                · simp only [upSt, Ob.up, map_up_lift, wrU, List.cons_append, List.nil_append, ptrB]
                  rw [ptr_up _ _ (by decide)]
                  rfl
              · repeat ((conv => whnf); first | refine Br.t ?_ | refine Br.f ?_ | refine ⟨rfl, ?_⟩)
                conv => whnf
                refine CallW.mono (upP (pgB p) .dead [ndB x, ptrB 4 P] cn rfl rfl) ?_
                rintro r st' ⟨rfl, rfl⟩
                rw [← List.map_append]
                repeat ((conv => whnf); first | refine Br.t ?_ | refine Br.f ?_ | refine ⟨rfl, ?_⟩)
                conv => whnf
                refine ⟨j + 1, by omega, by omega, ?_⟩
                rw [etc, List.flatMap_append, List.flatMap_singleton, ← List.append_assoc, hW]
                refine Le.down (fun id => if id = 3 then 1 else 0) (by intro id hid; simp at hid) ?_ ?_
                · simp [leS, mkS, V.up]
                  exact i64_id (by omega) (by omega)
                · simp only [upSt, Ob.up, map_up_lift, wrU, List.cons_append, List.nil_append, ptrB]
                  rw [ptr_up _ _ (by decide)]
                  rfl
            · have g2 : j = P.length := by simp at g2; omega
              subst g2
              repeat ((conv => whnf); first | refine Br.t ?_ | refine Br.f ?_ | refine ⟨rfl, ?_⟩)
              conv => whnf
              rw [List.take_length] at hW
              refine ⟨i + 1, by omega, by omega, ?_⟩
              rw [etx, List.flatMap_append, show [x].flatMap nodeN = nodeN x by simp, en, ← List.append_assoc, hY, ← List.append_assoc, hX, hW]
              refine Le.back (fun _ => 0) (by intro id hid; rfl) (by simp [wrU]) rfl (by intro o ho; exact wrU_cl p _ _ (by simp [wrU]) o ho) ?_ ?_
              · simp [leS, mkS, V.up]
                exact i64_id (by omega) (by omega)
              · simp only [upSt, Ob.up, map_up_lift, wrU]
                rfl
        · have g1 : i = L.length := by simp at g1; omega
          subst g1
          repeat ((conv => whnf); first | refine Br.t ?_ | refine Br.f ?_ | refine ⟨rfl, ?_⟩)
          conv => whnf
          refine ⟨f + 1, by omega, by omega, ?_⟩
          rw [etL, List.flatMap_append, show [L].flatMap fnN = fnN L by simp, ← List.append_assoc, hZ, List.take_length, fnN, ← List.append_assoc]
          refine Le.slots ?_
          simp [leS, mkS]
          exact i64_id (by omega) (by omega)
      · have g : f = p.fs.length := by simp at g; omega
        subst g
        repeat ((conv => whnf); first | refine Br.t ?_ | refine Br.f ?_ | refine ⟨rfl, ?_⟩)
        conv => whnf
        have h1 := hA 4
        rw [List.take_of_length_le (by simp [numsP])] at h1
        have h2 := hB p.fs.length
        rw [List.take_length] at h2 ⊢
        refine CallW.mono (upP (pgB p) .dead [] (bytes 0 ((progN p).map by8) (bytes_one _) (by simp [progN, alp]; simp at h1 h2; omega)) rfl rfl) ?_
        rintro r st' ⟨rfl, rfl⟩
        repeat ((conv => whnf); first | refine Br.t ?_ | refine Br.f ?_ | refine ⟨rfl, ?_⟩)
        conv => whnf
        refine fin (target := []) rfl (Nat.zero_le _) (by simp) rfl rfl
  · rw [if_neg hz]
    repeat ((conv => whnf); first | refine Br.t ?_ | refine Br.f ?_ | refine ⟨rfl, ?_⟩)
    conv => whnf
    refine Br.mk (fun q => ?_) (fun q => by simp at q; exact absurd q hz)
    repeat ((conv => whnf); first | refine Br.t ?_ | refine Br.f ?_ | refine ⟨rfl, ?_⟩)
    conv => whnf
    refine fin (target := []) rfl (Nat.zero_le _) (by simp) rfl rfl
end Go.Proofs.Ytdbmfnhbgacldaa.Am
