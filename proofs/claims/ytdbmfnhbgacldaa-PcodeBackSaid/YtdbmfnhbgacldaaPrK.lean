/- Contracts: the nodes of a function read. -/
import Derived.Test.YtdbmfnhbgacldaaPrI
namespace Go.Proofs.Ytdbmfnhbgacldaa.Am
set_option autoImplicit false
set_option linter.unusedVariables false
set_option linter.unusedSimpArgs false
set_option maxRecDepth 10000
set_option pp.maxSteps 20000
set_option pp.proofs false
def setF (x : Nd) (c : Nat) (v : Int) : Nd := if c = 1 then (x.1, v, x.2.2.1, x.2.2.2) else if c = 2 then (x.1, x.2.1, v, x.2.2.2) else (x.1, x.2.1, x.2.2.1, v)
def rdFld : List Nat → Nd → Rd → Nd × Rd
  | [], x, s => (x, s)
  | c :: cs, x, s => rdFld cs (setF x c (s.num 64).1) (s.num 64).2
def rdNode (s : Rd) : Nd × Rd := rdFld (partsL (s.num 9).1) ((s.num 9).1, 0, 0, 0) (s.num 9).2
def rdNodes : Nat → List Nd → Rd → List Nd × Rd
  | 0, l, s => (l, s)
  | k + 1, l, s => if s.why = 0 then rdNodes k (l ++ [(rdNode s).1]) (rdNode s).2 else (l, s)
def nodesR (s : Rd) : List Nd × Rd := rdNodes (s.num 64).1 [] (s.num 64).2
theorem rdFld_ok : ∀ (l : List Nat) (x : Nd) (s : Rd), s.ok → (rdFld l x s).2.ok
  | [], _, _, h => h
  | c :: l, x, s, h => rdFld_ok l _ _ (num_ok h 64)
theorem rdNode_ok {s : Rd} (h : s.ok) : (rdNode s).2.ok := rdFld_ok _ _ _ (num_ok h 9)
theorem rdNodes_ok : ∀ (k : Nat) (l : List Nd) (s : Rd), s.ok → (rdNodes k l s).2.ok
  | 0, _, _, h => h
  | k + 1, l, s, h => by
    rw [rdNodes]
    split
    · exact rdNodes_ok k _ _ (rdNode_ok h)
    · exact h
theorem nodesR_ok {s : Rd} (h : s.ok) : (nodesR s).2.ok := rdNodes_ok _ _ _ (num_ok h 64)
theorem rdNodes_len : ∀ (k : Nat) (l : List Nd) (s : Rd), (rdNodes k l s).1.length ≤ l.length + k
  | 0, _, _ => by simp [rdNodes]
  | k + 1, l, s => by
    rw [rdNodes]
    split
    · have := rdNodes_len k (l ++ [(rdNode s).1]) (rdNode s).2
      simp at this
      omega
    · simp only; omega
theorem num_mxN (s : Rd) (mx : Nat) : (s.num mx).1 ≤ mx := by
  unfold Rd.num
  split
  · simp
  · split
    · simp
    · split
      · simp
      · simp only; omega
theorem fstB_cl (s : Rd) (l : List Nd) (m : Nat) : ∀ o ∈ [rdB s, .row 1 4 false (lift (l.map encNd))], o.cl m := by
  intro o ho
  simp only [List.mem_cons, List.not_mem_nil, or_false] at ho
  rcases ho with rfl | rfl
  · intro cs hcs
    simp only [List.mem_singleton] at hcs
    subst hcs
    rfl
  · exact row_cl 1 4 (l.map encNd) m _ (by simp)
set_option maxHeartbeats 2000000 in
theorem nodes43 (s : Rd) (hok : s.ok) : CallW Try.prog G0 43 [.ptr 0 0 0 0] [rdB s] (fun r st' => r = .i (.sl ((nodesR s).1.map encNd)) ∧ st' = [rdB (nodesR s).2]) := by
  refine call_of_bodyF 1 (Nat.le_refl _) Try.func43 rfl (fun a w => Try.call43 a w) (wpx_ok (own := own0) _ _ _ ?_)
  repeat ((conv => whnf); first | refine Br.t ?_ | refine Br.f ?_ | refine ⟨rfl, ?_⟩)
  conv => whnf
  refine CallW.mono (num37 s hok 64) ?_
  rintro r st' ⟨rfl, rfl⟩
  have hok1 := num_ok hok 64
  have h64 : (s.num 64).1 ≤ 64 := num_mxN s 64
  obtain ⟨n, s1, e1⟩ : ∃ n s1, s.num 64 = (n, s1) := ⟨_, _, rfl⟩
  have hR : nodesR s = rdNodes n [] s1 := by unfold nodesR; rw [e1]
  rw [hR]
  rw [e1] at hok1 h64 ⊢
  simp only at hok1 h64 ⊢
  repeat ((conv => whnf); first | refine Br.t ?_ | refine Br.f ?_ | refine ⟨rfl, ?_⟩)
  conv => whnf
  refine loop_ok (α := Nat × List Nd × Rd) (fun x => ⟨mkS 39 [(0, .ptr 0 0 0 0), (2, .nils), (3, .ref 1 1 0 x.2.1.length), (4, .i (.int .i64 x.1))], [rdB x.2.2, .row 1 4 false (lift (x.2.1.map encNd))]⟩)
    (fun x => x.1 ≤ 64 ∧ x.2.2.ok ∧ x.2.1.length + x.1 ≤ 64 ∧ rdNodes x.1 x.2.1 x.2.2 = rdNodes n [] s1) (fun x => x.1) (n, [], s1) ⟨h64, hok1, by simpa using h64, rfl⟩
    ((Le.nil (n := 1) 3 4 rfl).trans (Le.slots (by simp [leS, mkS]))) (fun x hx => wpx_ok (own := own0) _ _ _ ?_)
  obtain ⟨k, l, s2⟩ := x
  obtain ⟨h1, h2, h3, h4⟩ := hx
  simp only at h1 h2 h3 h4
  dsimp only
  cases k with
  | zero =>
    rw [rdNodes] at h4
    rw [← h4]
    repeat ((conv => whnf); first | refine Br.t ?_ | refine Br.f ?_ | refine ⟨rfl, ?_⟩)
    conv => whnf
    refine ⟨Nat.le_refl _, rfl, l.map encNd, rfl, ?_⟩
    conv => whnf
    refine fin (target := [rdB s2]) rfl (by simp) (rdB_cl _) ?_ rfl
    rw [List.drop_zero, List.take_of_length_le (by simp [lift])]
  | succ k =>
    rw [rdNodes] at h4
    repeat ((conv => whnf); first | refine Br.t ?_ | refine Br.f ?_ | refine ⟨rfl, ?_⟩)
    conv => whnf
    refine Br.mk (fun g0 => ?_) (fun g0 => by simp at g0)
    repeat ((conv => whnf); first | refine Br.t ?_ | refine Br.f ?_ | refine ⟨rfl, ?_⟩)
    conv => whnf
    refine CallW.mono (atR [] [_] (fault35 s2) rfl rfl) ?_
    rintro r st' ⟨rfl, rfl⟩
    repeat ((conv => whnf); first | refine Br.t ?_ | refine Br.f ?_ | refine ⟨rfl, ?_⟩)
    conv => whnf
    refine Br.mk (fun g1 => ?_) (fun g1 => ?_)
    · have g1 : s2.why = 0 := by simpa using g1
      rw [if_pos g1] at h4
      repeat ((conv => whnf); first | refine Br.t ?_ | refine Br.f ?_ | refine ⟨rfl, ?_⟩)
      conv => whnf
      refine CallW.mono (atR [] [_] (num37 s2 h2 9) rfl rfl) ?_
      rintro r st' ⟨rfl, rfl⟩
      have hN : rdNode s2 = rdFld (partsL (s2.num 9).1) ((s2.num 9).1, 0, 0, 0) (s2.num 9).2 := rfl
      rw [hN] at h4
      have hok2 := num_ok h2 9
      have h9 : (s2.num 9).1 ≤ 9 := num_mxN s2 9
      obtain ⟨q, s3, e3⟩ : ∃ n s1, s2.num 9 = (n, s1) := ⟨_, _, rfl⟩
      rw [e3] at h4 hok2 h9 ⊢
      simp only at h4 hok2 h9 ⊢
      repeat ((conv => whnf); first | refine Br.t ?_ | refine Br.f ?_ | refine ⟨rfl, ?_⟩)
      conv => whnf
      by_cases k9 : (q : Int) = 9
      · have ep : partsL (q : Int) = [] := by rw [k9]; rfl
        rw [ep, rdFld] at h4
        simp only at h4
        refine CallW.mono (CallW.under [rdB s3, .row 1 4 false (lift (l.map encNd))] (parts32a ((q : Int), 0, 0, 0) k9) (by intro o ho; simp only [List.mem_singleton] at ho; subst ho; exact ndB_cl _ _) rfl) ?_
        rintro r st' ⟨r0, s0, ⟨rfl, rfl⟩, _, rfl, rfl⟩
        repeat ((conv => whnf); first | refine Br.t ?_ | refine Br.f ?_ | refine ⟨rfl, ?_⟩)
        conv => whnf
        refine loop_ok (α := Unit) (fun _ => ⟨mkS 39 [(0, .ptr 0 0 0 0), (2, .nils), (3, .ref 1 1 0 l.length), (4, .i (.int .i64 (k + 1 : Nat))), (5, .ptr 2 0 0 0), (24, .i (.int .i64 0)), (25, .i (.int .i64 0))], [rdB s3, .row 1 4 false (lift (l.map encNd)), ndB ((q : Int), 0, 0, 0)]⟩)
          (fun _ => True) (fun _ => 0) () trivial (Le.slots (by simp [leS, mkS])) (fun _ _ => wpx_ok (own := own0) _ _ _ ?_)
        have hokk := hok2
        repeat ((conv => whnf); first | refine Br.t ?_ | refine Br.f ?_ | refine ⟨rfl, ?_⟩)
        conv => whnf
        refine ⟨⟨by intro cs hcs; simp at hcs; subst hcs; rfl, by simp [lift], by show (l.length + 1) * 32 ≤ _; omega, len_mx (by simp [lift]; omega)⟩, ?_⟩
        repeat ((conv => whnf); first | refine Br.t ?_ | refine Br.f ?_ | refine ⟨rfl, ?_⟩)
        conv => whnf
        refine ⟨(k, l ++ [((q : Int), 0, 0, 0)], s3), ⟨by simp only; omega, hokk, by simp; omega, h4⟩, by simp only; omega, Le.back (fun id => if id = 1 then 1 else 0) (by intro id hid; simp at hid; simp [hid]) (by simp) rfl (fstB_cl _ _ _) ?_ ?_⟩
        · simp [leS, mkS, V.up, lift]
          rw [i64_id (by omega) (by omega)]
        · simp only [upSt, Ob.up, map_up_lift, List.map_append, lift_app]
          rfl
      · have pl := parts_len (q : Int)
        have pm := fun c (h : c ∈ partsL (q : Int)) => parts_mem h
        have pc := parts32 ((q : Int), 0, 0, 0) k9
        simp only at pc
        generalize partsL (q : Int) = P at h4 pl pm pc
        refine CallW.mono (CallW.under [rdB s3, .row 1 4 false (lift (l.map encNd))] pc (by intro o ho; simp only [List.mem_singleton] at ho; subst ho; exact ndB_cl _ _) rfl) ?_
        rintro r st' ⟨r0, s0, ⟨rfl, rfl⟩, _, rfl, rfl⟩
        rw [show [ndB ((q : Int), 0, 0, 0), ptrB 0 P].map (Ob.ren fun i => [rdB s3, Ob.row 1 4 false (lift (l.map encNd))].length + i) = [ndB ((q : Int), 0, 0, 0), ptrB 2 P] by
          simp only [List.map_cons, List.map_nil]
          rw [ptr_ren]
          rfl]
        repeat ((conv => whnf); first | refine Br.t ?_ | refine Br.f ?_ | refine ⟨rfl, ?_⟩)
        conv => whnf
        refine loop_ok (α := Nat × Nd × Rd) (fun x => ⟨mkS 39 [(0, .ptr 0 0 0 0), (2, .nils), (3, .ref 1 1 0 l.length), (4, .i (.int .i64 (k + 1 : Nat))), (5, .ptr 2 0 0 0), (23, .ref 3 1 0 P.length), (24, .i (.int .i64 P.length)), (25, .i (.int .i64 x.1))], [rdB x.2.2, .row 1 4 false (lift (l.map encNd)), ndB x.2.1, ptrB 2 P]⟩)
          (fun x => x.1 ≤ P.length ∧ x.2.2.ok ∧ rdFld (P.drop x.1) x.2.1 x.2.2 = rdFld P ((q : Int), 0, 0, 0) s3) (fun x => P.length - x.1) (0, ((q : Int), 0, 0, 0), s3) ⟨Nat.zero_le _, hok2, rfl⟩
          (Le.slots (by simp [leS, mkS])) (fun x hx => wpx_ok (own := own0) _ _ _ ?_)
        obtain ⟨j, y, s4⟩ := x
        obtain ⟨j1, j2, j3⟩ := hx
        simp only at j1 j2 j3
        dsimp only
        repeat ((conv => whnf); first | refine Br.t ?_ | refine Br.f ?_ | refine ⟨rfl, ?_⟩)
        conv => whnf
        refine Br.mk (fun g2 => ?_) (fun g2 => ?_)
        · have g2 : j < P.length := by simp at g2; omega
          obtain ⟨c, hc⟩ : ∃ c, c = P[j] := ⟨_, rfl⟩
          have hcm : c ∈ P := hc ▸ List.getElem_mem g2
          have eP : (P.map fun c => [V.ptr 2 0 0 c]).getD (0 + (j : Int).toNat) [] = [V.ptr 2 0 0 c] := by rw [hc, Nat.zero_add, Int.toNat_natCast]; simp [List.getD_eq_getElem?_getD, g2]
          have edr : P.drop j = c :: P.drop (j + 1) := by rw [hc]; exact List.drop_eq_getElem_cons g2
          rw [edr, rdFld] at j3
          repeat ((conv => whnf); first | refine Br.t ?_ | refine Br.f ?_ | refine ⟨rfl, ?_⟩)
          conv => whnf
          refine ⟨by omega, ?_⟩
          repeat ((conv => whnf); first | refine Br.t ?_ | refine Br.f ?_ | refine ⟨rfl, ?_⟩)
          conv => whnf
          rw [eP]
          repeat ((conv => whnf); first | refine Br.t ?_ | refine Br.f ?_ | refine ⟨rfl, ?_⟩)
          conv => whnf
          refine CallW.mono (atR [] [_, _, _] (num37 s4 j2 64) rfl rfl) ?_
          rintro r st' ⟨rfl, rfl⟩
          have hok3 := num_ok j2 64
          obtain ⟨v, s5, e5⟩ : ∃ n s1, s4.num 64 = (n, s1) := ⟨_, _, rfl⟩
          rw [e5] at j3 hok3 ⊢
          simp only at j3 hok3 ⊢
          have hcc := pm c hcm
          rcases hcc with rfl | rfl | rfl
          · repeat ((conv => whnf); first | refine Br.t ?_ | refine Br.f ?_ | refine ⟨rfl, ?_⟩)
            conv => whnf
            refine ⟨(j + 1, setF y 1 v, s5), ⟨by simp only; omega, hok3, j3⟩, by simp only; omega, Le.slots ?_⟩
            simp [leS, mkS]
            exact i64_id (by omega) (by omega)
          · repeat ((conv => whnf); first | refine Br.t ?_ | refine Br.f ?_ | refine ⟨rfl, ?_⟩)
            conv => whnf
            refine ⟨(j + 1, setF y 2 v, s5), ⟨by simp only; omega, hok3, j3⟩, by simp only; omega, Le.slots ?_⟩
            simp [leS, mkS]
            exact i64_id (by omega) (by omega)
          · repeat ((conv => whnf); first | refine Br.t ?_ | refine Br.f ?_ | refine ⟨rfl, ?_⟩)
            conv => whnf
            refine ⟨(j + 1, setF y 3 v, s5), ⟨by simp only; omega, hok3, j3⟩, by simp only; omega, Le.slots ?_⟩
            simp [leS, mkS]
            exact i64_id (by omega) (by omega)
        · have g2 : j = P.length := by simp at g2; omega
          subst g2
          rw [List.drop_length, rdFld] at j3
          rw [← j3] at h4
          simp only at h4
          have hokk := j2
          repeat ((conv => whnf); first | refine Br.t ?_ | refine Br.f ?_ | refine ⟨rfl, ?_⟩)
          conv => whnf
          obtain ⟨y1, y2, y3, y4⟩ := y
          repeat ((conv => whnf); first | refine Br.t ?_ | refine Br.f ?_ | refine ⟨rfl, ?_⟩)
          conv => whnf
          refine ⟨⟨by intro cs hcs; simp at hcs; subst hcs; rfl, by simp [lift], by show (l.length + 1) * 32 ≤ _; omega, len_mx (by simp [lift]; omega)⟩, ?_⟩
          repeat ((conv => whnf); first | refine Br.t ?_ | refine Br.f ?_ | refine ⟨rfl, ?_⟩)
          conv => whnf
          refine ⟨(k, l ++ [(y1, y2, y3, y4)], s4), ⟨by simp only; omega, hokk, by simp; omega, h4⟩, by simp only; omega, Le.back (fun id => if id = 1 then 1 else 0) (by intro id hid; simp at hid; simp [hid]) (by simp) rfl (fstB_cl _ _ _) ?_ ?_⟩
          · simp [leS, mkS, V.up, lift]
            rw [i64_id (by omega) (by omega)]
          · simp only [upSt, Ob.up, map_up_lift, List.map_append, lift_app]
            rfl
    · have g1 : ¬ s2.why = 0 := by simpa using g1
      rw [if_neg g1] at h4
      rw [← h4]
      repeat ((conv => whnf); first | refine Br.t ?_ | refine Br.f ?_ | refine ⟨rfl, ?_⟩)
      conv => whnf
      refine ⟨Nat.le_refl _, rfl, l.map encNd, rfl, ?_⟩
      conv => whnf
      refine fin (target := [rdB s2]) rfl (by simp) (rdB_cl _) ?_ rfl
      rw [List.drop_zero, List.take_of_length_le (by simp [lift])]
end Go.Proofs.Ytdbmfnhbgacldaa.Am
namespace Go.Proofs.Ytdbmfnhbgacldaa.Am
set_option autoImplicit false
set_option linter.unusedVariables false
set_option linter.unusedSimpArgs false
set_option maxRecDepth 10000
set_option pp.maxSteps 20000
set_option pp.proofs false
def alpS : ByteArray := ⟨#[97, 108, 112, 49]⟩
def rdFns : Nat → List (List Nd) → Rd → List (List Nd) × Rd
  | 0, l, s => (l, s)
  | k + 1, l, s => if s.why = 0 then rdFns k (l ++ [(nodesR s).1]) (nodesR s).2 else (l, s)
def Pg.zero : Pg := ⟨0, 0, 0, []⟩
def tailP (bs : List Nat) (s1 : Rd) : Pg × Nat × Int :=
  let a := s1.num 16
  let b := a.2.num 16
  let c := b.2.num 8
  let n := c.2.num 16
  let f := rdFns n.1 [] n.2
  let p : Pg := ⟨a.1, b.1, c.1, f.1⟩
  if f.2.done.why ≠ 0 then (Pg.zero, f.2.done.a, f.2.done.why) else if (chk p).2.2 ≠ 0 then (Pg.zero, bs.length, (chk p).2.2) else (p, 0, 0)
def readP (bs : List Nat) : Pg × Nat × Int :=
  if 65536 < bs.length then (Pg.zero, 0, 4) else
  let r1 := Rd.raw ⟨bs, 0, 0, 0⟩ 4
  if r1.2.why = 0 ∧ strOf r1.1 ≠ alpS then (Pg.zero, 0, 3) else tailP bs r1.2
theorem rdFns_ok : ∀ (k : Nat) (l : List (List Nd)) (s : Rd), s.ok → (rdFns k l s).2.ok
  | 0, _, _, h => h
  | k + 1, l, s, h => by
    rw [rdFns]
    split
    · exact rdFns_ok k _ _ (nodesR_ok h)
    · exact h
theorem nodesR_len (s : Rd) : (nodesR s).1.length ≤ 64 := by
  have h1 := rdNodes_len (s.num 64).1 [] (s.num 64).2
  have h2 := num_mxN s 64
  rw [show ((64 : Nat) : Int) = 64 from rfl] at h2
  simp only [List.length_nil] at h1
  unfold nodesR
  omega
theorem rdFns_len : ∀ (k : Nat) (l : List (List Nd)) (s : Rd), (∀ f ∈ l, f.length ≤ 64) → (rdFns k l s).1.length ≤ l.length + k ∧ ∀ f ∈ (rdFns k l s).1, f.length ≤ 64
  | 0, l, _, h => ⟨by simp [rdFns], h⟩
  | k + 1, l, s, h => by
    rw [rdFns]
    split
    · obtain ⟨h1, h2⟩ := rdFns_len k (l ++ [(nodesR s).1]) (nodesR s).2 (fun f hf => by
        simp only [List.mem_append, List.mem_singleton] at hf
        rcases hf with hf | rfl
        · exact h f hf
        · exact nodesR_len s)
      refine ⟨?_, h2⟩
      rw [List.length_append] at h1
      simp at h1
      omega
    · exact ⟨by simp only; omega, h⟩
def zpB : Ob := .row 0 4 false [[.i (.int .i64 0), .i (.int .i64 0), .i (.int .i64 0), .nils]]
def zsB : Ob := .row 0 2 false [[.i (.int .i64 0), .i (.int .i64 0)]]
def spot (a : Nat) (w : Int) : V := .agg [.i (.int .i64 a), .i (.int .i64 w)]
set_option maxHeartbeats 2000000 in
theorem read22 (bs : List Nat) (hl : bs.length ≤ 1000000) (hb : ∀ b ∈ bs, b < 256) : CallW Try.prog G0 22 [.i (.sl (bs.map by8))] [] (fun r st' => r = .tup [pgV (readP bs).1, spot (readP bs).2.1 (readP bs).2.2] ∧ st' = []) := by
  refine call_of_bodyF 0 (Nat.le_refl _) Try.func22 rfl (fun a w => Try.call22 a w) (wpx_ok (own := own0) _ _ _ ?_)
  have ok0 : Rd.ok ⟨bs, 0, 0, 0⟩ := ⟨hl, Nat.zero_le _, hb⟩
  repeat ((conv => whnf); first | refine Br.t ?_ | refine Br.f ?_ | refine ⟨rfl, ?_⟩)
  conv => whnf
  refine Br.mk (fun h => ?_) (fun h => ?_)
  · have h : 65536 < bs.length := by simp at h; omega
    have er : readP bs = (Pg.zero, 0, 4) := by unfold readP; rw [if_pos h]
    rw [er]
    repeat ((conv => whnf); first | refine Br.t ?_ | refine Br.f ?_ | refine ⟨rfl, ?_⟩)
    conv => whnf
    refine ⟨⟨rfl, rfl⟩, ?_⟩
    conv => whnf
    refine fin (target := []) rfl (Nat.zero_le _) (by simp) ?_ ?_
    · rfl
    · rfl
  · have h : ¬ 65536 < bs.length := by simp at h; omega
    repeat ((conv => whnf); first | refine Br.t ?_ | refine Br.f ?_ | refine ⟨rfl, ?_⟩)
    conv => whnf
    refine CallW.mono (CallW.fresh _ (new33 bs hl) rfl) ?_
    rintro r st' ⟨rfl, rfl⟩
    repeat ((conv => whnf); first | refine Br.t ?_ | refine Br.f ?_ | refine ⟨rfl, ?_⟩)
    conv => whnf
    refine CallW.mono (atR [_, _, _] [] (raw34 ⟨bs, 0, 0, 0⟩ ok0 4) rfl rfl) ?_
    rintro r st' ⟨rfl, rfl⟩
    have ok1 := raw_ok ok0 4
    obtain ⟨m1, s1, e1⟩ : ∃ m s, Rd.raw ⟨bs, 0, 0, 0⟩ 4 = (m, s) := ⟨_, _, rfl⟩
    rw [e1] at ok1 ⊢
    simp only at ok1 ⊢
    repeat ((conv => whnf); first | refine Br.t ?_ | refine Br.f ?_ | refine ⟨rfl, ?_⟩)
    conv => whnf
    refine CallW.mono (atR [_, _, _] [] (fault35 s1) rfl rfl) ?_
    rintro r st' ⟨rfl, rfl⟩
    repeat ((conv => whnf); first | refine Br.t ?_ | refine Br.f ?_ | refine ⟨rfl, ?_⟩)
    conv => whnf
    have hread : readP bs = if s1.why = 0 ∧ strOf m1 ≠ alpS then (Pg.zero, 0, 3) else tailP bs s1 := by unfold readP; rw [if_neg h, e1]
    rw [hread]
    refine Br.mk (fun h2 => ?_) (fun h2 => ?_)
    · have h2 : s1.why = 0 := by simpa using h2
      repeat ((conv => whnf); first | refine Br.t ?_ | refine Br.f ?_ | refine ⟨rfl, ?_⟩)
      conv => whnf
      refine ⟨isB_ok (isB_map m1), ?_⟩
      repeat ((conv => whnf); first | refine Br.t ?_ | refine Br.f ?_ | refine ⟨rfl, ?_⟩)
      conv => whnf
      refine Br.mk (fun h3 => ?_) (fun h3 => ?_)
      · have h3 : strOf m1 ≠ alpS := by simpa [strOf, alpS] using h3
        rw [if_pos ⟨h2, h3⟩]
        repeat ((conv => whnf); first | refine Br.t ?_ | refine Br.f ?_ | refine ⟨rfl, ?_⟩)
        conv => whnf
        refine ⟨⟨rfl, rfl⟩, ?_⟩
        conv => whnf
        refine fin (target := []) rfl (Nat.zero_le _) (by simp) ?_ ?_
        · rfl
        · rfl
      · have h3 : ¬ strOf m1 ≠ alpS := by simpa [strOf, alpS] using h3
        rw [if_neg (fun h => h3 h.2)]
        repeat ((conv => whnf); first | refine Br.t ?_ | refine Br.f ?_ | refine ⟨rfl, ?_⟩)
        conv => whnf
        refine CallW.mono (atR [_, _, _] [] (num37 s1 ok1 16) rfl rfl) ?_
        rintro r st' ⟨rfl, rfl⟩
        have ok2 := num_ok ok1 16
        have ha : (s1.num 16).1 ≤ 16 := num_mxN s1 16
        obtain ⟨a, s2, e2⟩ : ∃ m s, s1.num 16 = (m, s) := ⟨_, _, rfl⟩
        rw [e2] at ok2 ha ⊢
        simp only at ok2 ha ⊢
        repeat ((conv => whnf); first | refine Br.t ?_ | refine Br.f ?_ | refine ⟨rfl, ?_⟩)
        conv => whnf
        refine CallW.mono (atR [_, _, _] [] (num37 s2 ok2 16) rfl rfl) ?_
        rintro r st' ⟨rfl, rfl⟩
        have ok3 := num_ok ok2 16
        have hb2 : (s2.num 16).1 ≤ 16 := num_mxN s2 16
        obtain ⟨b, s3, e3⟩ : ∃ m s, s2.num 16 = (m, s) := ⟨_, _, rfl⟩
        rw [e3] at ok3 hb2 ⊢
        simp only at ok3 hb2 ⊢
        repeat ((conv => whnf); first | refine Br.t ?_ | refine Br.f ?_ | refine ⟨rfl, ?_⟩)
        conv => whnf
        refine CallW.mono (atR [_, _, _] [] (num37 s3 ok3 8) rfl rfl) ?_
        rintro r st' ⟨rfl, rfl⟩
        have ok4 := num_ok ok3 8
        have hc2 : (s3.num 8).1 ≤ 8 := num_mxN s3 8
        obtain ⟨c, s4, e4⟩ : ∃ m s, s3.num 8 = (m, s) := ⟨_, _, rfl⟩
        rw [e4] at ok4 hc2 ⊢
        simp only at ok4 hc2 ⊢
        repeat ((conv => whnf); first | refine Br.t ?_ | refine Br.f ?_ | refine ⟨rfl, ?_⟩)
        conv => whnf
        refine CallW.mono (atR [_, _, _] [_] (num37 s4 ok4 16) rfl rfl) ?_
        rintro r st' ⟨rfl, rfl⟩
        have ok5 := num_ok ok4 16
        have hn2 : (s4.num 16).1 ≤ 16 := num_mxN s4 16
        obtain ⟨n, s5, e5⟩ : ∃ m s, s4.num 16 = (m, s) := ⟨_, _, rfl⟩
        rw [e5] at ok5 hn2 ⊢
        simp only at ok5 hn2 ⊢
        have ht : tailP bs s1 = if (rdFns n [] s5).2.done.why ≠ 0 then ((Pg.zero, (rdFns n [] s5).2.done.a, ((rdFns n [] s5).2.done.why : Int)) : Pg × Nat × Int) else if (chk ⟨a, b, c, (rdFns n [] s5).1⟩).2.2 ≠ 0 then (Pg.zero, bs.length, (chk ⟨a, b, c, (rdFns n [] s5).1⟩).2.2) else (⟨a, b, c, (rdFns n [] s5).1⟩, 0, 0) := by
          unfold tailP; simp only [e2, e3, e4, e5]
        rw [ht]
        repeat ((conv => whnf); first | refine Br.t ?_ | refine Br.f ?_ | refine ⟨rfl, ?_⟩)
        conv => whnf
        refine W.le (Le.nilCell 4 0 3 1 rfl rfl rfl) ?_
        refine loop_ok (α := Nat × List (List Nd) × Rd) (fun x => ⟨mkS 78 [(0, .i (.sl (bs.map by8))), (2, .ptr 0 0 0 0), (3, .ptr 1 0 0 0), (4, .ptr 3 0 0 0), (6, .ptr 4 0 0 0), (7, .i (.int .i64 x.1))], [zpB, zsB, .dead, rdB x.2.2, .row 0 4 false [[.i (.int .i64 a), .i (.int .i64 b), .i (.int .i64 c), .ref 5 1 0 x.2.1.length]], .row 1 1 false (lift (x.2.1.map encF))]⟩)
          (fun x => x.1 ≤ 16 ∧ x.2.2.ok ∧ x.2.1.length + x.1 ≤ 16 ∧ rdFns x.1 x.2.1 x.2.2 = rdFns n [] s5) (fun x => x.1) (n, [], s5) ⟨hn2, ok5, by simpa using hn2, rfl⟩
          (Le.slots (by simp [leS, mkS])) (fun x hx => W.weak (wpx_ok (own := own0) _ _ _ ?_))
        obtain ⟨k, l, s6⟩ := x
        obtain ⟨h1, h2, h3, h4⟩ := hx
        simp only at h1 h2 h3 h4
        dsimp only
        cases k with
        | zero =>
          rw [rdFns] at h4
          rw [← h4]
          repeat ((conv => whnf); first | refine Br.t ?_ | refine Br.f ?_ | refine ⟨rfl, ?_⟩)
          conv => whnf
          refine ⟨_, Le.data 5 1 1 (l.map encF) (sl := _) (s := ⟨mkS 78 [(0, .i (.sl (bs.map by8))), (2, .ptr 0 0 0 0), (3, .ptr 1 0 0 0), (4, .ptr 3 0 0 0), (6, .ptr 4 0 0 0)], [zpB, zsB, .dead, rdB s6, pgB ⟨a, b, c, l⟩, .dead]⟩) rfl ?_ ?_, ?_⟩
          · simp [leS, mkS, V.dat]
          · simp [Ob.dat, zpB, zsB, rdB, pgB, encP4, V.dat.datAll, V.dat]
            exact (List.take_of_length_le (by simp [lift])).symm
          · have hlf := rdFns_len n [] s5 (by simp)
            rw [← h4] at hlf
            simp only [List.length_nil] at hlf
            have okp : okPg ⟨a, b, c, l⟩ := ⟨by simp only; omega, fun f hf => by have := hlf.2 f hf; omega⟩
            simp only
            repeat ((conv => whnf); first | refine Br.t ?_ | refine Br.f ?_ | refine ⟨rfl, ?_⟩)
            conv => whnf
            refine CallW.mono (atR [_, _, _] [_, _] (done38 s6 h2) rfl rfl) ?_
            rintro r st' ⟨rfl, rfl⟩
            repeat ((conv => whnf); first | refine Br.t ?_ | refine Br.f ?_ | refine ⟨rfl, ?_⟩)
            conv => whnf
            refine Br.mk (fun d => ?_) (fun d => ?_)
            · have d : s6.done.why ≠ 0 := by simpa using d
              rw [if_pos d]
              repeat ((conv => whnf); first | refine Br.t ?_ | refine Br.f ?_ | refine ⟨rfl, ?_⟩)
              conv => whnf
              refine CallW.mono (atR [_, _, _] [_, _] (fault35 s6.done) rfl rfl) ?_
              rintro r st' ⟨rfl, rfl⟩
              repeat ((conv => whnf); first | refine Br.t ?_ | refine Br.f ?_ | refine ⟨rfl, ?_⟩)
              conv => whnf
              refine ⟨⟨rfl, rfl⟩, ?_⟩
              conv => whnf
              refine fin (target := []) rfl (Nat.zero_le _) (by simp) ?_ ?_
              · rfl
              · rfl
            · have d : ¬ s6.done.why ≠ 0 := by simpa using d
              rw [if_neg d]
              repeat ((conv => whnf); first | refine Br.t ?_ | refine Br.f ?_ | refine ⟨rfl, ?_⟩)
              conv => whnf
              refine CallW.mono ((check31 ⟨a, b, c, l⟩ okp).pure _ rfl rfl) ?_
              rintro r st' ⟨rfl, rfl⟩
              repeat ((conv => whnf); first | refine Br.t ?_ | refine Br.f ?_ | refine ⟨rfl, ?_⟩)
              conv => whnf
              refine Br.mk (fun e => ?_) (fun e => ?_)
              · have e : (chk ⟨a, b, c, l⟩).2.2 ≠ 0 := by simpa using e
                rw [if_pos e]
                repeat ((conv => whnf); first | refine Br.t ?_ | refine Br.f ?_ | refine ⟨rfl, ?_⟩)
                conv => whnf
                refine ⟨⟨rfl, rfl⟩, ?_⟩
                conv => whnf
                refine fin (target := []) rfl (Nat.zero_le _) (by simp) ?_ ?_
                · first | rfl | (simp only [List.length_map]; rfl)
                · rfl
              · have e : ¬ (chk ⟨a, b, c, l⟩).2.2 ≠ 0 := by simpa using e
                rw [if_neg e]
                repeat ((conv => whnf); first | refine Br.t ?_ | refine Br.f ?_ | refine ⟨rfl, ?_⟩)
                conv => whnf
                refine ⟨⟨rfl, rfl⟩, ?_⟩
                conv => whnf
                refine fin (target := []) rfl (Nat.zero_le _) (by simp) ?_ ?_
                · rfl
                · rfl
        | succ k =>
          rw [rdFns] at h4
          repeat ((conv => whnf); first | refine Br.t ?_ | refine Br.f ?_ | refine ⟨rfl, ?_⟩)
          conv => whnf
          refine Br.mk (fun g0 => ?_) (fun g0 => by simp at g0)
          repeat ((conv => whnf); first | refine Br.t ?_ | refine Br.f ?_ | refine ⟨rfl, ?_⟩)
          conv => whnf
          refine CallW.mono (atR [_, _, _] [_, _] (fault35 s6) rfl rfl) ?_
          rintro r st' ⟨rfl, rfl⟩
          repeat ((conv => whnf); first | refine Br.t ?_ | refine Br.f ?_ | refine ⟨rfl, ?_⟩)
          conv => whnf
          refine Br.mk (fun g1 => ?_) (fun g1 => ?_)
          · have g1 : s6.why = 0 := by simpa using g1
            rw [if_pos g1] at h4
            have hln := nodesR_len s6
            have hokn := nodesR_ok h2
            obtain ⟨L, s7, e7⟩ : ∃ L s, nodesR s6 = (L, s) := ⟨_, _, rfl⟩
            have cn := nodes43 s6 h2
            rw [e7] at h4 hln hokn cn
            simp only at h4 hln hokn cn
            repeat ((conv => whnf); first | refine Br.t ?_ | refine Br.f ?_ | refine ⟨rfl, ?_⟩)
            conv => whnf
            refine draw_ok (own := own0) [3, 5, 7] [(0, 5), (1, 5)] [(.i (.sl (L.map encNd)), [zpB, zsB, .dead, rdB s7, .row 0 4 false [[.i (.int .i64 a), .i (.int .i64 b), .i (.int .i64 c), .ref 5 1 0 l.length]], .row 1 1 false (lift (l.map encF))])] rfl (by kernel_rfl) (Nat.zero_le _) ?_
            repeat ((conv => whnf); first | refine Br.t ?_ | refine Br.f ?_ | refine ⟨rfl, ?_⟩)
            conv => whnf
            refine ⟨atR [_, _, _] [_, _] cn rfl rfl, ?_⟩
            repeat ((conv => whnf); first | refine Br.t ?_ | refine Br.f ?_ | refine ⟨rfl, ?_⟩)
            conv => whnf
            refine ⟨⟨by intro cs hcs; simp at hcs; subst hcs; rfl, by simp [lift], by show (l.length + 1) * 24 ≤ _; omega, len_mx (by simp [lift]; omega)⟩, ?_⟩
            repeat ((conv => whnf); first | refine Br.t ?_ | refine Br.f ?_ | refine ⟨rfl, ?_⟩)
            conv => whnf
            refine ⟨by repeat ((conv => whnf); first | exact trivial | refine ⟨rfl, ?_⟩), by repeat ((conv => whnf); first | exact trivial | refine ⟨by (conv => whnf); first | exact ⟨rfl, rfl⟩ | exact ⟨rfl, rfl, rfl⟩, ?_⟩), ?_⟩
            conv => whnf
            refine ⟨_, Le.refl _ _, (k, l ++ [L], s7), ⟨by simp only; omega, hokn, by simp; omega, h4⟩, by simp only; omega, Le.down (fun id => if id = 5 then 1 else 0) (by intro id hid; simp at hid) ?_ ?_⟩
            · simp [leS, mkS, V.up, lift]
              rw [i64_id (by omega) (by omega)]
            · simp only [upSt, Ob.up, map_up_lift, List.map_append, lift_app]
              rw [show (l ++ [L]).length = l.length + 1 by simp]
              rfl
          · have g1 : ¬ s6.why = 0 := by simpa using g1
            rw [if_neg g1] at h4
            rw [← h4]
            repeat ((conv => whnf); first | refine Br.t ?_ | refine Br.f ?_ | refine ⟨rfl, ?_⟩)
            conv => whnf
            refine ⟨_, Le.data 5 1 1 (l.map encF) (sl := _) (s := ⟨mkS 78 [(0, .i (.sl (bs.map by8))), (2, .ptr 0 0 0 0), (3, .ptr 1 0 0 0), (4, .ptr 3 0 0 0), (6, .ptr 4 0 0 0)], [zpB, zsB, .dead, rdB s6, pgB ⟨a, b, c, l⟩, .dead]⟩) rfl ?_ ?_, ?_⟩
            · simp [leS, mkS, V.dat]
            · simp [Ob.dat, zpB, zsB, rdB, pgB, encP4, V.dat.datAll, V.dat]
              exact (List.take_of_length_le (by simp [lift])).symm
            · have hlf := rdFns_len n [] s5 (by simp)
              rw [← h4] at hlf
              simp only [List.length_nil] at hlf
              have okp : okPg ⟨a, b, c, l⟩ := ⟨by simp only; omega, fun f hf => by have := hlf.2 f hf; omega⟩
              simp only
              repeat ((conv => whnf); first | refine Br.t ?_ | refine Br.f ?_ | refine ⟨rfl, ?_⟩)
              conv => whnf
              refine CallW.mono (atR [_, _, _] [_, _] (done38 s6 h2) rfl rfl) ?_
              rintro r st' ⟨rfl, rfl⟩
              repeat ((conv => whnf); first | refine Br.t ?_ | refine Br.f ?_ | refine ⟨rfl, ?_⟩)
              conv => whnf
              refine Br.mk (fun d => ?_) (fun d => ?_)
              · have d : s6.done.why ≠ 0 := by simpa using d
                rw [if_pos d]
                repeat ((conv => whnf); first | refine Br.t ?_ | refine Br.f ?_ | refine ⟨rfl, ?_⟩)
                conv => whnf
                refine CallW.mono (atR [_, _, _] [_, _] (fault35 s6.done) rfl rfl) ?_
                rintro r st' ⟨rfl, rfl⟩
                repeat ((conv => whnf); first | refine Br.t ?_ | refine Br.f ?_ | refine ⟨rfl, ?_⟩)
                conv => whnf
                refine ⟨⟨rfl, rfl⟩, ?_⟩
                conv => whnf
                refine fin (target := []) rfl (Nat.zero_le _) (by simp) ?_ ?_
                · rfl
                · rfl
              · have d : ¬ s6.done.why ≠ 0 := by simpa using d
                rw [if_neg d]
                repeat ((conv => whnf); first | refine Br.t ?_ | refine Br.f ?_ | refine ⟨rfl, ?_⟩)
                conv => whnf
                refine CallW.mono ((check31 ⟨a, b, c, l⟩ okp).pure _ rfl rfl) ?_
                rintro r st' ⟨rfl, rfl⟩
                repeat ((conv => whnf); first | refine Br.t ?_ | refine Br.f ?_ | refine ⟨rfl, ?_⟩)
                conv => whnf
                refine Br.mk (fun e => ?_) (fun e => ?_)
                · have e : (chk ⟨a, b, c, l⟩).2.2 ≠ 0 := by simpa using e
                  rw [if_pos e]
                  repeat ((conv => whnf); first | refine Br.t ?_ | refine Br.f ?_ | refine ⟨rfl, ?_⟩)
                  conv => whnf
                  refine ⟨⟨rfl, rfl⟩, ?_⟩
                  conv => whnf
                  refine fin (target := []) rfl (Nat.zero_le _) (by simp) ?_ ?_
                  · first | rfl | (simp only [List.length_map]; rfl)
                  · rfl
                · have e : ¬ (chk ⟨a, b, c, l⟩).2.2 ≠ 0 := by simpa using e
                  rw [if_neg e]
                  repeat ((conv => whnf); first | refine Br.t ?_ | refine Br.f ?_ | refine ⟨rfl, ?_⟩)
                  conv => whnf
                  refine ⟨⟨rfl, rfl⟩, ?_⟩
                  conv => whnf
                  refine fin (target := []) rfl (Nat.zero_le _) (by simp) ?_ ?_
                  · rfl
                  · rfl
    · have h2 : ¬ s1.why = 0 := by simpa using h2
      rw [if_neg (fun h => h2 h.1)]
      repeat ((conv => whnf); first | refine Br.t ?_ | refine Br.f ?_ | refine ⟨rfl, ?_⟩)
      conv => whnf
      refine CallW.mono (atR [_, _, _] [] (num37 s1 ok1 16) rfl rfl) ?_
      rintro r st' ⟨rfl, rfl⟩
      have ok2 := num_ok ok1 16
      have ha : (s1.num 16).1 ≤ 16 := num_mxN s1 16
      obtain ⟨a, s2, e2⟩ : ∃ m s, s1.num 16 = (m, s) := ⟨_, _, rfl⟩
      rw [e2] at ok2 ha ⊢
      simp only at ok2 ha ⊢
      repeat ((conv => whnf); first | refine Br.t ?_ | refine Br.f ?_ | refine ⟨rfl, ?_⟩)
      conv => whnf
      refine CallW.mono (atR [_, _, _] [] (num37 s2 ok2 16) rfl rfl) ?_
      rintro r st' ⟨rfl, rfl⟩
      have ok3 := num_ok ok2 16
      have hb2 : (s2.num 16).1 ≤ 16 := num_mxN s2 16
      obtain ⟨b, s3, e3⟩ : ∃ m s, s2.num 16 = (m, s) := ⟨_, _, rfl⟩
      rw [e3] at ok3 hb2 ⊢
      simp only at ok3 hb2 ⊢
      repeat ((conv => whnf); first | refine Br.t ?_ | refine Br.f ?_ | refine ⟨rfl, ?_⟩)
      conv => whnf
      refine CallW.mono (atR [_, _, _] [] (num37 s3 ok3 8) rfl rfl) ?_
      rintro r st' ⟨rfl, rfl⟩
      have ok4 := num_ok ok3 8
      have hc2 : (s3.num 8).1 ≤ 8 := num_mxN s3 8
      obtain ⟨c, s4, e4⟩ : ∃ m s, s3.num 8 = (m, s) := ⟨_, _, rfl⟩
      rw [e4] at ok4 hc2 ⊢
      simp only at ok4 hc2 ⊢
      repeat ((conv => whnf); first | refine Br.t ?_ | refine Br.f ?_ | refine ⟨rfl, ?_⟩)
      conv => whnf
      refine CallW.mono (atR [_, _, _] [_] (num37 s4 ok4 16) rfl rfl) ?_
      rintro r st' ⟨rfl, rfl⟩
      have ok5 := num_ok ok4 16
      have hn2 : (s4.num 16).1 ≤ 16 := num_mxN s4 16
      obtain ⟨n, s5, e5⟩ : ∃ m s, s4.num 16 = (m, s) := ⟨_, _, rfl⟩
      rw [e5] at ok5 hn2 ⊢
      simp only at ok5 hn2 ⊢
      have ht : tailP bs s1 = if (rdFns n [] s5).2.done.why ≠ 0 then ((Pg.zero, (rdFns n [] s5).2.done.a, ((rdFns n [] s5).2.done.why : Int)) : Pg × Nat × Int) else if (chk ⟨a, b, c, (rdFns n [] s5).1⟩).2.2 ≠ 0 then (Pg.zero, bs.length, (chk ⟨a, b, c, (rdFns n [] s5).1⟩).2.2) else (⟨a, b, c, (rdFns n [] s5).1⟩, 0, 0) := by
        unfold tailP; simp only [e2, e3, e4, e5]
      rw [ht]
      repeat ((conv => whnf); first | refine Br.t ?_ | refine Br.f ?_ | refine ⟨rfl, ?_⟩)
      conv => whnf
      refine W.le (Le.nilCell 4 0 3 1 rfl rfl rfl) ?_
      refine loop_ok (α := Nat × List (List Nd) × Rd) (fun x => ⟨mkS 78 [(0, .i (.sl (bs.map by8))), (2, .ptr 0 0 0 0), (3, .ptr 1 0 0 0), (4, .ptr 3 0 0 0), (6, .ptr 4 0 0 0), (7, .i (.int .i64 x.1))], [zpB, zsB, .dead, rdB x.2.2, .row 0 4 false [[.i (.int .i64 a), .i (.int .i64 b), .i (.int .i64 c), .ref 5 1 0 x.2.1.length]], .row 1 1 false (lift (x.2.1.map encF))]⟩)
        (fun x => x.1 ≤ 16 ∧ x.2.2.ok ∧ x.2.1.length + x.1 ≤ 16 ∧ rdFns x.1 x.2.1 x.2.2 = rdFns n [] s5) (fun x => x.1) (n, [], s5) ⟨hn2, ok5, by simpa using hn2, rfl⟩
        (Le.slots (by simp [leS, mkS])) (fun x hx => W.weak (wpx_ok (own := own0) _ _ _ ?_))
      obtain ⟨k, l, s6⟩ := x
      obtain ⟨h1, h2, h3, h4⟩ := hx
      simp only at h1 h2 h3 h4
      dsimp only
      cases k with
      | zero =>
        rw [rdFns] at h4
        rw [← h4]
        repeat ((conv => whnf); first | refine Br.t ?_ | refine Br.f ?_ | refine ⟨rfl, ?_⟩)
        conv => whnf
        refine ⟨_, Le.data 5 1 1 (l.map encF) (sl := _) (s := ⟨mkS 78 [(0, .i (.sl (bs.map by8))), (2, .ptr 0 0 0 0), (3, .ptr 1 0 0 0), (4, .ptr 3 0 0 0), (6, .ptr 4 0 0 0)], [zpB, zsB, .dead, rdB s6, pgB ⟨a, b, c, l⟩, .dead]⟩) rfl ?_ ?_, ?_⟩
        · simp [leS, mkS, V.dat]
        · simp [Ob.dat, zpB, zsB, rdB, pgB, encP4, V.dat.datAll, V.dat]
          exact (List.take_of_length_le (by simp [lift])).symm
        · have hlf := rdFns_len n [] s5 (by simp)
          rw [← h4] at hlf
          simp only [List.length_nil] at hlf
          have okp : okPg ⟨a, b, c, l⟩ := ⟨by simp only; omega, fun f hf => by have := hlf.2 f hf; omega⟩
          simp only
          repeat ((conv => whnf); first | refine Br.t ?_ | refine Br.f ?_ | refine ⟨rfl, ?_⟩)
          conv => whnf
          refine CallW.mono (atR [_, _, _] [_, _] (done38 s6 h2) rfl rfl) ?_
          rintro r st' ⟨rfl, rfl⟩
          repeat ((conv => whnf); first | refine Br.t ?_ | refine Br.f ?_ | refine ⟨rfl, ?_⟩)
          conv => whnf
          refine Br.mk (fun d => ?_) (fun d => ?_)
          · have d : s6.done.why ≠ 0 := by simpa using d
            rw [if_pos d]
            repeat ((conv => whnf); first | refine Br.t ?_ | refine Br.f ?_ | refine ⟨rfl, ?_⟩)
            conv => whnf
            refine CallW.mono (atR [_, _, _] [_, _] (fault35 s6.done) rfl rfl) ?_
            rintro r st' ⟨rfl, rfl⟩
            repeat ((conv => whnf); first | refine Br.t ?_ | refine Br.f ?_ | refine ⟨rfl, ?_⟩)
            conv => whnf
            refine ⟨⟨rfl, rfl⟩, ?_⟩
            conv => whnf
            refine fin (target := []) rfl (Nat.zero_le _) (by simp) ?_ ?_
            · rfl
            · rfl
          · have d : ¬ s6.done.why ≠ 0 := by simpa using d
            rw [if_neg d]
            repeat ((conv => whnf); first | refine Br.t ?_ | refine Br.f ?_ | refine ⟨rfl, ?_⟩)
            conv => whnf
            refine CallW.mono ((check31 ⟨a, b, c, l⟩ okp).pure _ rfl rfl) ?_
            rintro r st' ⟨rfl, rfl⟩
            repeat ((conv => whnf); first | refine Br.t ?_ | refine Br.f ?_ | refine ⟨rfl, ?_⟩)
            conv => whnf
            refine Br.mk (fun e => ?_) (fun e => ?_)
            · have e : (chk ⟨a, b, c, l⟩).2.2 ≠ 0 := by simpa using e
              rw [if_pos e]
              repeat ((conv => whnf); first | refine Br.t ?_ | refine Br.f ?_ | refine ⟨rfl, ?_⟩)
              conv => whnf
              refine ⟨⟨rfl, rfl⟩, ?_⟩
              conv => whnf
              refine fin (target := []) rfl (Nat.zero_le _) (by simp) ?_ ?_
              · first | rfl | (simp only [List.length_map]; rfl)
              · rfl
            · have e : ¬ (chk ⟨a, b, c, l⟩).2.2 ≠ 0 := by simpa using e
              rw [if_neg e]
              repeat ((conv => whnf); first | refine Br.t ?_ | refine Br.f ?_ | refine ⟨rfl, ?_⟩)
              conv => whnf
              refine ⟨⟨rfl, rfl⟩, ?_⟩
              conv => whnf
              refine fin (target := []) rfl (Nat.zero_le _) (by simp) ?_ ?_
              · rfl
              · rfl
      | succ k =>
        rw [rdFns] at h4
        repeat ((conv => whnf); first | refine Br.t ?_ | refine Br.f ?_ | refine ⟨rfl, ?_⟩)
        conv => whnf
        refine Br.mk (fun g0 => ?_) (fun g0 => by simp at g0)
        repeat ((conv => whnf); first | refine Br.t ?_ | refine Br.f ?_ | refine ⟨rfl, ?_⟩)
        conv => whnf
        refine CallW.mono (atR [_, _, _] [_, _] (fault35 s6) rfl rfl) ?_
        rintro r st' ⟨rfl, rfl⟩
        repeat ((conv => whnf); first | refine Br.t ?_ | refine Br.f ?_ | refine ⟨rfl, ?_⟩)
        conv => whnf
        refine Br.mk (fun g1 => ?_) (fun g1 => ?_)
        · have g1 : s6.why = 0 := by simpa using g1
          rw [if_pos g1] at h4
          have hln := nodesR_len s6
          have hokn := nodesR_ok h2
          obtain ⟨L, s7, e7⟩ : ∃ L s, nodesR s6 = (L, s) := ⟨_, _, rfl⟩
          have cn := nodes43 s6 h2
          rw [e7] at h4 hln hokn cn
          simp only at h4 hln hokn cn
          repeat ((conv => whnf); first | refine Br.t ?_ | refine Br.f ?_ | refine ⟨rfl, ?_⟩)
          conv => whnf
          refine draw_ok (own := own0) [3, 5, 7] [(0, 5), (1, 5)] [(.i (.sl (L.map encNd)), [zpB, zsB, .dead, rdB s7, .row 0 4 false [[.i (.int .i64 a), .i (.int .i64 b), .i (.int .i64 c), .ref 5 1 0 l.length]], .row 1 1 false (lift (l.map encF))])] rfl (by kernel_rfl) (Nat.zero_le _) ?_
          repeat ((conv => whnf); first | refine Br.t ?_ | refine Br.f ?_ | refine ⟨rfl, ?_⟩)
          conv => whnf
          refine ⟨atR [_, _, _] [_, _] cn rfl rfl, ?_⟩
          repeat ((conv => whnf); first | refine Br.t ?_ | refine Br.f ?_ | refine ⟨rfl, ?_⟩)
          conv => whnf
          refine ⟨⟨by intro cs hcs; simp at hcs; subst hcs; rfl, by simp [lift], by show (l.length + 1) * 24 ≤ _; omega, len_mx (by simp [lift]; omega)⟩, ?_⟩
          repeat ((conv => whnf); first | refine Br.t ?_ | refine Br.f ?_ | refine ⟨rfl, ?_⟩)
          conv => whnf
          refine ⟨by repeat ((conv => whnf); first | exact trivial | refine ⟨rfl, ?_⟩), by repeat ((conv => whnf); first | exact trivial | refine ⟨by (conv => whnf); first | exact ⟨rfl, rfl⟩ | exact ⟨rfl, rfl, rfl⟩, ?_⟩), ?_⟩
          conv => whnf
          refine ⟨_, Le.refl _ _, (k, l ++ [L], s7), ⟨by simp only; omega, hokn, by simp; omega, h4⟩, by simp only; omega, Le.down (fun id => if id = 5 then 1 else 0) (by intro id hid; simp at hid) ?_ ?_⟩
          · simp [leS, mkS, V.up, lift]
            rw [i64_id (by omega) (by omega)]
          · simp only [upSt, Ob.up, map_up_lift, List.map_append, lift_app]
            rw [show (l ++ [L]).length = l.length + 1 by simp]
            rfl
        · have g1 : ¬ s6.why = 0 := by simpa using g1
          rw [if_neg g1] at h4
          rw [← h4]
          repeat ((conv => whnf); first | refine Br.t ?_ | refine Br.f ?_ | refine ⟨rfl, ?_⟩)
          conv => whnf
          refine ⟨_, Le.data 5 1 1 (l.map encF) (sl := _) (s := ⟨mkS 78 [(0, .i (.sl (bs.map by8))), (2, .ptr 0 0 0 0), (3, .ptr 1 0 0 0), (4, .ptr 3 0 0 0), (6, .ptr 4 0 0 0)], [zpB, zsB, .dead, rdB s6, pgB ⟨a, b, c, l⟩, .dead]⟩) rfl ?_ ?_, ?_⟩
          · simp [leS, mkS, V.dat]
          · simp [Ob.dat, zpB, zsB, rdB, pgB, encP4, V.dat.datAll, V.dat]
            exact (List.take_of_length_le (by simp [lift])).symm
          · have hlf := rdFns_len n [] s5 (by simp)
            rw [← h4] at hlf
            simp only [List.length_nil] at hlf
            have okp : okPg ⟨a, b, c, l⟩ := ⟨by simp only; omega, fun f hf => by have := hlf.2 f hf; omega⟩
            simp only
            repeat ((conv => whnf); first | refine Br.t ?_ | refine Br.f ?_ | refine ⟨rfl, ?_⟩)
            conv => whnf
            refine CallW.mono (atR [_, _, _] [_, _] (done38 s6 h2) rfl rfl) ?_
            rintro r st' ⟨rfl, rfl⟩
            repeat ((conv => whnf); first | refine Br.t ?_ | refine Br.f ?_ | refine ⟨rfl, ?_⟩)
            conv => whnf
            refine Br.mk (fun d => ?_) (fun d => ?_)
            · have d : s6.done.why ≠ 0 := by simpa using d
              rw [if_pos d]
              repeat ((conv => whnf); first | refine Br.t ?_ | refine Br.f ?_ | refine ⟨rfl, ?_⟩)
              conv => whnf
              refine CallW.mono (atR [_, _, _] [_, _] (fault35 s6.done) rfl rfl) ?_
              rintro r st' ⟨rfl, rfl⟩
              repeat ((conv => whnf); first | refine Br.t ?_ | refine Br.f ?_ | refine ⟨rfl, ?_⟩)
              conv => whnf
              refine ⟨⟨rfl, rfl⟩, ?_⟩
              conv => whnf
              refine fin (target := []) rfl (Nat.zero_le _) (by simp) ?_ ?_
              · rfl
              · rfl
            · have d : ¬ s6.done.why ≠ 0 := by simpa using d
              rw [if_neg d]
              repeat ((conv => whnf); first | refine Br.t ?_ | refine Br.f ?_ | refine ⟨rfl, ?_⟩)
              conv => whnf
              refine CallW.mono ((check31 ⟨a, b, c, l⟩ okp).pure _ rfl rfl) ?_
              rintro r st' ⟨rfl, rfl⟩
              repeat ((conv => whnf); first | refine Br.t ?_ | refine Br.f ?_ | refine ⟨rfl, ?_⟩)
              conv => whnf
              refine Br.mk (fun e => ?_) (fun e => ?_)
              · have e : (chk ⟨a, b, c, l⟩).2.2 ≠ 0 := by simpa using e
                rw [if_pos e]
                repeat ((conv => whnf); first | refine Br.t ?_ | refine Br.f ?_ | refine ⟨rfl, ?_⟩)
                conv => whnf
                refine ⟨⟨rfl, rfl⟩, ?_⟩
                conv => whnf
                refine fin (target := []) rfl (Nat.zero_le _) (by simp) ?_ ?_
                · first | rfl | (simp only [List.length_map]; rfl)
                · rfl
              · have e : ¬ (chk ⟨a, b, c, l⟩).2.2 ≠ 0 := by simpa using e
                rw [if_neg e]
                repeat ((conv => whnf); first | refine Br.t ?_ | refine Br.f ?_ | refine ⟨rfl, ?_⟩)
                conv => whnf
                refine ⟨⟨rfl, rfl⟩, ?_⟩
                conv => whnf
                refine fin (target := []) rfl (Nat.zero_le _) (by simp) ?_ ?_
                · rfl
                · rfl
end Go.Proofs.Ytdbmfnhbgacldaa.Am
