/- Texts PrK PrR PrS PrT of this session, one behind the other. -/
import Derived.Test.YtdbmfnhbgacldaaQbX
/- Contracts: the nodes of a function read. -/
namespace Go.Proofs.Ytdbmfnhbgacldaa.Am
set_option autoImplicit false
set_option linter.unusedVariables false
set_option linter.unusedSimpArgs false
set_option maxRecDepth 10000
set_option pp.maxSteps 20000
set_option pp.proofs false
def setF (x : Nd) (c : Nat) (v : Int) : Nd := if c = 1 then (x.1, v, x.2.2.1, x.2.2.2) else if c = 2 then (x.1, x.2.1, v, x.2.2.2) else (x.1, x.2.1, x.2.2.1, v)
def rdFld : List Nat → Nd → Rd → Nd × Rd
  | [], x, s => (x, s)
  | c :: cs, x, s => rdFld cs (setF x c (s.num 64).1) (s.num 64).2
def rdNode (s : Rd) : Nd × Rd := rdFld (partsL (s.num 9).1) ((s.num 9).1, 0, 0, 0) (s.num 9).2
def rdNodes : Nat → List Nd → Rd → List Nd × Rd
  | 0, l, s => (l, s)
  | k + 1, l, s => if s.why = 0 then rdNodes k (l ++ [(rdNode s).1]) (rdNode s).2 else (l, s)
def nodesR (s : Rd) : List Nd × Rd := rdNodes (s.num 64).1 [] (s.num 64).2
theorem rdFld_ok : ∀ (l : List Nat) (x : Nd) (s : Rd), s.ok → (rdFld l x s).2.ok
  | [], _, _, h => h
  | c :: l, x, s, h => rdFld_ok l _ _ (num_ok h 64)
theorem rdNode_ok {s : Rd} (h : s.ok) : (rdNode s).2.ok := rdFld_ok _ _ _ (num_ok h 9)
theorem rdNodes_ok : ∀ (k : Nat) (l : List Nd) (s : Rd), s.ok → (rdNodes k l s).2.ok
  | 0, _, _, h => h
  | k + 1, l, s, h => by
    rw [rdNodes]
    split
    · exact rdNodes_ok k _ _ (rdNode_ok h)
    · exact h
theorem nodesR_ok {s : Rd} (h : s.ok) : (nodesR s).2.ok := rdNodes_ok _ _ _ (num_ok h 64)
theorem rdNodes_len : ∀ (k : Nat) (l : List Nd) (s : Rd), (rdNodes k l s).1.length ≤ l.length + k
  | 0, _, _ => by simp [rdNodes]
  | k + 1, l, s => by
    rw [rdNodes]
    split
    · have := rdNodes_len k (l ++ [(rdNode s).1]) (rdNode s).2
      simp at this
      omega
    · simp only; omega
theorem num_mxN (s : Rd) (mx : Nat) : (s.num mx).1 ≤ mx := by
  unfold Rd.num
  split
  · simp
  · split
    · simp
    · split
      · simp
      · simp only; omega
theorem fstB_cl (s : Rd) (l : List Nd) (m : Nat) : ∀ o ∈ [rdB s, .row 1 4 false (lift (l.map encNd))], o.cl m := by
  intro o ho
  simp only [List.mem_cons, List.not_mem_nil, or_false] at ho
  rcases ho with rfl | rfl
  · intro cs hcs
    simp only [List.mem_singleton] at hcs
    subst hcs
    rfl
  · exact row_cl 1 4 (l.map encNd) m _ (by simp)
set_option maxHeartbeats 2000000 in
theorem nodes43 (s : Rd) (hok : s.ok) : CallW Try.prog G0 43 [.ptr 0 0 0 0] [rdB s] (fun r st' => r = .i (.sl ((nodesR s).1.map encNd)) ∧ st' = [rdB (nodesR s).2]) := by
  refine call_of_bodyF 1 (Nat.le_refl _) Try.func43 rfl (fun a w => Try.call43 a w) (wpx_ok (own := own0) _ _ _ ?_)
  repeat ((conv => whnf); first | refine Br.t ?_ | refine Br.f ?_ | refine ⟨rfl, ?_⟩)
  conv => whnf
  refine CallW.mono (num37 s hok 64) ?_
  rintro r st' ⟨rfl, rfl⟩
  have hok1 := num_ok hok 64
  have h64 : (s.num 64).1 ≤ 64 := num_mxN s 64
  obtain ⟨n, s1, e1⟩ : ∃ n s1, s.num 64 = (n, s1) := ⟨_, _, rfl⟩
  have hR : nodesR s = rdNodes n [] s1 := by unfold nodesR; rw [e1]
  rw [hR]
  rw [e1] at hok1 h64 ⊢
  simp only at hok1 h64 ⊢
  repeat ((conv => whnf); first | refine Br.t ?_ | refine Br.f ?_ | refine ⟨rfl, ?_⟩)
  conv => whnf
  refine loop_ok (α := Nat × List Nd × Rd) (fun x => ⟨mkS 39 [(0, .ptr 0 0 0 0), (2, .nils), (3, .ref 1 1 0 x.2.1.length), (4, .i (.int .i64 x.1))], [rdB x.2.2, .row 1 4 false (lift (x.2.1.map encNd))]⟩)
    (fun x => x.1 ≤ 64 ∧ x.2.2.ok ∧ x.2.1.length + x.1 ≤ 64 ∧ rdNodes x.1 x.2.1 x.2.2 = rdNodes n [] s1) (fun x => x.1) (n, [], s1) ⟨h64, hok1, by simpa using h64, rfl⟩
    ((Le.nil (n := 1) 3 4 rfl).trans (Le.slots (by simp [leS, mkS]))) (fun x hx => wpx_ok (own := own0) _ _ _ ?_)
  obtain ⟨k, l, s2⟩ := x
  obtain ⟨h1, h2, h3, h4⟩ := hx
  simp only at h1 h2 h3 h4
  dsimp only
  cases k with
  | zero =>
    rw [rdNodes] at h4
    rw [← h4]
    repeat ((conv => whnf); first | refine Br.t ?_ | refine Br.f ?_ | refine ⟨rfl, ?_⟩)
    conv => whnf
    refine ⟨Nat.le_refl _, rfl, l.map encNd, rfl, ?_⟩
    conv => whnf
    refine fin (target := [rdB s2]) rfl (by simp) (rdB_cl _) ?_ rfl
    rw [List.drop_zero, List.take_of_length_le (by simp [lift])]
  | succ k =>
    rw [rdNodes] at h4
    repeat ((conv => whnf); first | refine Br.t ?_ | refine Br.f ?_ | refine ⟨rfl, ?_⟩)
    conv => whnf
    refine Br.mk (fun g0 => ?_) (fun g0 => by simp at g0)
    repeat ((conv => whnf); first | refine Br.t ?_ | refine Br.f ?_ | refine ⟨rfl, ?_⟩)
    conv => whnf
    refine CallW.mono (atR [] [_] (fault35 s2) rfl rfl) ?_
    rintro r st' ⟨rfl, rfl⟩
    repeat ((conv => whnf); first | refine Br.t ?_ | refine Br.f ?_ | refine ⟨rfl, ?_⟩)
    conv => whnf
    refine Br.mk (fun g1 => ?_) (fun g1 => ?_)
    · have g1 : s2.why = 0 := by simpa using g1
      rw [if_pos g1] at h4
      repeat ((conv => whnf); first | refine Br.t ?_ | refine Br.f ?_ | refine ⟨rfl, ?_⟩)
      conv => whnf
      refine CallW.mono (atR [] [_] (num37 s2 h2 9) rfl rfl) ?_
      rintro r st' ⟨rfl, rfl⟩
      have hN : rdNode s2 = rdFld (partsL (s2.num 9).1) ((s2.num 9).1, 0, 0, 0) (s2.num 9).2 := rfl
      rw [hN] at h4
      have hok2 := num_ok h2 9
      have h9 : (s2.num 9).1 ≤ 9 := num_mxN s2 9
      obtain ⟨q, s3, e3⟩ : ∃ n s1, s2.num 9 = (n, s1) := ⟨_, _, rfl⟩
      rw [e3] at h4 hok2 h9 ⊢
      simp only at h4 hok2 h9 ⊢
      repeat ((conv => whnf); first | refine Br.t ?_ | refine Br.f ?_ | refine ⟨rfl, ?_⟩)
      conv => whnf
      by_cases k9 : (q : Int) = 9
      · have ep : partsL (q : Int) = [] := by rw [k9]; rfl
        rw [ep, rdFld] at h4
        simp only at h4
        refine CallW.mono (CallW.under [rdB s3, .row 1 4 false (lift (l.map encNd))] (parts32a ((q : Int), 0, 0, 0) k9) (by intro o ho; simp only [List.mem_singleton] at ho; subst ho; exact ndB_cl _ _) rfl) ?_
        rintro r st' ⟨r0, s0, ⟨rfl, rfl⟩, _, rfl, rfl⟩
        repeat ((conv => whnf); first | refine Br.t ?_ | refine Br.f ?_ | refine ⟨rfl, ?_⟩)
        conv => whnf
        refine loop_ok (α := Unit) (fun _ => ⟨mkS 39 [(0, .ptr 0 0 0 0), (2, .nils), (3, .ref 1 1 0 l.length), (4, .i (.int .i64 (k + 1 : Nat))), (5, .ptr 2 0 0 0), (24, .i (.int .i64 0)), (25, .i (.int .i64 0))], [rdB s3, .row 1 4 false (lift (l.map encNd)), ndB ((q : Int), 0, 0, 0)]⟩)
          (fun _ => True) (fun _ => 0) () trivial (Le.slots (by simp [leS, mkS])) (fun _ _ => wpx_ok (own := own0) _ _ _ ?_)
        have hokk := hok2
        repeat ((conv => whnf); first | refine Br.t ?_ | refine Br.f ?_ | refine ⟨rfl, ?_⟩)
        conv => whnf
        refine ⟨⟨by intro cs hcs; simp at hcs; subst hcs; rfl, by simp [lift], by show (l.length + 1) * 32 ≤ _; omega, len_mx (by simp [lift]; omega)⟩, ?_⟩
        repeat ((conv => whnf); first | refine Br.t ?_ | refine Br.f ?_ | refine ⟨rfl, ?_⟩)
        conv => whnf
        refine ⟨(k, l ++ [((q : Int), 0, 0, 0)], s3), ⟨by simp only; omega, hokk, by simp; omega, h4⟩, by simp only; omega, Le.back (fun id => if id = 1 then 1 else 0) (by intro id hid; simp at hid; simp [hid]) (by simp) rfl (fstB_cl _ _ _) ?_ ?_⟩
        · simp [leS, mkS, V.up, lift]
          rw [i64_id (by omega) (by omega)]
        · simp only [upSt, Ob.up, map_up_lift, List.map_append, lift_app]
          rfl
      · have pl := parts_len (q : Int)
        have pm := fun c (h : c ∈ partsL (q : Int)) => parts_mem h
        have pc := parts32 ((q : Int), 0, 0, 0) k9
        simp only at pc
        generalize partsL (q : Int) = P at h4 pl pm pc
        refine CallW.mono (CallW.under [rdB s3, .row 1 4 false (lift (l.map encNd))] pc (by intro o ho; simp only [List.mem_singleton] at ho; subst ho; exact ndB_cl _ _) rfl) ?_
        rintro r st' ⟨r0, s0, ⟨rfl, rfl⟩, _, rfl, rfl⟩
        rw [show [ndB ((q : Int), 0, 0, 0), ptrB 0 P].map (Ob.ren fun i => [rdB s3, Ob.row 1 4 false (lift (l.map encNd))].length + i) = [ndB ((q : Int), 0, 0, 0), ptrB 2 P] by
          simp only [List.map_cons, List.map_nil]
          rw [ptr_ren]
          rfl]
        repeat ((conv => whnf); first | refine Br.t ?_ | refine Br.f ?_ | refine ⟨rfl, ?_⟩)
        conv => whnf
        refine loop_ok (α := Nat × Nd × Rd) (fun x => ⟨mkS 39 [(0, .ptr 0 0 0 0), (2, .nils), (3, .ref 1 1 0 l.length), (4, .i (.int .i64 (k + 1 : Nat))), (5, .ptr 2 0 0 0), (23, .ref 3 1 0 P.length), (24, .i (.int .i64 P.length)), (25, .i (.int .i64 x.1))], [rdB x.2.2, .row 1 4 false (lift (l.map encNd)), ndB x.2.1, ptrB 2 P]⟩)
          (fun x => x.1 ≤ P.length ∧ x.2.2.ok ∧ rdFld (P.drop x.1) x.2.1 x.2.2 = rdFld P ((q : Int), 0, 0, 0) s3) (fun x => P.length - x.1) (0, ((q : Int), 0, 0, 0), s3) ⟨Nat.zero_le _, hok2, rfl⟩
          (Le.slots (by simp [leS, mkS])) (fun x hx => wpx_ok (own := own0) _ _ _ ?_)
        obtain ⟨j, y, s4⟩ := x
        obtain ⟨j1, j2, j3⟩ := hx
        simp only at j1 j2 j3
        dsimp only
        repeat ((conv => whnf); first | refine Br.t ?_ | refine Br.f ?_ | refine ⟨rfl, ?_⟩)
        conv => whnf
        refine Br.mk (fun g2 => ?_) (fun g2 => ?_)
        · have g2 : j < P.length := by simp at g2; omega
          obtain ⟨c, hc⟩ : ∃ c, c = P[j] := ⟨_, rfl⟩
          have hcm : c ∈ P := hc ▸ List.getElem_mem g2
          have eP : (P.map fun c => [V.ptr 2 0 0 c]).getD (0 + (j : Int).toNat) [] = [V.ptr 2 0 0 c] := by rw [hc, Nat.zero_add, Int.toNat_natCast]; simp [List.getD_eq_getElem?_getD, g2]
          have edr : P.drop j = c :: P.drop (j + 1) := by rw [hc]; exact List.drop_eq_getElem_cons g2
          rw [edr, rdFld] at j3
          repeat ((conv => whnf); first | refine Br.t ?_ | refine Br.f ?_ | refine ⟨rfl, ?_⟩)
          conv => whnf
          refine ⟨by omega, ?_⟩
          repeat ((conv => whnf); first | refine Br.t ?_ | refine Br.f ?_ | refine ⟨rfl, ?_⟩)
          conv => whnf
          rw [eP]
          repeat ((conv => whnf); first | refine Br.t ?_ | refine Br.f ?_ | refine ⟨rfl, ?_⟩)
          conv => whnf
          refine CallW.mono (atR [] [_, _, _] (num37 s4 j2 64) rfl rfl) ?_
          rintro r st' ⟨rfl, rfl⟩
          have hok3 := num_ok j2 64
          obtain ⟨v, s5, e5⟩ : ∃ n s1, s4.num 64 = (n, s1) := ⟨_, _, rfl⟩
          rw [e5] at j3 hok3 ⊢
          simp only at j3 hok3 ⊢
          have hcc := pm c hcm
          rcases hcc with rfl | rfl | rfl
          · repeat ((conv => whnf); first | refine Br.t ?_ | refine Br.f ?_ | refine ⟨rfl, ?_⟩)
            conv => whnf
            refine ⟨(j + 1, setF y 1 v, s5), ⟨by simp only; omega, hok3, j3⟩, by simp only; omega, Le.slots ?_⟩
            simp [leS, mkS]
            exact i64_id (by omega) (by omega)
          · repeat ((conv => whnf); first | refine Br.t ?_ | refine Br.f ?_ | refine ⟨rfl, ?_⟩)
            conv => whnf
            refine ⟨(j + 1, setF y 2 v, s5), ⟨by simp only; omega, hok3, j3⟩, by simp only; omega, Le.slots ?_⟩
            simp [leS, mkS]
            exact i64_id (by omega) (by omega)
          · repeat ((conv => whnf); first | refine Br.t ?_ | refine Br.f ?_ | refine ⟨rfl, ?_⟩)
            conv => whnf
            refine ⟨(j + 1, setF y 3 v, s5), ⟨by simp only; omega, hok3, j3⟩, by simp only; omega, Le.slots ?_⟩
            simp [leS, mkS]
            exact i64_id (by omega) (by omega)
        · have g2 : j = P.length := by simp at g2; omega
          subst g2
          rw [List.drop_length, rdFld] at j3
          rw [← j3] at h4
          simp only at h4
          have hokk := j2
          repeat ((conv => whnf); first | refine Br.t ?_ | refine Br.f ?_ | refine ⟨rfl, ?_⟩)
          conv => whnf
          obtain ⟨y1, y2, y3, y4⟩ := y
          repeat ((conv => whnf); first | refine Br.t ?_ | refine Br.f ?_ | refine ⟨rfl, ?_⟩)
          conv => whnf
          refine ⟨⟨by intro cs hcs; simp at hcs; subst hcs; rfl, by simp [lift], by show (l.length + 1) * 32 ≤ _; omega, len_mx (by simp [lift]; omega)⟩, ?_⟩
          repeat ((conv => whnf); first | refine Br.t ?_ | refine Br.f ?_ | refine ⟨rfl, ?_⟩)
          conv => whnf
          refine ⟨(k, l ++ [(y1, y2, y3, y4)], s4), ⟨by simp only; omega, hokk, by simp; omega, h4⟩, by simp only; omega, Le.back (fun id => if id = 1 then 1 else 0) (by intro id hid; simp at hid; simp [hid]) (by simp) rfl (fstB_cl _ _ _) ?_ ?_⟩
          · simp [leS, mkS, V.up, lift]
            rw [i64_id (by omega) (by omega)]
          · simp only [upSt, Ob.up, map_up_lift, List.map_append, lift_app]
            rfl
    · have g1 : ¬ s2.why = 0 := by simpa using g1
      rw [if_neg g1] at h4
      rw [← h4]
      repeat ((conv => whnf); first | refine Br.t ?_ | refine Br.f ?_ | refine ⟨rfl, ?_⟩)
      conv => whnf
      refine ⟨Nat.le_refl _, rfl, l.map encNd, rfl, ?_⟩
      conv => whnf
      refine fin (target := [rdB s2]) rfl (by simp) (rdB_cl _) ?_ rfl
      rw [List.drop_zero, List.take_of_length_le (by simp [lift])]
end Go.Proofs.Ytdbmfnhbgacldaa.Am
namespace Go.Proofs.Ytdbmfnhbgacldaa.Am
set_option autoImplicit false
set_option linter.unusedVariables false
set_option linter.unusedSimpArgs false
set_option maxRecDepth 10000
set_option pp.maxSteps 20000
set_option pp.proofs false
def alpS : ByteArray := ⟨#[97, 108, 112, 49]⟩
def rdFns : Nat → List (List Nd) → Rd → List (List Nd) × Rd
  | 0, l, s => (l, s)
  | k + 1, l, s => if s.why = 0 then rdFns k (l ++ [(nodesR s).1]) (nodesR s).2 else (l, s)
def Pg.zero : Pg := ⟨0, 0, 0, []⟩
def tailP (bs : List Nat) (s1 : Rd) : Pg × Nat × Int :=
  let a := s1.num 16
  let b := a.2.num 16
  let c := b.2.num 8
  let n := c.2.num 16
  let f := rdFns n.1 [] n.2
  let p : Pg := ⟨a.1, b.1, c.1, f.1⟩
  if f.2.done.why ≠ 0 then (Pg.zero, f.2.done.a, f.2.done.why) else if (chk p).2.2 ≠ 0 then (Pg.zero, bs.length, (chk p).2.2) else (p, 0, 0)
def readP (bs : List Nat) : Pg × Nat × Int :=
  if 65536 < bs.length then (Pg.zero, 0, 4) else
  let r1 := Rd.raw ⟨bs, 0, 0, 0⟩ 4
  if r1.2.why = 0 ∧ strOf r1.1 ≠ alpS then (Pg.zero, 0, 3) else tailP bs r1.2
theorem rdFns_ok : ∀ (k : Nat) (l : List (List Nd)) (s : Rd), s.ok → (rdFns k l s).2.ok
  | 0, _, _, h => h
  | k + 1, l, s, h => by
    rw [rdFns]
    split
    · exact rdFns_ok k _ _ (nodesR_ok h)
    · exact h
theorem nodesR_len (s : Rd) : (nodesR s).1.length ≤ 64 := by
  have h1 := rdNodes_len (s.num 64).1 [] (s.num 64).2
  have h2 := num_mxN s 64
  rw [show ((64 : Nat) : Int) = 64 from rfl] at h2
  simp only [List.length_nil] at h1
  unfold nodesR
  omega
theorem rdFns_len : ∀ (k : Nat) (l : List (List Nd)) (s : Rd), (∀ f ∈ l, f.length ≤ 64) → (rdFns k l s).1.length ≤ l.length + k ∧ ∀ f ∈ (rdFns k l s).1, f.length ≤ 64
  | 0, l, _, h => ⟨by simp [rdFns], h⟩
  | k + 1, l, s, h => by
    rw [rdFns]
    split
    · obtain ⟨h1, h2⟩ := rdFns_len k (l ++ [(nodesR s).1]) (nodesR s).2 (fun f hf => by
        simp only [List.mem_append, List.mem_singleton] at hf
        rcases hf with hf | rfl
        · exact h f hf
        · exact nodesR_len s)
      refine ⟨?_, h2⟩
      rw [List.length_append] at h1
      simp at h1
      omega
    · exact ⟨by simp only; omega, h⟩
def zpB : Ob := .row 0 4 false [[.i (.int .i64 0), .i (.int .i64 0), .i (.int .i64 0), .nils]]
def zsB : Ob := .row 0 2 false [[.i (.int .i64 0), .i (.int .i64 0)]]
def spot (a : Nat) (w : Int) : V := .agg [.i (.int .i64 a), .i (.int .i64 w)]
set_option maxHeartbeats 2000000 in
theorem read22 (bs : List Nat) (hl : bs.length ≤ 1000000) (hb : ∀ b ∈ bs, b < 256) : CallW Try.prog G0 22 [.i (.sl (bs.map by8))] [] (fun r st' => r = .tup [pgV (readP bs).1, spot (readP bs).2.1 (readP bs).2.2] ∧ st' = []) := by
  refine call_of_bodyF 0 (Nat.le_refl _) Try.func22 rfl (fun a w => Try.call22 a w) (wpx_ok (own := own0) _ _ _ ?_)
  have ok0 : Rd.ok ⟨bs, 0, 0, 0⟩ := ⟨hl, Nat.zero_le _, hb⟩
  repeat ((conv => whnf); first | refine Br.t ?_ | refine Br.f ?_ | refine ⟨rfl, ?_⟩)
  conv => whnf
  refine Br.mk (fun h => ?_) (fun h => ?_)
  · have h : 65536 < bs.length := by simp at h; omega
    have er : readP bs = (Pg.zero, 0, 4) := by unfold readP; rw [if_pos h]
    rw [er]
    repeat ((conv => whnf); first | refine Br.t ?_ | refine Br.f ?_ | refine ⟨rfl, ?_⟩)
    conv => whnf
    refine ⟨⟨rfl, rfl⟩, ?_⟩
    conv => whnf
    refine fin (target := []) rfl (Nat.zero_le _) (by simp) ?_ ?_
    · rfl
    · rfl
  · have h : ¬ 65536 < bs.length := by simp at h; omega
    repeat ((conv => whnf); first | refine Br.t ?_ | refine Br.f ?_ | refine ⟨rfl, ?_⟩)
    conv => whnf
    refine CallW.mono (CallW.fresh _ (new33 bs hl) rfl) ?_
    rintro r st' ⟨rfl, rfl⟩
    repeat ((conv => whnf); first | refine Br.t ?_ | refine Br.f ?_ | refine ⟨rfl, ?_⟩)
    conv => whnf
    refine CallW.mono (atR [_, _, _] [] (raw34 ⟨bs, 0, 0, 0⟩ ok0 4) rfl rfl) ?_
    rintro r st' ⟨rfl, rfl⟩
    have ok1 := raw_ok ok0 4
    obtain ⟨m1, s1, e1⟩ : ∃ m s, Rd.raw ⟨bs, 0, 0, 0⟩ 4 = (m, s) := ⟨_, _, rfl⟩
    rw [e1] at ok1 ⊢
    simp only at ok1 ⊢
    repeat ((conv => whnf); first | refine Br.t ?_ | refine Br.f ?_ | refine ⟨rfl, ?_⟩)
    conv => whnf
    refine CallW.mono (atR [_, _, _] [] (fault35 s1) rfl rfl) ?_
    rintro r st' ⟨rfl, rfl⟩
    repeat ((conv => whnf); first | refine Br.t ?_ | refine Br.f ?_ | refine ⟨rfl, ?_⟩)
    conv => whnf
    have hread : readP bs = if s1.why = 0 ∧ strOf m1 ≠ alpS then (Pg.zero, 0, 3) else tailP bs s1 := by unfold readP; rw [if_neg h, e1]
    rw [hread]
    refine Br.mk (fun h2 => ?_) (fun h2 => ?_)
    · have h2 : s1.why = 0 := by simpa using h2
      repeat ((conv => whnf); first | refine Br.t ?_ | refine Br.f ?_ | refine ⟨rfl, ?_⟩)
      conv => whnf
      refine ⟨isB_ok (isB_map m1), ?_⟩
      repeat ((conv => whnf); first | refine Br.t ?_ | refine Br.f ?_ | refine ⟨rfl, ?_⟩)
      conv => whnf
      refine Br.mk (fun h3 => ?_) (fun h3 => ?_)
      · have h3 : strOf m1 ≠ alpS := by simpa [strOf, alpS] using h3
        rw [if_pos ⟨h2, h3⟩]
        repeat ((conv => whnf); first | refine Br.t ?_ | refine Br.f ?_ | refine ⟨rfl, ?_⟩)
        conv => whnf
        refine ⟨⟨rfl, rfl⟩, ?_⟩
        conv => whnf
        refine fin (target := []) rfl (Nat.zero_le _) (by simp) ?_ ?_
        · rfl
        · rfl
      · have h3 : ¬ strOf m1 ≠ alpS := by simpa [strOf, alpS] using h3
        rw [if_neg (fun h => h3 h.2)]
        repeat ((conv => whnf); first | refine Br.t ?_ | refine Br.f ?_ | refine ⟨rfl, ?_⟩)
        conv => whnf
        refine CallW.mono (atR [_, _, _] [] (num37 s1 ok1 16) rfl rfl) ?_
        rintro r st' ⟨rfl, rfl⟩
        have ok2 := num_ok ok1 16
        have ha : (s1.num 16).1 ≤ 16 := num_mxN s1 16
        obtain ⟨a, s2, e2⟩ : ∃ m s, s1.num 16 = (m, s) := ⟨_, _, rfl⟩
        rw [e2] at ok2 ha ⊢
        simp only at ok2 ha ⊢
        repeat ((conv => whnf); first | refine Br.t ?_ | refine Br.f ?_ | refine ⟨rfl, ?_⟩)
        conv => whnf
        refine CallW.mono (atR [_, _, _] [] (num37 s2 ok2 16) rfl rfl) ?_
        rintro r st' ⟨rfl, rfl⟩
        have ok3 := num_ok ok2 16
        have hb2 : (s2.num 16).1 ≤ 16 := num_mxN s2 16
        obtain ⟨b, s3, e3⟩ : ∃ m s, s2.num 16 = (m, s) := ⟨_, _, rfl⟩
        rw [e3] at ok3 hb2 ⊢
        simp only at ok3 hb2 ⊢
        repeat ((conv => whnf); first | refine Br.t ?_ | refine Br.f ?_ | refine ⟨rfl, ?_⟩)
        conv => whnf
        refine CallW.mono (atR [_, _, _] [] (num37 s3 ok3 8) rfl rfl) ?_
        rintro r st' ⟨rfl, rfl⟩
        have ok4 := num_ok ok3 8
        have hc2 : (s3.num 8).1 ≤ 8 := num_mxN s3 8
        obtain ⟨c, s4, e4⟩ : ∃ m s, s3.num 8 = (m, s) := ⟨_, _, rfl⟩
        rw [e4] at ok4 hc2 ⊢
        simp only at ok4 hc2 ⊢
        repeat ((conv => whnf); first | refine Br.t ?_ | refine Br.f ?_ | refine ⟨rfl, ?_⟩)
        conv => whnf
        refine CallW.mono (atR [_, _, _] [_] (num37 s4 ok4 16) rfl rfl) ?_
        rintro r st' ⟨rfl, rfl⟩
        have ok5 := num_ok ok4 16
        have hn2 : (s4.num 16).1 ≤ 16 := num_mxN s4 16
        obtain ⟨n, s5, e5⟩ : ∃ m s, s4.num 16 = (m, s) := ⟨_, _, rfl⟩
        rw [e5] at ok5 hn2 ⊢
        simp only at ok5 hn2 ⊢
        have ht : tailP bs s1 = if (rdFns n [] s5).2.done.why ≠ 0 then ((Pg.zero, (rdFns n [] s5).2.done.a, ((rdFns n [] s5).2.done.why : Int)) : Pg × Nat × Int) else if (chk ⟨a, b, c, (rdFns n [] s5).1⟩).2.2 ≠ 0 then (Pg.zero, bs.length, (chk ⟨a, b, c, (rdFns n [] s5).1⟩).2.2) else (⟨a, b, c, (rdFns n [] s5).1⟩, 0, 0) := by
          unfold tailP; simp only [e2, e3, e4, e5]
        rw [ht]
        repeat ((conv => whnf); first | refine Br.t ?_ | refine Br.f ?_ | refine ⟨rfl, ?_⟩)
        conv => whnf
        refine W.le (Le.nilCell 4 0 3 1 rfl rfl rfl) ?_
        refine loop_ok (α := Nat × List (List Nd) × Rd) (fun x => ⟨mkS 78 [(0, .i (.sl (bs.map by8))), (2, .ptr 0 0 0 0), (3, .ptr 1 0 0 0), (4, .ptr 3 0 0 0), (6, .ptr 4 0 0 0), (7, .i (.int .i64 x.1))], [zpB, zsB, .dead, rdB x.2.2, .row 0 4 false [[.i (.int .i64 a), .i (.int .i64 b), .i (.int .i64 c), .ref 5 1 0 x.2.1.length]], .row 1 1 false (lift (x.2.1.map encF))]⟩)
          (fun x => x.1 ≤ 16 ∧ x.2.2.ok ∧ x.2.1.length + x.1 ≤ 16 ∧ rdFns x.1 x.2.1 x.2.2 = rdFns n [] s5) (fun x => x.1) (n, [], s5) ⟨hn2, ok5, by simpa using hn2, rfl⟩
          (Le.slots (by simp [leS, mkS])) (fun x hx => W.weak (wpx_ok (own := own0) _ _ _ ?_))
        obtain ⟨k, l, s6⟩ := x
        obtain ⟨h1, h2, h3, h4⟩ := hx
        simp only at h1 h2 h3 h4
        dsimp only
        cases k with
        | zero =>
          rw [rdFns] at h4
          rw [← h4]
          repeat ((conv => whnf); first | refine Br.t ?_ | refine Br.f ?_ | refine ⟨rfl, ?_⟩)
          conv => whnf
          refine ⟨_, Le.data 5 1 1 (l.map encF) (sl := _) (s := ⟨mkS 78 [(0, .i (.sl (bs.map by8))), (2, .ptr 0 0 0 0), (3, .ptr 1 0 0 0), (4, .ptr 3 0 0 0), (6, .ptr 4 0 0 0)], [zpB, zsB, .dead, rdB s6, pgB ⟨a, b, c, l⟩, .dead]⟩) rfl ?_ ?_, ?_⟩
          · simp [leS, mkS, V.dat]
          · simp [Ob.dat, zpB, zsB, rdB, pgB, encP4, V.dat.datAll, V.dat]
            exact (List.take_of_length_le (by simp [lift])).symm
          · have hlf := rdFns_len n [] s5 (by simp)
            rw [← h4] at hlf
            simp only [List.length_nil] at hlf
            have okp : okPg ⟨a, b, c, l⟩ := ⟨by simp only; omega, fun f hf => by have := hlf.2 f hf; omega⟩
            simp only
            repeat ((conv => whnf); first | refine Br.t ?_ | refine Br.f ?_ | refine ⟨rfl, ?_⟩)
            conv => whnf
            refine CallW.mono (atR [_, _, _] [_, _] (done38 s6 h2) rfl rfl) ?_
            rintro r st' ⟨rfl, rfl⟩
            repeat ((conv => whnf); first | refine Br.t ?_ | refine Br.f ?_ | refine ⟨rfl, ?_⟩)
            conv => whnf
            refine Br.mk (fun d => ?_) (fun d => ?_)
            · have d : s6.done.why ≠ 0 := by simpa using d
              rw [if_pos d]
              repeat ((conv => whnf); first | refine Br.t ?_ | refine Br.f ?_ | refine ⟨rfl, ?_⟩)
              conv => whnf
              refine CallW.mono (atR [_, _, _] [_, _] (fault35 s6.done) rfl rfl) ?_
              rintro r st' ⟨rfl, rfl⟩
              repeat ((conv => whnf); first | refine Br.t ?_ | refine Br.f ?_ | refine ⟨rfl, ?_⟩)
              conv => whnf
              refine ⟨⟨rfl, rfl⟩, ?_⟩
              conv => whnf
              refine fin (target := []) rfl (Nat.zero_le _) (by simp) ?_ ?_
              · rfl
              · rfl
            · have d : ¬ s6.done.why ≠ 0 := by simpa using d
              rw [if_neg d]
              repeat ((conv => whnf); first | refine Br.t ?_ | refine Br.f ?_ | refine ⟨rfl, ?_⟩)
              conv => whnf
              refine CallW.mono ((check31 ⟨a, b, c, l⟩ okp).pure _ rfl rfl) ?_
              rintro r st' ⟨rfl, rfl⟩
              repeat ((conv => whnf); first | refine Br.t ?_ | refine Br.f ?_ | refine ⟨rfl, ?_⟩)
              conv => whnf
              refine Br.mk (fun e => ?_) (fun e => ?_)
              · have e : (chk ⟨a, b, c, l⟩).2.2 ≠ 0 := by simpa using e
                rw [if_pos e]
                repeat ((conv => whnf); first | refine Br.t ?_ | refine Br.f ?_ | refine ⟨rfl, ?_⟩)
                conv => whnf
                refine ⟨⟨rfl, rfl⟩, ?_⟩
                conv => whnf
                refine fin (target := []) rfl (Nat.zero_le _) (by simp) ?_ ?_
                · first | rfl | (simp only [List.length_map]; rfl)
                · rfl
              · have e : ¬ (chk ⟨a, b, c, l⟩).2.2 ≠ 0 := by simpa using e
                rw [if_neg e]
                repeat ((conv => whnf); first | refine Br.t ?_ | refine Br.f ?_ | refine ⟨rfl, ?_⟩)
                conv => whnf
                refine ⟨⟨rfl, rfl⟩, ?_⟩
                conv => whnf
                refine fin (target := []) rfl (Nat.zero_le _) (by simp) ?_ ?_
                · rfl
                · rfl
        | succ k =>
          rw [rdFns] at h4
          repeat ((conv => whnf); first | refine Br.t ?_ | refine Br.f ?_ | refine ⟨rfl, ?_⟩)
          conv => whnf
          refine Br.mk (fun g0 => ?_) (fun g0 => by simp at g0)
          repeat ((conv => whnf); first | refine Br.t ?_ | refine Br.f ?_ | refine ⟨rfl, ?_⟩)
          conv => whnf
          refine CallW.mono (atR [_, _, _] [_, _] (fault35 s6) rfl rfl) ?_
          rintro r st' ⟨rfl, rfl⟩
          repeat ((conv => whnf); first | refine Br.t ?_ | refine Br.f ?_ | refine ⟨rfl, ?_⟩)
          conv => whnf
          refine Br.mk (fun g1 => ?_) (fun g1 => ?_)
          · have g1 : s6.why = 0 := by simpa using g1
            rw [if_pos g1] at h4
            have hln := nodesR_len s6
            have hokn := nodesR_ok h2
            obtain ⟨L, s7, e7⟩ : ∃ L s, nodesR s6 = (L, s) := ⟨_, _, rfl⟩
            have cn := nodes43 s6 h2
            rw [e7] at h4 hln hokn cn
            simp only at h4 hln hokn cn
            repeat ((conv => whnf); first | refine Br.t ?_ | refine Br.f ?_ | refine ⟨rfl, ?_⟩)
            conv => whnf
            refine draw_ok (own := own0) [3, 5, 7] [(0, 5), (1, 5)] [(.i (.sl (L.map encNd)), [zpB, zsB, .dead, rdB s7, .row 0 4 false [[.i (.int .i64 a), .i (.int .i64 b), .i (.int .i64 c), .ref 5 1 0 l.length]], .row 1 1 false (lift (l.map encF))])] rfl (by kernel_rfl) (Nat.zero_le _) ?_
            repeat ((conv => whnf); first | refine Br.t ?_ | refine Br.f ?_ | refine ⟨rfl, ?_⟩)
            conv => whnf
            refine ⟨atR [_, _, _] [_, _] cn rfl rfl, ?_⟩
            repeat ((conv => whnf); first | refine Br.t ?_ | refine Br.f ?_ | refine ⟨rfl, ?_⟩)
            conv => whnf
            refine ⟨⟨by intro cs hcs; simp at hcs; subst hcs; rfl, by simp [lift], by show (l.length + 1) * 24 ≤ _; omega, len_mx (by simp [lift]; omega)⟩, ?_⟩
            repeat ((conv => whnf); first | refine Br.t ?_ | refine Br.f ?_ | refine ⟨rfl, ?_⟩)
            conv => whnf
            refine ⟨by repeat ((conv => whnf); first | exact trivial | refine ⟨rfl, ?_⟩), by repeat ((conv => whnf); first | exact trivial | refine ⟨by (conv => whnf); first | exact ⟨rfl, rfl⟩ | exact ⟨rfl, rfl, rfl⟩, ?_⟩), ?_⟩
            conv => whnf
            refine ⟨_, Le.refl _ _, (k, l ++ [L], s7), ⟨by simp only; omega, hokn, by simp; omega, h4⟩, by simp only; omega, Le.down (fun id => if id = 5 then 1 else 0) (by intro id hid; simp at hid) ?_ ?_⟩
            · simp [leS, mkS, V.up, lift]
              rw [i64_id (by omega) (by omega)]
            · simp only [upSt, Ob.up, map_up_lift, List.map_append, lift_app]
              rw [show (l ++ [L]).length = l.length + 1 by simp]
              rfl
          · have g1 : ¬ s6.why = 0 := by simpa using g1
            rw [if_neg g1] at h4
            rw [← h4]
            repeat ((conv => whnf); first | refine Br.t ?_ | refine Br.f ?_ | refine ⟨rfl, ?_⟩)
            conv => whnf
            refine ⟨_, Le.data 5 1 1 (l.map encF) (sl := _) (s := ⟨mkS 78 [(0, .i (.sl (bs.map by8))), (2, .ptr 0 0 0 0), (3, .ptr 1 0 0 0), (4, .ptr 3 0 0 0), (6, .ptr 4 0 0 0)], [zpB, zsB, .dead, rdB s6, pgB ⟨a, b, c, l⟩, .dead]⟩) rfl ?_ ?_, ?_⟩
            · simp [leS, mkS, V.dat]
            · simp [Ob.dat, zpB, zsB, rdB, pgB, encP4, V.dat.datAll, V.dat]
              exact (List.take_of_length_le (by simp [lift])).symm
            · have hlf := rdFns_len n [] s5 (by simp)
              rw [← h4] at hlf
              simp only [List.length_nil] at hlf
              have okp : okPg ⟨a, b, c, l⟩ := ⟨by simp only; omega, fun f hf => by have := hlf.2 f hf; omega⟩
              simp only
              repeat ((conv => whnf); first | refine Br.t ?_ | refine Br.f ?_ | refine ⟨rfl, ?_⟩)
              conv => whnf
              refine CallW.mono (atR [_, _, _] [_, _] (done38 s6 h2) rfl rfl) ?_
              rintro r st' ⟨rfl, rfl⟩
              repeat ((conv => whnf); first | refine Br.t ?_ | refine Br.f ?_ | refine ⟨rfl, ?_⟩)
              conv => whnf
              refine Br.mk (fun d => ?_) (fun d => ?_)
              · have d : s6.done.why ≠ 0 := by simpa using d
                rw [if_pos d]
                repeat ((conv => whnf); first | refine Br.t ?_ | refine Br.f ?_ | refine ⟨rfl, ?_⟩)
                conv => whnf
                refine CallW.mono (atR [_, _, _] [_, _] (fault35 s6.done) rfl rfl) ?_
                rintro r st' ⟨rfl, rfl⟩
                repeat ((conv => whnf); first | refine Br.t ?_ | refine Br.f ?_ | refine ⟨rfl, ?_⟩)
                conv => whnf
                refine ⟨⟨rfl, rfl⟩, ?_⟩
                conv => whnf
                refine fin (target := []) rfl (Nat.zero_le _) (by simp) ?_ ?_
                · rfl
                · rfl
              · have d : ¬ s6.done.why ≠ 0 := by simpa using d
                rw [if_neg d]
                repeat ((conv => whnf); first | refine Br.t ?_ | refine Br.f ?_ | refine ⟨rfl, ?_⟩)
                conv => whnf
                refine CallW.mono ((check31 ⟨a, b, c, l⟩ okp).pure _ rfl rfl) ?_
                rintro r st' ⟨rfl, rfl⟩
                repeat ((conv => whnf); first | refine Br.t ?_ | refine Br.f ?_ | refine ⟨rfl, ?_⟩)
                conv => whnf
                refine Br.mk (fun e => ?_) (fun e => ?_)
                · have e : (chk ⟨a, b, c, l⟩).2.2 ≠ 0 := by simpa using e
                  rw [if_pos e]
                  repeat ((conv => whnf); first | refine Br.t ?_ | refine Br.f ?_ | refine ⟨rfl, ?_⟩)
                  conv => whnf
                  refine ⟨⟨rfl, rfl⟩, ?_⟩
                  conv => whnf
                  refine fin (target := []) rfl (Nat.zero_le _) (by simp) ?_ ?_
                  · first | rfl | (simp only [List.length_map]; rfl)
                  · rfl
                · have e : ¬ (chk ⟨a, b, c, l⟩).2.2 ≠ 0 := by simpa using e
                  rw [if_neg e]
                  repeat ((conv => whnf); first | refine Br.t ?_ | refine Br.f ?_ | refine ⟨rfl, ?_⟩)
                  conv => whnf
                  refine ⟨⟨rfl, rfl⟩, ?_⟩
                  conv => whnf
                  refine fin (target := []) rfl (Nat.zero_le _) (by simp) ?_ ?_
                  · rfl
                  · rfl
    · have h2 : ¬ s1.why = 0 := by simpa using h2
      rw [if_neg (fun h => h2 h.1)]
      repeat ((conv => whnf); first | refine Br.t ?_ | refine Br.f ?_ | refine ⟨rfl, ?_⟩)
      conv => whnf
      refine CallW.mono (atR [_, _, _] [] (num37 s1 ok1 16) rfl rfl) ?_
      rintro r st' ⟨rfl, rfl⟩
      have ok2 := num_ok ok1 16
      have ha : (s1.num 16).1 ≤ 16 := num_mxN s1 16
      obtain ⟨a, s2, e2⟩ : ∃ m s, s1.num 16 = (m, s) := ⟨_, _, rfl⟩
      rw [e2] at ok2 ha ⊢
      simp only at ok2 ha ⊢
      repeat ((conv => whnf); first | refine Br.t ?_ | refine Br.f ?_ | refine ⟨rfl, ?_⟩)
      conv => whnf
      refine CallW.mono (atR [_, _, _] [] (num37 s2 ok2 16) rfl rfl) ?_
      rintro r st' ⟨rfl, rfl⟩
      have ok3 := num_ok ok2 16
      have hb2 : (s2.num 16).1 ≤ 16 := num_mxN s2 16
      obtain ⟨b, s3, e3⟩ : ∃ m s, s2.num 16 = (m, s) := ⟨_, _, rfl⟩
      rw [e3] at ok3 hb2 ⊢
      simp only at ok3 hb2 ⊢
      repeat ((conv => whnf); first | refine Br.t ?_ | refine Br.f ?_ | refine ⟨rfl, ?_⟩)
      conv => whnf
      refine CallW.mono (atR [_, _, _] [] (num37 s3 ok3 8) rfl rfl) ?_
      rintro r st' ⟨rfl, rfl⟩
      have ok4 := num_ok ok3 8
      have hc2 : (s3.num 8).1 ≤ 8 := num_mxN s3 8
      obtain ⟨c, s4, e4⟩ : ∃ m s, s3.num 8 = (m, s) := ⟨_, _, rfl⟩
      rw [e4] at ok4 hc2 ⊢
      simp only at ok4 hc2 ⊢
      repeat ((conv => whnf); first | refine Br.t ?_ | refine Br.f ?_ | refine ⟨rfl, ?_⟩)
      conv => whnf
      refine CallW.mono (atR [_, _, _] [_] (num37 s4 ok4 16) rfl rfl) ?_
      rintro r st' ⟨rfl, rfl⟩
      have ok5 := num_ok ok4 16
      have hn2 : (s4.num 16).1 ≤ 16 := num_mxN s4 16
      obtain ⟨n, s5, e5⟩ : ∃ m s, s4.num 16 = (m, s) := ⟨_, _, rfl⟩
      rw [e5] at ok5 hn2 ⊢
      simp only at ok5 hn2 ⊢
      have ht : tailP bs s1 = if (rdFns n [] s5).2.done.why ≠ 0 then ((Pg.zero, (rdFns n [] s5).2.done.a, ((rdFns n [] s5).2.done.why : Int)) : Pg × Nat × Int) else if (chk ⟨a, b, c, (rdFns n [] s5).1⟩).2.2 ≠ 0 then (Pg.zero, bs.length, (chk ⟨a, b, c, (rdFns n [] s5).1⟩).2.2) else (⟨a, b, c, (rdFns n [] s5).1⟩, 0, 0) := by
        unfold tailP; simp only [e2, e3, e4, e5]
      rw [ht]
      repeat ((conv => whnf); first | refine Br.t ?_ | refine Br.f ?_ | refine ⟨rfl, ?_⟩)
      conv => whnf
      refine W.le (Le.nilCell 4 0 3 1 rfl rfl rfl) ?_
      refine loop_ok (α := Nat × List (List Nd) × Rd) (fun x => ⟨mkS 78 [(0, .i (.sl (bs.map by8))), (2, .ptr 0 0 0 0), (3, .ptr 1 0 0 0), (4, .ptr 3 0 0 0), (6, .ptr 4 0 0 0), (7, .i (.int .i64 x.1))], [zpB, zsB, .dead, rdB x.2.2, .row 0 4 false [[.i (.int .i64 a), .i (.int .i64 b), .i (.int .i64 c), .ref 5 1 0 x.2.1.length]], .row 1 1 false (lift (x.2.1.map encF))]⟩)
        (fun x => x.1 ≤ 16 ∧ x.2.2.ok ∧ x.2.1.length + x.1 ≤ 16 ∧ rdFns x.1 x.2.1 x.2.2 = rdFns n [] s5) (fun x => x.1) (n, [], s5) ⟨hn2, ok5, by simpa using hn2, rfl⟩
        (Le.slots (by simp [leS, mkS])) (fun x hx => W.weak (wpx_ok (own := own0) _ _ _ ?_))
      obtain ⟨k, l, s6⟩ := x
      obtain ⟨h1, h2, h3, h4⟩ := hx
      simp only at h1 h2 h3 h4
      dsimp only
      cases k with
      | zero =>
        rw [rdFns] at h4
        rw [← h4]
        repeat ((conv => whnf); first | refine Br.t ?_ | refine Br.f ?_ | refine ⟨rfl, ?_⟩)
        conv => whnf
        refine ⟨_, Le.data 5 1 1 (l.map encF) (sl := _) (s := ⟨mkS 78 [(0, .i (.sl (bs.map by8))), (2, .ptr 0 0 0 0), (3, .ptr 1 0 0 0), (4, .ptr 3 0 0 0), (6, .ptr 4 0 0 0)], [zpB, zsB, .dead, rdB s6, pgB ⟨a, b, c, l⟩, .dead]⟩) rfl ?_ ?_, ?_⟩
        · simp [leS, mkS, V.dat]
        · simp [Ob.dat, zpB, zsB, rdB, pgB, encP4, V.dat.datAll, V.dat]
          exact (List.take_of_length_le (by simp [lift])).symm
        · have hlf := rdFns_len n [] s5 (by simp)
          rw [← h4] at hlf
          simp only [List.length_nil] at hlf
          have okp : okPg ⟨a, b, c, l⟩ := ⟨by simp only; omega, fun f hf => by have := hlf.2 f hf; omega⟩
          simp only
          repeat ((conv => whnf); first | refine Br.t ?_ | refine Br.f ?_ | refine ⟨rfl, ?_⟩)
          conv => whnf
          refine CallW.mono (atR [_, _, _] [_, _] (done38 s6 h2) rfl rfl) ?_
          rintro r st' ⟨rfl, rfl⟩
          repeat ((conv => whnf); first | refine Br.t ?_ | refine Br.f ?_ | refine ⟨rfl, ?_⟩)
          conv => whnf
          refine Br.mk (fun d => ?_) (fun d => ?_)
          · have d : s6.done.why ≠ 0 := by simpa using d
            rw [if_pos d]
            repeat ((conv => whnf); first | refine Br.t ?_ | refine Br.f ?_ | refine ⟨rfl, ?_⟩)
            conv => whnf
            refine CallW.mono (atR [_, _, _] [_, _] (fault35 s6.done) rfl rfl) ?_
            rintro r st' ⟨rfl, rfl⟩
            repeat ((conv => whnf); first | refine Br.t ?_ | refine Br.f ?_ | refine ⟨rfl, ?_⟩)
            conv => whnf
            refine ⟨⟨rfl, rfl⟩, ?_⟩
            conv => whnf
            refine fin (target := []) rfl (Nat.zero_le _) (by simp) ?_ ?_
            · rfl
            · rfl
          · have d : ¬ s6.done.why ≠ 0 := by simpa using d
            rw [if_neg d]
            repeat ((conv => whnf); first | refine Br.t ?_ | refine Br.f ?_ | refine ⟨rfl, ?_⟩)
            conv => whnf
            refine CallW.mono ((check31 ⟨a, b, c, l⟩ okp).pure _ rfl rfl) ?_
            rintro r st' ⟨rfl, rfl⟩
            repeat ((conv => whnf); first | refine Br.t ?_ | refine Br.f ?_ | refine ⟨rfl, ?_⟩)
            conv => whnf
            refine Br.mk (fun e => ?_) (fun e => ?_)
            · have e : (chk ⟨a, b, c, l⟩).2.2 ≠ 0 := by simpa using e
              rw [if_pos e]
              repeat ((conv => whnf); first | refine Br.t ?_ | refine Br.f ?_ | refine ⟨rfl, ?_⟩)
              conv => whnf
              refine ⟨⟨rfl, rfl⟩, ?_⟩
              conv => whnf
              refine fin (target := []) rfl (Nat.zero_le _) (by simp) ?_ ?_
              · first | rfl | (simp only [List.length_map]; rfl)
              · rfl
            · have e : ¬ (chk ⟨a, b, c, l⟩).2.2 ≠ 0 := by simpa using e
              rw [if_neg e]
              repeat ((conv => whnf); first | refine Br.t ?_ | refine Br.f ?_ | refine ⟨rfl, ?_⟩)
              conv => whnf
              refine ⟨⟨rfl, rfl⟩, ?_⟩
              conv => whnf
              refine fin (target := []) rfl (Nat.zero_le _) (by simp) ?_ ?_
              · rfl
              · rfl
      | succ k =>
        rw [rdFns] at h4
        repeat ((conv => whnf); first | refine Br.t ?_ | refine Br.f ?_ | refine ⟨rfl, ?_⟩)
        conv => whnf
        refine Br.mk (fun g0 => ?_) (fun g0 => by simp at g0)
        repeat ((conv => whnf); first | refine Br.t ?_ | refine Br.f ?_ | refine ⟨rfl, ?_⟩)
        conv => whnf
        refine CallW.mono (atR [_, _, _] [_, _] (fault35 s6) rfl rfl) ?_
        rintro r st' ⟨rfl, rfl⟩
        repeat ((conv => whnf); first | refine Br.t ?_ | refine Br.f ?_ | refine ⟨rfl, ?_⟩)
        conv => whnf
        refine Br.mk (fun g1 => ?_) (fun g1 => ?_)
        · have g1 : s6.why = 0 := by simpa using g1
          rw [if_pos g1] at h4
          have hln := nodesR_len s6
          have hokn := nodesR_ok h2
          obtain ⟨L, s7, e7⟩ : ∃ L s, nodesR s6 = (L, s) := ⟨_, _, rfl⟩
          have cn := nodes43 s6 h2
          rw [e7] at h4 hln hokn cn
          simp only at h4 hln hokn cn
          repeat ((conv => whnf); first | refine Br.t ?_ | refine Br.f ?_ | refine ⟨rfl, ?_⟩)
          conv => whnf
          refine draw_ok (own := own0) [3, 5, 7] [(0, 5), (1, 5)] [(.i (.sl (L.map encNd)), [zpB, zsB, .dead, rdB s7, .row 0 4 false [[.i (.int .i64 a), .i (.int .i64 b), .i (.int .i64 c), .ref 5 1 0 l.length]], .row 1 1 false (lift (l.map encF))])] rfl (by kernel_rfl) (Nat.zero_le _) ?_
          repeat ((conv => whnf); first | refine Br.t ?_ | refine Br.f ?_ | refine ⟨rfl, ?_⟩)
          conv => whnf
          refine ⟨atR [_, _, _] [_, _] cn rfl rfl, ?_⟩
          repeat ((conv => whnf); first | refine Br.t ?_ | refine Br.f ?_ | refine ⟨rfl, ?_⟩)
          conv => whnf
          refine ⟨⟨by intro cs hcs; simp at hcs; subst hcs; rfl, by simp [lift], by show (l.length + 1) * 24 ≤ _; omega, len_mx (by simp [lift]; omega)⟩, ?_⟩
          repeat ((conv => whnf); first | refine Br.t ?_ | refine Br.f ?_ | refine ⟨rfl, ?_⟩)
          conv => whnf
          refine ⟨by repeat ((conv => whnf); first | exact trivial | refine ⟨rfl, ?_⟩), by repeat ((conv => whnf); first | exact trivial | refine ⟨by (conv => whnf); first | exact ⟨rfl, rfl⟩ | exact ⟨rfl, rfl, rfl⟩, ?_⟩), ?_⟩
          conv => whnf
          refine ⟨_, Le.refl _ _, (k, l ++ [L], s7), ⟨by simp only; omega, hokn, by simp; omega, h4⟩, by simp only; omega, Le.down (fun id => if id = 5 then 1 else 0) (by intro id hid; simp at hid) ?_ ?_⟩
          · simp [leS, mkS, V.up, lift]
            rw [i64_id (by omega) (by omega)]
          · simp only [upSt, Ob.up, map_up_lift, List.map_append, lift_app]
            rw [show (l ++ [L]).length = l.length + 1 by simp]
            rfl
        · have g1 : ¬ s6.why = 0 := by simpa using g1
          rw [if_neg g1] at h4
          rw [← h4]
          repeat ((conv => whnf); first | refine Br.t ?_ | refine Br.f ?_ | refine ⟨rfl, ?_⟩)
          conv => whnf
          refine ⟨_, Le.data 5 1 1 (l.map encF) (sl := _) (s := ⟨mkS 78 [(0, .i (.sl (bs.map by8))), (2, .ptr 0 0 0 0), (3, .ptr 1 0 0 0), (4, .ptr 3 0 0 0), (6, .ptr 4 0 0 0)], [zpB, zsB, .dead, rdB s6, pgB ⟨a, b, c, l⟩, .dead]⟩) rfl ?_ ?_, ?_⟩
          · simp [leS, mkS, V.dat]
          · simp [Ob.dat, zpB, zsB, rdB, pgB, encP4, V.dat.datAll, V.dat]
            exact (List.take_of_length_le (by simp [lift])).symm
          · have hlf := rdFns_len n [] s5 (by simp)
            rw [← h4] at hlf
            simp only [List.length_nil] at hlf
            have okp : okPg ⟨a, b, c, l⟩ := ⟨by simp only; omega, fun f hf => by have := hlf.2 f hf; omega⟩
            simp only
            repeat ((conv => whnf); first | refine Br.t ?_ | refine Br.f ?_ | refine ⟨rfl, ?_⟩)
            conv => whnf
            refine CallW.mono (atR [_, _, _] [_, _] (done38 s6 h2) rfl rfl) ?_
            rintro r st' ⟨rfl, rfl⟩
            repeat ((conv => whnf); first | refine Br.t ?_ | refine Br.f ?_ | refine ⟨rfl, ?_⟩)
            conv => whnf
            refine Br.mk (fun d => ?_) (fun d => ?_)
            · have d : s6.done.why ≠ 0 := by simpa using d
              rw [if_pos d]
              repeat ((conv => whnf); first | refine Br.t ?_ | refine Br.f ?_ | refine ⟨rfl, ?_⟩)
              conv => whnf
              refine CallW.mono (atR [_, _, _] [_, _] (fault35 s6.done) rfl rfl) ?_
              rintro r st' ⟨rfl, rfl⟩
              repeat ((conv => whnf); first | refine Br.t ?_ | refine Br.f ?_ | refine ⟨rfl, ?_⟩)
              conv => whnf
              refine ⟨⟨rfl, rfl⟩, ?_⟩
              conv => whnf
              refine fin (target := []) rfl (Nat.zero_le _) (by simp) ?_ ?_
              · rfl
              · rfl
            · have d : ¬ s6.done.why ≠ 0 := by simpa using d
              rw [if_neg d]
              repeat ((conv => whnf); first | refine Br.t ?_ | refine Br.f ?_ | refine ⟨rfl, ?_⟩)
              conv => whnf
              refine CallW.mono ((check31 ⟨a, b, c, l⟩ okp).pure _ rfl rfl) ?_
              rintro r st' ⟨rfl, rfl⟩
              repeat ((conv => whnf); first | refine Br.t ?_ | refine Br.f ?_ | refine ⟨rfl, ?_⟩)
              conv => whnf
              refine Br.mk (fun e => ?_) (fun e => ?_)
              · have e : (chk ⟨a, b, c, l⟩).2.2 ≠ 0 := by simpa using e
                rw [if_pos e]
                repeat ((conv => whnf); first | refine Br.t ?_ | refine Br.f ?_ | refine ⟨rfl, ?_⟩)
                conv => whnf
                refine ⟨⟨rfl, rfl⟩, ?_⟩
                conv => whnf
                refine fin (target := []) rfl (Nat.zero_le _) (by simp) ?_ ?_
                · first | rfl | (simp only [List.length_map]; rfl)
                · rfl
              · have e : ¬ (chk ⟨a, b, c, l⟩).2.2 ≠ 0 := by simpa using e
                rw [if_neg e]
                repeat ((conv => whnf); first | refine Br.t ?_ | refine Br.f ?_ | refine ⟨rfl, ?_⟩)
                conv => whnf
                refine ⟨⟨rfl, rfl⟩, ?_⟩
                conv => whnf
                refine fin (target := []) rfl (Nat.zero_le _) (by simp) ?_ ?_
                · rfl
                · rfl
end Go.Proofs.Ytdbmfnhbgacldaa.Am

/- Contract: any bytes read as a program, as the document says. -/
namespace Go.Proofs.Ytdbmfnhbgacldaa.Am
set_option autoImplicit false
set_option linter.unusedVariables false
set_option linter.unusedSimpArgs false
set_option maxRecDepth 10000
set_option pp.maxSteps 3000
set_option pp.proofs false
theorem Le.slotsE {n : Nat} {sl sl' : List V} {st st' : List Ob} (h : leS sl sl') (e : st = st') : Le n ⟨sl, st⟩ ⟨sl', st'⟩ := by subst e; exact Le.slots h
theorem dat_lift' (id ver : Nat) (is es : List (List I)) : (lift es).map (V.dat.datAll id ver is) = lift es := by
  simp only [lift, List.map_map]
  refine List.map_congr_left fun cs _ => ?_
  simp only [Function.comp]
  induction cs with
  | nil => rfl
  | cons c cs ih => simp [V.dat.datAll, V.dat, ih]
def letr (c : Nat) : UInt8 := if c = 1 then 97 else if c = 2 then 110 else 120
def tolS (P : List Nat) : ByteArray := ⟨⟨P.map letr⟩⟩
theorem told_ok (q : Int) : CallW Try.prog G0 44 [.i (.int .i64 q)] [] (fun r st' => r = .i (.str (tolS (partsL q))) ∧ st' = []) := by
  refine call_of_bodyF 0 (Nat.le_refl _) Try.func44 rfl (fun a w => Try.call44 a w) (wpx_ok (own := own0) _ _ _ ?_)
  unfold partsL
  repeat ((conv => whnf); first | refine Br.t ?_ | refine Br.f ?_ | refine ⟨rfl, ?_⟩)
  conv => whnf
  refine Br.mk (fun h => ?_) (fun h => ?_)
  · have h : q = 9 := by simpa using h
    rw [if_pos h]
    repeat ((conv => whnf); first | refine Br.t ?_ | refine Br.f ?_ | refine ⟨rfl, ?_⟩)
    conv => whnf
    refine fin (target := []) rfl (Nat.zero_le _) (by simp) rfl rfl
  have h : ¬ q = 9 := by simpa using h
  rw [if_neg h]
  repeat ((conv => whnf); first | refine Br.t ?_ | refine Br.f ?_ | refine ⟨rfl, ?_⟩)
  conv => whnf
  refine Br.mk (fun h => ?_) (fun h => ?_)
  · have h : q = 0 := by simpa using h
    rw [if_pos h]
    repeat ((conv => whnf); first | refine Br.t ?_ | refine Br.f ?_ | refine ⟨rfl, ?_⟩)
    conv => whnf
    refine fin (target := []) rfl (Nat.zero_le _) (by simp) rfl rfl
  have h : ¬ q = 0 := by simpa using h
  rw [if_neg h]
  repeat ((conv => whnf); first | refine Br.t ?_ | refine Br.f ?_ | refine ⟨rfl, ?_⟩)
  conv => whnf
  refine Br.mk (fun h => ?_) (fun h => ?_)
  · have h : q = 5 := by simpa using h
    rw [if_pos h]
    repeat ((conv => whnf); first | refine Br.t ?_ | refine Br.f ?_ | refine ⟨rfl, ?_⟩)
    conv => whnf
    refine fin (target := []) rfl (Nat.zero_le _) (by simp) rfl rfl
  have h : ¬ q = 5 := by simpa using h
  rw [if_neg h]
  repeat ((conv => whnf); first | refine Br.t ?_ | refine Br.f ?_ | refine ⟨rfl, ?_⟩)
  conv => whnf
  refine Br.mk (fun h => ?_) (fun h => ?_)
  · have h : q = 8 := by simpa using h
    rw [if_pos h]
    repeat ((conv => whnf); first | refine Br.t ?_ | refine Br.f ?_ | refine ⟨rfl, ?_⟩)
    conv => whnf
    refine fin (target := []) rfl (Nat.zero_le _) (by simp) rfl rfl
  have h : ¬ q = 8 := by simpa using h
  rw [if_neg h]
  repeat ((conv => whnf); first | refine Br.t ?_ | refine Br.f ?_ | refine ⟨rfl, ?_⟩)
  conv => whnf
  refine fin (target := []) rfl (Nat.zero_le _) (by simp) rfl rfl
def rpS (bs : List Nat) (n f : Nat) (x : List (Nat × V)) : List V := mkS 160 ([(0, .i (.sl (bs.map by8))), (2, .ptr 0 0 0 0), (3, .i (.int .i64 0)), (4, .i (.int .i64 0)), (5, .ptr 1 0 0 0), (6, .ptr 2 0 0 0), (8, .ptr 3 0 0 0), (9, .i (.int .i64 n)), (10, .i (.int .i64 f))] ++ x)
def rpB (a b c : Nat) (F : List (List Nd)) (s : Rd) : List Ob := [zpB, zpB, rdB s, .row 0 4 false [[.i (.int .i64 a), .i (.int .i64 b), .i (.int .i64 c), .ref 4 1 0 F.length]], .row 1 1 false (lift (F.map encF))]
def nR (l : List Nd) : Ob := .row 1 4 false (lift (l.map encNd))
theorem zpB_cl (m : Nat) : zpB.cl m := by intro cs hcs; simp only [List.mem_singleton] at hcs; subst hcs; rfl
theorem rpB_cl (a b c : Nat) (F : List (List Nd)) (s : Rd) (m : Nat) (hm : 4 < m) : ∀ o ∈ rpB a b c F s, o.cl m := by
  intro o ho
  simp only [rpB, List.mem_cons, List.not_mem_nil, or_false] at ho
  rcases ho with rfl | rfl | rfl | rfl | rfl
  · exact zpB_cl m
  · exact zpB_cl m
  · intro cs hcs; simp only [List.mem_singleton] at hcs; subst hcs; rfl
  · intro cs hcs; simp only [List.mem_singleton] at hcs; subst hcs; simp [V.cl, V.cl.clAll]; omega
  · exact row_cl 1 1 _ _ _ (List.mem_singleton.2 rfl)
theorem rpN_cl (a b c : Nat) (F : List (List Nd)) (s : Rd) (l : List Nd) (m : Nat) (hm : 4 < m) : ∀ o ∈ rpB a b c F s ++ [nR l], o.cl m := by
  intro o ho
  rcases List.mem_append.1 ho with h | h
  · exact rpB_cl a b c F s m hm o h
  · simp only [List.mem_singleton] at h; subst h; exact row_cl 1 4 _ _ _ (List.mem_singleton.2 rfl)
set_option maxHeartbeats 2000000 in
/-- the fields of a node -/
theorem rp_fields (bs : List Nat) (n f : Nat) (x0 : List (Nat × V)) (a b c : Nat) (F : List (List Nd)) (l : List Nd) (P : List Nat) (hP : P.length ≤ 3) (pm : ∀ c ∈ P, c = 1 ∨ c = 2 ∨ c = 3) (x : Nd) (s : Rd) (hok : s.ok) (m i : Nat) :
    W Try.prog G0 0 (.loop (lp Try.f23 2)) (fun e s' => e = .exit 4 ∧ s' = ⟨rpS bs n f [(11, .ref 5 1 0 l.length), (12, .i (.int .i64 m)), (13, .i (.int .i64 i)), (14, .ptr 6 0 0 0)], rpB a b c F (rdFld P x s).2 ++ [nR l, ndB (rdFld P x s).1]⟩)
      ⟨rpS bs n f [(11, .ref 5 1 0 l.length), (12, .i (.int .i64 m)), (13, .i (.int .i64 i)), (14, .ptr 6 0 0 0), (15, .i (.str (tolS P))), (16, .i (.int .i64 (0 : Nat)))], rpB a b c F s ++ [nR l, ndB x]⟩ := by
  refine W.weak (loop_ok (α := Nat × Nd × Rd) (fun z => ⟨rpS bs n f [(11, .ref 5 1 0 l.length), (12, .i (.int .i64 m)), (13, .i (.int .i64 i)), (14, .ptr 6 0 0 0), (15, .i (.str (tolS P))), (16, .i (.int .i64 (z.1 : Nat)))], rpB a b c F z.2.2 ++ [nR l, ndB z.2.1]⟩)
    (fun z => z.1 ≤ P.length ∧ z.2.2.ok ∧ rdFld (P.drop z.1) z.2.1 z.2.2 = rdFld P x s) (fun z => P.length - z.1) (0, x, s) ⟨Nat.zero_le _, hok, rfl⟩ (Le.refl _ _) (fun z hz => wpx_ok (own := own0) _ _ _ ?_))
  obtain ⟨j, y, s4⟩ := z
  obtain ⟨j1, j2, j3⟩ := hz
  simp only at j1 j2 j3
  dsimp only
  have hsz : (tolS P).size = P.length := by simp [tolS, ByteArray.size]
  repeat ((conv => whnf); first | refine Br.t ?_ | refine Br.f ?_ | refine ⟨rfl, ?_⟩)
  conv => whnf
  rw [hsz]
  refine Br.mk (fun g2 => ?_) (fun g2 => ?_)
  · have g2 : j < P.length := by simp at g2; omega
    obtain ⟨cc, hc⟩ : ∃ c, c = P[j] := ⟨_, rfl⟩
    have hcm : cc ∈ P := hc ▸ List.getElem_mem g2
    have edr : P.drop j = cc :: P.drop (j + 1) := by rw [hc]; exact List.drop_eq_getElem_cons g2
    have ech : (tolS P).data.getD (j : Int).toNat 0 = letr cc := by
      rw [Int.toNat_natCast, hc]; simp [tolS, Array.getD_eq_getD_getElem?, g2]
    rw [edr, rdFld] at j3
    have cn := num41 s4 j2 64
    have hok3 := num_ok j2 64
    obtain ⟨v, s5, e5⟩ : ∃ n s1, s4.num 64 = (n, s1) := ⟨_, _, rfl⟩
    rw [e5] at j3 hok3 cn
    simp only at j3 hok3 cn
    repeat ((conv => whnf); first | refine Br.t ?_ | refine Br.f ?_ | refine ⟨rfl, ?_⟩)
    conv => whnf
    refine CallW.mono (atR [_, _] [_, _, _, _] cn rfl rfl) ?_
    rintro r st' ⟨rfl, rfl⟩
    repeat ((conv => whnf); first | refine Br.t ?_ | refine Br.f ?_ | refine ⟨rfl, ?_⟩)
    conv => whnf
    refine ⟨by rw [hsz]; omega, ?_⟩
    repeat ((conv => whnf); first | refine Br.t ?_ | refine Br.f ?_ | refine ⟨rfl, ?_⟩)
    conv => whnf
    rw [ech]
    rcases pm cc hcm with rfl | rfl | rfl
    · repeat ((conv => whnf); first | refine Br.t ?_ | refine Br.f ?_ | refine ⟨rfl, ?_⟩)
      conv => whnf
      repeat ((conv => whnf); first | refine Br.t ?_ | refine Br.f ?_ | refine ⟨rfl, ?_⟩)
      conv => whnf
      refine ⟨(j + 1, setF y 1 v, s5), ⟨by simp only; omega, hok3, j3⟩, by simp only; omega, Le.slotsE ?_ ?_⟩
      · simp [leS, mkS, rpS]
        exact i64_id (by omega) (by omega)
      · obtain ⟨y1, y2, y3, y4⟩ := y
        rfl
    · repeat ((conv => whnf); first | refine Br.t ?_ | refine Br.f ?_ | refine ⟨rfl, ?_⟩)
      conv => whnf
      repeat ((conv => whnf); first | refine Br.t ?_ | refine Br.f ?_ | refine ⟨rfl, ?_⟩)
      conv => whnf
      refine ⟨(j + 1, setF y 2 v, s5), ⟨by simp only; omega, hok3, j3⟩, by simp only; omega, Le.slotsE ?_ ?_⟩
      · simp [leS, mkS, rpS]
        exact i64_id (by omega) (by omega)
      · obtain ⟨y1, y2, y3, y4⟩ := y
        rfl
    · repeat ((conv => whnf); first | refine Br.t ?_ | refine Br.f ?_ | refine ⟨rfl, ?_⟩)
      conv => whnf
      repeat ((conv => whnf); first | refine Br.t ?_ | refine Br.f ?_ | refine ⟨rfl, ?_⟩)
      conv => whnf
      refine ⟨(j + 1, setF y 3 v, s5), ⟨by simp only; omega, hok3, j3⟩, by simp only; omega, Le.slotsE ?_ ?_⟩
      · simp [leS, mkS, rpS]
        exact i64_id (by omega) (by omega)
      · obtain ⟨y1, y2, y3, y4⟩ := y
        rfl
  · have g2 : j = P.length := by simp at g2; omega
    subst g2
    rw [List.drop_length, rdFld] at j3
    rw [← j3]
    repeat ((conv => whnf); first | refine Br.t ?_ | refine Br.f ?_ | refine ⟨rfl, ?_⟩)
    conv => whnf
    refine ⟨_, Le.slotsE ?_ ?_, rfl, rfl⟩
    · simp [leS, mkS, rpS]
    · obtain ⟨y1, y2, y3, y4⟩ := y
      rfl
set_option maxHeartbeats 2000000 in
/-- the nodes of a function -/
theorem rp_nodes (bs : List Nat) (n f : Nat) (a b c : Nat) (F : List (List Nd)) (m : Nat) (hm : m ≤ 64) (s1 : Rd) (hok : s1.ok) :
    W Try.prog G0 0 (.loop (lp Try.f23 1)) (fun e s' => e = .exit 2 ∧ s' = ⟨rpS bs n f [(11, .i (.sl ((rdNodes m [] s1).1.map encNd)))], rpB a b c F (rdNodes m [] s1).2⟩)
      ⟨rpS bs n f [(11, .ref 5 1 0 0), (12, .i (.int .i64 m)), (13, .i (.int .i64 (0 : Nat)))], rpB a b c F s1 ++ [nR []]⟩ := by
  refine W.weak (loop_ok (α := Nat × List Nd × Rd) (fun z => ⟨rpS bs n f [(11, .ref 5 1 0 z.2.1.length), (12, .i (.int .i64 m)), (13, .i (.int .i64 (z.1 : Nat)))], rpB a b c F z.2.2 ++ [nR z.2.1]⟩)
    (fun z => z.1 ≤ m ∧ z.2.2.ok ∧ z.2.1.length = z.1 ∧ rdNodes (m - z.1) z.2.1 z.2.2 = rdNodes m [] s1) (fun z => m - z.1) (0, [], s1) ⟨Nat.zero_le _, hok, rfl, rfl⟩ (Le.refl _ _) (fun z hz => wpx_ok (own := own0) _ _ _ ?_))
  obtain ⟨i, l, s2⟩ := z
  obtain ⟨h1, h2, h3, h4⟩ := hz
  simp only at h1 h2 h3 h4
  dsimp only
  repeat ((conv => whnf); first | refine Br.t ?_ | refine Br.f ?_ | refine ⟨rfl, ?_⟩)
  conv => whnf
  refine Br.mk (fun g => ?_) (fun g => ?_)
  · have g : i < m := by simpa using g
    obtain ⟨k, hk⟩ : ∃ k, m - i = k + 1 := ⟨m - i - 1, by omega⟩
    rw [hk, rdNodes] at h4
    repeat ((conv => whnf); first | refine Br.t ?_ | refine Br.f ?_ | refine ⟨rfl, ?_⟩)
    conv => whnf
    refine Br.mk (fun g1 => ?_) (fun g1 => ?_)
    · have g1 : s2.why = 0 := by simp at g1; omega
      rw [if_pos g1] at h4
      have cn := num41 s2 h2 9
      have hN : rdNode s2 = rdFld (partsL (s2.num 9).1) ((s2.num 9).1, 0, 0, 0) (s2.num 9).2 := rfl
      rw [hN] at h4
      have hok2 := num_ok h2 9
      obtain ⟨q, s3, e3⟩ : ∃ n s1, s2.num 9 = (n, s1) := ⟨_, _, rfl⟩
      rw [e3] at h4 hok2 cn
      simp only at h4 hok2 cn
      have ct := told_ok (q : Int)
      have hf := rp_fields bs n f [] a b c F l (partsL (q : Int)) (parts_len _) (fun c h => parts_mem h) ((q : Int), 0, 0, 0) s3 hok2 m i
      have hokF := rdFld_ok (partsL (q : Int)) ((q : Int), 0, 0, 0) s3 hok2
      obtain ⟨X, s5, e5⟩ : ∃ X s5, rdFld (partsL (q : Int)) ((q : Int), 0, 0, 0) s3 = (X, s5) := ⟨_, _, rfl⟩
      rw [e5] at h4 hf hokF
      simp only at h4 hf hokF
      repeat ((conv => whnf); first | refine Br.t ?_ | refine Br.f ?_ | refine ⟨rfl, ?_⟩)
      conv => whnf
      refine CallW.mono (atR [_, _] [_, _, _] cn rfl rfl) ?_
      rintro r st' ⟨rfl, rfl⟩
      repeat ((conv => whnf); first | refine Br.t ?_ | refine Br.f ?_ | refine ⟨rfl, ?_⟩)
      conv => whnf
      refine CallW.mono (ct.pure _ rfl rfl) ?_
      rintro r st' ⟨rfl, rfl⟩
      repeat ((conv => whnf); first | refine Br.t ?_ | refine Br.f ?_ | refine ⟨rfl, ?_⟩)
      conv => whnf
      refine W.le (Le.slotsE (sl' := rpS bs n f [(11, .ref 5 1 0 l.length), (12, .i (.int .i64 m)), (13, .i (.int .i64 i)), (14, .ptr 6 0 0 0), (15, .i (.str (tolS (partsL (q : Int))))), (16, .i (.int .i64 (0 : Nat)))]) (st' := rpB a b c F s3 ++ [nR l, ndB ((q : Int), 0, 0, 0)]) (by simp [leS, mkS, rpS]) rfl) (W.mono hf ?_)
      rintro e s' ⟨rfl, rfl⟩
      obtain ⟨y1, y2, y3, y4⟩ := X
      repeat ((conv => whnf); first | refine Br.t ?_ | refine Br.f ?_ | refine ⟨rfl, ?_⟩)
      conv => whnf
      refine ⟨⟨by intro cs hcs; simp at hcs; subst hcs; rfl, by simp [lift], by show (l.length + 1) * 32 ≤ _; omega, len_mx (by show l.length + 1 ≤ _; omega)⟩, ?_⟩
      repeat ((conv => whnf); first | refine Br.t ?_ | refine Br.f ?_ | refine ⟨rfl, ?_⟩)
      conv => whnf
      refine ⟨(i + 1, l ++ [(y1, y2, y3, y4)], s5), ⟨by simp only; omega, hokF, by simp; omega, by simp only; rw [show m - (i + 1) = k by omega]; exact h4⟩, by simp only; omega, Le.back (fun id => if id = 5 then 1 else 0) (by intro id hid; omega) (by simp [rpB]) rfl (rpN_cl a b c F s5 _ _ (by simp [rpB])) ?_ ?_⟩
      · simp [leS, mkS, rpS, V.up, lift]
        exact i64_id (by omega) (by omega)
      · simp only [rpB, nR, zpB, rdB, List.cons_append, List.nil_append, upSt, Ob.up, map_up_lift, List.map_append, lift_app]
        rfl
    · have g1 : ¬ s2.why = 0 := by intro h; rw [h] at g1; simp at g1
      rw [if_neg g1] at h4
      repeat ((conv => whnf); first | refine Br.t ?_ | refine Br.f ?_ | refine ⟨rfl, ?_⟩)
      conv => whnf
      refine ⟨⟨rpS bs n f [(11, .i (.sl (l.map encNd)))], rpB a b c F s2⟩, (Le.data 5 1 4 (l.map encNd) (s := ⟨rpS bs n f [(11, .i (.sl (l.map encNd)))], rpB a b c F s2 ++ [.dead]⟩) rfl ?_ ?_).trans (Le.short (Nat.zero_le _) rfl (rpB_cl a b c F s2 _ (by simp [rpB]))), rfl, ?_⟩
      · simp [leS, mkS, rpS, V.dat]
        exact List.take_of_length_le (by simp)
      · simp only [rpB, nR, zpB, rdB, List.cons_append, List.nil_append, List.map_cons, List.map_nil, Ob.dat, dat_lift']
        rfl
      · rw [← h4]
  · have g : i = m := by simp at g; omega
    subst g
    rw [Nat.sub_self, rdNodes] at h4
    repeat ((conv => whnf); first | refine Br.t ?_ | refine Br.f ?_ | refine ⟨rfl, ?_⟩)
    conv => whnf
    refine ⟨⟨rpS bs n f [(11, .i (.sl (l.map encNd)))], rpB a b c F s2⟩, (Le.data 5 1 4 (l.map encNd) (s := ⟨rpS bs n f [(11, .i (.sl (l.map encNd)))], rpB a b c F s2 ++ [.dead]⟩) rfl ?_ ?_).trans (Le.short (Nat.zero_le _) rfl (rpB_cl a b c F s2 _ (by simp [rpB]))), rfl, ?_⟩
    · simp [leS, mkS, rpS, V.dat]
      exact List.take_of_length_le (by simp)
    · simp only [rpB, nR, zpB, rdB, List.cons_append, List.nil_append, List.map_cons, List.map_nil, Ob.dat, dat_lift']
      rfl
    · rw [← h4]
theorem rdNodes_len' (m : Nat) (s : Rd) : (rdNodes m [] s).1.length ≤ m := by
  have := rdNodes_len m [] s
  simpa using this
def rpF (a b c : Nat) (F : List (List Nd)) (s : Rd) : List Ob := [zpB, zpB, rdB s, pgB ⟨a, b, c, F⟩]
theorem rpF_cl (a b c : Nat) (F : List (List Nd)) (s : Rd) (m : Nat) : ∀ o ∈ rpF a b c F s, o.cl m := by
  intro o ho
  simp only [rpF, List.mem_cons, List.not_mem_nil, or_false] at ho
  rcases ho with rfl | rfl | rfl | rfl
  · exact zpB_cl m
  · exact zpB_cl m
  · intro cs hcs; simp only [List.mem_singleton] at hcs; subst hcs; rfl
  · intro cs hcs; simp only [List.mem_singleton] at hcs; subst hcs; rfl
def rpE (bs : List Nat) : List V := mkS 160 [(0, .i (.sl (bs.map by8))), (2, .ptr 0 0 0 0), (5, .ptr 1 0 0 0), (6, .ptr 2 0 0 0), (8, .ptr 3 0 0 0)]
set_option maxHeartbeats 2000000 in
/-- all functions -/
theorem rp_funcs (bs : List Nat) (n : Nat) (hn : n ≤ 16) (a b c : Nat) (s1 : Rd) (hok : s1.ok) :
    W Try.prog G0 0 (.loop (lp Try.f23 0)) (fun e s' => e = .exit 0 ∧ s' = ⟨rpE bs, rpF a b c (rdFns n [] s1).1 (rdFns n [] s1).2⟩)
      ⟨rpS bs n 0 [], rpB a b c [] s1⟩ := by
  refine W.weak (loop_ok (α := Nat × List (List Nd) × Rd) (fun z => ⟨rpS bs n z.1 [], rpB a b c z.2.1 z.2.2⟩)
    (fun z => z.1 ≤ n ∧ z.2.2.ok ∧ z.2.1.length = z.1 ∧ rdFns (n - z.1) z.2.1 z.2.2 = rdFns n [] s1) (fun z => n - z.1) (0, [], s1) ⟨Nat.zero_le _, hok, rfl, rfl⟩ (Le.refl _ _) (fun z hz => wpx_ok (own := own0) _ _ _ ?_))
  obtain ⟨f, F, s2⟩ := z
  obtain ⟨h1, h2, h3, h4⟩ := hz
  simp only at h1 h2 h3 h4
  dsimp only
  repeat ((conv => whnf); first | refine Br.t ?_ | refine Br.f ?_ | refine ⟨rfl, ?_⟩)
  conv => whnf
  refine Br.mk (fun g => ?_) (fun g => ?_)
  · have g : f < n := by simpa using g
    obtain ⟨k, hk⟩ : ∃ k, n - f = k + 1 := ⟨n - f - 1, by omega⟩
    rw [hk, rdFns] at h4
    repeat ((conv => whnf); first | refine Br.t ?_ | refine Br.f ?_ | refine ⟨rfl, ?_⟩)
    conv => whnf
    refine Br.mk (fun g1 => ?_) (fun g1 => ?_)
    · have g1 : s2.why = 0 := by simp at g1; omega
      rw [if_pos g1] at h4
      have cn := num41 s2 h2 64
      have hok2 := num_ok h2 64
      have h64 : (s2.num 64).1 ≤ 64 := num_mxN s2 64
      have hR : nodesR s2 = rdNodes (s2.num 64).1 [] (s2.num 64).2 := rfl
      rw [hR] at h4
      obtain ⟨m, s3, e3⟩ : ∃ n s1, s2.num 64 = (n, s1) := ⟨_, _, rfl⟩
      rw [e3] at h4 hok2 cn h64
      simp only at h4 hok2 cn h64
      have hN := rp_nodes bs n f a b c F m h64 s3 hok2
      have hokN := rdNodes_ok m [] s3 hok2
      have hlN := rdNodes_len' m s3
      obtain ⟨L, s5, e5⟩ : ∃ X s5, rdNodes m [] s3 = (X, s5) := ⟨_, _, rfl⟩
      rw [e5] at h4 hN hokN hlN
      simp only at h4 hN hokN hlN
      repeat ((conv => whnf); first | refine Br.t ?_ | refine Br.f ?_ | refine ⟨rfl, ?_⟩)
      conv => whnf
      refine CallW.mono (atR [_, _] [_, _] cn rfl rfl) ?_
      rintro r st' ⟨rfl, rfl⟩
      repeat ((conv => whnf); first | refine Br.t ?_ | refine Br.f ?_ | refine ⟨rfl, ?_⟩)
      conv => whnf
      refine W.le ((Le.nil (n := 0) 11 4 rfl).trans (Le.slotsE (sl' := rpS bs n f [(11, .ref 5 1 0 0), (12, .i (.int .i64 m)), (13, .i (.int .i64 (0 : Nat)))]) (st' := rpB a b c F s3 ++ [nR []]) (by simp [leS, mkS, rpS, rpB]) rfl)) (W.mono hN ?_)
      rintro e s' ⟨rfl, rfl⟩
      repeat ((conv => whnf); first | refine Br.t ?_ | refine Br.f ?_ | refine ⟨rfl, ?_⟩)
      conv => whnf
      refine ⟨⟨by intro cs hcs; simp at hcs; subst hcs; rfl, by simp [lift], by show (F.length + 1) * 24 ≤ _; omega, len_mx (by show F.length + 1 ≤ _; omega)⟩, ?_⟩
      repeat ((conv => whnf); first | refine Br.t ?_ | refine Br.f ?_ | refine ⟨rfl, ?_⟩)
      conv => whnf
      refine ⟨(f + 1, F ++ [L], s5), ⟨by simp only; omega, hokN, by simp; omega, by simp only; rw [show n - (f + 1) = k by omega]; exact h4⟩, by simp only; omega, Le.back (fun id => if id = 4 then 1 else 0) (by intro id hid; omega) (by simp [rpB]) rfl (rpB_cl a b c _ s5 _ (by simp [rpB])) ?_ ?_⟩
      · simp [leS, mkS, rpS, V.up]
        exact i64_id (by omega) (by omega)
      · simp only [rpB, zpB, rdB, upSt, Ob.up, map_up_lift, List.map_append, lift_app]
        rw [show (F ++ [L]).length = F.length + 1 by simp]
        rfl
    · have g1 : ¬ s2.why = 0 := by intro h; rw [h] at g1; simp at g1
      rw [if_neg g1] at h4
      repeat ((conv => whnf); first | refine Br.t ?_ | refine Br.f ?_ | refine ⟨rfl, ?_⟩)
      conv => whnf
      refine ⟨⟨rpE bs, rpF a b c F s2⟩, (Le.data 4 1 1 (F.map encF) (s := ⟨rpE bs, rpF a b c F s2 ++ [.dead]⟩) rfl ?_ ?_).trans (Le.short (Nat.zero_le _) rfl (rpF_cl a b c F s2 _)), rfl, ?_⟩
      · simp [leS, mkS, rpE, rpS, V.dat]
      · have e : V.dat 4 1 (F.map encF) (.ref 4 1 0 F.length) = .i (.sl (F.map encF)) := by
          simp [V.dat]
          exact List.take_of_length_le (by simp)
        show [zpB, zpB, rdB s2, pgB ⟨a, b, c, F⟩, .dead] = [zpB, zpB, rdB s2, .row 0 4 false [[.i (.int .i64 a), .i (.int .i64 b), .i (.int .i64 c), V.dat 4 1 (F.map encF) (.ref 4 1 0 F.length)]], .dead]
        rw [e]
        rfl
      · rw [← h4]
  · have g : f = n := by simp at g; omega
    subst g
    rw [Nat.sub_self, rdFns] at h4
    repeat ((conv => whnf); first | refine Br.t ?_ | refine Br.f ?_ | refine ⟨rfl, ?_⟩)
    conv => whnf
    refine ⟨⟨rpE bs, rpF a b c F s2⟩, (Le.data 4 1 1 (F.map encF) (s := ⟨rpE bs, rpF a b c F s2 ++ [.dead]⟩) rfl ?_ ?_).trans (Le.short (Nat.zero_le _) rfl (rpF_cl a b c F s2 _)), rfl, ?_⟩
    · simp [leS, mkS, rpE, rpS, V.dat]
    · have e : V.dat 4 1 (F.map encF) (.ref 4 1 0 F.length) = .i (.sl (F.map encF)) := by
        simp [V.dat]
        exact List.take_of_length_le (by simp)
      show [zpB, zpB, rdB s2, pgB ⟨a, b, c, F⟩, .dead] = [zpB, zpB, rdB s2, .row 0 4 false [[.i (.int .i64 a), .i (.int .i64 b), .i (.int .i64 c), V.dat 4 1 (F.map encF) (.ref 4 1 0 F.length)]], .dead]
      rw [e]
      rfl
    · rw [← h4]
end Go.Proofs.Ytdbmfnhbgacldaa.Am

/- Contract: any bytes are read as a program as the document says. -/
namespace Go.Proofs.Ytdbmfnhbgacldaa.Am
set_option autoImplicit false
set_option linter.unusedVariables false
set_option linter.unusedSimpArgs false
set_option maxRecDepth 10000
set_option pp.maxSteps 3000
set_option pp.proofs false
theorem raw_bs (s : Rd) (n : Int) : (s.raw n).2.bs = s.bs := by
  unfold Rd.raw Rd.fail; split <;> (try split) <;> (try split) <;> (try split) <;> rfl
theorem num_bs (s : Rd) (n : Int) : (s.num n).2.bs = s.bs := by
  unfold Rd.num Rd.fail; split <;> (try split) <;> (try split) <;> (try split) <;> rfl
theorem rdFld_bs : ∀ (l : List Nat) (x : Nd) (s : Rd), (rdFld l x s).2.bs = s.bs
  | [], _, _ => rfl
  | c :: l, x, s => by rw [rdFld, rdFld_bs l, num_bs]
theorem rdNodes_bs : ∀ (k : Nat) (l : List Nd) (s : Rd), (rdNodes k l s).2.bs = s.bs
  | 0, _, _ => rfl
  | k + 1, l, s => by
    rw [rdNodes]
    split
    · rw [rdNodes_bs k, show (rdNode s).2.bs = s.bs from by unfold rdNode; rw [rdFld_bs, num_bs]]
    · rfl
theorem rdFns_bs : ∀ (k : Nat) (l : List (List Nd)) (s : Rd), (rdFns k l s).2.bs = s.bs
  | 0, _, _ => rfl
  | k + 1, l, s => by
    rw [rdFns]
    split
    · rw [rdFns_bs k, show (nodesR s).2.bs = s.bs from by unfold nodesR; rw [rdNodes_bs, num_bs]]
    · rfl
def tri3 (r : Pg × Nat × Int) : V := .tup [pgV r.1, .i (.int .i64 (r.2.1 : Nat)), .i (.int .i64 r.2.2)]
set_option maxHeartbeats 4000000 in
theorem refread (bs : List Nat) (hl : bs.length ≤ 1000000) (hb : ∀ b ∈ bs, b < 256) : CallW Try.prog G0 23 [.i (.sl (bs.map by8))] [] (fun r st' => r = tri3 (readP bs) ∧ st' = []) := by
  refine call_of_bodyF 0 (Nat.le_refl _) Try.func23 rfl (fun a w => Try.call23 a w) (wpx_ok (own := own0) _ _ _ ?_)
  have ok0 : Rd.ok ⟨bs, 0, 0, 0⟩ := ⟨hl, Nat.zero_le _, hb⟩
  repeat ((conv => whnf); first | refine Br.t ?_ | refine Br.f ?_ | refine ⟨rfl, ?_⟩)
  conv => whnf
  refine Br.mk (fun h => ?_) (fun h => ?_)
  · have h : 65536 < bs.length := by simp at h; omega
    have er : readP bs = (Pg.zero, 0, 4) := by unfold readP; rw [if_pos h]
    rw [er]
    repeat ((conv => whnf); first | refine Br.t ?_ | refine Br.f ?_ | refine ⟨rfl, ?_⟩)
    conv => whnf
    refine fin (target := []) rfl (Nat.zero_le _) (by simp) ?_ ?_
    · rfl
    · rfl
  · have h : ¬ 65536 < bs.length := by simp at h; omega
    repeat ((conv => whnf); first | refine Br.t ?_ | refine Br.f ?_ | refine ⟨rfl, ?_⟩)
    conv => whnf
    refine CallW.mono (atR [_, _] [] (raw40 ⟨bs, 0, 0, 0⟩ ok0 4 (by decide)) rfl rfl) ?_
    rintro r st' ⟨rfl, rfl⟩
    have ok1 := raw_ok ok0 4
    obtain ⟨m1, s1, e1⟩ : ∃ m s, Rd.raw ⟨bs, 0, 0, 0⟩ 4 = (m, s) := ⟨_, _, rfl⟩
    have hb1 : (Rd.raw ⟨bs, 0, 0, 0⟩ 4).2.bs = bs := raw_bs _ _
    rw [e1] at ok1 hb1 ⊢
    simp only at ok1 hb1 ⊢
    have hread : readP bs = if s1.why = 0 ∧ strOf m1 ≠ alpS then (Pg.zero, 0, 3) else tailP bs s1 := by unfold readP; rw [if_neg h, e1]
    rw [hread]
    repeat ((conv => whnf); first | refine Br.t ?_ | refine Br.f ?_ | refine ⟨rfl, ?_⟩)
    conv => whnf
    refine Br.mk (fun h2 => ?_) (fun h2 => ?_)
    · have h2 : s1.why = 0 := by simp at h2; omega
      repeat ((conv => whnf); first | refine Br.t ?_ | refine Br.f ?_ | refine ⟨rfl, ?_⟩)
      conv => whnf
      refine ⟨isB_ok (isB_map m1), ?_⟩
      repeat ((conv => whnf); first | refine Br.t ?_ | refine Br.f ?_ | refine ⟨rfl, ?_⟩)
      conv => whnf
      refine Br.mk (fun h3 => ?_) (fun h3 => ?_)
      · have h3 : strOf m1 ≠ alpS := by simpa [strOf, alpS] using h3
        rw [if_pos ⟨h2, h3⟩]
        repeat ((conv => whnf); first | refine Br.t ?_ | refine Br.f ?_ | refine ⟨rfl, ?_⟩)
        conv => whnf
        refine fin (target := []) rfl (Nat.zero_le _) (by simp) ?_ ?_
        · rfl
        · rfl
      · have h3 : ¬ strOf m1 ≠ alpS := by simpa [strOf, alpS] using h3
        rw [if_neg (fun h => h3 h.2)]
        repeat ((conv => whnf); first | refine Br.t ?_ | refine Br.f ?_ | refine ⟨rfl, ?_⟩)
        conv => whnf
        refine CallW.mono (atR [_, _] [_] (num41 s1 ok1 16) rfl rfl) ?_
        rintro r st' ⟨rfl, rfl⟩
        have ok2 := num_ok ok1 16
        have ha : (s1.num 16).1 ≤ 16 := num_mxN s1 16
        obtain ⟨a, s2, e2⟩ : ∃ m s, s1.num 16 = (m, s) := ⟨_, _, rfl⟩
        rw [e2] at ok2 ha ⊢
        simp only at ok2 ha ⊢
        repeat ((conv => whnf); first | refine Br.t ?_ | refine Br.f ?_ | refine ⟨rfl, ?_⟩)
        conv => whnf
        refine CallW.mono (atR [_, _] [_] (num41 s2 ok2 16) rfl rfl) ?_
        rintro r st' ⟨rfl, rfl⟩
        have ok3 := num_ok ok2 16
        have hb2 : (s2.num 16).1 ≤ 16 := num_mxN s2 16
        obtain ⟨b, s3, e3⟩ : ∃ m s, s2.num 16 = (m, s) := ⟨_, _, rfl⟩
        rw [e3] at ok3 hb2 ⊢
        simp only at ok3 hb2 ⊢
        repeat ((conv => whnf); first | refine Br.t ?_ | refine Br.f ?_ | refine ⟨rfl, ?_⟩)
        conv => whnf
        refine CallW.mono (atR [_, _] [_] (num41 s3 ok3 8) rfl rfl) ?_
        rintro r st' ⟨rfl, rfl⟩
        have ok4 := num_ok ok3 8
        have hc2 : (s3.num 8).1 ≤ 8 := num_mxN s3 8
        obtain ⟨c, s4, e4⟩ : ∃ m s, s3.num 8 = (m, s) := ⟨_, _, rfl⟩
        rw [e4] at ok4 hc2 ⊢
        simp only at ok4 hc2 ⊢
        repeat ((conv => whnf); first | refine Br.t ?_ | refine Br.f ?_ | refine ⟨rfl, ?_⟩)
        conv => whnf
        refine CallW.mono (atR [_, _] [_] (num41 s4 ok4 16) rfl rfl) ?_
        rintro r st' ⟨rfl, rfl⟩
        have ok5 := num_ok ok4 16
        have hn2 : (s4.num 16).1 ≤ 16 := num_mxN s4 16
        obtain ⟨n, s5, e5⟩ : ∃ m s, s4.num 16 = (m, s) := ⟨_, _, rfl⟩
        rw [e5] at ok5 hn2 ⊢
        simp only at ok5 hn2 ⊢
        have ht : tailP bs s1 = if (rdFns n [] s5).2.done.why ≠ 0 then ((Pg.zero, (rdFns n [] s5).2.done.a, ((rdFns n [] s5).2.done.why : Int)) : Pg × Nat × Int) else if (chk ⟨a, b, c, (rdFns n [] s5).1⟩).2.2 ≠ 0 then (Pg.zero, bs.length, (chk ⟨a, b, c, (rdFns n [] s5).1⟩).2.2) else (⟨a, b, c, (rdFns n [] s5).1⟩, 0, 0) := by
          unfold tailP; simp only [e2, e3, e4, e5]
        rw [ht]
        have hF := rp_funcs bs n hn2 a b c s5 ok5
        have hlf := rdFns_len n [] s5 (by simp)
        have hokF := rdFns_ok n [] s5 ok5
        have hbs6 : (rdFns n [] s5).2.bs = bs := by rw [rdFns_bs, show s5 = (s4.num 16).2 by rw [e5], num_bs, show s4 = (s3.num 8).2 by rw [e4], num_bs, show s3 = (s2.num 16).2 by rw [e3], num_bs, show s2 = (s1.num 16).2 by rw [e2], num_bs]; exact hb1

        obtain ⟨F, s6, e6⟩ : ∃ F s, rdFns n [] s5 = (F, s) := ⟨_, _, rfl⟩
        rw [e6] at hF hlf hokF hbs6 ⊢
        simp only [List.length_nil] at hF hlf hokF hbs6 ⊢
        have okp : okPg ⟨a, b, c, F⟩ := ⟨by simp only; omega, fun f hf => by have := hlf.2 f hf; omega⟩
        have cc := refcheck ⟨a, b, c, F⟩ okp
        repeat ((conv => whnf); first | refine Br.t ?_ | refine Br.f ?_ | refine ⟨rfl, ?_⟩)
        conv => whnf
        refine W.le ((Le.nilCell (n := 0) 3 0 3 1 rfl rfl rfl).trans (Le.slotsE (sl' := rpS bs n 0 []) (st' := rpB a b c [] s5) (by simp [leS, mkS, rpS]) rfl)) (W.mono hF ?_)
        rintro e s' ⟨rfl, rfl⟩
        have hdn : s6.done = if s6.why = 0 ∧ s6.p < s6.bs.length then ⟨s6.bs, s6.p, s6.p, 7⟩ else s6 := by
          unfold Rd.done
          by_cases hd : s6.why = 0 ∧ s6.p < s6.bs.length
          · rw [if_pos hd, if_pos hd]
            unfold Rd.fail
            rw [if_pos hd.1]
          · rw [if_neg hd, if_neg hd]
        have hbl : s6.bs = bs := hbs6
        by_cases w0 : s6.why = 0
        · by_cases w1 : s6.p < s6.bs.length
          · have efl : s6.fail 7 = ⟨s6.bs, s6.p, s6.p, 7⟩ := by unfold Rd.fail; rw [if_pos w0]
            have cfl := fail42 s6 7
            rw [efl] at cfl
            have hd : s6.done = ⟨s6.bs, s6.p, s6.p, 7⟩ := by rw [hdn, if_pos ⟨w0, w1⟩]
            rw [hd, if_pos (by simp)]
            rw [hbl] at w1
            repeat ((conv => whnf); first | refine Br.t ?_ | refine Br.f ?_ | refine ⟨rfl, ?_⟩)
            conv => whnf
            refine Br.mk (fun _ => ?_) (fun d => by rw [w0] at d; simp at d)
            repeat ((conv => whnf); first | refine Br.t ?_ | refine Br.f ?_ | refine ⟨rfl, ?_⟩)
            conv => whnf
            refine Br.mk (fun _ => ?_) (fun d => by simp at d; omega)
            repeat ((conv => whnf); first | refine Br.t ?_ | refine Br.f ?_ | refine ⟨rfl, ?_⟩)
            conv => whnf
            refine CallW.mono (atR [_, _] [_] cfl rfl rfl) ?_
            rintro r st' ⟨rfl, rfl⟩
            repeat ((conv => whnf); first | refine Br.t ?_ | refine Br.f ?_ | refine ⟨rfl, ?_⟩)
            conv => whnf
            refine draw_ok (own := own0) [9] [(1, 12), (2, 12), (3, 12), (4, 12), (5, 12), (6, 12), (7, 12), (8, 12)] [] rfl (by kernel_rfl) (Nat.zero_le _) ?_
            repeat ((conv => whnf); first | refine Br.t ?_ | refine Br.f ?_ | refine ⟨rfl, ?_⟩)
            conv => whnf
            refine ⟨by repeat ((conv => whnf); first | exact trivial | refine ⟨rfl, ?_⟩), by repeat ((conv => whnf); first | exact trivial | refine ⟨by (conv => whnf); first | exact ⟨rfl, rfl⟩ | exact ⟨rfl, rfl, rfl⟩, ?_⟩), ?_⟩
            conv => whnf
            repeat ((conv => whnf); first | refine Br.t ?_ | refine Br.f ?_ | refine ⟨rfl, ?_⟩)
            conv => whnf
            refine fin (target := []) rfl (Nat.zero_le _) (by simp) ?_ ?_
            · rfl
            · rfl
          · have hd : s6.done = s6 := by rw [hdn, if_neg (fun h => w1 h.2)]
            rw [hd, if_neg (by rw [w0]; simp)]
            rw [hbl] at w1
            repeat ((conv => whnf); first | refine Br.t ?_ | refine Br.f ?_ | refine ⟨rfl, ?_⟩)
            conv => whnf
            refine Br.mk (fun _ => ?_) (fun d => by rw [w0] at d; simp at d)
            repeat ((conv => whnf); first | refine Br.t ?_ | refine Br.f ?_ | refine ⟨rfl, ?_⟩)
            conv => whnf
            refine Br.mk (fun d => by simp at d; omega) (fun _ => ?_)
            repeat ((conv => whnf); first | refine Br.t ?_ | refine Br.f ?_ | refine ⟨rfl, ?_⟩)
            conv => whnf
            refine Br.mk (fun d => by rw [w0] at d; simp at d) (fun _ => ?_)
            repeat ((conv => whnf); first | refine Br.t ?_ | refine Br.f ?_ | refine ⟨rfl, ?_⟩)
            conv => whnf
            refine CallW.mono (cc.pure _ rfl rfl) ?_
            rintro r st' ⟨rfl, rfl⟩
            repeat ((conv => whnf); first | refine Br.t ?_ | refine Br.f ?_ | refine ⟨rfl, ?_⟩)
            conv => whnf
            refine Br.mk (fun e => ?_) (fun e => ?_)
            · have e : (chk ⟨a, b, c, F⟩).2.2 ≠ 0 := by simpa using e
              rw [if_pos e]
              repeat ((conv => whnf); first | refine Br.t ?_ | refine Br.f ?_ | refine ⟨rfl, ?_⟩)
              conv => whnf
              refine fin (target := []) rfl (Nat.zero_le _) (by simp) ?_ ?_
              · first | rfl | (simp only [tri3, List.length_map]; rfl)
              · rfl
            · have e : ¬ (chk ⟨a, b, c, F⟩).2.2 ≠ 0 := by simpa using e
              rw [if_neg e]
              repeat ((conv => whnf); first | refine Br.t ?_ | refine Br.f ?_ | refine ⟨rfl, ?_⟩)
              conv => whnf
              refine fin (target := []) rfl (Nat.zero_le _) (by simp) ?_ ?_
              · rfl
              · rfl
        · have hd : s6.done = s6 := by rw [hdn, if_neg (fun h => w0 h.1)]
          rw [hd, if_pos w0]
          repeat ((conv => whnf); first | refine Br.t ?_ | refine Br.f ?_ | refine ⟨rfl, ?_⟩)
          conv => whnf
          refine Br.mk (fun d => by simp at d; omega) (fun _ => ?_)
          repeat ((conv => whnf); first | refine Br.t ?_ | refine Br.f ?_ | refine ⟨rfl, ?_⟩)
          conv => whnf
          refine Br.mk (fun _ => ?_) (fun d => by simp at d; omega)
          repeat ((conv => whnf); first | refine Br.t ?_ | refine Br.f ?_ | refine ⟨rfl, ?_⟩)
          conv => whnf
          refine draw_ok (own := own0) [9] [(1, 12), (2, 12), (3, 12), (4, 12), (5, 12), (6, 12), (7, 12), (8, 12)] [] rfl (by kernel_rfl) (Nat.zero_le _) ?_
          repeat ((conv => whnf); first | refine Br.t ?_ | refine Br.f ?_ | refine ⟨rfl, ?_⟩)
          conv => whnf
          refine ⟨by repeat ((conv => whnf); first | exact trivial | refine ⟨rfl, ?_⟩), by repeat ((conv => whnf); first | exact trivial | refine ⟨by (conv => whnf); first | exact ⟨rfl, rfl⟩ | exact ⟨rfl, rfl, rfl⟩, ?_⟩), ?_⟩
          conv => whnf
          repeat ((conv => whnf); first | refine Br.t ?_ | refine Br.f ?_ | refine ⟨rfl, ?_⟩)
          conv => whnf
          refine fin (target := []) rfl (Nat.zero_le _) (by simp) ?_ ?_
          · rfl
          · rfl
    · have h2 : ¬ s1.why = 0 := by intro h; rw [h] at h2; simp at h2
      rw [if_neg (fun h => h2 h.1)]
      repeat ((conv => whnf); first | refine Br.t ?_ | refine Br.f ?_ | refine ⟨rfl, ?_⟩)
      conv => whnf
      refine CallW.mono (atR [_, _] [_] (num41 s1 ok1 16) rfl rfl) ?_
      rintro r st' ⟨rfl, rfl⟩
      have ok2 := num_ok ok1 16
      have ha : (s1.num 16).1 ≤ 16 := num_mxN s1 16
      obtain ⟨a, s2, e2⟩ : ∃ m s, s1.num 16 = (m, s) := ⟨_, _, rfl⟩
      rw [e2] at ok2 ha ⊢
      simp only at ok2 ha ⊢
      repeat ((conv => whnf); first | refine Br.t ?_ | refine Br.f ?_ | refine ⟨rfl, ?_⟩)
      conv => whnf
      refine CallW.mono (atR [_, _] [_] (num41 s2 ok2 16) rfl rfl) ?_
      rintro r st' ⟨rfl, rfl⟩
      have ok3 := num_ok ok2 16
      have hb2 : (s2.num 16).1 ≤ 16 := num_mxN s2 16
      obtain ⟨b, s3, e3⟩ : ∃ m s, s2.num 16 = (m, s) := ⟨_, _, rfl⟩
      rw [e3] at ok3 hb2 ⊢
      simp only at ok3 hb2 ⊢
      repeat ((conv => whnf); first | refine Br.t ?_ | refine Br.f ?_ | refine ⟨rfl, ?_⟩)
      conv => whnf
      refine CallW.mono (atR [_, _] [_] (num41 s3 ok3 8) rfl rfl) ?_
      rintro r st' ⟨rfl, rfl⟩
      have ok4 := num_ok ok3 8
      have hc2 : (s3.num 8).1 ≤ 8 := num_mxN s3 8
      obtain ⟨c, s4, e4⟩ : ∃ m s, s3.num 8 = (m, s) := ⟨_, _, rfl⟩
      rw [e4] at ok4 hc2 ⊢
      simp only at ok4 hc2 ⊢
      repeat ((conv => whnf); first | refine Br.t ?_ | refine Br.f ?_ | refine ⟨rfl, ?_⟩)
      conv => whnf
      refine CallW.mono (atR [_, _] [_] (num41 s4 ok4 16) rfl rfl) ?_
      rintro r st' ⟨rfl, rfl⟩
      have ok5 := num_ok ok4 16
      have hn2 : (s4.num 16).1 ≤ 16 := num_mxN s4 16
      obtain ⟨n, s5, e5⟩ : ∃ m s, s4.num 16 = (m, s) := ⟨_, _, rfl⟩
      rw [e5] at ok5 hn2 ⊢
      simp only at ok5 hn2 ⊢
      have ht : tailP bs s1 = if (rdFns n [] s5).2.done.why ≠ 0 then ((Pg.zero, (rdFns n [] s5).2.done.a, ((rdFns n [] s5).2.done.why : Int)) : Pg × Nat × Int) else if (chk ⟨a, b, c, (rdFns n [] s5).1⟩).2.2 ≠ 0 then (Pg.zero, bs.length, (chk ⟨a, b, c, (rdFns n [] s5).1⟩).2.2) else (⟨a, b, c, (rdFns n [] s5).1⟩, 0, 0) := by
        unfold tailP; simp only [e2, e3, e4, e5]
      rw [ht]
      have hF := rp_funcs bs n hn2 a b c s5 ok5
      have hlf := rdFns_len n [] s5 (by simp)
      have hokF := rdFns_ok n [] s5 ok5
      have hbs6 : (rdFns n [] s5).2.bs = bs := by rw [rdFns_bs, show s5 = (s4.num 16).2 by rw [e5], num_bs, show s4 = (s3.num 8).2 by rw [e4], num_bs, show s3 = (s2.num 16).2 by rw [e3], num_bs, show s2 = (s1.num 16).2 by rw [e2], num_bs]; exact hb1

      obtain ⟨F, s6, e6⟩ : ∃ F s, rdFns n [] s5 = (F, s) := ⟨_, _, rfl⟩
      rw [e6] at hF hlf hokF hbs6 ⊢
      simp only [List.length_nil] at hF hlf hokF hbs6 ⊢
      have okp : okPg ⟨a, b, c, F⟩ := ⟨by simp only; omega, fun f hf => by have := hlf.2 f hf; omega⟩
      have cc := refcheck ⟨a, b, c, F⟩ okp
      repeat ((conv => whnf); first | refine Br.t ?_ | refine Br.f ?_ | refine ⟨rfl, ?_⟩)
      conv => whnf
      refine W.le ((Le.nilCell (n := 0) 3 0 3 1 rfl rfl rfl).trans (Le.slotsE (sl' := rpS bs n 0 []) (st' := rpB a b c [] s5) (by simp [leS, mkS, rpS]) rfl)) (W.mono hF ?_)
      rintro e s' ⟨rfl, rfl⟩
      have hdn : s6.done = if s6.why = 0 ∧ s6.p < s6.bs.length then ⟨s6.bs, s6.p, s6.p, 7⟩ else s6 := by
        unfold Rd.done
        by_cases hd : s6.why = 0 ∧ s6.p < s6.bs.length
        · rw [if_pos hd, if_pos hd]
          unfold Rd.fail
          rw [if_pos hd.1]
        · rw [if_neg hd, if_neg hd]
      have hbl : s6.bs = bs := hbs6
      by_cases w0 : s6.why = 0
      · by_cases w1 : s6.p < s6.bs.length
        · have efl : s6.fail 7 = ⟨s6.bs, s6.p, s6.p, 7⟩ := by unfold Rd.fail; rw [if_pos w0]
          have cfl := fail42 s6 7
          rw [efl] at cfl
          have hd : s6.done = ⟨s6.bs, s6.p, s6.p, 7⟩ := by rw [hdn, if_pos ⟨w0, w1⟩]
          rw [hd, if_pos (by simp)]
          rw [hbl] at w1
          repeat ((conv => whnf); first | refine Br.t ?_ | refine Br.f ?_ | refine ⟨rfl, ?_⟩)
          conv => whnf
          refine Br.mk (fun _ => ?_) (fun d => by rw [w0] at d; simp at d)
          repeat ((conv => whnf); first | refine Br.t ?_ | refine Br.f ?_ | refine ⟨rfl, ?_⟩)
          conv => whnf
          refine Br.mk (fun _ => ?_) (fun d => by simp at d; omega)
          repeat ((conv => whnf); first | refine Br.t ?_ | refine Br.f ?_ | refine ⟨rfl, ?_⟩)
          conv => whnf
          refine CallW.mono (atR [_, _] [_] cfl rfl rfl) ?_
          rintro r st' ⟨rfl, rfl⟩
          repeat ((conv => whnf); first | refine Br.t ?_ | refine Br.f ?_ | refine ⟨rfl, ?_⟩)
          conv => whnf
          refine draw_ok (own := own0) [9] [(1, 12), (2, 12), (3, 12), (4, 12), (5, 12), (6, 12), (7, 12), (8, 12)] [] rfl (by kernel_rfl) (Nat.zero_le _) ?_
          repeat ((conv => whnf); first | refine Br.t ?_ | refine Br.f ?_ | refine ⟨rfl, ?_⟩)
          conv => whnf
          refine ⟨by repeat ((conv => whnf); first | exact trivial | refine ⟨rfl, ?_⟩), by repeat ((conv => whnf); first | exact trivial | refine ⟨by (conv => whnf); first | exact ⟨rfl, rfl⟩ | exact ⟨rfl, rfl, rfl⟩, ?_⟩), ?_⟩
          conv => whnf
          repeat ((conv => whnf); first | refine Br.t ?_ | refine Br.f ?_ | refine ⟨rfl, ?_⟩)
          conv => whnf
          refine fin (target := []) rfl (Nat.zero_le _) (by simp) ?_ ?_
          · rfl
          · rfl
        · have hd : s6.done = s6 := by rw [hdn, if_neg (fun h => w1 h.2)]
          rw [hd, if_neg (by rw [w0]; simp)]
          rw [hbl] at w1
          repeat ((conv => whnf); first | refine Br.t ?_ | refine Br.f ?_ | refine ⟨rfl, ?_⟩)
          conv => whnf
          refine Br.mk (fun _ => ?_) (fun d => by rw [w0] at d; simp at d)
          repeat ((conv => whnf); first | refine Br.t ?_ | refine Br.f ?_ | refine ⟨rfl, ?_⟩)
          conv => whnf
          refine Br.mk (fun d => by simp at d; omega) (fun _ => ?_)
          repeat ((conv => whnf); first | refine Br.t ?_ | refine Br.f ?_ | refine ⟨rfl, ?_⟩)
          conv => whnf
          refine Br.mk (fun d => by rw [w0] at d; simp at d) (fun _ => ?_)
          repeat ((conv => whnf); first | refine Br.t ?_ | refine Br.f ?_ | refine ⟨rfl, ?_⟩)
          conv => whnf
          refine CallW.mono (cc.pure _ rfl rfl) ?_
          rintro r st' ⟨rfl, rfl⟩
          repeat ((conv => whnf); first | refine Br.t ?_ | refine Br.f ?_ | refine ⟨rfl, ?_⟩)
          conv => whnf
          refine Br.mk (fun e => ?_) (fun e => ?_)
          · have e : (chk ⟨a, b, c, F⟩).2.2 ≠ 0 := by simpa using e
            rw [if_pos e]
            repeat ((conv => whnf); first | refine Br.t ?_ | refine Br.f ?_ | refine ⟨rfl, ?_⟩)
            conv => whnf
            refine fin (target := []) rfl (Nat.zero_le _) (by simp) ?_ ?_
            · first | rfl | (simp only [tri3, List.length_map]; rfl)
            · rfl
          · have e : ¬ (chk ⟨a, b, c, F⟩).2.2 ≠ 0 := by simpa using e
            rw [if_neg e]
            repeat ((conv => whnf); first | refine Br.t ?_ | refine Br.f ?_ | refine ⟨rfl, ?_⟩)
            conv => whnf
            refine fin (target := []) rfl (Nat.zero_le _) (by simp) ?_ ?_
            · rfl
            · rfl
      · have hd : s6.done = s6 := by rw [hdn, if_neg (fun h => w0 h.1)]
        rw [hd, if_pos w0]
        repeat ((conv => whnf); first | refine Br.t ?_ | refine Br.f ?_ | refine ⟨rfl, ?_⟩)
        conv => whnf
        refine Br.mk (fun d => by simp at d; omega) (fun _ => ?_)
        repeat ((conv => whnf); first | refine Br.t ?_ | refine Br.f ?_ | refine ⟨rfl, ?_⟩)
        conv => whnf
        refine Br.mk (fun _ => ?_) (fun d => by simp at d; omega)
        repeat ((conv => whnf); first | refine Br.t ?_ | refine Br.f ?_ | refine ⟨rfl, ?_⟩)
        conv => whnf
        refine draw_ok (own := own0) [9] [(1, 12), (2, 12), (3, 12), (4, 12), (5, 12), (6, 12), (7, 12), (8, 12)] [] rfl (by kernel_rfl) (Nat.zero_le _) ?_
        repeat ((conv => whnf); first | refine Br.t ?_ | refine Br.f ?_ | refine ⟨rfl, ?_⟩)
        conv => whnf
        refine ⟨by repeat ((conv => whnf); first | exact trivial | refine ⟨rfl, ?_⟩), by repeat ((conv => whnf); first | exact trivial | refine ⟨by (conv => whnf); first | exact ⟨rfl, rfl⟩ | exact ⟨rfl, rfl, rfl⟩, ?_⟩), ?_⟩
        conv => whnf
        repeat ((conv => whnf); first | refine Br.t ?_ | refine Br.f ?_ | refine ⟨rfl, ?_⟩)
        conv => whnf
        refine fin (target := []) rfl (Nat.zero_le _) (by simp) ?_ ?_
        · rfl
        · rfl
end Go.Proofs.Ytdbmfnhbgacldaa.Am

/- Contract: any bytes are read as the document says: the program, or where they are wrong, and why. -/
namespace Go.Proofs.Ytdbmfnhbgacldaa.Am
set_option autoImplicit false
set_option linter.unusedVariables false
set_option linter.unusedSimpArgs false
set_option maxRecDepth 10000
set_option pp.maxSteps 3000
set_option pp.proofs false
theorem zero_okPg : okPg Pg.zero := ⟨by simp [Pg.zero], fun f hf => by simp [Pg.zero] at hf⟩
theorem tailP_okPg (bs : List Nat) (s : Rd) : okPg (tailP bs s).1 := by
  unfold tailP
  simp only
  split
  · exact zero_okPg
  · split
    · exact zero_okPg
    · have h := rdFns_len (((((s.num 16).2.num 16).2.num 8).2.num 16)).1 [] (((((s.num 16).2.num 16).2.num 8).2.num 16)).2 (by simp)
      have hn := num_mxN (((s.num 16).2.num 16).2.num 8).2 16
      simp only [List.length_nil] at h
      refine ⟨?_, fun f hf => ?_⟩
      · simp only; rw [show ((16 : Nat) : Int) = 16 from rfl] at hn; omega
      · have := h.2 f hf; omega
theorem readP_okPg (bs : List Nat) : okPg (readP bs).1 := by
  unfold readP
  split
  · exact zero_okPg
  · simp only
    split
    · exact zero_okPg
    · exact tailP_okPg _ _
set_option maxHeartbeats 2000000 in
theorem pcodereads (bs : List Nat) (hl : bs.length ≤ 9223372036854775807) (hb : ∀ b ∈ bs, b < 256) : CallW Try.prog G0 7 [.i (.sl (bs.map by8))] [] (fun r st' => r = .i (.bool true) ∧ st' = []) := by
  refine call_of_bodyF 0 (Nat.le_refl _) Try.func7 rfl (fun a w => Try.call7 a w) (wpx_ok (own := own0) _ _ _ ?_)
  repeat ((conv => whnf); first | refine Br.t ?_ | refine Br.f ?_ | refine ⟨rfl, ?_⟩)
  conv => whnf
  refine CallW.mono (awake15.pure _ rfl rfl) ?_
  rintro r st' ⟨rfl, rfl⟩
  repeat ((conv => whnf); first | refine Br.t ?_ | refine Br.f ?_ | refine ⟨rfl, ?_⟩)
  conv => whnf
  refine Br.mk (fun z => ?_) (fun z => ?_)
  · repeat ((conv => whnf); first | refine Br.t ?_ | refine Br.f ?_ | refine ⟨rfl, ?_⟩)
    conv => whnf
    refine CallW.mono (awake15.pure _ rfl rfl) ?_
    rintro r st' ⟨rfl, rfl⟩
    repeat ((conv => whnf); first | refine Br.t ?_ | refine Br.f ?_ | refine ⟨rfl, ?_⟩)
    conv => whnf
    refine fin (target := []) rfl (Nat.zero_le _) (by simp) rfl rfl
  · have z : bs.length ≤ 70000 := by simp at z; omega
    have c1 := read22 bs (by omega) hb
    have c2 := refread bs (by omega) hb
    have hok := readP_okPg bs
    unfold tri3 at c2
    obtain ⟨R, hR⟩ : ∃ R, R = readP bs := ⟨_, rfl⟩
    rw [← hR] at c1 c2 hok
    obtain ⟨P, a, w⟩ := R
    simp only at c1 c2 hok
    have c3 := same18 P P hok hok
    rw [samePg_iff.2 rfl] at c3
    repeat ((conv => whnf); first | refine Br.t ?_ | refine Br.f ?_ | refine ⟨rfl, ?_⟩)
    conv => whnf
    refine CallW.mono (c1.pure _ rfl rfl) ?_
    rintro r st' ⟨rfl, rfl⟩
    repeat ((conv => whnf); first | refine Br.t ?_ | refine Br.f ?_ | refine ⟨rfl, ?_⟩)
    conv => whnf
    refine CallW.mono (c2.pure _ rfl rfl) ?_
    rintro r st' ⟨rfl, rfl⟩
    repeat ((conv => whnf); first | refine Br.t ?_ | refine Br.f ?_ | refine ⟨rfl, ?_⟩)
    conv => whnf
    refine Br.mk (fun _ => ?_) (fun h => by simp at h)
    repeat ((conv => whnf); first | refine Br.t ?_ | refine Br.f ?_ | refine ⟨rfl, ?_⟩)
    conv => whnf
    refine Br.mk (fun _ => ?_) (fun h => by simp at h)
    repeat ((conv => whnf); first | refine Br.t ?_ | refine Br.f ?_ | refine ⟨rfl, ?_⟩)
    conv => whnf
    refine CallW.mono (c3.pure _ rfl rfl) ?_
    rintro r st' ⟨rfl, rfl⟩
    repeat ((conv => whnf); first | refine Br.t ?_ | refine Br.f ?_ | refine ⟨rfl, ?_⟩)
    conv => whnf
    refine fin (target := []) rfl (Nat.zero_le _) (by simp) rfl rfl
end Go.Proofs.Ytdbmfnhbgacldaa.Am
