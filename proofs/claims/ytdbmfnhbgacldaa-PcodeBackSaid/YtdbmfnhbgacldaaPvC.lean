/- Plain laws: a witness's bytes are read as they were written; fronts are too short; what is read is written so. -/
import Derived.Test.YtdbmfnhbgacldaaPvB
import Derived.Test.YtdbmfnhbgacldaaWrI
namespace Go.Proofs.Ytdbmfnhbgacldaa.Am
set_option autoImplicit false
set_option linter.unusedVariables false
set_option linter.unusedSimpArgs false
def natW (w : Wt) : List Nat := [97, 108, 119, 49] ++ (putN w.xs.length ++ (w.xs.map pk ++ (putN w.a.toNat ++ (putN w.b.toNat ++ putN w.c.toNat))))
theorem bytes_nat (w : Wt) : bytesW w.xs w.a w.b w.c = (natW w).map by8 := by
  simp [bytesW, headW, natW, puts, pks, magic]
theorem badAt_none : ∀ (bs : List Nat) (i : Nat), badAt i bs = none ↔ ∀ b ∈ bs, b < 16
  | [], i => by simp [badAt]
  | b :: r, i => by
    rw [badAt]
    by_cases h : 16 ≤ b
    · rw [if_pos h]; simp; omega
    · rw [if_neg h, badAt_none r (i + 1)]; simp; omega
theorem getS_ok (bs : List Nat) : (getS bs).2.2 = 0 ↔ bs.length ≤ 4096 ∧ ∀ b ∈ bs, b < 16 := by
  unfold getS
  by_cases h : 4096 < bs.length
  · rw [if_pos h]; simp; omega
  · rw [if_neg h, ← badAt_none bs 0]
    cases badAt 0 bs with
    | none => simp; omega
    | some i => simp
theorem getS_val {bs : List Nat} (h : (getS bs).2.2 = 0) : (getS bs).1 = bs.map dec := by
  have h1 := (getS_ok bs).1 h
  unfold getS
  rw [if_neg (by omega), (badAt_none bs 0).2 h1.2]
theorem pk_dec {b : Nat} (h : b < 16) : pk (dec b) = b := by
  unfold pk dec
  simp only [Int.toNat_natCast]
  split <;> simp at * <;> omega
theorem okP_dec (b : Nat) : okP (dec b) = true := by
  unfold okP dec
  simp; omega
theorem dec_pk {x : Int × Bool} (h : okP x = true) : dec (pk x) = x ∧ pk x < 16 := by
  obtain ⟨n, w⟩ := x
  unfold okP at h
  simp at h
  cases w <;> simp [dec, pk] <;> omega
theorem codeS_dec {bs : List Nat} (h : bs.length ≤ 4096) : codeS (bs.map dec) = 0 := by
  unfold codeS
  rw [if_neg (by simp; omega), if_pos]
  simp [okP_dec]
theorem codeS_zero {xs : List (Int × Bool)} (h : codeS xs = 0) : xs.length ≤ 4096 ∧ ∀ x ∈ xs, okP x = true := by
  unfold codeS at h
  split at h
  · simp at h
  · split at h
    · rename_i h1 h2
      exact ⟨by omega, List.all_eq_true.1 h2⟩
    · simp at h
theorem getS_put {xs : List (Int × Bool)} (h : codeS xs = 0) : getS (xs.map pk) = (xs, 0, 0) := by
  obtain ⟨h1, h2⟩ := codeS_zero h
  have h3 : (getS (xs.map pk)).2.2 = 0 := (getS_ok _).2 ⟨by simpa using h1, fun b hb => by
    simp only [List.mem_map] at hb
    obtain ⟨x, hx, rfl⟩ := hb
    exact (dec_pk (h2 x hx)).2⟩
  have h4 := getS_val h3
  have h5 : (xs.map pk).map dec = xs := by
    rw [List.map_map]
    conv => rhs; rw [← List.map_id xs]
    exact List.map_congr_left fun x hx => (dec_pk (h2 x hx)).1
  rw [h5] at h4
  unfold getS at h4 ⊢
  rw [if_neg (by simp; omega), (badAt_none _ 0).2 ((getS_ok _).1 h3).2]
  simp only [h5]
theorem codeW_zero {xs : List (Int × Bool)} {a b c : Int} (h : codeW xs a b c = 0) : codeS xs = 0 ∧ okW a b c = true := by
  simp only [codeW] at h
  split at h
  · split at h
    · exact ⟨by assumption, by assumption⟩
    · simp at h
  · exact absurd h (by assumption)
theorem strOf_alw : strOf [97, 108, 119, 49] = alw1 := rfl
theorem u8ofNat_inj {a b : Nat} (ha : a < 256) (hb : b < 256) (h : UInt8.ofNat a = UInt8.ofNat b) : a = b := by
  have := congrArg UInt8.toNat h
  simp at this
  omega
theorem strOf_inj : ∀ {a b : List Nat}, (∀ x ∈ a, x < 256) → (∀ x ∈ b, x < 256) → strOf a = strOf b → a = b := by
  intro a b ha hb h
  have h1 : (lift (a.map by8)).map byteOf = (lift (b.map by8)).map byteOf := by
    have := congrArg (fun z : ByteArray => z.data.toList) h
    simpa [strOf] using this
  have e : ∀ l : List Nat, (lift (l.map by8)).map byteOf = l.map UInt8.ofNat := by
    intro l
    simp [lift, by8, byteOf]
  rw [e, e] at h1
  clear h e
  induction a generalizing b with
  | nil => cases b with
    | nil => rfl
    | cons => simp at h1
  | cons x a ih => cases b with
    | nil => simp at h1
    | cons y b =>
      simp only [List.map_cons, List.cons.injEq] at h1
      rw [u8ofNat_inj (ha x (by simp)) (hb y (by simp)) h1.1, ih (fun z hz => ha z (by simp [hz])) (fun z hz => hb z (by simp [hz])) h1.2]
theorem num_nat (n : Nat) : putN n = [n] ↔ n < 128 := by
  constructor
  · intro h
    by_cases hn : n < 128
    · exact hn
    · rw [putN, dif_neg hn] at h
      have := congrArg List.length h
      rw [putN] at this
      split at this <;> simp at this
  · intro h; rw [putN, dif_pos h]
theorem toNat_of {a : Int} (h : 0 ≤ a) : ((a.toNat : Nat) : Int) = a := by omega
theorem putN_byte : ∀ (n : Nat), ∀ b ∈ putN n, b < 256 := by
  intro n
  induction n using Nat.strongRecOn with
  | ind n ih =>
    intro b hb
    rw [putN] at hb
    by_cases hn : n < 128
    · rw [dif_pos hn] at hb; simp at hb; omega
    · rw [dif_neg hn] at hb
      simp only [List.mem_cons] at hb
      rcases hb with rfl | hb
      · omega
      · exact ih _ (by omega) b hb
/-- the steps of reading what was written -/
theorem steps_back {w : Wt} (h : codeW w.xs w.a w.b w.c = 0) : ∃ s1 s2 s3 s4 : Rd,
    (Rd.mk (natW w) 0 0 0).raw 4 = ([97, 108, 119, 49], s1) ∧ s1.block 4096 = (w.xs.map pk, s2) ∧ s2.num 7 = (w.a.toNat, s3) ∧ s3.num 7 = (w.b.toNat, s4) ∧ s4.num 15 = (w.c.toNat, ⟨natW w, (natW w).length, 0, 0⟩) ∧ s1.why = 0 ∧ s2.why = 0 ∧ s3.why = 0 ∧ s4.why = 0 := by
  obtain ⟨hs, ho⟩ := codeW_zero h
  obtain ⟨a1, a2, b1, b2, c1, c2, hab⟩ := okW_nat ho
  obtain ⟨x1, x2⟩ := codeS_zero hs
  have d0 : (Rd.mk (natW w) 0 0 0).bs.drop (Rd.mk (natW w) 0 0 0).p = [97, 108, 119, 49] ++ (putN w.xs.length ++ (w.xs.map pk ++ (putN w.a.toNat ++ (putN w.b.toNat ++ putN w.c.toNat)))) := rfl
  have e1 := raw_put (s := Rd.mk (natW w) 0 0 0) rfl d0
  have d1 := drop_add d0
  have e2 := num_put (s := ⟨natW w, 0 + [97, 108, 119, 49].length, 0, 0⟩) (mx := 4096) rfl d1 (by omega) (by omega)
  have d2 := drop_add d1
  have e3 := raw_put (s := ⟨natW w, _, 0, 0⟩) rfl d2
  have d3 := drop_add d2
  have e4 := num_put (s := ⟨natW w, _, 0, 0⟩) (mx := 7) rfl d3 (by omega) (by omega)
  have d4 := drop_add d3
  have e5 := num_put (s := ⟨natW w, _, 0, 0⟩) (mx := 7) rfl d4 (by omega) (by omega)
  have d5 := drop_add d4
  have e6 := num_put (s := ⟨natW w, _, 0, 0⟩) (mx := 15) (rest := []) rfl (by rw [List.append_nil]; exact d5) (by omega) (by omega)
  refine ⟨_, _, _, _, e1, ?_, e4, e5, ?_, rfl, rfl, rfl, rfl⟩
  · unfold Rd.block
    rw [e2]
    simp only
    simp only [List.length_map] at e3 ⊢
    exact e3
  · rw [e6]
    simp only [natW, List.length_append, Nat.zero_add, Prod.mk.injEq, Rd.mk.injEq, true_and, and_true]
    omega
theorem natW_byte {w : Wt} (h : codeW w.xs w.a w.b w.c = 0) : (natW w).length ≤ 5000 ∧ ∀ b ∈ natW w, b < 256 := by
  obtain ⟨hs, ho⟩ := codeW_zero h
  obtain ⟨a1, a2, b1, b2, c1, c2, hab⟩ := okW_nat ho
  obtain ⟨x1, x2⟩ := codeS_zero hs
  have l1 := putN_len 4 w.xs.length (by omega)
  have l2 := (num_nat w.a.toNat).2 (by omega)
  have l3 := (num_nat w.b.toNat).2 (by omega)
  have l4 := (num_nat w.c.toNat).2 (by omega)
  refine ⟨?_, fun b hb => ?_⟩
  · simp only [natW, List.length_append, l2, l3, l4, List.length_map, List.length_cons, List.length_nil]
    omega
  · simp only [natW, List.mem_append, l2, l3, l4, List.mem_map] at hb
    rcases hb with hb | hb | ⟨x, hx, rfl⟩ | hb | hb | hb
    · simp at hb; omega
    · exact putN_byte _ b hb
    · have := (dec_pk (x2 x hx)).2; omega
    · simp at hb; omega
    · simp at hb; omega
    · simp at hb; omega
theorem readW_back {w : Wt} (h : codeW w.xs w.a w.b w.c = 0) : readW (natW w) = (w, 0, 0) := by
  obtain ⟨s1, s2, s3, s4, e1, e2, e3, e4, e5, y1, y2, y3, y4⟩ := steps_back h
  obtain ⟨hs, ho⟩ := codeW_zero h
  obtain ⟨a1, a2, b1, b2, c1, c2, hab⟩ := okW_nat ho
  unfold readW
  rw [e1]
  simp only
  rw [if_neg (by rw [strOf_alw]; simp)]
  unfold tailW
  simp only [e2, e3, e4, e5]
  have hd : (Rd.mk (natW w) (natW w).length 0 0).done = Rd.mk (natW w) (natW w).length 0 0 := by
    unfold Rd.done; rw [if_neg (by simp)]
  rw [hd, getS_put hs]
  simp only
  rw [if_neg (by simp), if_neg (by simp), toNat_of a1, toNat_of b1, toNat_of c1, if_neg (by simpa using h)]
theorem readW_cut {w : Wt} (h : codeW w.xs w.a w.b w.c = 0) {k : Nat} (hk : k < (natW w).length) : (readW ((natW w).take k)).2.2 = 2 := by
  obtain ⟨s1, s2, s3, s4, e1, e2, e3, e4, e5, y1, y2, y3, y4⟩ := steps_back h
  obtain ⟨n1, n2⟩ := natW_byte h
  have ok0 : Rd.ok ⟨natW w, 0, 0, 0⟩ := ⟨by simp only; omega, Nat.zero_le _, n2⟩
  have ok1 := raw_ok ok0 4; rw [e1] at ok1; simp only at ok1
  have okn := num_ok ok1 4096
  have ok2 : (s1.block 4096).2.ok := raw_ok okn _
  rw [e2] at ok2; simp only at ok2
  have ok3 := num_ok ok2 7; rw [e3] at ok3; simp only at ok3
  have ok4 := num_ok ok3 7; rw [e4] at ok4; simp only at ok4
  have hkb : k ≤ (natW w).length := by omega
  have r0 : ∀ n, (Rd.raw ⟨natW w, 0, 0, 0⟩ n).2.bs = natW w := fun n => by
    unfold Rd.raw Rd.fail; split <;> (try split) <;> (try split) <;> (try split) <;> rfl
  have bsr : ∀ (s : Rd) (n : Int), (s.raw n).2.bs = s.bs := fun s n => by
    unfold Rd.raw Rd.fail; split <;> (try split) <;> (try split) <;> (try split) <;> rfl
  have bsn : ∀ (s : Rd) (n : Int), (s.num n).2.bs = s.bs := fun s n => by
    unfold Rd.num Rd.fail; split <;> (try split) <;> (try split) <;> (try split) <;> rfl
  have q1 : s1.bs = natW w := by have := bsr ⟨natW w, 0, 0, 0⟩ 4; rw [e1] at this; exact this
  have q2 : s2.bs = natW w := by have := bsr (s1.num 4096).2 (s1.num 4096).1; rw [bsn, show (s1.num 4096).2.raw ((s1.num 4096).1 : Nat) = s1.block 4096 from rfl, e2, q1] at this; exact this
  have q3 : s3.bs = natW w := by have := bsn s2 7; rw [e3, q2] at this; exact this
  have q4 : s4.bs = natW w := by have := bsn s3 7; rw [e4, q3] at this; exact this
  have hn0 : (s1.num 4096).2.why = 0 := by
    have : (s1.block 4096).2.why = 0 := by rw [e2]; exact y2
    exact (raw_of okn this).2.1
  have al0 : Along k ⟨natW w, 0, 0, 0⟩ ⟨(natW w).take k, 0, 0, 0⟩ := ⟨rfl, .inl ⟨rfl, rfl, Nat.zero_le _⟩⟩
  obtain ⟨al1, v1⟩ := along_raw hkb ok0 al0 4 4 (fun _ => rfl) (by rw [e1]; exact y1)
  rw [e1] at al1 v1; simp only at al1 v1
  obtain ⟨t1m, t1, f1⟩ : ∃ m s, (Rd.mk ((natW w).take k) 0 0 0).raw 4 = (m, s) := ⟨_, _, rfl⟩
  rw [f1] at al1 v1; simp only at al1 v1
  obtain ⟨al1', v1'⟩ := along_num (by rw [q1]; exact hkb) ok1 al1 4096 hn0
  obtain ⟨al2, v2⟩ := along_raw (by rw [bsn, q1]; exact hkb) okn al1' (s1.num 4096).1 (t1.num 4096).1 (fun h => by rw [v1' h]) (by show (s1.block 4096).2.why = 0; rw [e2]; exact y2)
  rw [show (s1.num 4096).2.raw ((s1.num 4096).1 : Nat) = s1.block 4096 from rfl, show (t1.num 4096).2.raw ((t1.num 4096).1 : Nat) = t1.block 4096 from rfl, e2] at al2 v2
  simp only at al2 v2
  obtain ⟨al3, v3⟩ := along_num (by rw [q2]; exact hkb) ok2 al2 7 (by rw [e3]; exact y3)
  rw [e3] at al3 v3; simp only at al3 v3
  obtain ⟨al4, v4⟩ := along_num (by rw [q3]; exact hkb) ok3 al3 7 (by rw [e4]; exact y4)
  rw [e4] at al4 v4; simp only at al4 v4
  obtain ⟨al5, v5⟩ := along_num (by rw [q4]; exact hkb) ok4 al4 15 (by rw [e5])
  rw [e5] at al5 v5; simp only at al5 v5
  obtain ⟨z1, z2⟩ := along_end (s := ⟨natW w, (natW w).length, 0, 0⟩) hk al5 rfl
  unfold readW
  rw [f1]
  simp only
  rw [if_neg]
  · unfold tailW
    simp only
    rw [if_pos (by rw [z2]; simp)]
    simp only
    rw [z2]; rfl
  · rintro ⟨g1, g2⟩
    rw [v1 g1, strOf_alw] at g2
    exact g2 rfl
theorem readW_once {bs : List Nat} (hl : bs.length ≤ 1000000) (hb : ∀ b ∈ bs, b < 256) (h : (readW bs).2.2 = 0) : codeW (readW bs).1.xs (readW bs).1.a (readW bs).1.b (readW bs).1.c = 0 ∧ bs = natW (readW bs).1 := by
  have ok0 : Rd.ok ⟨bs, 0, 0, 0⟩ := ⟨hl, Nat.zero_le _, hb⟩
  have ok1 := raw_ok ok0 4
  unfold readW at h ⊢
  obtain ⟨m1, s1, f1⟩ : ∃ m s, (Rd.mk bs 0 0 0).raw 4 = (m, s) := ⟨_, _, rfl⟩
  rw [f1] at h ⊢ ok1
  simp only at h ⊢ ok1
  by_cases hh : s1.why = 0 ∧ strOf m1 ≠ alw1
  · rw [if_pos hh] at h; simp at h
  · rw [if_neg hh] at h ⊢
    unfold tailW at h ⊢
    simp only at h ⊢
    obtain ⟨m2, s2, f2⟩ : ∃ m s, s1.block 4096 = (m, s) := ⟨_, _, rfl⟩
    have okn := num_ok ok1 4096
    have ok2 : (s1.block 4096).2.ok := raw_ok okn _
    rw [f2] at h ⊢ ok2
    simp only at h ⊢ ok2
    obtain ⟨a, s3, f3⟩ : ∃ m s, s2.num 7 = (m, s) := ⟨_, _, rfl⟩
    have ok3 := num_ok ok2 7
    rw [f3] at h ⊢ ok3
    simp only at h ⊢ ok3
    obtain ⟨b, s4, f4⟩ : ∃ m s, s3.num 7 = (m, s) := ⟨_, _, rfl⟩
    have ok4 := num_ok ok3 7
    rw [f4] at h ⊢ ok4
    simp only at h ⊢ ok4
    obtain ⟨c, s5, f5⟩ : ∃ m s, s4.num 15 = (m, s) := ⟨_, _, rfl⟩
    rw [f5] at h ⊢
    simp only at h ⊢
    by_cases h1 : s5.done.why ≠ 0
    · rw [if_pos h1] at h; simp only at h; omega
    · rw [if_neg h1] at h ⊢
      by_cases h2 : (getS m2).2.2 ≠ 0
      · rw [if_pos h2] at h; simp only at h; omega
      · rw [if_neg h2] at h ⊢
        by_cases h3 : codeW (getS m2).1 a b c ≠ 0
        · rw [if_pos h3] at h; simp only at h; exact absurd h h3
        · rw [if_neg h3]
          have h3 : codeW (getS m2).1 a b c = 0 := by omega
          refine ⟨h3, ?_⟩
          have h2 : (getS m2).2.2 = 0 := by omega
          have w5 : s5.why = 0 ∧ s5.p = s5.bs.length := by
            unfold Rd.done at h1
            split at h1
            · rename_i hw
              simp only [Rd.fail, hw.1, if_true] at h1
              simp at h1
            · have : (s4.num 15).2.ok := num_ok ok4 15
              rw [f5] at this
              have := this.2.1
              simp only at this
              omega
          obtain ⟨n5, g5, _, w4, d5, _⟩ := num_of ok4 (mx := 15) (by rw [f5]; exact w5.1)
          obtain ⟨n4, g4, _, w3, d4, _⟩ := num_of ok3 (mx := 7) (by rw [f4]; exact w4)
          obtain ⟨n3, g3, _, w2, d3, _⟩ := num_of ok2 (mx := 7) (by rw [f3]; exact w3)
          have hblk : (s1.block 4096).2.why = 0 := by rw [f2]; exact w2
          obtain ⟨_, wn, len2, g2, d2, _⟩ := raw_of okn hblk
          obtain ⟨n1, g1, _, w1, d1, _⟩ := num_of ok1 wn
          obtain ⟨_, _, len0, g0, d0, _⟩ := raw_of ok0 (n := 4) (by rw [f1]; exact w1)
          have b1 : m1 = [97, 108, 119, 49] := by
            have hm1 : ∀ x ∈ m1, x < 256 := by have := (raw_bytes ok0 4).2; rw [f1] at this; exact this
            refine strOf_inj hm1 (by simp) ?_
            rw [strOf_alw]
            by_cases e : strOf m1 = alw1
            · exact e
            · exact absurd ⟨w1, e⟩ hh
          have gm : (s1.num 4096).2.raw ((s1.num 4096).1 : Nat) = (m2, s2) := f2
          rw [gm] at g2 d2 len2
          rw [g1] at g2 d2 len2
          rw [f1] at g0 d0
          rw [f3] at g3; rw [f4] at g4; rw [f5] at g5
          simp only [Prod.mk.injEq, true_and, Int.toNat_natCast] at g0 g1 g2 g3 g4 g5 d0 d1 d2 d3 d4 d5 len2
          obtain ⟨rfl, g3⟩ := g3
          obtain ⟨rfl, g4⟩ := g4
          obtain ⟨rfl, g5⟩ := g5
          subst g0; subst g2; subst g3; subst g4; subst g5
          simp only at d0 d1 d2 d3 d4 d5 w5 len2
          have k : bs.drop 0 = m1 ++ (putN n1 ++ (m2 ++ (putN a ++ (putN b ++ (putN c ++ []))))) := by
            rw [d0, d1, d2, d3, d4, d5, List.drop_eq_nil_of_le (by omega)]
          have hm := getS_val h2
          have hd : (m2.map dec).map pk = m2 := by
            rw [List.map_map]
            conv => rhs; rw [← List.map_id m2]
            exact List.map_congr_left fun x hx => pk_dec (((getS_ok m2).1 h2).2 x hx)
          rw [List.drop_zero] at k
          simp only [natW, hm, hd, List.length_map, Int.toNat_natCast, len2]
          rw [b1, List.append_nil] at k
          exact k
theorem readW_bad {bs : List Nat} (h : (readW bs).2.2 ≠ 0) : (readW bs).1 = Wt.zero := by
  unfold readW tailW at h ⊢
  simp only at h ⊢
  split
  · rfl
  · rename_i h0
    rw [if_neg h0] at h
    split
    · rfl
    · rename_i h1
      rw [if_neg h1] at h
      split
      · rfl
      · rename_i h2
        rw [if_neg h2] at h
        split
        · rfl
        · rename_i h3
          rw [if_neg h3] at h
          exact absurd rfl h
end Go.Proofs.Ytdbmfnhbgacldaa.Am
