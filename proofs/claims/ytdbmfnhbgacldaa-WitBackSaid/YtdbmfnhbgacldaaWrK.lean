/- Contracts: the document's witness read. -/
import Derived.Test.YtdbmfnhbgacldaaWrJ
import Derived.Test.YtdbmfnhbgacldaaAmZ
import Derived.Test.YtdbmfnhbgacldaaPvC
namespace Go.Proofs.Ytdbmfnhbgacldaa.Am
set_option autoImplicit false
set_option linter.unusedVariables false
set_option linter.unusedSimpArgs false
set_option maxRecDepth 10000
set_option pp.deepTerms false
set_option pp.deepTerms.threshold 6
set_option pp.proofs false
def zb : Ob := .row 0 4 false [[.nils, .i (.int .i64 0), .i (.int .i64 0), .i (.int .i64 0)]]
theorem num_mx (s : Rd) (mx : Nat) : (s.num mx).1 ≤ mx := by
  unfold Rd.num
  split
  · simp
  · split
    · simp
    · split
      · simp
      · simp only; omega
theorem raw_len (s : Rd) (n : Nat) : (s.raw n).1.length ≤ n := by
  unfold Rd.raw
  split
  · simp
  · split
    · simp
    · split
      · simp
      · simp; omega
theorem raw_bs (s : Rd) (n : Int) : (s.raw n).2.bs = s.bs := by
  unfold Rd.raw Rd.fail; split <;> (try split) <;> (try split) <;> (try split) <;> rfl
theorem num_bs (s : Rd) (n : Int) : (s.num n).2.bs = s.bs := by
  unfold Rd.num Rd.fail; split <;> (try split) <;> (try split) <;> (try split) <;> rfl
theorem codeW_dec {m : List Nat} {a b c : Nat} (hm : m.length ≤ 4096) (ha : a ≤ 7) (hb : b ≤ 7) (hc : c ≤ 15) : codeW (m.map dec) a b c = if a = b then 1 else 0 := by
  unfold codeW
  rw [codeS_dec hm, if_pos rfl]
  by_cases h : a = b
  · rw [if_pos h, if_neg (by simp [okW]; omega)]
  · rw [if_neg h, if_pos (by simp [okW]; omega)]
theorem num_le (s : Rd) (mx : Int) : ((s.num mx).1 : Int) ≤ 9223372036854775807 := by
  unfold Rd.num
  obtain ⟨g1, _, _⟩ := getV_ok (s.bs.drop s.p) 0 0 (by decide) (by decide)
  split
  · simp
  · split
    · simp
    · split
      · simp
      · simp only; omega
set_option maxHeartbeats 2000000 in
theorem read20 (bs : List Nat) (hl : bs.length ≤ 1000000) (hb : ∀ b ∈ bs, b < 256) : CallW Try.prog G0 20 [.i (.sl (bs.map by8))] [] (fun r st' => r = .tup [wtV (readW bs).1, .i (.int .i64 (readW bs).2.1), .i (.int .i64 (readW bs).2.2)] ∧ st' = []) := by
  refine call_of_bodyF 0 (Nat.le_refl _) Try.func20 rfl (fun a w => Try.call20 a w) (wpx_ok (own := own0) _ _ _ ?_)
  have ok0 : Rd.ok ⟨bs, 0, 0, 0⟩ := ⟨hl, Nat.zero_le _, hb⟩
  repeat ((conv => whnf); first | refine Br.t ?_ | refine Br.f ?_ | refine ⟨rfl, ?_⟩)
  conv => whnf
  have h1 := raw40 ⟨bs, 0, 0, 0⟩ ok0 4 (by decide)
  refine CallW.mono (atR [_, _] [] h1 rfl rfl) ?_
  rintro r st' ⟨rfl, rfl⟩
  have ok1 := raw_ok ok0 4
  obtain ⟨m1, s1, e1⟩ : ∃ m s, Rd.raw ⟨bs, 0, 0, 0⟩ 4 = (m, s) := ⟨_, _, rfl⟩
  rw [e1] at ok1 ⊢
  simp only at ok1 ⊢
  have hbs1 : s1.bs = bs := by have := raw_bs ⟨bs, 0, 0, 0⟩ 4; rw [e1] at this; exact this
  have hread : readW bs = if s1.why = 0 ∧ strOf m1 ≠ alw1 then (Wt.zero, 0, 3) else tailW bs s1 := by unfold readW; rw [e1]
  rw [hread]
  repeat ((conv => whnf); first | refine Br.t ?_ | refine Br.f ?_ | refine ⟨rfl, ?_⟩)
  conv => whnf
  refine Br.mk (fun h2 => ?_) (fun h2 => ?_)
  · simp at h2
    repeat ((conv => whnf); first | refine Br.t ?_ | refine Br.f ?_ | refine ⟨rfl, ?_⟩)
    conv => whnf
    refine ⟨isB_ok (isB_map m1), ?_⟩
    repeat ((conv => whnf); first | refine Br.t ?_ | refine Br.f ?_ | refine ⟨rfl, ?_⟩)
    conv => whnf
    refine Br.mk (fun h3 => ?_) (fun h3 => ?_)
    · have h3 : strOf m1 ≠ alw1 := by simpa [strOf, alw1] using h3
      rw [if_pos ⟨h2, h3⟩]
      repeat ((conv => whnf); first | refine Br.t ?_ | refine Br.f ?_ | refine ⟨rfl, ?_⟩)
      conv => whnf
      refine fin (target := []) rfl (Nat.zero_le _) (by simp) ?_ ?_
      · rfl
      · rfl
    · have h3 : ¬ strOf m1 ≠ alw1 := by simpa [strOf, alw1] using h3
      rw [if_neg (fun h => h3 h.2)]
      repeat ((conv => whnf); first | refine Br.t ?_ | refine Br.f ?_ | refine ⟨rfl, ?_⟩)
      conv => whnf
      have hn1 := num_ok ok1 4096
      refine CallW.mono (atR [_, _] [] (num41 s1 ok1 4096) rfl rfl) ?_
      rintro r st' ⟨rfl, rfl⟩
      repeat ((conv => whnf); first | refine Br.t ?_ | refine Br.f ?_ | refine ⟨rfl, ?_⟩)
      conv => whnf
      refine CallW.mono (atR [_, _] [] (raw40 (s1.num 4096).2 hn1 (s1.num 4096).1 (num_le s1 4096)) rfl rfl) ?_
      rintro r st' ⟨rfl, rfl⟩
      have ok2 : (s1.block 4096).2.ok := raw_ok hn1 _
      have hm2 : (s1.block 4096).1.length ≤ 1000000 ∧ ∀ b ∈ (s1.block 4096).1, b < 256 := raw_bytes hn1 _
      have eb : (s1.num 4096).2.raw ((s1.num 4096).1 : Nat) = s1.block 4096 := rfl
      rw [eb]
      obtain ⟨m2, s2, e2⟩ : ∃ m s, s1.block 4096 = (m, s) := ⟨_, _, rfl⟩
      rw [e2] at ok2 hm2 ⊢
      simp only at ok2 hm2 ⊢
      repeat ((conv => whnf); first | refine Br.t ?_ | refine Br.f ?_ | refine ⟨rfl, ?_⟩)
      conv => whnf
      refine CallW.mono (atR [_, _] [_] (num41 s2 ok2 7) rfl rfl) ?_
      rintro r st' ⟨rfl, rfl⟩
      have ok3 := num_ok ok2 7
      obtain ⟨a, s3, e3⟩ : ∃ m s, s2.num 7 = (m, s) := ⟨_, _, rfl⟩
      rw [e3] at ok3 ⊢
      simp only at ok3 ⊢
      repeat ((conv => whnf); first | refine Br.t ?_ | refine Br.f ?_ | refine ⟨rfl, ?_⟩)
      conv => whnf
      refine CallW.mono (atR [_, _] [_] (num41 s3 ok3 7) rfl rfl) ?_
      rintro r st' ⟨rfl, rfl⟩
      have ok4 := num_ok ok3 7
      obtain ⟨b, s4, e4⟩ : ∃ m s, s3.num 7 = (m, s) := ⟨_, _, rfl⟩
      rw [e4] at ok4 ⊢
      simp only at ok4 ⊢
      repeat ((conv => whnf); first | refine Br.t ?_ | refine Br.f ?_ | refine ⟨rfl, ?_⟩)
      conv => whnf
      refine CallW.mono (atR [_, _] [_] (num41 s4 ok4 15) rfl rfl) ?_
      rintro r st' ⟨rfl, rfl⟩
      have ok5 := num_ok ok4 15
      obtain ⟨c, s5, e5⟩ : ∃ m s, s4.num 15 = (m, s) := ⟨_, _, rfl⟩
      have hb5 : s5.bs = bs := by
        have q1 : (s1.block 4096).2.bs = s1.bs := by rw [← eb, raw_bs, num_bs]
        have q2 := num_bs s2 7; have q3 := num_bs s3 7; have q4 := num_bs s4 15
        rw [e2] at q1; rw [e3] at q2; rw [e4] at q3; rw [e5] at q4
        simp only at q1 q2 q3 q4
        rw [q4, q3, q2, q1, hbs1]
      have ha : a ≤ 7 := by have := num_mx s2 7; rw [show ((7 : Nat) : Int) = 7 from rfl, e3] at this; exact this
      have hb7 : b ≤ 7 := by have := num_mx s3 7; rw [show ((7 : Nat) : Int) = 7 from rfl, e4] at this; exact this
      have hc : c ≤ 15 := by have := num_mx s4 15; rw [show ((15 : Nat) : Int) = 15 from rfl, e5] at this; exact this
      have hl2 : m2.length ≤ 4096 := by
        have q1 := raw_len (s1.num 4096).2 (s1.num 4096).1
        have q2 := num_mx s1 4096
        rw [eb, e2] at q1
        rw [show ((4096 : Nat) : Int) = 4096 from rfl] at q2
        simp only at q1
        omega
      rw [e5] at ok5 ⊢
      simp only at ok5 ⊢
      have ht : tailW bs s1 = if s5.done.why ≠ 0 then ((Wt.zero, s5.done.a, (s5.done.why : Int)) : Wt × Nat × Int) else
        if (getS m2).2.2 ≠ 0 then (Wt.zero, bs.length, ((getS m2).2.2 : Int)) else
        if codeW (getS m2).1 a b c ≠ 0 then (Wt.zero, bs.length, codeW (getS m2).1 a b c) else (⟨(getS m2).1, a, b, c⟩, 0, 0) := by
        unfold tailW; simp only [e2, e3, e4, e5]
      rw [ht]
      obtain ⟨s6, hs6⟩ : ∃ s, s5.done = s := ⟨_, rfl⟩
      repeat ((conv => whnf); first | refine Br.t ?_ | refine Br.f ?_ | refine ⟨rfl, ?_⟩)
      conv => whnf
      refine Br.mk (fun w0 => ?_) (fun w0 => ?_)
      · have w0 : s5.why = 0 := by simpa using w0
        repeat ((conv => whnf); first | refine Br.t ?_ | refine Br.f ?_ | refine ⟨rfl, ?_⟩)
        conv => whnf
        refine Br.mk (fun w1 => ?_) (fun w1 => ?_)
        · have w1 : s5.p < bs.length := by simpa using w1
          have e6 : s5.fail 7 = s6 := by rw [← hs6]; unfold Rd.done; rw [hb5, if_pos ⟨w0, w1⟩]
          repeat ((conv => whnf); first | refine Br.t ?_ | refine Br.f ?_ | refine ⟨rfl, ?_⟩)
          conv => whnf
          refine CallW.mono (atR [_, _] [_] (fail42 s5 7) rfl rfl) ?_
          rintro r st' ⟨rfl, rfl⟩
          rw [e6, hs6]
          repeat ((conv => whnf); first | refine Br.t ?_ | refine Br.f ?_ | refine ⟨rfl, ?_⟩)
          conv => whnf
          refine Br.mk (fun h5 => ?_) (fun h5 => ?_)
          · have h5 : s6.why ≠ 0 := by simpa using h5
            rw [if_pos h5]
            repeat ((conv => whnf); first | refine Br.t ?_ | refine Br.f ?_ | refine ⟨rfl, ?_⟩)
            conv => whnf
            refine draw_ok (own := own0) [9] [(1, 12), (2, 12), (3, 12), (4, 12), (5, 12), (6, 12), (7, 12), (8, 12)] [] rfl (by kernel_rfl) (Nat.zero_le _) ?_
            repeat ((conv => whnf); first | refine Br.t ?_ | refine Br.f ?_ | refine ⟨rfl, ?_⟩)
            conv => whnf
            refine ⟨by repeat ((conv => whnf); first | exact trivial | refine ⟨rfl, ?_⟩), by repeat ((conv => whnf); first | exact trivial | refine ⟨by (conv => whnf); first | exact ⟨rfl, rfl⟩ | exact ⟨rfl, rfl, rfl⟩, ?_⟩), ?_⟩
            repeat ((conv => whnf); first | refine Br.t ?_ | refine Br.f ?_ | refine ⟨rfl, ?_⟩)
            conv => whnf
            refine fin (target := []) rfl (Nat.zero_le _) (by simp) ?_ ?_
            · rfl
            · rfl
          · have h5 : ¬ s6.why ≠ 0 := by simpa using h5
            rw [if_neg h5]
            repeat ((conv => whnf); first | refine Br.t ?_ | refine Br.f ?_ | refine ⟨rfl, ?_⟩)
            conv => whnf
            refine W.le (Le.nilCell 3 0 0 2 rfl rfl rfl) ?_
            refine loop_ok (α := Nat) (fun i => ⟨mkS 112 [(0, .i (.sl (bs.map by8))), (2, .ptr 0 0 0 0), (3, .i (.int .i64 0)), (4, .i (.int .i64 0)), (5, .ptr 1 0 0 0), (8, .i (.sl (m2.map by8))), (9, .ptr 3 0 0 0), (10, .i (.int .i64 i))], [zb, zb, rdB s6, .row 0 4 false [[.ref 4 1 0 i, .i (.int .i64 a), .i (.int .i64 b), .i (.int .i64 c)]], .row 1 2 false (lift ((m2.take i).map fun b => encP (dec b)))]⟩)
              (fun i => i ≤ m2.length ∧ badAt 0 m2 = badAt i (m2.drop i)) (fun i => m2.length - i) 0 ⟨Nat.zero_le _, rfl⟩
              (Le.slots (by simp [leS, mkS])) (fun i hi => W.weak (wpx_ok (own := own0) _ _ _ ?_))
            obtain ⟨k1, k2⟩ := hi
            repeat ((conv => whnf); first | refine Br.t ?_ | refine Br.f ?_ | refine ⟨rfl, ?_⟩)
            conv => whnf
            refine Br.mk (fun h6 => ?_) (fun h6 => ?_)
            · simp at h6
              obtain ⟨v, hvi⟩ : ∃ v, v = m2[i] := ⟨_, rfl⟩
              have e : (m2.map by8).getD (i : Int).toNat [] = by8 v := by rw [hvi]; exact getD_enc h6
              have ed : m2.drop i = v :: m2.drop (i + 1) := by rw [hvi]; exact List.drop_eq_getElem_cons h6
              have et : m2.take (i + 1) = m2.take i ++ [v] := by rw [hvi]; simp
              have hv : v < 256 := hm2.2 v (hvi ▸ List.getElem_mem h6)
              rw [ed, badAt] at k2
              repeat ((conv => whnf); first | refine Br.t ?_ | refine Br.f ?_ | refine ⟨rfl, ?_⟩)
              conv => whnf
              rw [e]
              refine ⟨⟨by omega, by simp; omega, rfl⟩, ?_⟩
              repeat ((conv => whnf); first | refine Br.t ?_ | refine Br.f ?_ | refine ⟨rfl, ?_⟩)
              conv => whnf
              refine Br.mk (fun h7 => ?_) (fun h7 => ?_)
              · simp at h7
                rw [if_pos (by omega)] at k2
                have hg : (getS m2).2.2 = 3 := by unfold getS; rw [if_neg (by omega), k2]
                rw [if_pos (by omega), hg]
                repeat ((conv => whnf); first | refine Br.t ?_ | refine Br.f ?_ | refine ⟨rfl, ?_⟩)
                conv => whnf
                refine ⟨_, Le.refl _ _, ?_⟩
                repeat ((conv => whnf); first | refine Br.t ?_ | refine Br.f ?_ | refine ⟨rfl, ?_⟩)
                conv => whnf
                refine fin (target := []) rfl (Nat.zero_le _) (by simp) ?_ ?_
                · first | rfl | (simp only [List.length_map]; rfl)
                · rfl
              · simp at h7
                rw [if_neg (by omega)] at k2
                repeat ((conv => whnf); first | refine Br.t ?_ | refine Br.f ?_ | refine ⟨rfl, ?_⟩)
                conv => whnf
                refine draw_ok (own := own0) [15, 17] [] [] rfl (by kernel_rfl) (Nat.zero_le _) ?_
                repeat ((conv => whnf); first | refine Br.t ?_ | refine Br.f ?_ | refine ⟨rfl, ?_⟩)
                conv => whnf
                rw [e]
                refine ⟨⟨by omega, by simp; omega, rfl⟩, ?_⟩
                repeat ((conv => whnf); first | refine Br.t ?_ | refine Br.f ?_ | refine ⟨rfl, ?_⟩)
                conv => whnf
                refine ⟨by decide, ?_⟩
                repeat ((conv => whnf); first | refine Br.t ?_ | refine Br.f ?_ | refine ⟨rfl, ?_⟩)
                conv => whnf
                rw [e]
                refine ⟨⟨by omega, by simp; omega, rfl⟩, ?_⟩
                repeat ((conv => whnf); first | refine Br.t ?_ | refine Br.f ?_ | refine ⟨rfl, ?_⟩)
                conv => whnf
                refine ⟨⟨by intro cs hcs; simp at hcs; subst hcs; rfl, by simp [lift]; omega, by show (i + 1) * 16 ≤ _; omega, len_mx (by simp [lift]; omega)⟩, ?_⟩
                repeat ((conv => whnf); first | refine Br.t ?_ | refine Br.f ?_ | refine ⟨rfl, ?_⟩)
                conv => whnf
                refine ⟨by repeat ((conv => whnf); first | exact trivial | refine ⟨rfl, ?_⟩), trivial, ?_⟩
                conv => whnf
                repeat ((conv => whnf); first | refine Br.t ?_ | refine Br.f ?_ | refine ⟨rfl, ?_⟩)
                conv => whnf
                refine ⟨_, Le.refl _ _, i + 1, ⟨by omega, k2⟩, by omega, Le.down (fun id => if id = 4 then 1 else 0) (by intro id hid; simp at hid) ?_ ?_⟩
                · simp [leS, mkS, V.up, lift]
                  exact i64_id (by omega) (by omega)
                · simp only [upSt, Ob.up, map_up_lift]
                  rw [et, List.map_append, lift_app]
                  have e9 : [[I.int .i64 ((IntKind.i64.wrap (v : Int)).tmod 8), .bool (decide ((v : Int) > 7))]] = [v].map fun b => encP (dec b) := by
                    have x1 : (IntKind.i64.wrap (v : Int)).tmod 8 = ((v % 8 : Nat) : Int) := by
                      rw [i64_id (by omega) (by omega), Int.tmod_eq_emod_of_nonneg (by omega)]; omega
                    rw [x1]
                    simp [encP, dec]
                    omega
                  rw [← e9]
                  rfl
            · simp at h6
              have hin : i = m2.length := by omega
              subst hin
              rw [List.drop_length, badAt] at k2
              have hg0 : (getS m2).2.2 = 0 := (getS_ok m2).2 ⟨hl2, (badAt_none m2 0).1 k2⟩
              have hg := getS_val hg0
              rw [if_neg (by omega), hg, codeW_dec hl2 ha hb7 hc, List.take_length]
              refine ⟨_, Le.data 4 1 2 (m2.map fun b => encP (dec b)) (sl := _) (s := ⟨mkS 112 [(0, .i (.sl (bs.map by8))), (2, .ptr 0 0 0 0), (3, .i (.int .i64 0)), (4, .i (.int .i64 0)), (5, .ptr 1 0 0 0), (8, .i (.sl (m2.map by8))), (9, .ptr 3 0 0 0)], [zb, zb, rdB s6, .row 0 4 false [[.i (.sl (m2.map fun b => encP (dec b))), .i (.int .i64 a), .i (.int .i64 b), .i (.int .i64 c)]], .dead]⟩) rfl ?_ ?_, ?_⟩
              · simp [leS, mkS, V.dat]
              · simp [Ob.dat, zb, rdB, V.dat.datAll, V.dat]
                exact (List.take_of_length_le (by simp [lift])).symm
              · repeat ((conv => whnf); first | refine Br.t ?_ | refine Br.f ?_ | refine ⟨rfl, ?_⟩)
                conv => whnf
                refine Br.mk (fun h8 => ?_) (fun h8 => ?_)
                · have h8 : a = b := by simp at h8; omega
                  rw [if_pos h8, if_pos (by simp)]
                  repeat ((conv => whnf); first | refine Br.t ?_ | refine Br.f ?_ | refine ⟨rfl, ?_⟩)
                  conv => whnf
                  refine fin (target := []) rfl (Nat.zero_le _) (by simp) ?_ ?_
                  · first | rfl | (simp only [List.length_map]; rfl)
                  · rfl
                · have h8 : ¬ a = b := by simp at h8; omega
                  rw [if_neg h8, if_neg (by simp)]
                  repeat ((conv => whnf); first | refine Br.t ?_ | refine Br.f ?_ | refine ⟨rfl, ?_⟩)
                  conv => whnf
                  refine fin (target := []) rfl (Nat.zero_le _) (by simp) ?_ ?_
                  · simp only [wtV, encW, List.map_map]; rfl
                  · rfl
        · have w1 : ¬ s5.p < bs.length := by simpa using w1
          have e6 : s5 = s6 := by rw [← hs6]; unfold Rd.done; rw [hb5, if_neg (by omega)]
          rw [hs6, e6]
          repeat ((conv => whnf); first | refine Br.t ?_ | refine Br.f ?_ | refine ⟨rfl, ?_⟩)
          conv => whnf
          refine Br.mk (fun h5 => ?_) (fun h5 => ?_)
          · have h5 : s6.why ≠ 0 := by simpa using h5
            rw [if_pos h5]
            repeat ((conv => whnf); first | refine Br.t ?_ | refine Br.f ?_ | refine ⟨rfl, ?_⟩)
            conv => whnf
            refine draw_ok (own := own0) [9] [(1, 12), (2, 12), (3, 12), (4, 12), (5, 12), (6, 12), (7, 12), (8, 12)] [] rfl (by kernel_rfl) (Nat.zero_le _) ?_
            repeat ((conv => whnf); first | refine Br.t ?_ | refine Br.f ?_ | refine ⟨rfl, ?_⟩)
            conv => whnf
            refine ⟨by repeat ((conv => whnf); first | exact trivial | refine ⟨rfl, ?_⟩), by repeat ((conv => whnf); first | exact trivial | refine ⟨by (conv => whnf); first | exact ⟨rfl, rfl⟩ | exact ⟨rfl, rfl, rfl⟩, ?_⟩), ?_⟩
            repeat ((conv => whnf); first | refine Br.t ?_ | refine Br.f ?_ | refine ⟨rfl, ?_⟩)
            conv => whnf
            refine fin (target := []) rfl (Nat.zero_le _) (by simp) ?_ ?_
            · rfl
            · rfl
          · have h5 : ¬ s6.why ≠ 0 := by simpa using h5
            rw [if_neg h5]
            repeat ((conv => whnf); first | refine Br.t ?_ | refine Br.f ?_ | refine ⟨rfl, ?_⟩)
            conv => whnf
            refine W.le (Le.nilCell 3 0 0 2 rfl rfl rfl) ?_
            refine loop_ok (α := Nat) (fun i => ⟨mkS 112 [(0, .i (.sl (bs.map by8))), (2, .ptr 0 0 0 0), (3, .i (.int .i64 0)), (4, .i (.int .i64 0)), (5, .ptr 1 0 0 0), (8, .i (.sl (m2.map by8))), (9, .ptr 3 0 0 0), (10, .i (.int .i64 i))], [zb, zb, rdB s6, .row 0 4 false [[.ref 4 1 0 i, .i (.int .i64 a), .i (.int .i64 b), .i (.int .i64 c)]], .row 1 2 false (lift ((m2.take i).map fun b => encP (dec b)))]⟩)
              (fun i => i ≤ m2.length ∧ badAt 0 m2 = badAt i (m2.drop i)) (fun i => m2.length - i) 0 ⟨Nat.zero_le _, rfl⟩
              (Le.slots (by simp [leS, mkS])) (fun i hi => W.weak (wpx_ok (own := own0) _ _ _ ?_))
            obtain ⟨k1, k2⟩ := hi
            repeat ((conv => whnf); first | refine Br.t ?_ | refine Br.f ?_ | refine ⟨rfl, ?_⟩)
            conv => whnf
            refine Br.mk (fun h6 => ?_) (fun h6 => ?_)
            · simp at h6
              obtain ⟨v, hvi⟩ : ∃ v, v = m2[i] := ⟨_, rfl⟩
              have e : (m2.map by8).getD (i : Int).toNat [] = by8 v := by rw [hvi]; exact getD_enc h6
              have ed : m2.drop i = v :: m2.drop (i + 1) := by rw [hvi]; exact List.drop_eq_getElem_cons h6
              have et : m2.take (i + 1) = m2.take i ++ [v] := by rw [hvi]; simp
              have hv : v < 256 := hm2.2 v (hvi ▸ List.getElem_mem h6)
              rw [ed, badAt] at k2
              repeat ((conv => whnf); first | refine Br.t ?_ | refine Br.f ?_ | refine ⟨rfl, ?_⟩)
              conv => whnf
              rw [e]
              refine ⟨⟨by omega, by simp; omega, rfl⟩, ?_⟩
              repeat ((conv => whnf); first | refine Br.t ?_ | refine Br.f ?_ | refine ⟨rfl, ?_⟩)
              conv => whnf
              refine Br.mk (fun h7 => ?_) (fun h7 => ?_)
              · simp at h7
                rw [if_pos (by omega)] at k2
                have hg : (getS m2).2.2 = 3 := by unfold getS; rw [if_neg (by omega), k2]
                rw [if_pos (by omega), hg]
                repeat ((conv => whnf); first | refine Br.t ?_ | refine Br.f ?_ | refine ⟨rfl, ?_⟩)
                conv => whnf
                refine ⟨_, Le.refl _ _, ?_⟩
                repeat ((conv => whnf); first | refine Br.t ?_ | refine Br.f ?_ | refine ⟨rfl, ?_⟩)
                conv => whnf
                refine fin (target := []) rfl (Nat.zero_le _) (by simp) ?_ ?_
                · first | rfl | (simp only [List.length_map]; rfl)
                · rfl
              · simp at h7
                rw [if_neg (by omega)] at k2
                repeat ((conv => whnf); first | refine Br.t ?_ | refine Br.f ?_ | refine ⟨rfl, ?_⟩)
                conv => whnf
                refine draw_ok (own := own0) [15, 17] [] [] rfl (by kernel_rfl) (Nat.zero_le _) ?_
                repeat ((conv => whnf); first | refine Br.t ?_ | refine Br.f ?_ | refine ⟨rfl, ?_⟩)
                conv => whnf
                rw [e]
                refine ⟨⟨by omega, by simp; omega, rfl⟩, ?_⟩
                repeat ((conv => whnf); first | refine Br.t ?_ | refine Br.f ?_ | refine ⟨rfl, ?_⟩)
                conv => whnf
                refine ⟨by decide, ?_⟩
                repeat ((conv => whnf); first | refine Br.t ?_ | refine Br.f ?_ | refine ⟨rfl, ?_⟩)
                conv => whnf
                rw [e]
                refine ⟨⟨by omega, by simp; omega, rfl⟩, ?_⟩
                repeat ((conv => whnf); first | refine Br.t ?_ | refine Br.f ?_ | refine ⟨rfl, ?_⟩)
                conv => whnf
                refine ⟨⟨by intro cs hcs; simp at hcs; subst hcs; rfl, by simp [lift]; omega, by show (i + 1) * 16 ≤ _; omega, len_mx (by simp [lift]; omega)⟩, ?_⟩
                repeat ((conv => whnf); first | refine Br.t ?_ | refine Br.f ?_ | refine ⟨rfl, ?_⟩)
                conv => whnf
                refine ⟨by repeat ((conv => whnf); first | exact trivial | refine ⟨rfl, ?_⟩), trivial, ?_⟩
                conv => whnf
                repeat ((conv => whnf); first | refine Br.t ?_ | refine Br.f ?_ | refine ⟨rfl, ?_⟩)
                conv => whnf
                refine ⟨_, Le.refl _ _, i + 1, ⟨by omega, k2⟩, by omega, Le.down (fun id => if id = 4 then 1 else 0) (by intro id hid; simp at hid) ?_ ?_⟩
                · simp [leS, mkS, V.up, lift]
                  exact i64_id (by omega) (by omega)
                · simp only [upSt, Ob.up, map_up_lift]
                  rw [et, List.map_append, lift_app]
                  have e9 : [[I.int .i64 ((IntKind.i64.wrap (v : Int)).tmod 8), .bool (decide ((v : Int) > 7))]] = [v].map fun b => encP (dec b) := by
                    have x1 : (IntKind.i64.wrap (v : Int)).tmod 8 = ((v % 8 : Nat) : Int) := by
                      rw [i64_id (by omega) (by omega), Int.tmod_eq_emod_of_nonneg (by omega)]; omega
                    rw [x1]
                    simp [encP, dec]
                    omega
                  rw [← e9]
                  rfl
            · simp at h6
              have hin : i = m2.length := by omega
              subst hin
              rw [List.drop_length, badAt] at k2
              have hg0 : (getS m2).2.2 = 0 := (getS_ok m2).2 ⟨hl2, (badAt_none m2 0).1 k2⟩
              have hg := getS_val hg0
              rw [if_neg (by omega), hg, codeW_dec hl2 ha hb7 hc, List.take_length]
              refine ⟨_, Le.data 4 1 2 (m2.map fun b => encP (dec b)) (sl := _) (s := ⟨mkS 112 [(0, .i (.sl (bs.map by8))), (2, .ptr 0 0 0 0), (3, .i (.int .i64 0)), (4, .i (.int .i64 0)), (5, .ptr 1 0 0 0), (8, .i (.sl (m2.map by8))), (9, .ptr 3 0 0 0)], [zb, zb, rdB s6, .row 0 4 false [[.i (.sl (m2.map fun b => encP (dec b))), .i (.int .i64 a), .i (.int .i64 b), .i (.int .i64 c)]], .dead]⟩) rfl ?_ ?_, ?_⟩
              · simp [leS, mkS, V.dat]
              · simp [Ob.dat, zb, rdB, V.dat.datAll, V.dat]
                exact (List.take_of_length_le (by simp [lift])).symm
              · repeat ((conv => whnf); first | refine Br.t ?_ | refine Br.f ?_ | refine ⟨rfl, ?_⟩)
                conv => whnf
                refine Br.mk (fun h8 => ?_) (fun h8 => ?_)
                · have h8 : a = b := by simp at h8; omega
                  rw [if_pos h8, if_pos (by simp)]
                  repeat ((conv => whnf); first | refine Br.t ?_ | refine Br.f ?_ | refine ⟨rfl, ?_⟩)
                  conv => whnf
                  refine fin (target := []) rfl (Nat.zero_le _) (by simp) ?_ ?_
                  · first | rfl | (simp only [List.length_map]; rfl)
                  · rfl
                · have h8 : ¬ a = b := by simp at h8; omega
                  rw [if_neg h8, if_neg (by simp)]
                  repeat ((conv => whnf); first | refine Br.t ?_ | refine Br.f ?_ | refine ⟨rfl, ?_⟩)
                  conv => whnf
                  refine fin (target := []) rfl (Nat.zero_le _) (by simp) ?_ ?_
                  · simp only [wtV, encW, List.map_map]; rfl
                  · rfl
      · have w0 : ¬ s5.why = 0 := by simpa using w0
        have e6 : s5 = s6 := by rw [← hs6]; unfold Rd.done; rw [if_neg (by omega)]
        rw [hs6, e6]
        repeat ((conv => whnf); first | refine Br.t ?_ | refine Br.f ?_ | refine ⟨rfl, ?_⟩)
        conv => whnf
        refine Br.mk (fun h5 => ?_) (fun h5 => ?_)
        · have h5 : s6.why ≠ 0 := by simpa using h5
          rw [if_pos h5]
          repeat ((conv => whnf); first | refine Br.t ?_ | refine Br.f ?_ | refine ⟨rfl, ?_⟩)
          conv => whnf
          refine draw_ok (own := own0) [9] [(1, 12), (2, 12), (3, 12), (4, 12), (5, 12), (6, 12), (7, 12), (8, 12)] [] rfl (by kernel_rfl) (Nat.zero_le _) ?_
          repeat ((conv => whnf); first | refine Br.t ?_ | refine Br.f ?_ | refine ⟨rfl, ?_⟩)
          conv => whnf
          refine ⟨by repeat ((conv => whnf); first | exact trivial | refine ⟨rfl, ?_⟩), by repeat ((conv => whnf); first | exact trivial | refine ⟨by (conv => whnf); first | exact ⟨rfl, rfl⟩ | exact ⟨rfl, rfl, rfl⟩, ?_⟩), ?_⟩
          repeat ((conv => whnf); first | refine Br.t ?_ | refine Br.f ?_ | refine ⟨rfl, ?_⟩)
          conv => whnf
          refine fin (target := []) rfl (Nat.zero_le _) (by simp) ?_ ?_
          · rfl
          · rfl
        · have h5 : ¬ s6.why ≠ 0 := by simpa using h5
          rw [if_neg h5]
          repeat ((conv => whnf); first | refine Br.t ?_ | refine Br.f ?_ | refine ⟨rfl, ?_⟩)
          conv => whnf
          refine W.le (Le.nilCell 3 0 0 2 rfl rfl rfl) ?_
          refine loop_ok (α := Nat) (fun i => ⟨mkS 112 [(0, .i (.sl (bs.map by8))), (2, .ptr 0 0 0 0), (3, .i (.int .i64 0)), (4, .i (.int .i64 0)), (5, .ptr 1 0 0 0), (8, .i (.sl (m2.map by8))), (9, .ptr 3 0 0 0), (10, .i (.int .i64 i))], [zb, zb, rdB s6, .row 0 4 false [[.ref 4 1 0 i, .i (.int .i64 a), .i (.int .i64 b), .i (.int .i64 c)]], .row 1 2 false (lift ((m2.take i).map fun b => encP (dec b)))]⟩)
            (fun i => i ≤ m2.length ∧ badAt 0 m2 = badAt i (m2.drop i)) (fun i => m2.length - i) 0 ⟨Nat.zero_le _, rfl⟩
            (Le.slots (by simp [leS, mkS])) (fun i hi => W.weak (wpx_ok (own := own0) _ _ _ ?_))
          obtain ⟨k1, k2⟩ := hi
          repeat ((conv => whnf); first | refine Br.t ?_ | refine Br.f ?_ | refine ⟨rfl, ?_⟩)
          conv => whnf
          refine Br.mk (fun h6 => ?_) (fun h6 => ?_)
          · simp at h6
            obtain ⟨v, hvi⟩ : ∃ v, v = m2[i] := ⟨_, rfl⟩
            have e : (m2.map by8).getD (i : Int).toNat [] = by8 v := by rw [hvi]; exact getD_enc h6
            have ed : m2.drop i = v :: m2.drop (i + 1) := by rw [hvi]; exact List.drop_eq_getElem_cons h6
            have et : m2.take (i + 1) = m2.take i ++ [v] := by rw [hvi]; simp
            have hv : v < 256 := hm2.2 v (hvi ▸ List.getElem_mem h6)
            rw [ed, badAt] at k2
            repeat ((conv => whnf); first | refine Br.t ?_ | refine Br.f ?_ | refine ⟨rfl, ?_⟩)
            conv => whnf
            rw [e]
            refine ⟨⟨by omega, by simp; omega, rfl⟩, ?_⟩
            repeat ((conv => whnf); first | refine Br.t ?_ | refine Br.f ?_ | refine ⟨rfl, ?_⟩)
            conv => whnf
            refine Br.mk (fun h7 => ?_) (fun h7 => ?_)
            · simp at h7
              rw [if_pos (by omega)] at k2
              have hg : (getS m2).2.2 = 3 := by unfold getS; rw [if_neg (by omega), k2]
              rw [if_pos (by omega), hg]
              repeat ((conv => whnf); first | refine Br.t ?_ | refine Br.f ?_ | refine ⟨rfl, ?_⟩)
              conv => whnf
              refine ⟨_, Le.refl _ _, ?_⟩
              repeat ((conv => whnf); first | refine Br.t ?_ | refine Br.f ?_ | refine ⟨rfl, ?_⟩)
              conv => whnf
              refine fin (target := []) rfl (Nat.zero_le _) (by simp) ?_ ?_
              · first | rfl | (simp only [List.length_map]; rfl)
              · rfl
            · simp at h7
              rw [if_neg (by omega)] at k2
              repeat ((conv => whnf); first | refine Br.t ?_ | refine Br.f ?_ | refine ⟨rfl, ?_⟩)
              conv => whnf
              refine draw_ok (own := own0) [15, 17] [] [] rfl (by kernel_rfl) (Nat.zero_le _) ?_
              repeat ((conv => whnf); first | refine Br.t ?_ | refine Br.f ?_ | refine ⟨rfl, ?_⟩)
              conv => whnf
              rw [e]
              refine ⟨⟨by omega, by simp; omega, rfl⟩, ?_⟩
              repeat ((conv => whnf); first | refine Br.t ?_ | refine Br.f ?_ | refine ⟨rfl, ?_⟩)
              conv => whnf
              refine ⟨by decide, ?_⟩
              repeat ((conv => whnf); first | refine Br.t ?_ | refine Br.f ?_ | refine ⟨rfl, ?_⟩)
              conv => whnf
              rw [e]
              refine ⟨⟨by omega, by simp; omega, rfl⟩, ?_⟩
              repeat ((conv => whnf); first | refine Br.t ?_ | refine Br.f ?_ | refine ⟨rfl, ?_⟩)
              conv => whnf
              refine ⟨⟨by intro cs hcs; simp at hcs; subst hcs; rfl, by simp [lift]; omega, by show (i + 1) * 16 ≤ _; omega, len_mx (by simp [lift]; omega)⟩, ?_⟩
              repeat ((conv => whnf); first | refine Br.t ?_ | refine Br.f ?_ | refine ⟨rfl, ?_⟩)
              conv => whnf
              refine ⟨by repeat ((conv => whnf); first | exact trivial | refine ⟨rfl, ?_⟩), trivial, ?_⟩
              conv => whnf
              repeat ((conv => whnf); first | refine Br.t ?_ | refine Br.f ?_ | refine ⟨rfl, ?_⟩)
              conv => whnf
              refine ⟨_, Le.refl _ _, i + 1, ⟨by omega, k2⟩, by omega, Le.down (fun id => if id = 4 then 1 else 0) (by intro id hid; simp at hid) ?_ ?_⟩
              · simp [leS, mkS, V.up, lift]
                exact i64_id (by omega) (by omega)
              · simp only [upSt, Ob.up, map_up_lift]
                rw [et, List.map_append, lift_app]
                have e9 : [[I.int .i64 ((IntKind.i64.wrap (v : Int)).tmod 8), .bool (decide ((v : Int) > 7))]] = [v].map fun b => encP (dec b) := by
                  have x1 : (IntKind.i64.wrap (v : Int)).tmod 8 = ((v % 8 : Nat) : Int) := by
                    rw [i64_id (by omega) (by omega), Int.tmod_eq_emod_of_nonneg (by omega)]; omega
                  rw [x1]
                  simp [encP, dec]
                  omega
                rw [← e9]
                rfl
          · simp at h6
            have hin : i = m2.length := by omega
            subst hin
            rw [List.drop_length, badAt] at k2
            have hg0 : (getS m2).2.2 = 0 := (getS_ok m2).2 ⟨hl2, (badAt_none m2 0).1 k2⟩
            have hg := getS_val hg0
            rw [if_neg (by omega), hg, codeW_dec hl2 ha hb7 hc, List.take_length]
            refine ⟨_, Le.data 4 1 2 (m2.map fun b => encP (dec b)) (sl := _) (s := ⟨mkS 112 [(0, .i (.sl (bs.map by8))), (2, .ptr 0 0 0 0), (3, .i (.int .i64 0)), (4, .i (.int .i64 0)), (5, .ptr 1 0 0 0), (8, .i (.sl (m2.map by8))), (9, .ptr 3 0 0 0)], [zb, zb, rdB s6, .row 0 4 false [[.i (.sl (m2.map fun b => encP (dec b))), .i (.int .i64 a), .i (.int .i64 b), .i (.int .i64 c)]], .dead]⟩) rfl ?_ ?_, ?_⟩
            · simp [leS, mkS, V.dat]
            · simp [Ob.dat, zb, rdB, V.dat.datAll, V.dat]
              exact (List.take_of_length_le (by simp [lift])).symm
            · repeat ((conv => whnf); first | refine Br.t ?_ | refine Br.f ?_ | refine ⟨rfl, ?_⟩)
              conv => whnf
              refine Br.mk (fun h8 => ?_) (fun h8 => ?_)
              · have h8 : a = b := by simp at h8; omega
                rw [if_pos h8, if_pos (by simp)]
                repeat ((conv => whnf); first | refine Br.t ?_ | refine Br.f ?_ | refine ⟨rfl, ?_⟩)
                conv => whnf
                refine fin (target := []) rfl (Nat.zero_le _) (by simp) ?_ ?_
                · first | rfl | (simp only [List.length_map]; rfl)
                · rfl
              · have h8 : ¬ a = b := by simp at h8; omega
                rw [if_neg h8, if_neg (by simp)]
                repeat ((conv => whnf); first | refine Br.t ?_ | refine Br.f ?_ | refine ⟨rfl, ?_⟩)
                conv => whnf
                refine fin (target := []) rfl (Nat.zero_le _) (by simp) ?_ ?_
                · simp only [wtV, encW, List.map_map]; rfl
                · rfl
  · simp at h2
    rw [if_neg (fun h => h2 h.1)]
    repeat ((conv => whnf); first | refine Br.t ?_ | refine Br.f ?_ | refine ⟨rfl, ?_⟩)
    conv => whnf
    have hn1 := num_ok ok1 4096
    refine CallW.mono (atR [_, _] [] (num41 s1 ok1 4096) rfl rfl) ?_
    rintro r st' ⟨rfl, rfl⟩
    repeat ((conv => whnf); first | refine Br.t ?_ | refine Br.f ?_ | refine ⟨rfl, ?_⟩)
    conv => whnf
    refine CallW.mono (atR [_, _] [] (raw40 (s1.num 4096).2 hn1 (s1.num 4096).1 (num_le s1 4096)) rfl rfl) ?_
    rintro r st' ⟨rfl, rfl⟩
    have ok2 : (s1.block 4096).2.ok := raw_ok hn1 _
    have hm2 : (s1.block 4096).1.length ≤ 1000000 ∧ ∀ b ∈ (s1.block 4096).1, b < 256 := raw_bytes hn1 _
    have eb : (s1.num 4096).2.raw ((s1.num 4096).1 : Nat) = s1.block 4096 := rfl
    rw [eb]
    obtain ⟨m2, s2, e2⟩ : ∃ m s, s1.block 4096 = (m, s) := ⟨_, _, rfl⟩
    rw [e2] at ok2 hm2 ⊢
    simp only at ok2 hm2 ⊢
    repeat ((conv => whnf); first | refine Br.t ?_ | refine Br.f ?_ | refine ⟨rfl, ?_⟩)
    conv => whnf
    refine CallW.mono (atR [_, _] [_] (num41 s2 ok2 7) rfl rfl) ?_
    rintro r st' ⟨rfl, rfl⟩
    have ok3 := num_ok ok2 7
    obtain ⟨a, s3, e3⟩ : ∃ m s, s2.num 7 = (m, s) := ⟨_, _, rfl⟩
    rw [e3] at ok3 ⊢
    simp only at ok3 ⊢
    repeat ((conv => whnf); first | refine Br.t ?_ | refine Br.f ?_ | refine ⟨rfl, ?_⟩)
    conv => whnf
    refine CallW.mono (atR [_, _] [_] (num41 s3 ok3 7) rfl rfl) ?_
    rintro r st' ⟨rfl, rfl⟩
    have ok4 := num_ok ok3 7
    obtain ⟨b, s4, e4⟩ : ∃ m s, s3.num 7 = (m, s) := ⟨_, _, rfl⟩
    rw [e4] at ok4 ⊢
    simp only at ok4 ⊢
    repeat ((conv => whnf); first | refine Br.t ?_ | refine Br.f ?_ | refine ⟨rfl, ?_⟩)
    conv => whnf
    refine CallW.mono (atR [_, _] [_] (num41 s4 ok4 15) rfl rfl) ?_
    rintro r st' ⟨rfl, rfl⟩
    have ok5 := num_ok ok4 15
    obtain ⟨c, s5, e5⟩ : ∃ m s, s4.num 15 = (m, s) := ⟨_, _, rfl⟩
    have hb5 : s5.bs = bs := by
      have q1 : (s1.block 4096).2.bs = s1.bs := by rw [← eb, raw_bs, num_bs]
      have q2 := num_bs s2 7; have q3 := num_bs s3 7; have q4 := num_bs s4 15
      rw [e2] at q1; rw [e3] at q2; rw [e4] at q3; rw [e5] at q4
      simp only at q1 q2 q3 q4
      rw [q4, q3, q2, q1, hbs1]
    have ha : a ≤ 7 := by have := num_mx s2 7; rw [show ((7 : Nat) : Int) = 7 from rfl, e3] at this; exact this
    have hb7 : b ≤ 7 := by have := num_mx s3 7; rw [show ((7 : Nat) : Int) = 7 from rfl, e4] at this; exact this
    have hc : c ≤ 15 := by have := num_mx s4 15; rw [show ((15 : Nat) : Int) = 15 from rfl, e5] at this; exact this
    have hl2 : m2.length ≤ 4096 := by
      have q1 := raw_len (s1.num 4096).2 (s1.num 4096).1
      have q2 := num_mx s1 4096
      rw [eb, e2] at q1
      rw [show ((4096 : Nat) : Int) = 4096 from rfl] at q2
      simp only at q1
      omega
    rw [e5] at ok5 ⊢
    simp only at ok5 ⊢
    have ht : tailW bs s1 = if s5.done.why ≠ 0 then ((Wt.zero, s5.done.a, (s5.done.why : Int)) : Wt × Nat × Int) else
      if (getS m2).2.2 ≠ 0 then (Wt.zero, bs.length, ((getS m2).2.2 : Int)) else
      if codeW (getS m2).1 a b c ≠ 0 then (Wt.zero, bs.length, codeW (getS m2).1 a b c) else (⟨(getS m2).1, a, b, c⟩, 0, 0) := by
      unfold tailW; simp only [e2, e3, e4, e5]
    rw [ht]
    obtain ⟨s6, hs6⟩ : ∃ s, s5.done = s := ⟨_, rfl⟩
    repeat ((conv => whnf); first | refine Br.t ?_ | refine Br.f ?_ | refine ⟨rfl, ?_⟩)
    conv => whnf
    refine Br.mk (fun w0 => ?_) (fun w0 => ?_)
    · have w0 : s5.why = 0 := by simpa using w0
      repeat ((conv => whnf); first | refine Br.t ?_ | refine Br.f ?_ | refine ⟨rfl, ?_⟩)
      conv => whnf
      refine Br.mk (fun w1 => ?_) (fun w1 => ?_)
      · have w1 : s5.p < bs.length := by simpa using w1
        have e6 : s5.fail 7 = s6 := by rw [← hs6]; unfold Rd.done; rw [hb5, if_pos ⟨w0, w1⟩]
        repeat ((conv => whnf); first | refine Br.t ?_ | refine Br.f ?_ | refine ⟨rfl, ?_⟩)
        conv => whnf
        refine CallW.mono (atR [_, _] [_] (fail42 s5 7) rfl rfl) ?_
        rintro r st' ⟨rfl, rfl⟩
        rw [e6, hs6]
        repeat ((conv => whnf); first | refine Br.t ?_ | refine Br.f ?_ | refine ⟨rfl, ?_⟩)
        conv => whnf
        refine Br.mk (fun h5 => ?_) (fun h5 => ?_)
        · have h5 : s6.why ≠ 0 := by simpa using h5
          rw [if_pos h5]
          repeat ((conv => whnf); first | refine Br.t ?_ | refine Br.f ?_ | refine ⟨rfl, ?_⟩)
          conv => whnf
          refine draw_ok (own := own0) [9] [(1, 12), (2, 12), (3, 12), (4, 12), (5, 12), (6, 12), (7, 12), (8, 12)] [] rfl (by kernel_rfl) (Nat.zero_le _) ?_
          repeat ((conv => whnf); first | refine Br.t ?_ | refine Br.f ?_ | refine ⟨rfl, ?_⟩)
          conv => whnf
          refine ⟨by repeat ((conv => whnf); first | exact trivial | refine ⟨rfl, ?_⟩), by repeat ((conv => whnf); first | exact trivial | refine ⟨by (conv => whnf); first | exact ⟨rfl, rfl⟩ | exact ⟨rfl, rfl, rfl⟩, ?_⟩), ?_⟩
          repeat ((conv => whnf); first | refine Br.t ?_ | refine Br.f ?_ | refine ⟨rfl, ?_⟩)
          conv => whnf
          refine fin (target := []) rfl (Nat.zero_le _) (by simp) ?_ ?_
          · rfl
          · rfl
        · have h5 : ¬ s6.why ≠ 0 := by simpa using h5
          rw [if_neg h5]
          repeat ((conv => whnf); first | refine Br.t ?_ | refine Br.f ?_ | refine ⟨rfl, ?_⟩)
          conv => whnf
          refine W.le (Le.nilCell 3 0 0 2 rfl rfl rfl) ?_
          refine loop_ok (α := Nat) (fun i => ⟨mkS 112 [(0, .i (.sl (bs.map by8))), (2, .ptr 0 0 0 0), (3, .i (.int .i64 0)), (4, .i (.int .i64 0)), (5, .ptr 1 0 0 0), (8, .i (.sl (m2.map by8))), (9, .ptr 3 0 0 0), (10, .i (.int .i64 i))], [zb, zb, rdB s6, .row 0 4 false [[.ref 4 1 0 i, .i (.int .i64 a), .i (.int .i64 b), .i (.int .i64 c)]], .row 1 2 false (lift ((m2.take i).map fun b => encP (dec b)))]⟩)
            (fun i => i ≤ m2.length ∧ badAt 0 m2 = badAt i (m2.drop i)) (fun i => m2.length - i) 0 ⟨Nat.zero_le _, rfl⟩
            (Le.slots (by simp [leS, mkS])) (fun i hi => W.weak (wpx_ok (own := own0) _ _ _ ?_))
          obtain ⟨k1, k2⟩ := hi
          repeat ((conv => whnf); first | refine Br.t ?_ | refine Br.f ?_ | refine ⟨rfl, ?_⟩)
          conv => whnf
          refine Br.mk (fun h6 => ?_) (fun h6 => ?_)
          · simp at h6
            obtain ⟨v, hvi⟩ : ∃ v, v = m2[i] := ⟨_, rfl⟩
            have e : (m2.map by8).getD (i : Int).toNat [] = by8 v := by rw [hvi]; exact getD_enc h6
            have ed : m2.drop i = v :: m2.drop (i + 1) := by rw [hvi]; exact List.drop_eq_getElem_cons h6
            have et : m2.take (i + 1) = m2.take i ++ [v] := by rw [hvi]; simp
            have hv : v < 256 := hm2.2 v (hvi ▸ List.getElem_mem h6)
            rw [ed, badAt] at k2
            repeat ((conv => whnf); first | refine Br.t ?_ | refine Br.f ?_ | refine ⟨rfl, ?_⟩)
            conv => whnf
            rw [e]
            refine ⟨⟨by omega, by simp; omega, rfl⟩, ?_⟩
            repeat ((conv => whnf); first | refine Br.t ?_ | refine Br.f ?_ | refine ⟨rfl, ?_⟩)
            conv => whnf
            refine Br.mk (fun h7 => ?_) (fun h7 => ?_)
            · simp at h7
              rw [if_pos (by omega)] at k2
              have hg : (getS m2).2.2 = 3 := by unfold getS; rw [if_neg (by omega), k2]
              rw [if_pos (by omega), hg]
              repeat ((conv => whnf); first | refine Br.t ?_ | refine Br.f ?_ | refine ⟨rfl, ?_⟩)
              conv => whnf
              refine ⟨_, Le.refl _ _, ?_⟩
              repeat ((conv => whnf); first | refine Br.t ?_ | refine Br.f ?_ | refine ⟨rfl, ?_⟩)
              conv => whnf
              refine fin (target := []) rfl (Nat.zero_le _) (by simp) ?_ ?_
              · first | rfl | (simp only [List.length_map]; rfl)
              · rfl
            · simp at h7
              rw [if_neg (by omega)] at k2
              repeat ((conv => whnf); first | refine Br.t ?_ | refine Br.f ?_ | refine ⟨rfl, ?_⟩)
              conv => whnf
              refine draw_ok (own := own0) [15, 17] [] [] rfl (by kernel_rfl) (Nat.zero_le _) ?_
              repeat ((conv => whnf); first | refine Br.t ?_ | refine Br.f ?_ | refine ⟨rfl, ?_⟩)
              conv => whnf
              rw [e]
              refine ⟨⟨by omega, by simp; omega, rfl⟩, ?_⟩
              repeat ((conv => whnf); first | refine Br.t ?_ | refine Br.f ?_ | refine ⟨rfl, ?_⟩)
              conv => whnf
              refine ⟨by decide, ?_⟩
              repeat ((conv => whnf); first | refine Br.t ?_ | refine Br.f ?_ | refine ⟨rfl, ?_⟩)
              conv => whnf
              rw [e]
              refine ⟨⟨by omega, by simp; omega, rfl⟩, ?_⟩
              repeat ((conv => whnf); first | refine Br.t ?_ | refine Br.f ?_ | refine ⟨rfl, ?_⟩)
              conv => whnf
              refine ⟨⟨by intro cs hcs; simp at hcs; subst hcs; rfl, by simp [lift]; omega, by show (i + 1) * 16 ≤ _; omega, len_mx (by simp [lift]; omega)⟩, ?_⟩
              repeat ((conv => whnf); first | refine Br.t ?_ | refine Br.f ?_ | refine ⟨rfl, ?_⟩)
              conv => whnf
              refine ⟨by repeat ((conv => whnf); first | exact trivial | refine ⟨rfl, ?_⟩), trivial, ?_⟩
              conv => whnf
              repeat ((conv => whnf); first | refine Br.t ?_ | refine Br.f ?_ | refine ⟨rfl, ?_⟩)
              conv => whnf
              refine ⟨_, Le.refl _ _, i + 1, ⟨by omega, k2⟩, by omega, Le.down (fun id => if id = 4 then 1 else 0) (by intro id hid; simp at hid) ?_ ?_⟩
              · simp [leS, mkS, V.up, lift]
                exact i64_id (by omega) (by omega)
              · simp only [upSt, Ob.up, map_up_lift]
                rw [et, List.map_append, lift_app]
                have e9 : [[I.int .i64 ((IntKind.i64.wrap (v : Int)).tmod 8), .bool (decide ((v : Int) > 7))]] = [v].map fun b => encP (dec b) := by
                  have x1 : (IntKind.i64.wrap (v : Int)).tmod 8 = ((v % 8 : Nat) : Int) := by
                    rw [i64_id (by omega) (by omega), Int.tmod_eq_emod_of_nonneg (by omega)]; omega
                  rw [x1]
                  simp [encP, dec]
                  omega
                rw [← e9]
                rfl
          · simp at h6
            have hin : i = m2.length := by omega
            subst hin
            rw [List.drop_length, badAt] at k2
            have hg0 : (getS m2).2.2 = 0 := (getS_ok m2).2 ⟨hl2, (badAt_none m2 0).1 k2⟩
            have hg := getS_val hg0
            rw [if_neg (by omega), hg, codeW_dec hl2 ha hb7 hc, List.take_length]
            refine ⟨_, Le.data 4 1 2 (m2.map fun b => encP (dec b)) (sl := _) (s := ⟨mkS 112 [(0, .i (.sl (bs.map by8))), (2, .ptr 0 0 0 0), (3, .i (.int .i64 0)), (4, .i (.int .i64 0)), (5, .ptr 1 0 0 0), (8, .i (.sl (m2.map by8))), (9, .ptr 3 0 0 0)], [zb, zb, rdB s6, .row 0 4 false [[.i (.sl (m2.map fun b => encP (dec b))), .i (.int .i64 a), .i (.int .i64 b), .i (.int .i64 c)]], .dead]⟩) rfl ?_ ?_, ?_⟩
            · simp [leS, mkS, V.dat]
            · simp [Ob.dat, zb, rdB, V.dat.datAll, V.dat]
              exact (List.take_of_length_le (by simp [lift])).symm
            · repeat ((conv => whnf); first | refine Br.t ?_ | refine Br.f ?_ | refine ⟨rfl, ?_⟩)
              conv => whnf
              refine Br.mk (fun h8 => ?_) (fun h8 => ?_)
              · have h8 : a = b := by simp at h8; omega
                rw [if_pos h8, if_pos (by simp)]
                repeat ((conv => whnf); first | refine Br.t ?_ | refine Br.f ?_ | refine ⟨rfl, ?_⟩)
                conv => whnf
                refine fin (target := []) rfl (Nat.zero_le _) (by simp) ?_ ?_
                · first | rfl | (simp only [List.length_map]; rfl)
                · rfl
              · have h8 : ¬ a = b := by simp at h8; omega
                rw [if_neg h8, if_neg (by simp)]
                repeat ((conv => whnf); first | refine Br.t ?_ | refine Br.f ?_ | refine ⟨rfl, ?_⟩)
                conv => whnf
                refine fin (target := []) rfl (Nat.zero_le _) (by simp) ?_ ?_
                · simp only [wtV, encW, List.map_map]; rfl
                · rfl
      · have w1 : ¬ s5.p < bs.length := by simpa using w1
        have e6 : s5 = s6 := by rw [← hs6]; unfold Rd.done; rw [hb5, if_neg (by omega)]
        rw [hs6, e6]
        repeat ((conv => whnf); first | refine Br.t ?_ | refine Br.f ?_ | refine ⟨rfl, ?_⟩)
        conv => whnf
        refine Br.mk (fun h5 => ?_) (fun h5 => ?_)
        · have h5 : s6.why ≠ 0 := by simpa using h5
          rw [if_pos h5]
          repeat ((conv => whnf); first | refine Br.t ?_ | refine Br.f ?_ | refine ⟨rfl, ?_⟩)
          conv => whnf
          refine draw_ok (own := own0) [9] [(1, 12), (2, 12), (3, 12), (4, 12), (5, 12), (6, 12), (7, 12), (8, 12)] [] rfl (by kernel_rfl) (Nat.zero_le _) ?_
          repeat ((conv => whnf); first | refine Br.t ?_ | refine Br.f ?_ | refine ⟨rfl, ?_⟩)
          conv => whnf
          refine ⟨by repeat ((conv => whnf); first | exact trivial | refine ⟨rfl, ?_⟩), by repeat ((conv => whnf); first | exact trivial | refine ⟨by (conv => whnf); first | exact ⟨rfl, rfl⟩ | exact ⟨rfl, rfl, rfl⟩, ?_⟩), ?_⟩
          repeat ((conv => whnf); first | refine Br.t ?_ | refine Br.f ?_ | refine ⟨rfl, ?_⟩)
          conv => whnf
          refine fin (target := []) rfl (Nat.zero_le _) (by simp) ?_ ?_
          · rfl
          · rfl
        · have h5 : ¬ s6.why ≠ 0 := by simpa using h5
          rw [if_neg h5]
          repeat ((conv => whnf); first | refine Br.t ?_ | refine Br.f ?_ | refine ⟨rfl, ?_⟩)
          conv => whnf
          refine W.le (Le.nilCell 3 0 0 2 rfl rfl rfl) ?_
          refine loop_ok (α := Nat) (fun i => ⟨mkS 112 [(0, .i (.sl (bs.map by8))), (2, .ptr 0 0 0 0), (3, .i (.int .i64 0)), (4, .i (.int .i64 0)), (5, .ptr 1 0 0 0), (8, .i (.sl (m2.map by8))), (9, .ptr 3 0 0 0), (10, .i (.int .i64 i))], [zb, zb, rdB s6, .row 0 4 false [[.ref 4 1 0 i, .i (.int .i64 a), .i (.int .i64 b), .i (.int .i64 c)]], .row 1 2 false (lift ((m2.take i).map fun b => encP (dec b)))]⟩)
            (fun i => i ≤ m2.length ∧ badAt 0 m2 = badAt i (m2.drop i)) (fun i => m2.length - i) 0 ⟨Nat.zero_le _, rfl⟩
            (Le.slots (by simp [leS, mkS])) (fun i hi => W.weak (wpx_ok (own := own0) _ _ _ ?_))
          obtain ⟨k1, k2⟩ := hi
          repeat ((conv => whnf); first | refine Br.t ?_ | refine Br.f ?_ | refine ⟨rfl, ?_⟩)
          conv => whnf
          refine Br.mk (fun h6 => ?_) (fun h6 => ?_)
          · simp at h6
            obtain ⟨v, hvi⟩ : ∃ v, v = m2[i] := ⟨_, rfl⟩
            have e : (m2.map by8).getD (i : Int).toNat [] = by8 v := by rw [hvi]; exact getD_enc h6
            have ed : m2.drop i = v :: m2.drop (i + 1) := by rw [hvi]; exact List.drop_eq_getElem_cons h6
            have et : m2.take (i + 1) = m2.take i ++ [v] := by rw [hvi]; simp
            have hv : v < 256 := hm2.2 v (hvi ▸ List.getElem_mem h6)
            rw [ed, badAt] at k2
            repeat ((conv => whnf); first | refine Br.t ?_ | refine Br.f ?_ | refine ⟨rfl, ?_⟩)
            conv => whnf
            rw [e]
            refine ⟨⟨by omega, by simp; omega, rfl⟩, ?_⟩
            repeat ((conv => whnf); first | refine Br.t ?_ | refine Br.f ?_ | refine ⟨rfl, ?_⟩)
            conv => whnf
            refine Br.mk (fun h7 => ?_) (fun h7 => ?_)
            · simp at h7
              rw [if_pos (by omega)] at k2
              have hg : (getS m2).2.2 = 3 := by unfold getS; rw [if_neg (by omega), k2]
              rw [if_pos (by omega), hg]
              repeat ((conv => whnf); first | refine Br.t ?_ | refine Br.f ?_ | refine ⟨rfl, ?_⟩)
              conv => whnf
              refine ⟨_, Le.refl _ _, ?_⟩
              repeat ((conv => whnf); first | refine Br.t ?_ | refine Br.f ?_ | refine ⟨rfl, ?_⟩)
              conv => whnf
              refine fin (target := []) rfl (Nat.zero_le _) (by simp) ?_ ?_
              · first | rfl | (simp only [List.length_map]; rfl)
              · rfl
            · simp at h7
              rw [if_neg (by omega)] at k2
              repeat ((conv => whnf); first | refine Br.t ?_ | refine Br.f ?_ | refine ⟨rfl, ?_⟩)
              conv => whnf
              refine draw_ok (own := own0) [15, 17] [] [] rfl (by kernel_rfl) (Nat.zero_le _) ?_
              repeat ((conv => whnf); first | refine Br.t ?_ | refine Br.f ?_ | refine ⟨rfl, ?_⟩)
              conv => whnf
              rw [e]
              refine ⟨⟨by omega, by simp; omega, rfl⟩, ?_⟩
              repeat ((conv => whnf); first | refine Br.t ?_ | refine Br.f ?_ | refine ⟨rfl, ?_⟩)
              conv => whnf
              refine ⟨by decide, ?_⟩
              repeat ((conv => whnf); first | refine Br.t ?_ | refine Br.f ?_ | refine ⟨rfl, ?_⟩)
              conv => whnf
              rw [e]
              refine ⟨⟨by omega, by simp; omega, rfl⟩, ?_⟩
              repeat ((conv => whnf); first | refine Br.t ?_ | refine Br.f ?_ | refine ⟨rfl, ?_⟩)
              conv => whnf
              refine ⟨⟨by intro cs hcs; simp at hcs; subst hcs; rfl, by simp [lift]; omega, by show (i + 1) * 16 ≤ _; omega, len_mx (by simp [lift]; omega)⟩, ?_⟩
              repeat ((conv => whnf); first | refine Br.t ?_ | refine Br.f ?_ | refine ⟨rfl, ?_⟩)
              conv => whnf
              refine ⟨by repeat ((conv => whnf); first | exact trivial | refine ⟨rfl, ?_⟩), trivial, ?_⟩
              conv => whnf
              repeat ((conv => whnf); first | refine Br.t ?_ | refine Br.f ?_ | refine ⟨rfl, ?_⟩)
              conv => whnf
              refine ⟨_, Le.refl _ _, i + 1, ⟨by omega, k2⟩, by omega, Le.down (fun id => if id = 4 then 1 else 0) (by intro id hid; simp at hid) ?_ ?_⟩
              · simp [leS, mkS, V.up, lift]
                exact i64_id (by omega) (by omega)
              · simp only [upSt, Ob.up, map_up_lift]
                rw [et, List.map_append, lift_app]
                have e9 : [[I.int .i64 ((IntKind.i64.wrap (v : Int)).tmod 8), .bool (decide ((v : Int) > 7))]] = [v].map fun b => encP (dec b) := by
                  have x1 : (IntKind.i64.wrap (v : Int)).tmod 8 = ((v % 8 : Nat) : Int) := by
                    rw [i64_id (by omega) (by omega), Int.tmod_eq_emod_of_nonneg (by omega)]; omega
                  rw [x1]
                  simp [encP, dec]
                  omega
                rw [← e9]
                rfl
          · simp at h6
            have hin : i = m2.length := by omega
            subst hin
            rw [List.drop_length, badAt] at k2
            have hg0 : (getS m2).2.2 = 0 := (getS_ok m2).2 ⟨hl2, (badAt_none m2 0).1 k2⟩
            have hg := getS_val hg0
            rw [if_neg (by omega), hg, codeW_dec hl2 ha hb7 hc, List.take_length]
            refine ⟨_, Le.data 4 1 2 (m2.map fun b => encP (dec b)) (sl := _) (s := ⟨mkS 112 [(0, .i (.sl (bs.map by8))), (2, .ptr 0 0 0 0), (3, .i (.int .i64 0)), (4, .i (.int .i64 0)), (5, .ptr 1 0 0 0), (8, .i (.sl (m2.map by8))), (9, .ptr 3 0 0 0)], [zb, zb, rdB s6, .row 0 4 false [[.i (.sl (m2.map fun b => encP (dec b))), .i (.int .i64 a), .i (.int .i64 b), .i (.int .i64 c)]], .dead]⟩) rfl ?_ ?_, ?_⟩
            · simp [leS, mkS, V.dat]
            · simp [Ob.dat, zb, rdB, V.dat.datAll, V.dat]
              exact (List.take_of_length_le (by simp [lift])).symm
            · repeat ((conv => whnf); first | refine Br.t ?_ | refine Br.f ?_ | refine ⟨rfl, ?_⟩)
              conv => whnf
              refine Br.mk (fun h8 => ?_) (fun h8 => ?_)
              · have h8 : a = b := by simp at h8; omega
                rw [if_pos h8, if_pos (by simp)]
                repeat ((conv => whnf); first | refine Br.t ?_ | refine Br.f ?_ | refine ⟨rfl, ?_⟩)
                conv => whnf
                refine fin (target := []) rfl (Nat.zero_le _) (by simp) ?_ ?_
                · first | rfl | (simp only [List.length_map]; rfl)
                · rfl
              · have h8 : ¬ a = b := by simp at h8; omega
                rw [if_neg h8, if_neg (by simp)]
                repeat ((conv => whnf); first | refine Br.t ?_ | refine Br.f ?_ | refine ⟨rfl, ?_⟩)
                conv => whnf
                refine fin (target := []) rfl (Nat.zero_le _) (by simp) ?_ ?_
                · simp only [wtV, encW, List.map_map]; rfl
                · rfl
    · have w0 : ¬ s5.why = 0 := by simpa using w0
      have e6 : s5 = s6 := by rw [← hs6]; unfold Rd.done; rw [if_neg (by omega)]
      rw [hs6, e6]
      repeat ((conv => whnf); first | refine Br.t ?_ | refine Br.f ?_ | refine ⟨rfl, ?_⟩)
      conv => whnf
      refine Br.mk (fun h5 => ?_) (fun h5 => ?_)
      · have h5 : s6.why ≠ 0 := by simpa using h5
        rw [if_pos h5]
        repeat ((conv => whnf); first | refine Br.t ?_ | refine Br.f ?_ | refine ⟨rfl, ?_⟩)
        conv => whnf
        refine draw_ok (own := own0) [9] [(1, 12), (2, 12), (3, 12), (4, 12), (5, 12), (6, 12), (7, 12), (8, 12)] [] rfl (by kernel_rfl) (Nat.zero_le _) ?_
        repeat ((conv => whnf); first | refine Br.t ?_ | refine Br.f ?_ | refine ⟨rfl, ?_⟩)
        conv => whnf
        refine ⟨by repeat ((conv => whnf); first | exact trivial | refine ⟨rfl, ?_⟩), by repeat ((conv => whnf); first | exact trivial | refine ⟨by (conv => whnf); first | exact ⟨rfl, rfl⟩ | exact ⟨rfl, rfl, rfl⟩, ?_⟩), ?_⟩
        repeat ((conv => whnf); first | refine Br.t ?_ | refine Br.f ?_ | refine ⟨rfl, ?_⟩)
        conv => whnf
        refine fin (target := []) rfl (Nat.zero_le _) (by simp) ?_ ?_
        · rfl
        · rfl
      · have h5 : ¬ s6.why ≠ 0 := by simpa using h5
        rw [if_neg h5]
        repeat ((conv => whnf); first | refine Br.t ?_ | refine Br.f ?_ | refine ⟨rfl, ?_⟩)
        conv => whnf
        refine W.le (Le.nilCell 3 0 0 2 rfl rfl rfl) ?_
        refine loop_ok (α := Nat) (fun i => ⟨mkS 112 [(0, .i (.sl (bs.map by8))), (2, .ptr 0 0 0 0), (3, .i (.int .i64 0)), (4, .i (.int .i64 0)), (5, .ptr 1 0 0 0), (8, .i (.sl (m2.map by8))), (9, .ptr 3 0 0 0), (10, .i (.int .i64 i))], [zb, zb, rdB s6, .row 0 4 false [[.ref 4 1 0 i, .i (.int .i64 a), .i (.int .i64 b), .i (.int .i64 c)]], .row 1 2 false (lift ((m2.take i).map fun b => encP (dec b)))]⟩)
          (fun i => i ≤ m2.length ∧ badAt 0 m2 = badAt i (m2.drop i)) (fun i => m2.length - i) 0 ⟨Nat.zero_le _, rfl⟩
          (Le.slots (by simp [leS, mkS])) (fun i hi => W.weak (wpx_ok (own := own0) _ _ _ ?_))
        obtain ⟨k1, k2⟩ := hi
        repeat ((conv => whnf); first | refine Br.t ?_ | refine Br.f ?_ | refine ⟨rfl, ?_⟩)
        conv => whnf
        refine Br.mk (fun h6 => ?_) (fun h6 => ?_)
        · simp at h6
          obtain ⟨v, hvi⟩ : ∃ v, v = m2[i] := ⟨_, rfl⟩
          have e : (m2.map by8).getD (i : Int).toNat [] = by8 v := by rw [hvi]; exact getD_enc h6
          have ed : m2.drop i = v :: m2.drop (i + 1) := by rw [hvi]; exact List.drop_eq_getElem_cons h6
          have et : m2.take (i + 1) = m2.take i ++ [v] := by rw [hvi]; simp
          have hv : v < 256 := hm2.2 v (hvi ▸ List.getElem_mem h6)
          rw [ed, badAt] at k2
          repeat ((conv => whnf); first | refine Br.t ?_ | refine Br.f ?_ | refine ⟨rfl, ?_⟩)
          conv => whnf
          rw [e]
          refine ⟨⟨by omega, by simp; omega, rfl⟩, ?_⟩
          repeat ((conv => whnf); first | refine Br.t ?_ | refine Br.f ?_ | refine ⟨rfl, ?_⟩)
          conv => whnf
          refine Br.mk (fun h7 => ?_) (fun h7 => ?_)
          · simp at h7
            rw [if_pos (by omega)] at k2
            have hg : (getS m2).2.2 = 3 := by unfold getS; rw [if_neg (by omega), k2]
            rw [if_pos (by omega), hg]
            repeat ((conv => whnf); first | refine Br.t ?_ | refine Br.f ?_ | refine ⟨rfl, ?_⟩)
            conv => whnf
            refine ⟨_, Le.refl _ _, ?_⟩
            repeat ((conv => whnf); first | refine Br.t ?_ | refine Br.f ?_ | refine ⟨rfl, ?_⟩)
            conv => whnf
            refine fin (target := []) rfl (Nat.zero_le _) (by simp) ?_ ?_
            · first | rfl | (simp only [List.length_map]; rfl)
            · rfl
          · simp at h7
            rw [if_neg (by omega)] at k2
            repeat ((conv => whnf); first | refine Br.t ?_ | refine Br.f ?_ | refine ⟨rfl, ?_⟩)
            conv => whnf
            refine draw_ok (own := own0) [15, 17] [] [] rfl (by kernel_rfl) (Nat.zero_le _) ?_
            repeat ((conv => whnf); first | refine Br.t ?_ | refine Br.f ?_ | refine ⟨rfl, ?_⟩)
            conv => whnf
            rw [e]
            refine ⟨⟨by omega, by simp; omega, rfl⟩, ?_⟩
            repeat ((conv => whnf); first | refine Br.t ?_ | refine Br.f ?_ | refine ⟨rfl, ?_⟩)
            conv => whnf
            refine ⟨by decide, ?_⟩
            repeat ((conv => whnf); first | refine Br.t ?_ | refine Br.f ?_ | refine ⟨rfl, ?_⟩)
            conv => whnf
            rw [e]
            refine ⟨⟨by omega, by simp; omega, rfl⟩, ?_⟩
            repeat ((conv => whnf); first | refine Br.t ?_ | refine Br.f ?_ | refine ⟨rfl, ?_⟩)
            conv => whnf
            refine ⟨⟨by intro cs hcs; simp at hcs; subst hcs; rfl, by simp [lift]; omega, by show (i + 1) * 16 ≤ _; omega, len_mx (by simp [lift]; omega)⟩, ?_⟩
            repeat ((conv => whnf); first | refine Br.t ?_ | refine Br.f ?_ | refine ⟨rfl, ?_⟩)
            conv => whnf
            refine ⟨by repeat ((conv => whnf); first | exact trivial | refine ⟨rfl, ?_⟩), trivial, ?_⟩
            conv => whnf
            repeat ((conv => whnf); first | refine Br.t ?_ | refine Br.f ?_ | refine ⟨rfl, ?_⟩)
            conv => whnf
            refine ⟨_, Le.refl _ _, i + 1, ⟨by omega, k2⟩, by omega, Le.down (fun id => if id = 4 then 1 else 0) (by intro id hid; simp at hid) ?_ ?_⟩
            · simp [leS, mkS, V.up, lift]
              exact i64_id (by omega) (by omega)
            · simp only [upSt, Ob.up, map_up_lift]
              rw [et, List.map_append, lift_app]
              have e9 : [[I.int .i64 ((IntKind.i64.wrap (v : Int)).tmod 8), .bool (decide ((v : Int) > 7))]] = [v].map fun b => encP (dec b) := by
                have x1 : (IntKind.i64.wrap (v : Int)).tmod 8 = ((v % 8 : Nat) : Int) := by
                  rw [i64_id (by omega) (by omega), Int.tmod_eq_emod_of_nonneg (by omega)]; omega
                rw [x1]
                simp [encP, dec]
                omega
              rw [← e9]
              rfl
        · simp at h6
          have hin : i = m2.length := by omega
          subst hin
          rw [List.drop_length, badAt] at k2
          have hg0 : (getS m2).2.2 = 0 := (getS_ok m2).2 ⟨hl2, (badAt_none m2 0).1 k2⟩
          have hg := getS_val hg0
          rw [if_neg (by omega), hg, codeW_dec hl2 ha hb7 hc, List.take_length]
          refine ⟨_, Le.data 4 1 2 (m2.map fun b => encP (dec b)) (sl := _) (s := ⟨mkS 112 [(0, .i (.sl (bs.map by8))), (2, .ptr 0 0 0 0), (3, .i (.int .i64 0)), (4, .i (.int .i64 0)), (5, .ptr 1 0 0 0), (8, .i (.sl (m2.map by8))), (9, .ptr 3 0 0 0)], [zb, zb, rdB s6, .row 0 4 false [[.i (.sl (m2.map fun b => encP (dec b))), .i (.int .i64 a), .i (.int .i64 b), .i (.int .i64 c)]], .dead]⟩) rfl ?_ ?_, ?_⟩
          · simp [leS, mkS, V.dat]
          · simp [Ob.dat, zb, rdB, V.dat.datAll, V.dat]
            exact (List.take_of_length_le (by simp [lift])).symm
          · repeat ((conv => whnf); first | refine Br.t ?_ | refine Br.f ?_ | refine ⟨rfl, ?_⟩)
            conv => whnf
            refine Br.mk (fun h8 => ?_) (fun h8 => ?_)
            · have h8 : a = b := by simp at h8; omega
              rw [if_pos h8, if_pos (by simp)]
              repeat ((conv => whnf); first | refine Br.t ?_ | refine Br.f ?_ | refine ⟨rfl, ?_⟩)
              conv => whnf
              refine fin (target := []) rfl (Nat.zero_le _) (by simp) ?_ ?_
              · first | rfl | (simp only [List.length_map]; rfl)
              · rfl
            · have h8 : ¬ a = b := by simp at h8; omega
              rw [if_neg h8, if_neg (by simp)]
              repeat ((conv => whnf); first | refine Br.t ?_ | refine Br.f ?_ | refine ⟨rfl, ?_⟩)
              conv => whnf
              refine fin (target := []) rfl (Nat.zero_le _) (by simp) ?_ ?_
              · simp only [wtV, encW, List.map_map]; rfl
              · rfl
end Go.Proofs.Ytdbmfnhbgacldaa.Am
