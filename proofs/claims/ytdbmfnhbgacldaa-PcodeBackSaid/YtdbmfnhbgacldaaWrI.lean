/- Contracts: a witness read. -/
import Derived.Test.YtdbmfnhbgacldaaWrH
namespace Go.Proofs.Ytdbmfnhbgacldaa.Am
set_option autoImplicit false
set_option linter.unusedVariables false
set_option linter.unusedSimpArgs false
set_option maxRecDepth 10000
set_option pp.deepTerms false
set_option pp.deepTerms.threshold 6
set_option pp.proofs false
def strOf (m : List Nat) : ByteArray := ⟨((lift (m.map by8)).map byteOf).toArray⟩
def alw1 : ByteArray := ⟨#[97, 108, 119, 49]⟩
structure Wt where
  xs : List (Int × Bool)
  a : Int
  b : Int
  c : Int
def Wt.zero : Wt := ⟨[], 0, 0, 0⟩
def tailW (bs : List Nat) (s1 : Rd) : Wt × Nat × Int :=
  let r2 := s1.block 4096
  let r3 := r2.2.num 7
  let r4 := r3.2.num 7
  let r5 := r4.2.num 15
  if r5.2.done.why ≠ 0 then (Wt.zero, r5.2.done.a, r5.2.done.why) else
  if (getS r2.1).2.2 ≠ 0 then (Wt.zero, bs.length, (getS r2.1).2.2) else
  if codeW (getS r2.1).1 r3.1 r4.1 r5.1 ≠ 0 then (Wt.zero, bs.length, codeW (getS r2.1).1 r3.1 r4.1 r5.1) else (⟨(getS r2.1).1, r3.1, r4.1, r5.1⟩, 0, 0)
def readW (bs : List Nat) : Wt × Nat × Int :=
  let r1 := Rd.raw ⟨bs, 0, 0, 0⟩ 4
  if r1.2.why = 0 ∧ strOf r1.1 ≠ alw1 then (Wt.zero, 0, 3) else tailW bs r1.2
theorem getS_len {bs : List Nat} {ps : List (Int × Bool)} {i w : Nat} (h : getS bs = (ps, i, w)) (hl : bs.length ≤ 1000000) : ps.length ≤ 1000000 := by
  unfold getS at h
  split at h
  · cases h; simp
  · split at h
    · cases h; simp
    · cases h; simpa using hl
theorem raw_bytes {s : Rd} (h : s.ok) (n : Int) : (s.raw n).1.length ≤ 1000000 ∧ ∀ b ∈ (s.raw n).1, b < 256 := by
  unfold Rd.raw
  split
  · simp
  · split
    · simp
    · split
      · simp
      · obtain ⟨k1, k2, k3⟩ := h
        refine ⟨by simp; omega, fun b hb => k3 b (List.mem_of_mem_drop (List.mem_of_mem_take hb))⟩
def wtV (w : Wt) : V := .agg ((encW w.xs w.a w.b w.c).map .i)
set_option maxHeartbeats 2000000 in
theorem read19 (bs : List Nat) (hl : bs.length ≤ 1000000) (hb : ∀ b ∈ bs, b < 256) : CallW Try.prog G0 19 [.i (.sl (bs.map by8))] [] (fun r st' => r = .tup [wtV (readW bs).1, .agg [.i (.int .i64 (readW bs).2.1), .i (.int .i64 (readW bs).2.2)]] ∧ st' = []) := by
  refine call_of_bodyF 0 (Nat.le_refl _) Try.func19 rfl (fun a w => Try.call19 a w) (wpx_ok (own := own0) _ _ _ ?_)
  have ok0 : Rd.ok ⟨bs, 0, 0, 0⟩ := ⟨hl, Nat.zero_le _, hb⟩
  repeat ((conv => whnf); first | refine Br.t ?_ | refine Br.f ?_ | refine ⟨rfl, ?_⟩)
  conv => whnf
  refine CallW.mono (CallW.fresh _ (new33 bs hl) rfl) ?_
  rintro r st' ⟨rfl, rfl⟩
  repeat ((conv => whnf); first | refine Br.t ?_ | refine Br.f ?_ | refine ⟨rfl, ?_⟩)
  conv => whnf
  have h1 := raw34 ⟨bs, 0, 0, 0⟩ ok0 4
  refine CallW.mono (atR [_, _, _] [] h1 rfl rfl) ?_
  rintro r st' ⟨rfl, rfl⟩
  have ok1 := raw_ok ok0 4
  obtain ⟨m1, s1, e1⟩ : ∃ m s, Rd.raw ⟨bs, 0, 0, 0⟩ 4 = (m, s) := ⟨_, _, rfl⟩
  rw [e1] at ok1 ⊢
  simp only at ok1 ⊢
  repeat ((conv => whnf); first | refine Br.t ?_ | refine Br.f ?_ | refine ⟨rfl, ?_⟩)
  conv => whnf
  refine CallW.mono (atR [_, _, _] [] (fault35 s1) rfl rfl) ?_
  rintro r st' ⟨rfl, rfl⟩
  repeat ((conv => whnf); first | refine Br.t ?_ | refine Br.f ?_ | refine ⟨rfl, ?_⟩)
  conv => whnf
  have hread : readW bs = if s1.why = 0 ∧ strOf m1 ≠ alw1 then (Wt.zero, 0, 3) else tailW bs s1 := by unfold readW; rw [e1]
  rw [hread]
  refine Br.mk (fun h2 => ?_) (fun h2 => ?_)
  · simp at h2
    repeat ((conv => whnf); first | refine Br.t ?_ | refine Br.f ?_ | refine ⟨rfl, ?_⟩)
    conv => whnf
    refine ⟨isB_ok (isB_map m1), ?_⟩
    repeat ((conv => whnf); first | refine Br.t ?_ | refine Br.f ?_ | refine ⟨rfl, ?_⟩)
    conv => whnf
    refine Br.mk (fun h3 => ?_) (fun h3 => ?_)
    · have h3 : strOf m1 ≠ alw1 := by simpa [strOf, alw1] using h3
      rw [if_pos ⟨h2, h3⟩]
      repeat ((conv => whnf); first | refine Br.t ?_ | refine Br.f ?_ | refine ⟨rfl, ?_⟩)
      conv => whnf
      refine ⟨⟨rfl, rfl⟩, ?_⟩
      conv => whnf
      refine fin (target := []) rfl (Nat.zero_le _) (by simp) ?_ ?_
      · rfl
      · rfl
    · have h3 : ¬ strOf m1 ≠ alw1 := by simpa [strOf, alw1] using h3
      rw [if_neg (fun h => h3 h.2)]
      repeat ((conv => whnf); first | refine Br.t ?_ | refine Br.f ?_ | refine ⟨rfl, ?_⟩)
      conv => whnf
      refine CallW.mono (atR [_, _, _] [] (block36 s1 ok1 4096) rfl rfl) ?_
      rintro r st' ⟨rfl, rfl⟩
      have ok2 : (s1.block 4096).2.ok := raw_ok (num_ok ok1 4096) _
      have hm2 : (s1.block 4096).1.length ≤ 1000000 ∧ ∀ b ∈ (s1.block 4096).1, b < 256 := raw_bytes (num_ok ok1 4096) _
      obtain ⟨m2, s2, e2⟩ : ∃ m s, s1.block 4096 = (m, s) := ⟨_, _, rfl⟩
      rw [e2] at ok2 hm2 ⊢
      simp only at ok2 hm2 ⊢
      repeat ((conv => whnf); first | refine Br.t ?_ | refine Br.f ?_ | refine ⟨rfl, ?_⟩)
      conv => whnf
      refine CallW.mono (atR [_, _, _] [] (num37 s2 ok2 7) rfl rfl) ?_
      rintro r st' ⟨rfl, rfl⟩
      have ok3 := num_ok ok2 7
      obtain ⟨a, s3, e3⟩ : ∃ m s, s2.num 7 = (m, s) := ⟨_, _, rfl⟩
      rw [e3] at ok3 ⊢
      simp only at ok3 ⊢
      repeat ((conv => whnf); first | refine Br.t ?_ | refine Br.f ?_ | refine ⟨rfl, ?_⟩)
      conv => whnf
      refine CallW.mono (atR [_, _, _] [] (num37 s3 ok3 7) rfl rfl) ?_
      rintro r st' ⟨rfl, rfl⟩
      have ok4 := num_ok ok3 7
      obtain ⟨b, s4, e4⟩ : ∃ m s, s3.num 7 = (m, s) := ⟨_, _, rfl⟩
      rw [e4] at ok4 ⊢
      simp only at ok4 ⊢
      repeat ((conv => whnf); first | refine Br.t ?_ | refine Br.f ?_ | refine ⟨rfl, ?_⟩)
      conv => whnf
      refine CallW.mono (atR [_, _, _] [] (num37 s4 ok4 15) rfl rfl) ?_
      rintro r st' ⟨rfl, rfl⟩
      have ok5 := num_ok ok4 15
      obtain ⟨c, s5, e5⟩ : ∃ m s, s4.num 15 = (m, s) := ⟨_, _, rfl⟩
      rw [e5] at ok5 ⊢
      simp only at ok5 ⊢
      repeat ((conv => whnf); first | refine Br.t ?_ | refine Br.f ?_ | refine ⟨rfl, ?_⟩)
      conv => whnf
      refine CallW.mono (atR [_, _, _] [_] (done38 s5 ok5) rfl rfl) ?_
      rintro r st' ⟨rfl, rfl⟩
      have ht : tailW bs s1 = if s5.done.why ≠ 0 then ((Wt.zero, s5.done.a, (s5.done.why : Int)) : Wt × Nat × Int) else
        if (getS m2).2.2 ≠ 0 then (Wt.zero, bs.length, ((getS m2).2.2 : Int)) else
        if codeW (getS m2).1 a b c ≠ 0 then (Wt.zero, bs.length, codeW (getS m2).1 a b c) else (⟨(getS m2).1, a, b, c⟩, 0, 0) := by
        unfold tailW; simp only [e2, e3, e4, e5]
      rw [ht]
      repeat ((conv => whnf); first | refine Br.t ?_ | refine Br.f ?_ | refine ⟨rfl, ?_⟩)
      conv => whnf
      refine Br.mk (fun h5 => ?_) (fun h5 => ?_)
      · have h5 : s5.done.why ≠ 0 := by simpa using h5
        rw [if_pos h5]
        repeat ((conv => whnf); first | refine Br.t ?_ | refine Br.f ?_ | refine ⟨rfl, ?_⟩)
        conv => whnf
        refine CallW.mono (atR [_, _, _] [_] (fault35 s5.done) rfl rfl) ?_
        rintro r st' ⟨rfl, rfl⟩
        repeat ((conv => whnf); first | refine Br.t ?_ | refine Br.f ?_ | refine ⟨rfl, ?_⟩)
        conv => whnf
        refine ⟨⟨rfl, rfl⟩, ?_⟩
        conv => whnf
        refine fin (target := []) rfl (Nat.zero_le _) (by simp) ?_ ?_
        · rfl
        · rfl
      · have h5 : ¬ s5.done.why ≠ 0 := by simpa using h5
        rw [if_neg h5]
        repeat ((conv => whnf); first | refine Br.t ?_ | refine Br.f ?_ | refine ⟨rfl, ?_⟩)
        conv => whnf
        refine CallW.mono ((get39 m2 hm2.1 hm2.2).pure _ rfl rfl) ?_
        rintro r st' ⟨rfl, rfl⟩
        obtain ⟨ps, at', w', eg⟩ : ∃ p a w, getS m2 = (p, a, w) := ⟨_, _, _, rfl⟩
        rw [eg]
        simp only
        repeat ((conv => whnf); first | refine Br.t ?_ | refine Br.f ?_ | refine ⟨rfl, ?_⟩)
        conv => whnf
        refine Br.mk (fun h6 => ?_) (fun h6 => ?_)
        · have h6 : w' ≠ 0 := by simpa using h6
          rw [if_pos h6]
          repeat ((conv => whnf); first | refine Br.t ?_ | refine Br.f ?_ | refine ⟨rfl, ?_⟩)
          conv => whnf
          refine draw_ok (own := own0) [6, 7] [(1, 7), (2, 7), (3, 7), (4, 7), (5, 7)] [] rfl (by kernel_rfl) (Nat.zero_le _) ?_
          repeat ((conv => whnf); first | refine Br.t ?_ | refine Br.f ?_ | refine ⟨rfl, ?_⟩)
          conv => whnf
          refine ⟨by repeat ((conv => whnf); first | exact trivial | refine ⟨rfl, ?_⟩), by repeat ((conv => whnf); first | exact trivial | refine ⟨by (conv => whnf); first | exact ⟨rfl, rfl⟩ | exact ⟨rfl, rfl, rfl⟩, ?_⟩), ?_⟩
          repeat ((conv => whnf); first | refine Br.t ?_ | refine Br.f ?_ | refine ⟨rfl, ?_⟩)
          conv => whnf
          refine ⟨⟨rfl, rfl⟩, ?_⟩
          conv => whnf
          refine fin (target := []) rfl (Nat.zero_le _) (by simp) ?_ ?_
          · first | rfl | (simp only [List.length_map]; rfl)
          · rfl
        · have h6 : ¬ w' ≠ 0 := by simpa using h6
          rw [if_neg h6]
          repeat ((conv => whnf); first | refine Br.t ?_ | refine Br.f ?_ | refine ⟨rfl, ?_⟩)
          conv => whnf
          refine CallW.mono ((check13 ps a b c (getS_len eg hm2.1)).pure _ rfl rfl) ?_
          rintro r st' ⟨rfl, rfl⟩
          repeat ((conv => whnf); first | refine Br.t ?_ | refine Br.f ?_ | refine ⟨rfl, ?_⟩)
          conv => whnf
          refine Br.mk (fun h7 => ?_) (fun h7 => ?_)
          · have h7 : codeW ps a b c ≠ 0 := by simpa using h7
            rw [if_pos h7]
            repeat ((conv => whnf); first | refine Br.t ?_ | refine Br.f ?_ | refine ⟨rfl, ?_⟩)
            conv => whnf
            refine ⟨⟨rfl, rfl⟩, ?_⟩
            conv => whnf
            refine fin (target := []) rfl (Nat.zero_le _) (by simp) ?_ ?_
            · first | rfl | (simp only [List.length_map]; rfl)
            · rfl
          · have h7 : ¬ codeW ps a b c ≠ 0 := by simpa using h7
            rw [if_neg h7]
            repeat ((conv => whnf); first | refine Br.t ?_ | refine Br.f ?_ | refine ⟨rfl, ?_⟩)
            conv => whnf
            refine ⟨⟨rfl, rfl⟩, ?_⟩
            conv => whnf
            refine fin (target := []) rfl (Nat.zero_le _) (by simp) ?_ ?_
            · first | rfl | (simp only [List.length_map]; rfl)
            · rfl
  · simp at h2
    rw [if_neg (fun h => h2 h.1)]
    repeat ((conv => whnf); first | refine Br.t ?_ | refine Br.f ?_ | refine ⟨rfl, ?_⟩)
    conv => whnf
    refine CallW.mono (atR [_, _, _] [] (block36 s1 ok1 4096) rfl rfl) ?_
    rintro r st' ⟨rfl, rfl⟩
    have ok2 : (s1.block 4096).2.ok := raw_ok (num_ok ok1 4096) _
    have hm2 : (s1.block 4096).1.length ≤ 1000000 ∧ ∀ b ∈ (s1.block 4096).1, b < 256 := raw_bytes (num_ok ok1 4096) _
    obtain ⟨m2, s2, e2⟩ : ∃ m s, s1.block 4096 = (m, s) := ⟨_, _, rfl⟩
    rw [e2] at ok2 hm2 ⊢
    simp only at ok2 hm2 ⊢
    repeat ((conv => whnf); first | refine Br.t ?_ | refine Br.f ?_ | refine ⟨rfl, ?_⟩)
    conv => whnf
    refine CallW.mono (atR [_, _, _] [] (num37 s2 ok2 7) rfl rfl) ?_
    rintro r st' ⟨rfl, rfl⟩
    have ok3 := num_ok ok2 7
    obtain ⟨a, s3, e3⟩ : ∃ m s, s2.num 7 = (m, s) := ⟨_, _, rfl⟩
    rw [e3] at ok3 ⊢
    simp only at ok3 ⊢
    repeat ((conv => whnf); first | refine Br.t ?_ | refine Br.f ?_ | refine ⟨rfl, ?_⟩)
    conv => whnf
    refine CallW.mono (atR [_, _, _] [] (num37 s3 ok3 7) rfl rfl) ?_
    rintro r st' ⟨rfl, rfl⟩
    have ok4 := num_ok ok3 7
    obtain ⟨b, s4, e4⟩ : ∃ m s, s3.num 7 = (m, s) := ⟨_, _, rfl⟩
    rw [e4] at ok4 ⊢
    simp only at ok4 ⊢
    repeat ((conv => whnf); first | refine Br.t ?_ | refine Br.f ?_ | refine ⟨rfl, ?_⟩)
    conv => whnf
    refine CallW.mono (atR [_, _, _] [] (num37 s4 ok4 15) rfl rfl) ?_
    rintro r st' ⟨rfl, rfl⟩
    have ok5 := num_ok ok4 15
    obtain ⟨c, s5, e5⟩ : ∃ m s, s4.num 15 = (m, s) := ⟨_, _, rfl⟩
    rw [e5] at ok5 ⊢
    simp only at ok5 ⊢
    repeat ((conv => whnf); first | refine Br.t ?_ | refine Br.f ?_ | refine ⟨rfl, ?_⟩)
    conv => whnf
    refine CallW.mono (atR [_, _, _] [_] (done38 s5 ok5) rfl rfl) ?_
    rintro r st' ⟨rfl, rfl⟩
    have ht : tailW bs s1 = if s5.done.why ≠ 0 then ((Wt.zero, s5.done.a, (s5.done.why : Int)) : Wt × Nat × Int) else
      if (getS m2).2.2 ≠ 0 then (Wt.zero, bs.length, ((getS m2).2.2 : Int)) else
      if codeW (getS m2).1 a b c ≠ 0 then (Wt.zero, bs.length, codeW (getS m2).1 a b c) else (⟨(getS m2).1, a, b, c⟩, 0, 0) := by
      unfold tailW; simp only [e2, e3, e4, e5]
    rw [ht]
    repeat ((conv => whnf); first | refine Br.t ?_ | refine Br.f ?_ | refine ⟨rfl, ?_⟩)
    conv => whnf
    refine Br.mk (fun h5 => ?_) (fun h5 => ?_)
    · have h5 : s5.done.why ≠ 0 := by simpa using h5
      rw [if_pos h5]
      repeat ((conv => whnf); first | refine Br.t ?_ | refine Br.f ?_ | refine ⟨rfl, ?_⟩)
      conv => whnf
      refine CallW.mono (atR [_, _, _] [_] (fault35 s5.done) rfl rfl) ?_
      rintro r st' ⟨rfl, rfl⟩
      repeat ((conv => whnf); first | refine Br.t ?_ | refine Br.f ?_ | refine ⟨rfl, ?_⟩)
      conv => whnf
      refine ⟨⟨rfl, rfl⟩, ?_⟩
      conv => whnf
      refine fin (target := []) rfl (Nat.zero_le _) (by simp) ?_ ?_
      · rfl
      · rfl
    · have h5 : ¬ s5.done.why ≠ 0 := by simpa using h5
      rw [if_neg h5]
      repeat ((conv => whnf); first | refine Br.t ?_ | refine Br.f ?_ | refine ⟨rfl, ?_⟩)
      conv => whnf
      refine CallW.mono ((get39 m2 hm2.1 hm2.2).pure _ rfl rfl) ?_
      rintro r st' ⟨rfl, rfl⟩
      obtain ⟨ps, at', w', eg⟩ : ∃ p a w, getS m2 = (p, a, w) := ⟨_, _, _, rfl⟩
      rw [eg]
      simp only
      repeat ((conv => whnf); first | refine Br.t ?_ | refine Br.f ?_ | refine ⟨rfl, ?_⟩)
      conv => whnf
      refine Br.mk (fun h6 => ?_) (fun h6 => ?_)
      · have h6 : w' ≠ 0 := by simpa using h6
        rw [if_pos h6]
        repeat ((conv => whnf); first | refine Br.t ?_ | refine Br.f ?_ | refine ⟨rfl, ?_⟩)
        conv => whnf
        refine draw_ok (own := own0) [6, 7] [(1, 7), (2, 7), (3, 7), (4, 7), (5, 7)] [] rfl (by kernel_rfl) (Nat.zero_le _) ?_
        repeat ((conv => whnf); first | refine Br.t ?_ | refine Br.f ?_ | refine ⟨rfl, ?_⟩)
        conv => whnf
        refine ⟨by repeat ((conv => whnf); first | exact trivial | refine ⟨rfl, ?_⟩), by repeat ((conv => whnf); first | exact trivial | refine ⟨by (conv => whnf); first | exact ⟨rfl, rfl⟩ | exact ⟨rfl, rfl, rfl⟩, ?_⟩), ?_⟩
        repeat ((conv => whnf); first | refine Br.t ?_ | refine Br.f ?_ | refine ⟨rfl, ?_⟩)
        conv => whnf
        refine ⟨⟨rfl, rfl⟩, ?_⟩
        conv => whnf
        refine fin (target := []) rfl (Nat.zero_le _) (by simp) ?_ ?_
        · first | rfl | (simp only [List.length_map]; rfl)
        · rfl
      · have h6 : ¬ w' ≠ 0 := by simpa using h6
        rw [if_neg h6]
        repeat ((conv => whnf); first | refine Br.t ?_ | refine Br.f ?_ | refine ⟨rfl, ?_⟩)
        conv => whnf
        refine CallW.mono ((check13 ps a b c (getS_len eg hm2.1)).pure _ rfl rfl) ?_
        rintro r st' ⟨rfl, rfl⟩
        repeat ((conv => whnf); first | refine Br.t ?_ | refine Br.f ?_ | refine ⟨rfl, ?_⟩)
        conv => whnf
        refine Br.mk (fun h7 => ?_) (fun h7 => ?_)
        · have h7 : codeW ps a b c ≠ 0 := by simpa using h7
          rw [if_pos h7]
          repeat ((conv => whnf); first | refine Br.t ?_ | refine Br.f ?_ | refine ⟨rfl, ?_⟩)
          conv => whnf
          refine ⟨⟨rfl, rfl⟩, ?_⟩
          conv => whnf
          refine fin (target := []) rfl (Nat.zero_le _) (by simp) ?_ ?_
          · first | rfl | (simp only [List.length_map]; rfl)
          · rfl
        · have h7 : ¬ codeW ps a b c ≠ 0 := by simpa using h7
          rw [if_neg h7]
          repeat ((conv => whnf); first | refine Br.t ?_ | refine Br.f ?_ | refine ⟨rfl, ?_⟩)
          conv => whnf
          refine ⟨⟨rfl, rfl⟩, ?_⟩
          conv => whnf
          refine fin (target := []) rfl (Nat.zero_le _) (by simp) ?_ ?_
          · first | rfl | (simp only [List.length_map]; rfl)
          · rfl
end Go.Proofs.Ytdbmfnhbgacldaa.Am
