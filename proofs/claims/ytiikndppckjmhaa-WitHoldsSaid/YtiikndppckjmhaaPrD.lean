/- Contracts: what is wrong with a program first. -/
import Derived.Test.YtiikndppckjmhaaPrC
namespace Go.Proofs.Ytiikndppckjmhaa.Am
set_option autoImplicit false
set_option linter.unusedVariables false
set_option linter.unusedSimpArgs false
set_option maxRecDepth 10000
set_option pp.maxSteps 20000
set_option pp.proofs false
def badN (p : Pg) (z : Int) : Nat → List Nd → Option Nat
  | _, [] => none
  | i, n :: r => if mayF p n z = true then badN p z (i + 1) r else some i
def chkF (p : Pg) : Nat → List (List Nd) → Option (Int × Int × Int)
  | _, [] => none
  | f, L :: r => if L.length = 0 then some ((f : Int), -1, 1) else if 64 < L.length then some ((f : Int), -1, 4) else match badN p L.length 0 L with
    | some i => some ((f : Int), (i : Int), 3)
    | none => chkF p (f + 1) r
def chk (p : Pg) : Int × Int × Int :=
  if p.g < 0 ∨ p.l < 0 ∨ p.s < 0 ∨ p.fs.length = 0 then (-1, -1, 1) else if p.g > 16 ∨ p.l > 16 ∨ p.s > 8 ∨ p.fs.length > 16 then (-1, -1, 4) else
  match chkF p 0 p.fs with
  | some r => r
  | none => match rndF p 0 p.fs with
    | some (f, i) => ((f : Int), (i : Int), 8)
    | none => (0, 0, 0)
def tri (r : Int × Int × Int) : V := .tup [.i (.int .i64 r.1), .i (.int .i64 r.2.1), .i (.int .i64 r.2.2)]
theorem badN_none {p : Pg} {z : Int} : ∀ {i : Nat} {l : List Nd}, badN p z i l = none → ∀ n ∈ l, mayF p n z = true
  | i, [], _ => by simp
  | i, n :: r, h => by
    rw [badN] at h
    split at h
    · intro m hm
      simp only [List.mem_cons] at hm
      rcases hm with rfl | hm
      · assumption
      · exact badN_none h m hm
    · cases h
theorem chkF_none {p : Pg} : ∀ {f : Nat} {l : List (List Nd)}, chkF p f l = none → ∀ L ∈ l, 0 < L.length ∧ L.length ≤ 64 ∧ ∀ n ∈ L, mayF p n L.length = true
  | f, [], _ => by simp
  | f, L :: r, h => by
    rw [chkF] at h
    split at h
    · cases h
    · split at h
      · cases h
      · split at h
        · cases h
        · rename_i h1 h2 h3
          intro m hm
          simp only [List.mem_cons] at hm
          rcases hm with rfl | hm
          · exact ⟨by omega, by omega, badN_none h3⟩
          · exact chkF_none h m hm
theorem may_call {p : Pg} {n : Nd} {z : Int} (h : mayF p n z = true) (h7 : n.1 = 7) : 0 ≤ n.2.1 ∧ n.2.1 < p.fs.length := by
  unfold mayF fieldsF at h
  simp [h7, inB, mx1] at h
  obtain ⟨⟨⟨h1, h2, h3⟩, h4⟩, h5⟩ := h
  refine ⟨h2, ?_⟩
  split at h3
  · omega
  · exact h3
theorem calls_ok {p : Pg} (h : chkF p 0 p.fs = none) : Calls0 p := fun f hf n hn h7 => may_call ((chkF_none h f hf).2.2 n hn) h7
def okPg (p : Pg) : Prop := p.fs.length ≤ 9223372036854775807 ∧ ∀ f ∈ p.fs, f.length ≤ 9223372036854775807
set_option maxHeartbeats 2000000 in
theorem check31 (p : Pg) (hp : okPg p) : CallW Try.prog G0 69 [pgV p] [] (fun r st' => r = tri (chk p) ∧ st' = []) := by
  refine call_of_bodyF 0 (Nat.le_refl _) Try.func69 rfl (fun a w => Try.call69 a w) (wpx_ok (own := own0) _ _ _ ?_)
  obtain ⟨hl, hw⟩ := hp
  repeat ((conv => whnf); first | refine Br.t ?_ | refine Br.f ?_ | refine ⟨rfl, ?_⟩)
  conv => whnf
  refine Br.mk (fun h => ?_) (fun b1 => ?_)
  · simp at h
    have e1 : chk p = (-1, -1, 1) := by unfold chk; rw [if_pos (by omega)]
    rw [e1]
    repeat ((conv => whnf); first | refine Br.t ?_ | refine Br.f ?_ | refine ⟨rfl, ?_⟩)
    conv => whnf
    refine fin (target := []) rfl (Nat.zero_le _) (by simp) rfl rfl
  · simp at b1
    repeat ((conv => whnf); first | refine Br.t ?_ | refine Br.f ?_ | refine ⟨rfl, ?_⟩)
    conv => whnf
    refine Br.mk (fun h => ?_) (fun b2 => ?_)
    · simp at h
      have e1 : chk p = (-1, -1, 1) := by unfold chk; rw [if_pos (by omega)]
      rw [e1]
      repeat ((conv => whnf); first | refine Br.t ?_ | refine Br.f ?_ | refine ⟨rfl, ?_⟩)
      conv => whnf
      refine fin (target := []) rfl (Nat.zero_le _) (by simp) rfl rfl
    · simp at b2
      repeat ((conv => whnf); first | refine Br.t ?_ | refine Br.f ?_ | refine ⟨rfl, ?_⟩)
      conv => whnf
      refine Br.mk (fun h => ?_) (fun b3 => ?_)
      · simp at h
        have e1 : chk p = (-1, -1, 1) := by unfold chk; rw [if_pos (by omega)]
        rw [e1]
        repeat ((conv => whnf); first | refine Br.t ?_ | refine Br.f ?_ | refine ⟨rfl, ?_⟩)
        conv => whnf
        refine fin (target := []) rfl (Nat.zero_le _) (by simp) rfl rfl
      · simp at b3
        repeat ((conv => whnf); first | refine Br.t ?_ | refine Br.f ?_ | refine ⟨rfl, ?_⟩)
        conv => whnf
        refine Br.mk (fun h => ?_) (fun b4 => ?_)
        · have h : p.fs.length = 0 := by simp at h; simp [h]
          have e1 : chk p = (-1, -1, 1) := by unfold chk; rw [if_pos (by omega)]
          rw [e1]
          repeat ((conv => whnf); first | refine Br.t ?_ | refine Br.f ?_ | refine ⟨rfl, ?_⟩)
          conv => whnf
          refine fin (target := []) rfl (Nat.zero_le _) (by simp) rfl rfl
        · have b4 : p.fs.length ≠ 0 := by intro e; simp at b4; exact b4 (List.eq_nil_of_length_eq_zero e)
          repeat ((conv => whnf); first | refine Br.t ?_ | refine Br.f ?_ | refine ⟨rfl, ?_⟩)
          conv => whnf
          refine Br.mk (fun h => ?_) (fun c1 => ?_)
          · simp at h
            have e4 : chk p = (-1, -1, 4) := by unfold chk; rw [if_neg (by omega), if_pos (by omega)]
            rw [e4]
            repeat ((conv => whnf); first | refine Br.t ?_ | refine Br.f ?_ | refine ⟨rfl, ?_⟩)
            conv => whnf
            refine fin (target := []) rfl (Nat.zero_le _) (by simp) rfl rfl
          · simp at c1
            repeat ((conv => whnf); first | refine Br.t ?_ | refine Br.f ?_ | refine ⟨rfl, ?_⟩)
            conv => whnf
            refine Br.mk (fun h => ?_) (fun c2 => ?_)
            · simp at h
              have e4 : chk p = (-1, -1, 4) := by unfold chk; rw [if_neg (by omega), if_pos (by omega)]
              rw [e4]
              repeat ((conv => whnf); first | refine Br.t ?_ | refine Br.f ?_ | refine ⟨rfl, ?_⟩)
              conv => whnf
              refine fin (target := []) rfl (Nat.zero_le _) (by simp) rfl rfl
            · simp at c2
              repeat ((conv => whnf); first | refine Br.t ?_ | refine Br.f ?_ | refine ⟨rfl, ?_⟩)
              conv => whnf
              refine Br.mk (fun h => ?_) (fun c3 => ?_)
              · simp at h
                have e4 : chk p = (-1, -1, 4) := by unfold chk; rw [if_neg (by omega), if_pos (by omega)]
                rw [e4]
                repeat ((conv => whnf); first | refine Br.t ?_ | refine Br.f ?_ | refine ⟨rfl, ?_⟩)
                conv => whnf
                refine fin (target := []) rfl (Nat.zero_le _) (by simp) rfl rfl
              · simp at c3
                repeat ((conv => whnf); first | refine Br.t ?_ | refine Br.f ?_ | refine ⟨rfl, ?_⟩)
                conv => whnf
                refine Br.mk (fun h => ?_) (fun c4 => ?_)
                · have h : 16 < p.fs.length := by simp at h; omega
                  have e4 : chk p = (-1, -1, 4) := by unfold chk; rw [if_neg (by omega), if_pos (by omega)]
                  rw [e4]
                  repeat ((conv => whnf); first | refine Br.t ?_ | refine Br.f ?_ | refine ⟨rfl, ?_⟩)
                  conv => whnf
                  refine fin (target := []) rfl (Nat.zero_le _) (by simp) rfl rfl
                · have c4 : p.fs.length ≤ 16 := by simp at c4; omega
                  have e0 : chk p = match chkF p 0 p.fs with
                    | some r => r
                    | none => match rndF p 0 p.fs with
                      | some (f, i) => ((f : Int), (i : Int), 8)
                      | none => (0, 0, 0) := by unfold chk; rw [if_neg (by omega), if_neg (by omega)]
                  rw [e0]
                  repeat ((conv => whnf); first | refine Br.t ?_ | refine Br.f ?_ | refine ⟨rfl, ?_⟩)
                  conv => whnf
                  refine loop_ok (α := Nat) (fun f => ⟨mkS 94 [(1, .ptr 0 0 0 0), (2, .i (.int .i64 0)), (3, .i (.int .i64 0)), (4, .i (.int .i64 0)), (51, .i (.sl (p.fs.map encF))), (52, .i (.int .i64 (p.fs.map encF).length)), (53, .i (.int .i64 f))], [pgB p]⟩)
                    (fun f => f ≤ p.fs.length ∧ chkF p f (p.fs.drop f) = chkF p 0 p.fs) (fun f => p.fs.length - f) 0 ⟨Nat.zero_le _, rfl⟩
                    (Le.slots (by simp [leS, mkS])) (fun f hf => wpx_ok (own := own0) _ _ _ ?_)
                  obtain ⟨h1, h2⟩ := hf
                  repeat ((conv => whnf); first | refine Br.t ?_ | refine Br.f ?_ | refine ⟨rfl, ?_⟩)
                  conv => whnf
                  refine Br.mk (fun g => ?_) (fun g => ?_)
                  · have g : f < p.fs.length := by simpa using g
                    obtain ⟨L, hL⟩ : ∃ L, L = p.fs[f] := ⟨_, rfl⟩
                    have hLm : L ∈ p.fs := hL ▸ List.getElem_mem g
                    have eL : (p.fs.map encF).getD (f : Int).toNat [] = encF L := by rw [hL]; exact getD_enc g
                    have edr : p.fs.drop f = L :: p.fs.drop (f + 1) := by rw [hL]; exact List.drop_eq_getElem_cons g
                    have hLl := hw L hLm
                    rw [edr, chkF] at h2
                    repeat ((conv => whnf); first | refine Br.t ?_ | refine Br.f ?_ | refine ⟨rfl, ?_⟩)
                    conv => whnf
                    rw [eL]
                    refine ⟨⟨by omega, by simp; omega, rfl⟩, ?_⟩
                    repeat ((conv => whnf); first | refine Br.t ?_ | refine Br.f ?_ | refine ⟨rfl, ?_⟩)
                    conv => whnf
                    refine Br.mk (fun d => ?_) (fun d => ?_)
                    · have d : L.length = 0 := by simp at d; simp [d]
                      rw [if_pos d] at h2
                      rw [← h2]
                      repeat ((conv => whnf); first | refine Br.t ?_ | refine Br.f ?_ | refine ⟨rfl, ?_⟩)
                      conv => whnf
                      refine fin (target := []) rfl (Nat.zero_le _) (by simp) rfl rfl
                    · have d : ¬ L.length = 0 := by intro e; simp at d; exact d (List.eq_nil_of_length_eq_zero e)
                      rw [if_neg d] at h2
                      repeat ((conv => whnf); first | refine Br.t ?_ | refine Br.f ?_ | refine ⟨rfl, ?_⟩)
                      conv => whnf
                      refine Br.mk (fun d2 => ?_) (fun d2 => ?_)
                      · have d2 : 64 < L.length := by simp at d2; omega
                        rw [if_pos d2] at h2
                        rw [← h2]
                        repeat ((conv => whnf); first | refine Br.t ?_ | refine Br.f ?_ | refine ⟨rfl, ?_⟩)
                        conv => whnf
                        refine fin (target := []) rfl (Nat.zero_le _) (by simp) rfl rfl
                      · have d2 : ¬ 64 < L.length := by simp at d2; omega
                        rw [if_neg d2] at h2
                        repeat ((conv => whnf); first | refine Br.t ?_ | refine Br.f ?_ | refine ⟨rfl, ?_⟩)
                        conv => whnf
                        refine loop_ok (α := Nat) (fun i => ⟨mkS 94 [(1, .ptr 0 0 0 0), (2, .i (.int .i64 0)), (3, .i (.int .i64 0)), (4, .i (.int .i64 0)), (5, .i (.int .i64 f)), (6, .i (.sl (L.map encNd))), (51, .i (.sl (p.fs.map encF))), (52, .i (.int .i64 (p.fs.map encF).length)), (53, .i (.int .i64 f)), (68, .i (.sl (L.map encNd))), (69, .i (.int .i64 (L.map encNd).length)), (70, .i (.int .i64 i))], [pgB p]⟩)
                          (fun i => i ≤ L.length ∧ badN p L.length i (L.drop i) = badN p L.length 0 L) (fun i => L.length - i) 0 ⟨Nat.zero_le _, rfl⟩
                          (Le.slots (by simp [leS, mkS])) (fun i hi => wpx_ok (own := own0) _ _ _ ?_)
                        obtain ⟨h3, h4⟩ := hi
                        repeat ((conv => whnf); first | refine Br.t ?_ | refine Br.f ?_ | refine ⟨rfl, ?_⟩)
                        conv => whnf
                        refine Br.mk (fun g1 => ?_) (fun g1 => ?_)
                        · have g1 : i < L.length := by simpa using g1
                          obtain ⟨x, hx⟩ : ∃ x, x = L[i] := ⟨_, rfl⟩
                          have ex : (L.map encNd).getD (i : Int).toNat [] = encNd x := by rw [hx]; exact getD_enc g1
                          have exd : L.drop i = x :: L.drop (i + 1) := by rw [hx]; exact List.drop_eq_getElem_cons g1
                          rw [exd, badN] at h4
                          repeat ((conv => whnf); first | refine Br.t ?_ | refine Br.f ?_ | refine ⟨rfl, ?_⟩)
                          conv => whnf
                          rw [ex]
                          refine ⟨⟨by omega, by simp; omega, rfl⟩, ?_⟩
                          repeat ((conv => whnf); first | refine Br.t ?_ | refine Br.f ?_ | refine ⟨rfl, ?_⟩)
                          conv => whnf
                          have cm := may47 p x (((L.map encNd).length : Nat) : Int)
                          refine CallW.mono (cm.pure _ rfl rfl) ?_
                          rintro r st' ⟨rfl, rfl⟩
                          rw [List.length_map]
                          obtain ⟨q, hq⟩ : ∃ q, mayF p x L.length = q := ⟨_, rfl⟩
                          rw [hq] at h4 ⊢
                          cases q with
                          | false =>
                            rw [if_neg (by simp)] at h4
                            rw [← h4] at h2
                            simp only at h2
                            rw [← h2]
                            repeat ((conv => whnf); first | refine Br.t ?_ | refine Br.f ?_ | refine ⟨rfl, ?_⟩)
                            conv => whnf
                            refine fin (target := []) rfl (Nat.zero_le _) (by simp) rfl rfl
                          | true =>
                            rw [if_pos rfl] at h4
                            repeat ((conv => whnf); first | refine Br.t ?_ | refine Br.f ?_ | refine ⟨rfl, ?_⟩)
                            conv => whnf
                            refine ⟨i + 1, ⟨by omega, h4⟩, by omega, Le.back (fun _ => 0) (by intro id hid; rfl) (by simp) rfl ?_ ?_ ?_⟩
                            · intro o ho
                              simp only [List.mem_singleton] at ho
                              subst ho
                              exact pgB_cl p _
                            · simp [leS, mkS, V.up]
                              exact i64_id (by omega) (by omega)
                            · rfl
                        · have g1 : i = L.length := by simp at g1; omega
                          subst g1
                          rw [List.drop_length, badN] at h4
                          rw [← h4] at h2
                          simp only at h2
                          repeat ((conv => whnf); first | refine Br.t ?_ | refine Br.f ?_ | refine ⟨rfl, ?_⟩)
                          conv => whnf
                          refine ⟨f + 1, ⟨by omega, h2⟩, by omega, Le.slots ?_⟩
                          simp [leS, mkS]
                          exact i64_id (by omega) (by omega)
                  · have g : f = p.fs.length := by simp at g; omega
                    subst g
                    rw [List.drop_length, chkF] at h2
                    have hc := calls_ok h2.symm
                    have h64 : ∀ f ∈ p.fs, f.length ≤ 1000 := fun f hf => by have := (chkF_none h2.symm f hf).2.1; omega
                    rw [← h2]
                    repeat ((conv => whnf); first | refine Br.t ?_ | refine Br.f ?_ | refine ⟨rfl, ?_⟩)
                    conv => whnf
                    refine CallW.mono ((round48 p hc (by omega) h64).pure _ rfl ?_) ?_
                    · cases rndF p 0 p.fs with
                      | none => rfl
                      | some x => rfl
                    rintro r st' ⟨rfl, rfl⟩
                    cases rndF p 0 p.fs with
                    | none =>
                      repeat ((conv => whnf); first | refine Br.t ?_ | refine Br.f ?_ | refine ⟨rfl, ?_⟩)
                      conv => whnf
                      refine fin (target := []) rfl (Nat.zero_le _) (by simp) rfl rfl
                    | some x =>
                      obtain ⟨f', i'⟩ := x
                      repeat ((conv => whnf); first | refine Br.t ?_ | refine Br.f ?_ | refine ⟨rfl, ?_⟩)
                      conv => whnf
                      refine fin (target := []) rfl (Nat.zero_le _) (by simp) rfl rfl
end Go.Proofs.Ytiikndppckjmhaa.Am
