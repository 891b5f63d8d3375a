/- Contracts: the document's check of a program, in full. -/
import Derived.Test.YtiikndppckjmhaaRcB
namespace Go.Proofs.Ytiikndppckjmhaa.Am
set_option autoImplicit false
set_option linter.unusedVariables false
set_option linter.unusedSimpArgs false
set_option maxRecDepth 10000
set_option pp.maxSteps 3000
set_option pp.proofs false

set_option maxHeartbeats 1000000 in
theorem rc_call (p : Pg) (f : Nat) (L : List Nd) (hf : f < p.fs.length) (hfl : p.fs.length ≤ 16) (eL : (p.fs.map encF).getD (f : Int).toNat [] = encF L) (hLl : L.length ≤ 64) (hM : Sq p.fs.length (mat p)) (hLc : ∀ n ∈ L, n.1 = 7 → 0 ≤ n.2.1 ∧ n.2.1 < p.fs.length) (Q : Exit → S → Prop)
    (hbad : ∀ i, i < L.length → rndMN p f 0 L = some i → Q .ret ⟨rcS p.fs.length [(2, .i (.int .i64 f)), (3, .i (.int .i64 i)), (4, .i (.int .i64 8))], [pgB p]⟩)
    (hok : rndMN p f 0 L = none → Q (.exit 6) ⟨rcS p.fs.length [(8, .i (.sl (encM (mat p)))), (9, .i (.int .i64 f))], [pgB p]⟩) :
    W Try.prog G0 0 (.loop (lp Try.f28 3)) Q ⟨rcS p.fs.length [(8, .i (.sl (encM (mat p)))), (9, .i (.int .i64 f)), (10, .i (.int .i64 0))], [pgB p]⟩ := by
  refine W.weak (loop_ok (α := Nat) (fun i => ⟨rcS p.fs.length [(8, .i (.sl (encM (mat p)))), (9, .i (.int .i64 f)), (10, .i (.int .i64 i))], [pgB p]⟩)
    (fun i => i ≤ L.length ∧ rndMN p f i (L.drop i) = rndMN p f 0 L) (fun i => L.length - i) 0 ⟨Nat.zero_le _, rfl⟩ (Le.refl _ _) (fun i hi => wpx_ok (own := own0) _ _ _ ?_))
  obtain ⟨h3, h4⟩ := hi
  repeat ((conv => whnf); first | refine Br.t ?_ | refine Br.f ?_ | refine ⟨rfl, ?_⟩)
  conv => whnf
  rw [eL]
  refine ⟨⟨by omega, by simp; omega, rfl⟩, ?_⟩
  repeat ((conv => whnf); first | refine Br.t ?_ | refine Br.f ?_ | refine ⟨rfl, ?_⟩)
  conv => whnf
  refine Br.mk (fun g1 => ?_) (fun g1 => ?_)
  · have g1 : i < L.length := by simpa using g1
    obtain ⟨x, hx⟩ : ∃ x, x = L[i] := ⟨_, rfl⟩
    have hxm : x ∈ L := hx ▸ List.getElem_mem g1
    have ex : (L.map encNd).getD (i : Int).toNat [] = encNd x := by rw [hx]; exact getD_enc g1
    have exd : L.drop i = x :: L.drop (i + 1) := by rw [hx]; exact List.drop_eq_getElem_cons g1
    rw [exd, rndMN] at h4
    repeat ((conv => whnf); first | refine Br.t ?_ | refine Br.f ?_ | refine ⟨rfl, ?_⟩)
    conv => whnf
    rw [eL]
    refine ⟨⟨by omega, by simp; omega, rfl⟩, ?_⟩
    repeat ((conv => whnf); first | refine Br.t ?_ | refine Br.f ?_ | refine ⟨rfl, ?_⟩)
    conv => whnf
    rw [ex]
    refine ⟨⟨by omega, by simp; omega, rfl⟩, ?_⟩
    repeat ((conv => whnf); first | refine Br.t ?_ | refine Br.f ?_ | refine ⟨rfl, ?_⟩)
    conv => whnf
    refine Br.mk (fun g7 => ?_) (fun g7 => ?_)
    · have g7 : x.1 = 7 := by simpa using g7
      obtain ⟨a1, a2⟩ := hLc x hxm g7
      obtain ⟨a, ha⟩ : ∃ a : Nat, (a : Int) = x.2.1 := ⟨x.2.1.toNat, by omega⟩
      rw [← ha] at a1 a2
      rw [← ha, Int.toNat_natCast] at h4
      have hla : ((mat p).getD a []).length = p.fs.length := hM.2 a (by omega)
      repeat ((conv => whnf); first | refine Br.t ?_ | refine Br.f ?_ | refine ⟨rfl, ?_⟩)
      conv => whnf
      rw [← ha]
      repeat ((conv => whnf); first | refine Br.t ?_ | refine Br.f ?_ | refine ⟨rfl, ?_⟩)
      conv => whnf
      refine Br.mk (fun g8 => ?_) (fun g8 => ?_)
      · have g8 : (a : Int) = f := by simpa using g8
        rw [if_pos ⟨g7, .inl g8⟩] at h4
        repeat ((conv => whnf); first | refine Br.t ?_ | refine Br.f ?_ | refine ⟨rfl, ?_⟩)
        conv => whnf
        refine ⟨_, Le.back (s := ⟨rcS p.fs.length [(2, .i (.int .i64 f)), (3, .i (.int .i64 i)), (4, .i (.int .i64 8))], [pgB p]⟩) (fun _ => 0) (by intro id hid; rfl) (by simp) rfl ?_ ?_ rfl, hbad i g1 h4.symm⟩
        · intro o ho
          simp only [List.mem_singleton] at ho
          subst ho
          exact pgB_cl p _
        · simp [leS, mkS, V.up, rcS]
      · have g8 : ¬ (a : Int) = f := by simpa using g8
        repeat ((conv => whnf); first | refine Br.t ?_ | refine Br.f ?_ | refine ⟨rfl, ?_⟩)
        conv => whnf
        rw [encM_get (by rw [hM.1]; omega)]
        refine ⟨⟨by omega, by rw [encM, List.length_map, hM.1]; omega, rfl⟩, ?_⟩
        repeat ((conv => whnf); first | refine Br.t ?_ | refine Br.f ?_ | refine ⟨rfl, ?_⟩)
        conv => whnf
        rw [row_get (by omega)]
        refine ⟨⟨by omega, by rw [List.length_map]; omega, rfl⟩, ?_⟩
        repeat ((conv => whnf); first | refine Br.t ?_ | refine Br.f ?_ | refine ⟨rfl, ?_⟩)
        conv => whnf
        have e : ((mat p).getD a []).getD f 0 = cell (mat p) a f := rfl
        rw [e]
        refine Br.mk (fun g9 => ?_) (fun g9 => ?_)
        · have g9 : cell (mat p) a f = 1 := by simp at g9; omega
          rw [if_pos ⟨g7, .inr g9⟩] at h4
          repeat ((conv => whnf); first | refine Br.t ?_ | refine Br.f ?_ | refine ⟨rfl, ?_⟩)
          conv => whnf
          refine ⟨_, Le.back (s := ⟨rcS p.fs.length [(2, .i (.int .i64 f)), (3, .i (.int .i64 i)), (4, .i (.int .i64 8))], [pgB p]⟩) (fun _ => 0) (by intro id hid; rfl) (by simp) rfl ?_ ?_ rfl, hbad i g1 h4.symm⟩
          · intro o ho
            simp only [List.mem_singleton] at ho
            subst ho
            exact pgB_cl p _
          · simp [leS, mkS, V.up, rcS]
        · have g9 : ¬ cell (mat p) a f = 1 := by simp at g9; omega
          rw [if_neg (fun h => h.2.elim g8 g9)] at h4
          repeat ((conv => whnf); first | refine Br.t ?_ | refine Br.f ?_ | refine ⟨rfl, ?_⟩)
          conv => whnf
          refine ⟨i + 1, ⟨by omega, h4⟩, by omega, Le.back (fun _ => 0) (by intro id hid; rfl) (by simp) rfl ?_ ?_ ?_⟩
          · intro o ho
            simp only [List.mem_singleton] at ho
            subst ho
            exact pgB_cl p _
          · simp [leS, mkS, V.up, rcS]
            exact i64_id (by omega) (by omega)
          · rfl
    · have g7 : ¬ x.1 = 7 := by simpa using g7
      rw [if_neg (fun h => g7 h.1)] at h4
      repeat ((conv => whnf); first | refine Br.t ?_ | refine Br.f ?_ | refine ⟨rfl, ?_⟩)
      conv => whnf
      refine ⟨i + 1, ⟨by omega, h4⟩, by omega, Le.back (fun _ => 0) (by intro id hid; rfl) (by simp) rfl ?_ ?_ ?_⟩
      · intro o ho
        simp only [List.mem_singleton] at ho
        subst ho
        exact pgB_cl p _
      · simp [leS, mkS, V.up, rcS]
        exact i64_id (by omega) (by omega)
      · rfl
  · have g1 : i = L.length := by simp at g1; omega
    subst g1
    rw [List.drop_length, rndMN] at h4
    repeat ((conv => whnf); first | refine Br.t ?_ | refine Br.f ?_ | refine ⟨rfl, ?_⟩)
    conv => whnf
    exact ⟨_, Le.slots (by simp [leS, mkS, rcS]), hok h4.symm⟩
set_option maxHeartbeats 1000000 in
theorem rc_calls (p : Pg) (hc : Calls0 p) (hfl : p.fs.length ≤ 16) (hw : ∀ f ∈ p.fs, f.length ≤ 64) (Q : Exit → S → Prop)
    (hbad : ∀ r, rndF p 0 p.fs = some r → Q .ret ⟨rcS p.fs.length [(2, .i (.int .i64 r.1)), (3, .i (.int .i64 r.2)), (4, .i (.int .i64 8))], [pgB p]⟩)
    (hok : rndF p 0 p.fs = none → Q (.exit 4) ⟨rcS p.fs.length [], [pgB p]⟩) :
    W Try.prog G0 0 (.loop (lp Try.f28 2)) Q ⟨rcS p.fs.length [(8, .i (.sl (encM (mat p)))), (9, .i (.int .i64 0))], [pgB p]⟩ := by
  rw [← rndM_eq hc 0 p.fs (by omega) (fun L h => h)] at hbad hok
  refine W.weak (loop_ok (α := Nat) (fun f => ⟨rcS p.fs.length [(8, .i (.sl (encM (mat p)))), (9, .i (.int .i64 f))], [pgB p]⟩)
    (fun f => f ≤ p.fs.length ∧ rndM p f (p.fs.drop f) = rndM p 0 p.fs) (fun f => p.fs.length - f) 0 ⟨Nat.zero_le _, rfl⟩ (Le.refl _ _) (fun f hf => wpx_ok (own := own0) _ _ _ ?_))
  obtain ⟨h1, h2⟩ := hf
  repeat ((conv => whnf); first | refine Br.t ?_ | refine Br.f ?_ | refine ⟨rfl, ?_⟩)
  conv => whnf
  refine Br.mk (fun g => ?_) (fun g => ?_)
  · have g : f < p.fs.length := by simpa using g
    obtain ⟨L, hL⟩ : ∃ L, L = p.fs[f] := ⟨_, rfl⟩
    have hLm : L ∈ p.fs := hL ▸ List.getElem_mem g
    have eL : (p.fs.map encF).getD (f : Int).toNat [] = encF L := by rw [hL]; exact getD_enc g
    have edr : p.fs.drop f = L :: p.fs.drop (f + 1) := by rw [hL]; exact List.drop_eq_getElem_cons g
    rw [edr, rndM] at h2
    repeat ((conv => whnf); first | refine Br.t ?_ | refine Br.f ?_ | refine ⟨rfl, ?_⟩)
    conv => whnf
    refine W.le (Le.slots (sl' := rcS p.fs.length [(8, .i (.sl (encM (mat p)))), (9, .i (.int .i64 f)), (10, .i (.int .i64 0))]) (by simp [leS, mkS, rcS])) (rc_call p f L g hfl eL (hw L hLm) (mat_on hc).1 (hc L hLm) _ (fun i hi hb => ?_) (fun hb => ?_))
    · rw [hb] at h2
      simp only at h2
      repeat ((conv => whnf); first | refine Br.t ?_ | refine Br.f ?_ | refine ⟨rfl, ?_⟩)
      conv => whnf
      exact ⟨_, Le.slots (by simp [leS, mkS, rcS]), hbad _ h2.symm⟩
    · rw [hb] at h2
      simp only at h2
      repeat ((conv => whnf); first | refine Br.t ?_ | refine Br.f ?_ | refine ⟨rfl, ?_⟩)
      conv => whnf
      refine ⟨f + 1, ⟨by omega, h2⟩, by omega, Le.slots ?_⟩
      simp [leS, mkS, rcS]
      exact i64_id (by omega) (by omega)
  · have g : f = p.fs.length := by simp at g; omega
    subst g
    rw [List.drop_length, rndM] at h2
    repeat ((conv => whnf); first | refine Br.t ?_ | refine Br.f ?_ | refine ⟨rfl, ?_⟩)
    conv => whnf
    exact ⟨_, Le.slots (by simp [leS, mkS, rcS]), hok h2.symm⟩
set_option maxHeartbeats 1000000 in
theorem refcheck (p : Pg) (hp : okPg p) : CallW Try.prog G0 28 [pgV p] [] (fun r st' => r = tri (chk p) ∧ st' = []) := by
  refine call_of_bodyF 0 (Nat.le_refl _) Try.func28 rfl (fun a w => Try.call28 a w) (wpx_ok (own := own0) _ _ _ ?_)
  obtain ⟨hl, hw⟩ := hp
  repeat ((conv => whnf); first | refine Br.t ?_ | refine Br.f ?_ | refine ⟨rfl, ?_⟩)
  conv => whnf
  refine Br.mk (fun h => ?_) (fun b1 => ?_)
  · simp at h
    have e1 : chk p = (-1, -1, 1) := by unfold chk; rw [if_pos (by omega)]
    rw [e1]
    repeat ((conv => whnf); first | refine Br.t ?_ | refine Br.f ?_ | refine ⟨rfl, ?_⟩)
    conv => whnf
    refine fin (target := []) rfl (Nat.zero_le _) (by simp) rfl rfl
  · simp at b1
    repeat ((conv => whnf); first | refine Br.t ?_ | refine Br.f ?_ | refine ⟨rfl, ?_⟩)
    conv => whnf
    refine Br.mk (fun h => ?_) (fun b2 => ?_)
    · simp at h
      have e1 : chk p = (-1, -1, 1) := by unfold chk; rw [if_pos (by omega)]
      rw [e1]
      repeat ((conv => whnf); first | refine Br.t ?_ | refine Br.f ?_ | refine ⟨rfl, ?_⟩)
      conv => whnf
      refine fin (target := []) rfl (Nat.zero_le _) (by simp) rfl rfl
    · simp at b2
      repeat ((conv => whnf); first | refine Br.t ?_ | refine Br.f ?_ | refine ⟨rfl, ?_⟩)
      conv => whnf
      refine Br.mk (fun h => ?_) (fun b3 => ?_)
      · simp at h
        have e1 : chk p = (-1, -1, 1) := by unfold chk; rw [if_pos (by omega)]
        rw [e1]
        repeat ((conv => whnf); first | refine Br.t ?_ | refine Br.f ?_ | refine ⟨rfl, ?_⟩)
        conv => whnf
        refine fin (target := []) rfl (Nat.zero_le _) (by simp) rfl rfl
      · simp at b3
        repeat ((conv => whnf); first | refine Br.t ?_ | refine Br.f ?_ | refine ⟨rfl, ?_⟩)
        conv => whnf
        refine Br.mk (fun h => ?_) (fun b4 => ?_)
        · have h : p.fs.length = 0 := by simp at h; simp [h]
          have e1 : chk p = (-1, -1, 1) := by unfold chk; rw [if_pos (by omega)]
          rw [e1]
          repeat ((conv => whnf); first | refine Br.t ?_ | refine Br.f ?_ | refine ⟨rfl, ?_⟩)
          conv => whnf
          refine fin (target := []) rfl (Nat.zero_le _) (by simp) rfl rfl
        · have b4 : p.fs.length ≠ 0 := by intro e; simp at b4; exact b4 (List.eq_nil_of_length_eq_zero e)
          repeat ((conv => whnf); first | refine Br.t ?_ | refine Br.f ?_ | refine ⟨rfl, ?_⟩)
          conv => whnf
          refine Br.mk (fun h => ?_) (fun c1 => ?_)
          · simp at h
            have e4 : chk p = (-1, -1, 4) := by unfold chk; rw [if_neg (by omega), if_pos (by omega)]
            rw [e4]
            repeat ((conv => whnf); first | refine Br.t ?_ | refine Br.f ?_ | refine ⟨rfl, ?_⟩)
            conv => whnf
            refine fin (target := []) rfl (Nat.zero_le _) (by simp) rfl rfl
          · simp at c1
            repeat ((conv => whnf); first | refine Br.t ?_ | refine Br.f ?_ | refine ⟨rfl, ?_⟩)
            conv => whnf
            refine Br.mk (fun h => ?_) (fun c2 => ?_)
            · simp at h
              have e4 : chk p = (-1, -1, 4) := by unfold chk; rw [if_neg (by omega), if_pos (by omega)]
              rw [e4]
              repeat ((conv => whnf); first | refine Br.t ?_ | refine Br.f ?_ | refine ⟨rfl, ?_⟩)
              conv => whnf
              refine fin (target := []) rfl (Nat.zero_le _) (by simp) rfl rfl
            · simp at c2
              repeat ((conv => whnf); first | refine Br.t ?_ | refine Br.f ?_ | refine ⟨rfl, ?_⟩)
              conv => whnf
              refine Br.mk (fun h => ?_) (fun c3 => ?_)
              · simp at h
                have e4 : chk p = (-1, -1, 4) := by unfold chk; rw [if_neg (by omega), if_pos (by omega)]
                rw [e4]
                repeat ((conv => whnf); first | refine Br.t ?_ | refine Br.f ?_ | refine ⟨rfl, ?_⟩)
                conv => whnf
                refine fin (target := []) rfl (Nat.zero_le _) (by simp) rfl rfl
              · simp at c3
                repeat ((conv => whnf); first | refine Br.t ?_ | refine Br.f ?_ | refine ⟨rfl, ?_⟩)
                conv => whnf
                refine Br.mk (fun h => ?_) (fun c4 => ?_)
                · have h : 16 < p.fs.length := by simp at h; omega
                  have e4 : chk p = (-1, -1, 4) := by unfold chk; rw [if_neg (by omega), if_pos (by omega)]
                  rw [e4]
                  repeat ((conv => whnf); first | refine Br.t ?_ | refine Br.f ?_ | refine ⟨rfl, ?_⟩)
                  conv => whnf
                  refine fin (target := []) rfl (Nat.zero_le _) (by simp) rfl rfl
                · have c4 : p.fs.length ≤ 16 := by simp at c4; omega
                  have e0 : chk p = match chkF p 0 p.fs with
                    | some r => r
                    | none => match rndF p 0 p.fs with
                      | some (f, i) => ((f : Int), (i : Int), 8)
                      | none => (0, 0, 0) := by unfold chk; rw [if_neg (by omega), if_neg (by omega)]; rfl
                  rw [e0]
                  repeat ((conv => whnf); first | refine Br.t ?_ | refine Br.f ?_ | refine ⟨rfl, ?_⟩)
                  conv => whnf
                  refine W.le (Le.slots (sl' := rcS p.fs.length [(6, .i (.int .i64 0))]) (by simp [leS, mkS, rcS])) (rc_fn p c4 hw _ (fun r hr => ?_) (fun hr => ?_))
                  · rw [hr]
                    repeat ((conv => whnf); first | refine Br.t ?_ | refine Br.f ?_ | refine ⟨rfl, ?_⟩)
                    conv => whnf
                    refine fin (target := []) rfl (Nat.zero_le _) (by simp) rfl rfl
                  · have hc := calls_ok hr
                    have h64 : ∀ f ∈ p.fs, f.length ≤ 64 := fun f hf => (chkF_none hr f hf).2.1
                    rw [hr]
                    repeat ((conv => whnf); first | refine Br.t ?_ | refine Br.f ?_ | refine ⟨rfl, ?_⟩)
                    conv => whnf
                    refine CallW.mono ((refcalls p hc (by omega) (fun f hf => by have := h64 f hf; omega)).pure _ rfl rfl) ?_
                    rintro r st' ⟨rfl, rfl⟩
                    repeat ((conv => whnf); first | refine Br.t ?_ | refine Br.f ?_ | refine ⟨rfl, ?_⟩)
                    conv => whnf
                    refine W.le (Le.slots (sl' := rcS p.fs.length [(8, .i (.sl (encM (mat p)))), (9, .i (.int .i64 0))]) (by simp [leS, mkS, rcS])) (rc_calls p hc c4 h64 _ (fun r hr => ?_) (fun hr => ?_))
                    · rw [hr]
                      repeat ((conv => whnf); first | refine Br.t ?_ | refine Br.f ?_ | refine ⟨rfl, ?_⟩)
                      conv => whnf
                      refine fin (target := []) rfl (Nat.zero_le _) (by simp) rfl rfl
                    · rw [hr]
                      repeat ((conv => whnf); first | refine Br.t ?_ | refine Br.f ?_ | refine ⟨rfl, ?_⟩)
                      conv => whnf
                      refine fin (target := []) rfl (Nat.zero_le _) (by simp) rfl rfl
end Go.Proofs.Ytiikndppckjmhaa.Am
