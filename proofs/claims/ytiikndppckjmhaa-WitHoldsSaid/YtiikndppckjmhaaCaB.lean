/- Contracts: the table of calls, its rows. -/
import Derived.Test.YtiikndppckjmhaaCaA
namespace Go.Proofs.Ytiikndppckjmhaa.Am
set_option autoImplicit false
set_option linter.unusedVariables false
set_option linter.unusedSimpArgs false
set_option maxRecDepth 10000
set_option pp.maxSteps 3000
set_option pp.proofs false
set_option maxHeartbeats 2000000 in
theorem calls_f (p : Pg) (hc : Calls0 p) (hn : p.fs.length ≤ 1000) (hw : ∀ f ∈ p.fs, f.length ≤ 1000) (n : Nat) (hnn : n = p.fs.length) :
    W Try.prog G0 0 (.loop (lp Try.f72 0)) (fun e s' => e = .exit 0 ∧ s' = ⟨mkS 96 [(3, .i (.int .i64 n)), (4, .ref 1 1 0 n)], caTabB p n n ((rows0 p).map rowB)⟩)
      ⟨mkS 96 [(1, .ptr 0 0 0 0), (3, .i (.int .i64 n)), (4, .ref 1 1 0 0), (5, .i (.int .i64 0))], caTabB p n 0 []⟩ := by
  refine W.weak (loop_ok (α := Nat) (fun f => ⟨mkS 96 [(1, .ptr 0 0 0 0), (3, .i (.int .i64 n)), (4, .ref 1 1 0 f), (5, .i (.int .i64 f))], caTabB p n f (((rows0 p).take f).map rowB)⟩)
    (fun f => f ≤ p.fs.length) (fun f => p.fs.length - f) 0 (Nat.zero_le _) (by rw [List.take_zero]; exact Le.refl _ _) (fun f hf => W.weak (wpx_ok (own := own0) _ _ _ ?_)))
  have hl : ((rows0 p).take f).length = f := by simp [rows0]; omega
  obtain ⟨X, hX⟩ : ∃ X, X = ((rows0 p).take f).map rowB := ⟨_, rfl⟩
  have hXl : X.length = f := by rw [hX, List.length_map, hl]
  rw [← hX]
  repeat ((conv => whnf); first | (refine Br.t ?_; try with_reducible refine told_in ?_) | (refine Br.f ?_; first | refine skip_f ?_ | skip) | refine ⟨rfl, ?_⟩ | refine fOs_in ?_)
  conv => whnf
  refine Br.mk (fun g => ?_) (fun g => ?_)
  · have g : f < n := by simpa using g
    obtain ⟨L, hL⟩ : ∃ L, L = p.fs[f] := ⟨_, rfl⟩
    have hLm : L ∈ p.fs := hL ▸ List.getElem_mem _
    have eL : (p.fs.map encF).getD (f : Int).toNat [] = encF L := by rw [hL]; exact getD_enc (by omega)
    have hLl := hw L hLm
    have hLc := hc L hLm
    rw [← hnn] at hLc
    repeat ((conv => whnf); first | (refine Br.t ?_; try with_reducible refine told_in ?_) | (refine Br.f ?_; first | refine skip_f ?_ | skip) | refine ⟨rfl, ?_⟩ | refine fOs_in ?_)
    conv => whnf
    refine ⟨⟨by omega, rfl, by show (8 : Int) * _ ≤ _; omega, by show _ ≤ (9223372036854775807 : Int); omega⟩, ?_⟩
    change fW (.ref (X.length + 16) 1 0 (n : Int).toNat) _
    rw [hXl, Int.toNat_natCast]
    repeat ((conv => whnf); first | (refine Br.t ?_; try with_reducible refine told_in ?_) | (refine Br.f ?_; first | refine skip_f ?_ | skip) | refine ⟨rfl, ?_⟩ | refine fOs_in ?_)
    conv => whnf
    have e0 : rowB (List.replicate n 0) = .row 1 1 false (List.replicate n [.i (.int .i64 0)]) := by
      simp [rowB, lift, elN]
    refine W.le (s' := ⟨mkS 96 [(1, .ptr 0 0 0 0), (3, .i (.int .i64 n)), (4, .ref 1 1 0 f), (5, .i (.int .i64 f)), (6, .ref (f + 16) 1 0 n), (7, .i (.int .i64 0))], caTabB p n f (X ++ [rowB (List.replicate n 0)])⟩) (by rw [e0]; exact Le.slots (by simp [leS, mkS])) ?_
    refine W.mono (calls_i p n f L X (by omega) g hXl eL (by omega) hLl hLc) ?_
    rintro e s' ⟨rfl, rfl⟩
    obtain ⟨r, hr⟩ : ∃ r, r = rowL L (List.replicate n 0) := ⟨_, rfl⟩
    rw [← hr]
    have hXr : (X ++ [rowB r])[f]? = some (rowB r) := by
      rw [List.getElem?_append_right (by omega), hXl, Nat.sub_self]
      rfl
    have hg := (tab_get p n f (X ++ [rowB r]) f).trans hXr
    repeat ((conv => whnf); first | (refine Br.t ?_; try with_reducible refine told_in ?_) | (refine Br.f ?_; first | refine skip_f ?_ | skip) | refine ⟨rfl, ?_⟩ | refine fOs_in ?_)
    conv => whnf
    conv in (opA _ _ _ _ _) => tactic => exact op_lit1 hg rfl rfl rfl rfl rfl
    repeat ((conv => whnf); first | (refine Br.t ?_; try with_reducible refine told_in ?_) | (refine Br.f ?_; first | refine skip_f ?_ | skip) | refine ⟨rfl, ?_⟩ | refine fOs_in ?_)
    conv => whnf
    have hsx : (caTabB p n f (X ++ [rowB r] ++ [.row 1 1 false [[.ref (f + 16) 1 0 n]]]))[(caTabB p n f (X ++ [rowB r])).length]? = some (.row 1 1 false [[.ref (f + 16) 1 0 n]]) := by
      show ((caTabB p n f (X ++ [rowB r])) ++ [Ob.row 1 1 false [[.ref (f + 16) 1 0 n]]])[_]? = _
      rw [List.getElem?_append_right (Nat.le_refl _), Nat.sub_self]; rfl
    conv in (opA _ _ _ _ _) => tactic => exact op_app1 hsx rfl rfl rfl rfl rfl rfl
    repeat ((conv => whnf); first | (refine Br.t ?_; try with_reducible refine told_in ?_) | (refine Br.f ?_; first | refine skip_f ?_ | skip) | refine ⟨rfl, ?_⟩ | refine fOs_in ?_)
    conv => whnf
    refine ⟨⟨fun cs hcs => ?_, (refs_len n f).symm, by show (f + 1) * 24 ≤ _; omega, len_mx (by omega)⟩, ?_⟩
    · simp only [List.mem_singleton] at hcs
      subst hcs
      have hgg : (caTabB p n f (X ++ [rowB r] ++ [.row 1 1 false [[.ref (f + 16) 1 0 n]]]))[f + 16]? = some (rowB r) := by
        show (X ++ [rowB r] ++ [Ob.row 1 1 false [[.ref (f + 16) 1 0 n]]])[f]? = _
        rw [List.getElem?_append_left (by simp; omega)]
        exact hXr
      show ((match (caTabB p n f (X ++ [rowB r] ++ [.row 1 1 false [[.ref (f + 16) 1 0 n]]]))[f + 16]? with | some (.row ver' _ _ _) => 1 == ver' | _ => false) && true) = true
      rw [hgg]
      rfl
    · repeat ((conv => whnf); first | (refine Br.t ?_; try with_reducible refine told_in ?_) | (refine Br.f ?_; first | refine skip_f ?_ | skip) | refine ⟨rfl, ?_⟩ | refine fOs_in ?_)
      conv => whnf
      have eY : X ++ [rowB r] = ((rows0 p).take (f + 1)).map rowB := by
        have h1 : f < (rows0 p).length := by simp [rows0]; omega
        have h2 : (rows0 p)[f] = r := by
          rw [hr, hL]
          simp [rows0, hnn]
        rw [List.take_succ_eq_append_getElem h1, List.map_append, ← hX, h2]
        rfl
      refine ⟨_, Le.refl _ _, f + 1, by omega, by omega, Le.back (fun id => if id = 1 then 1 else 0) (by intro id hid; simp at hid) (by simp) ?_ ?_ ?_ ?_⟩
      · simp [mkS, V.cl.clAll, V.cl, tab_len]
      · exact tab_cl p n _ _ (by simp [rows0]; omega)
      · simp [leS, mkS, V.up]
        exact i64_id (by omega) (by omega)
      · have e1 : refs n f ++ [[.ref (f + 16) 1 0 n]] = (refs n (f + 1)).map (V.up.upAll (fun id => if id = 1 then 1 else 0)) := by
          rw [up_refs _ _ _ (fun j hj => if_neg (by omega)), refs_snoc]
        have e2 : ∀ (rs : List (List Nat)) (o : Ob), List.take (rs.map rowB).length (rs.map rowB ++ [o]) = upSt (fun id => if id = 1 then 1 else 0) 16 (rs.map rowB) := fun rs o => by
          rw [up_rows _ _ (fun j hj => if_neg (by omega)), List.take_left]
        rw [eY]
        show tabG p 2 (refs n f ++ [[.ref (f + 16) 1 0 n]]) (List.take (((rows0 p).take (f + 1)).map rowB).length (((rows0 p).take (f + 1)).map rowB ++ [Ob.row 1 1 false [[.ref (f + 16) 1 0 n]]])) = tabG p 2 ((refs n (f + 1)).map (V.up.upAll (fun id => if id = 1 then 1 else 0))) (upSt (fun id => if id = 1 then 1 else 0) 16 (((rows0 p).take (f + 1)).map rowB))
        rw [e1, e2]
  · have g : f = p.fs.length := by simp at g; omega
    subst g
    have hall : (rows0 p).take p.fs.length = rows0 p := List.take_of_length_le (by simp [rows0])
    rw [hall] at hX
    repeat ((conv => whnf); first | (refine Br.t ?_; try with_reducible refine told_in ?_) | (refine Br.f ?_; first | refine skip_f ?_ | skip) | refine ⟨rfl, ?_⟩ | refine fOs_in ?_)
    conv => whnf
    refine ⟨⟨mkS 96 [(3, .i (.int .i64 n)), (4, .ref 1 1 0 n)], caTabB p n n X⟩, by rw [← hnn]; exact Le.slots (by simp [leS, mkS]), ?_⟩
    exact ⟨_, Le.refl _ _, rfl, by rw [hX]⟩
end Go.Proofs.Ytiikndppckjmhaa.Am
