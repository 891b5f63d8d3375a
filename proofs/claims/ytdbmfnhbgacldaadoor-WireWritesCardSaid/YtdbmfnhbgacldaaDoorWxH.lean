/- Contracts: the law that what is written by any calls is the document's bytes. -/
import Derived.Test.YtdbmfnhbgacldaaDoorWxG
namespace Go.Proofs.YtdbmfnhbgacldaaDoor.Am
set_option autoImplicit false
set_option linter.unusedVariables false
set_option linter.unusedSimpArgs false
set_option maxRecDepth 10000
set_option pp.maxSteps 20000
set_option pp.proofs false
theorem u32_i64 (n : Int) : IntKind.i64.wrap (IntKind.u32.wrap n) = (((n % 4294967296).toNat : Nat) : Int) := by
  rw [IntKind.wrap_u32, i64_id (by omega) (by omega)]; omega
set_option maxHeartbeats 2000000 in
theorem law3 (l : List Item) (hl : l.length ≤ 9223372036854775807) (hok : ∀ x ∈ l, okIt x) : CallW Tryd.prog G1 3 [.i (.sl (l.map encIt))] [] (fun r st' => r = .i (.bool true) ∧ st' = []) := by
  refine call_of_bodyF 0 (Nat.le_refl _) Tryd.func3 rfl (fun a w => Tryd.call3 a w) (wpx_ok (own := own0) _ _ _ ?_)
  repeat ((conv => whnf); first | refine Br.t ?_ | refine Br.f ?_ | refine ⟨rfl, ?_⟩)
  conv => whnf
  refine (awake14.pure _ rfl rfl).mono ?_
  rintro r st' ⟨rfl, rfl⟩
  repeat ((conv => whnf); first | refine Br.t ?_ | refine Br.f ?_ | refine ⟨rfl, ?_⟩)
  conv => whnf
  refine CallW.mono (((long15 l hl).pure _ rfl rfl).glob) ?_
  rintro r st' ⟨rfl, rfl⟩
  repeat ((conv => whnf); first | refine Br.t ?_ | refine Br.f ?_ | refine ⟨rfl, ?_⟩)
  conv => whnf
  refine Br.mk (fun h => ?_) (fun h => ?_)
  · repeat ((conv => whnf); first | refine Br.t ?_ | refine Br.f ?_ | refine ⟨rfl, ?_⟩)
    conv => whnf
    refine (awake14.pure _ rfl rfl).mono ?_
    rintro r st' ⟨rfl, rfl⟩
    repeat ((conv => whnf); first | refine Br.t ?_ | refine Br.f ?_ | refine ⟨rfl, ?_⟩)
    conv => whnf
    refine fin (target := []) rfl (Nat.zero_le _) (by simp) rfl rfl
  · obtain ⟨hn, hall⟩ := lg_small l l.length (by simpa using h)
    repeat ((conv => whnf); first | refine Br.t ?_ | refine Br.f ?_ | refine ⟨rfl, ?_⟩)
    conv => whnf
    refine W.le (Le.nilCell 0 0 0 1 rfl rfl rfl) ?_
    refine loop_ok (α := Nat) (fun i => ⟨mkS 79 [(0, .i (.sl (l.map encIt))), (2, .i (.bool false)), (3, .ptr 0 0 0 0), (4, .i (.str (strOf ((l.take i).flatMap itB)))), (5, .i (.int .i64 i))], wr 0 (((l.take i).flatMap itB).map by8)⟩)
      (fun i => i ≤ l.length ∧ ∀ x ∈ l, x.2.2.1.length ≤ 600) (fun i => l.length - i) 0 ⟨Nat.zero_le _, hall⟩
      (Le.slots (by simp [leS, mkS]; rfl)) (fun i hi => wpx_ok (own := own0) _ _ _ ?_)
    obtain ⟨h1, hall⟩ := hi
    repeat ((conv => whnf); first | refine Br.t ?_ | refine Br.f ?_ | refine ⟨rfl, ?_⟩)
    conv => whnf
    refine Br.mk (fun g1 => ?_) (fun g1 => ?_)
    · have g1 : i < l.length := by simpa using g1
      obtain ⟨x, hx⟩ : ∃ x, x = l[i] := ⟨_, rfl⟩
      have hxm : x ∈ l := hx ▸ List.getElem_mem g1
      have ex : (l.map encIt).getD (i : Int).toNat [] = encIt x := by rw [hx]; exact getD_enc g1
      have et : l.take (i + 1) = l.take i ++ [x] := by rw [hx]; simp
      have hlen : ((l.take i).flatMap itB).length ≤ 605 * 600 := by
        have := items_len (l.take i) (fun y hy => hall y (List.mem_of_mem_take hy))
        have : (l.take i).length ≤ 600 := by rw [List.length_take]; omega
        omega
      obtain ⟨zs, hzs⟩ : ∃ zs, (l.take i).flatMap itB = zs := ⟨_, rfl⟩
      rw [hzs] at hlen ⊢
      obtain ⟨o1, o2, o3, o4⟩ := hok x hxm
      have o5 := hall x hxm
      have hb := itB_len o5
      obtain ⟨d, n, b, m⟩ := x
      simp only at o1 o2 o3 o4 o5
      obtain ⟨m0, m1, m2⟩ := mod4 (n := d)
      repeat ((conv => whnf); first | refine Br.t ?_ | refine Br.f ?_ | refine ⟨rfl, ?_⟩)
      conv => whnf
      rw [ex]
      refine ⟨⟨by omega, by simp; omega, rfl⟩, ?_⟩
      repeat ((conv => whnf); first | refine Br.t ?_ | refine Br.f ?_ | refine ⟨rfl, ?_⟩)
      conv => whnf
      refine ⟨by decide, ?_⟩
      repeat ((conv => whnf); first | refine Br.t ?_ | refine Br.f ?_ | refine ⟨rfl, ?_⟩)
      conv => whnf
      refine Br.mk (fun c0 => ?_) (fun c0 => ?_)
      · have c0 : d % 4 = 0 := by rw [m0] at c0; simpa using c0
        have eB : itB (d, n, b, m) = putN (n % 4294967296).toNat := by unfold itB; rw [if_pos c0]
        repeat ((conv => whnf); first | refine Br.t ?_ | refine Br.f ?_ | refine ⟨rfl, ?_⟩)
        conv => whnf
        refine CallW.mono ((atW [_] (numI 0 (zs.map by8) n (by rw [List.length_map]; omega)) rfl rfl).glob) ?_
        rintro r st' ⟨rfl, rfl⟩
        repeat ((conv => whnf); first | refine Br.t ?_ | refine Br.f ?_ | refine ⟨rfl, ?_⟩)
        conv => whnf
        have cp := put17 (n % 4294967296).toNat (by omega)
        rw [← u32_i64] at cp
        refine CallW.mono ((cp.pure _ rfl rfl).glob) ?_
        rintro r st' ⟨rfl, rfl⟩
        rw [eB] at hb
        generalize putN (n % 4294967296).toNat = B at eB hb ⊢
        repeat ((conv => whnf); first | refine Br.t ?_ | refine Br.f ?_ | refine ⟨rfl, ?_⟩)
        conv => whnf
        refine ⟨isB_ok (isB_map B), ?_⟩
        repeat ((conv => whnf); first | refine Br.t ?_ | refine Br.f ?_ | refine ⟨rfl, ?_⟩)
        conv => whnf
        refine ⟨by show (strOf zs).size + (strOf B).size ≤ maxLen; rw [strOf_size, strOf_size]; exact len_mx (by omega), ?_⟩
        have eW := strOf_app zs B
        repeat ((conv => whnf); first | refine Br.t ?_ | refine Br.f ?_ | refine ⟨rfl, ?_⟩)
        conv => whnf
        refine CallW.mono ((atW [_] (bytes 1 (zs.map by8 ++ B.map by8) (by rw [← List.map_append]; exact bytes_one _) (by simp; omega)) rfl rfl).glob) ?_
        rintro r st' ⟨rfl, rfl⟩
        rw [← List.map_append]
        repeat ((conv => whnf); first | refine Br.t ?_ | refine Br.f ?_ | refine ⟨rfl, ?_⟩)
        conv => whnf
        refine ⟨isB_ok (isB_map (zs ++ B)), ?_⟩
        repeat ((conv => whnf); first | refine Br.t ?_ | refine Br.f ?_ | refine ⟨rfl, ?_⟩)
        conv => whnf
        refine Br.mk (fun q => ?_) (fun q => ?_)
        · exfalso
          have q : (!((strOf (zs ++ B)).data.toList == (strOf zs ++ strOf B).data.toList)) = true := q
          rw [eW] at q
          simp at q
        · repeat ((conv => whnf); first | refine Br.t ?_ | refine Br.f ?_ | refine ⟨rfl, ?_⟩)
          conv => whnf
          refine ⟨i + 1, ⟨by omega, ?_⟩, by omega, ?_⟩
          · intro x hx; exact hall x hx
          rw [et, List.flatMap_append, show [(d, n, b, m)].flatMap itB = itB (d, n, b, m) by simp, eB, hzs]
          refine Le.back (fun id => if id = 1 then 1 else 0) (by intro id hid; simp at hid) (by simp [wr]) rfl (by intro o ho; exact wr_cl _ _ o ho) ?_ ?_
          · simp [leS, mkS, V.up]
            exact ⟨eW, i64_id (by omega) (by omega)⟩
          · rw [wr_up, Nat.zero_add]
            rfl
      · have c0 : ¬ d % 4 = 0 := by rw [m0] at c0; simpa using c0
        repeat ((conv => whnf); first | refine Br.t ?_ | refine Br.f ?_ | refine ⟨rfl, ?_⟩)
        conv => whnf
        refine Br.mk (fun c1 => ?_) (fun c1 => ?_)
        · have c1 : d % 4 = 1 := by rw [m1] at c1; simpa using c1
          obtain ⟨B, hB⟩ : ∃ B, b = B := ⟨_, rfl⟩
          have eB : itB (d, n, b, m) = B := by unfold itB; rw [if_neg c0, if_pos c1]; exact hB
          rw [eB] at hb
          subst hB
          repeat ((conv => whnf); first | refine Br.t ?_ | refine Br.f ?_ | refine ⟨rfl, ?_⟩)
          conv => whnf
          refine CallW.mono ((atW [_] (raw 0 (zs.map by8) (b.map by8) (bytes_one _) (by rw [List.length_map, List.length_map]; omega)) rfl rfl).glob) ?_
          rintro r st' ⟨rfl, rfl⟩
          repeat ((conv => whnf); first | refine Br.t ?_ | refine Br.f ?_ | refine ⟨rfl, ?_⟩)
          conv => whnf
          refine ⟨isB_ok (isB_map b), ?_⟩
          repeat ((conv => whnf); first | refine Br.t ?_ | refine Br.f ?_ | refine ⟨rfl, ?_⟩)
          conv => whnf
          refine ⟨by show (strOf zs).size + (strOf b).size ≤ maxLen; rw [strOf_size, strOf_size]; exact len_mx (by omega), ?_⟩
          have eW := strOf_app zs b
          repeat ((conv => whnf); first | refine Br.t ?_ | refine Br.f ?_ | refine ⟨rfl, ?_⟩)
          conv => whnf
          refine CallW.mono ((atW [_] (bytes 1 (zs.map by8 ++ b.map by8) (by rw [← List.map_append]; exact bytes_one _) (by simp; omega)) rfl rfl).glob) ?_
          rintro r st' ⟨rfl, rfl⟩
          rw [← List.map_append]
          repeat ((conv => whnf); first | refine Br.t ?_ | refine Br.f ?_ | refine ⟨rfl, ?_⟩)
          conv => whnf
          refine ⟨isB_ok (isB_map (zs ++ b)), ?_⟩
          repeat ((conv => whnf); first | refine Br.t ?_ | refine Br.f ?_ | refine ⟨rfl, ?_⟩)
          conv => whnf
          refine Br.mk (fun q => ?_) (fun q => ?_)
          · exfalso
            have q : (!((strOf (zs ++ b)).data.toList == (strOf zs ++ strOf b).data.toList)) = true := q
            rw [eW] at q
            simp at q
          · repeat ((conv => whnf); first | refine Br.t ?_ | refine Br.f ?_ | refine ⟨rfl, ?_⟩)
            conv => whnf
            refine ⟨i + 1, ⟨by omega, ?_⟩, by omega, ?_⟩
            · intro x hx; exact hall x hx
            rw [et, List.flatMap_append, show [(d, n, b, m)].flatMap itB = itB (d, n, b, m) by simp, eB, hzs]
            refine Le.back (fun id => if id = 1 then 1 else 0) (by intro id hid; simp at hid) (by simp [wr]) rfl (by intro o ho; exact wr_cl _ _ o ho) ?_ ?_
            · simp [leS, mkS, V.up]
              exact ⟨eW, i64_id (by omega) (by omega)⟩
            · rw [wr_up, Nat.zero_add]
              rfl
        · have c1 : ¬ d % 4 = 1 := by rw [m1] at c1; simpa using c1
          repeat ((conv => whnf); first | refine Br.t ?_ | refine Br.f ?_ | refine ⟨rfl, ?_⟩)
          conv => whnf
          refine Br.mk (fun c2 => ?_) (fun c2 => ?_)
          · have c2 : d % 4 = 2 := by rw [m2] at c2; simpa using c2
            have eB : itB (d, n, b, m) = putN b.length ++ b := by unfold itB; rw [if_neg c0, if_neg c1, if_pos c2]
            have hp := putN_len 4 b.length (by omega)
            repeat ((conv => whnf); first | refine Br.t ?_ | refine Br.f ?_ | refine ⟨rfl, ?_⟩)
            conv => whnf
            have cb := block 0 (zs.map by8) (b.map by8) (bytes_one _) (by rw [List.length_map]; omega) (by rw [List.length_map]; omega)
            rw [List.length_map, List.append_assoc, ← List.map_append] at cb
            refine CallW.mono ((atW [_] cb rfl rfl).glob) ?_
            rintro r st' ⟨rfl, rfl⟩
            repeat ((conv => whnf); first | refine Br.t ?_ | refine Br.f ?_ | refine ⟨rfl, ?_⟩)
            conv => whnf
            refine draw_ok (own := own0) [] [] [(.i (.sl ((putN b.length).map by8)), wr 2 (zs.map by8 ++ (putN b.length ++ b).map by8) ++ [.row 0 4 false [(encIt (d, n, b, m)).map .i]])] rfl (by kernel_rfl) (Nat.zero_le _) ?_
            repeat ((conv => whnf); first | refine Br.t ?_ | refine Br.f ?_ | refine ⟨rfl, ?_⟩)
            conv => whnf
            have cp : CallW Tryd.prog G0 17 [.i (.int .i64 ((b.map by8).length : Nat))] [] (fun r st' => r = .i (.sl ((putN b.length).map by8)) ∧ st' = []) := by
              rw [List.length_map]; exact put17 _ (by omega)
            refine ⟨(cp.pure _ rfl rfl).glob, ?_⟩
            repeat ((conv => whnf); first | refine Br.t ?_ | refine Br.f ?_ | refine ⟨rfl, ?_⟩)
            conv => whnf
            refine ⟨isB_ok (isB_map (putN b.length)), ?_⟩
            repeat ((conv => whnf); first | refine Br.t ?_ | refine Br.f ?_ | refine ⟨rfl, ?_⟩)
            conv => whnf
            refine ⟨by show (strOf zs).size + (strOf (putN b.length)).size ≤ maxLen; rw [strOf_size, strOf_size]; exact len_mx (by omega), ?_⟩
            repeat ((conv => whnf); first | refine Br.t ?_ | refine Br.f ?_ | refine ⟨rfl, ?_⟩)
            conv => whnf
            refine ⟨isB_ok (isB_map b), ?_⟩
            repeat ((conv => whnf); first | refine Br.t ?_ | refine Br.f ?_ | refine ⟨rfl, ?_⟩)
            conv => whnf
            refine ⟨by show (strOf zs ++ strOf (putN b.length)).size + (strOf b).size ≤ maxLen; rw [strOf_app, strOf_size, strOf_size, List.length_append]; exact len_mx (by omega), ?_⟩
            repeat ((conv => whnf); first | refine Br.t ?_ | refine Br.f ?_ | refine ⟨rfl, ?_⟩)
            conv => whnf
            refine ⟨by repeat ((conv => whnf); first | exact trivial | refine ⟨rfl, ?_⟩), trivial, ?_⟩
            conv => whnf
            have eW : strOf zs ++ strOf (putN b.length) ++ strOf b = strOf (zs ++ (putN b.length ++ b)) := by rw [strOf_app, strOf_app, List.append_assoc]
            rw [eB] at hb
            obtain ⟨B, hB⟩ : ∃ B, putN b.length ++ b = B := ⟨_, rfl⟩
            rw [hB] at hb eB eW ⊢
            repeat ((conv => whnf); first | refine Br.t ?_ | refine Br.f ?_ | refine ⟨rfl, ?_⟩)
            conv => whnf
            refine CallW.mono ((atW [_] (bytes 2 (zs.map by8 ++ B.map by8) (by rw [← List.map_append]; exact bytes_one _) (by simp; omega)) rfl rfl).glob) ?_
            rintro r st' ⟨rfl, rfl⟩
            rw [← List.map_append]
            repeat ((conv => whnf); first | refine Br.t ?_ | refine Br.f ?_ | refine ⟨rfl, ?_⟩)
            conv => whnf
            refine ⟨isB_ok (isB_map (zs ++ B)), ?_⟩
            repeat ((conv => whnf); first | refine Br.t ?_ | refine Br.f ?_ | refine ⟨rfl, ?_⟩)
            conv => whnf
            refine Br.mk (fun q => ?_) (fun q => ?_)
            · exfalso
              have q : (!((strOf (zs ++ B)).data.toList == (strOf zs ++ strOf (putN b.length) ++ strOf b).data.toList)) = true := q
              rw [eW] at q
              simp at q
            · repeat ((conv => whnf); first | refine Br.t ?_ | refine Br.f ?_ | refine ⟨rfl, ?_⟩)
              conv => whnf
              refine ⟨i + 1, ⟨by omega, ?_⟩, by omega, ?_⟩
              · intro x hx; exact hall x hx
              rw [et, List.flatMap_append, show [(d, n, b, m)].flatMap itB = itB (d, n, b, m) by simp, eB, hzs]
              refine Le.back (fun id => if id = 1 then 2 else 0) (by intro id hid; simp at hid) (by simp [wr]) rfl (by intro o ho; exact wr_cl _ _ o ho) ?_ ?_
              · simp [leS, mkS, V.up]
                exact ⟨eW, i64_id (by omega) (by omega)⟩
              · rw [wr_up, Nat.zero_add]
                rfl
          · have c2 : ¬ d % 4 = 2 := by rw [m2] at c2; simpa using c2
            have eB : itB (d, n, b, m) = setN m := by unfold itB; rw [if_neg c0, if_neg c1, if_neg c2]
            repeat ((conv => whnf); first | refine Br.t ?_ | refine Br.f ?_ | refine ⟨rfl, ?_⟩)
            conv => whnf
            refine CallW.mono (atW [_] (set20 0 (zs.map by8) m o4 (by rw [List.length_map]; omega)) rfl rfl) ?_
            rintro r st' ⟨rfl, rfl⟩
            repeat ((conv => whnf); first | refine Br.t ?_ | refine Br.f ?_ | refine ⟨rfl, ?_⟩)
            conv => whnf
            refine CallW.mono (((set21 m o4).pure _ rfl rfl).glob) ?_
            rintro r st' ⟨rfl, rfl⟩
            rw [eB] at hb
            generalize setN m = B at eB hb ⊢
            repeat ((conv => whnf); first | refine Br.t ?_ | refine Br.f ?_ | refine ⟨rfl, ?_⟩)
            conv => whnf
            refine ⟨isB_ok (isB_map B), ?_⟩
            repeat ((conv => whnf); first | refine Br.t ?_ | refine Br.f ?_ | refine ⟨rfl, ?_⟩)
            conv => whnf
            refine ⟨by show (strOf zs).size + (strOf B).size ≤ maxLen; rw [strOf_size, strOf_size]; exact len_mx (by omega), ?_⟩
            have eW := strOf_app zs B
            repeat ((conv => whnf); first | refine Br.t ?_ | refine Br.f ?_ | refine ⟨rfl, ?_⟩)
            conv => whnf
            refine CallW.mono ((atW [_] (bytes ((ids m).length + (1 + 0)) (zs.map by8 ++ B.map by8) (by rw [← List.map_append]; exact bytes_one _) (by simp; omega)) rfl rfl).glob) ?_
            rintro r st' ⟨rfl, rfl⟩
            rw [← List.map_append]
            repeat ((conv => whnf); first | refine Br.t ?_ | refine Br.f ?_ | refine ⟨rfl, ?_⟩)
            conv => whnf
            refine ⟨isB_ok (isB_map (zs ++ B)), ?_⟩
            repeat ((conv => whnf); first | refine Br.t ?_ | refine Br.f ?_ | refine ⟨rfl, ?_⟩)
            conv => whnf
            refine Br.mk (fun q => ?_) (fun q => ?_)
            · exfalso
              have q : (!((strOf (zs ++ B)).data.toList == (strOf zs ++ strOf B).data.toList)) = true := q
              rw [eW] at q
              simp at q
            · repeat ((conv => whnf); first | refine Br.t ?_ | refine Br.f ?_ | refine ⟨rfl, ?_⟩)
              conv => whnf
              refine ⟨i + 1, ⟨by omega, ?_⟩, by omega, ?_⟩
              · intro x hx; exact hall x hx
              rw [et, List.flatMap_append, show [(d, n, b, m)].flatMap itB = itB (d, n, b, m) by simp, eB, hzs]
              refine Le.back (fun id => if id = 1 then ((ids m).length + (1 + 0)) else 0) (by intro id hid; simp at hid) (by simp [wr]) rfl (by intro o ho; exact wr_cl _ _ o ho) ?_ ?_
              · simp [leS, mkS, V.up]
                exact ⟨eW, i64_id (by omega) (by omega)⟩
              · rw [wr_up, Nat.zero_add]
                rfl
    · have g1 : i = l.length := by simp at g1; omega
      subst g1
      repeat ((conv => whnf); first | refine Br.t ?_ | refine Br.f ?_ | refine ⟨rfl, ?_⟩)
      conv => whnf
      refine fin (target := []) rfl (Nat.zero_le _) (by simp) rfl rfl
end Go.Proofs.YtdbmfnhbgacldaaDoor.Am
