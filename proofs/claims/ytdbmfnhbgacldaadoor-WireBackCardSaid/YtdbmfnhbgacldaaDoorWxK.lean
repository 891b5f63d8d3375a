/- Contracts: the law that what is written is read as it was, call by call. -/
import Derived.Test.YtdbmfnhbgacldaaDoorWxJ
namespace Go.Proofs.YtdbmfnhbgacldaaDoor.Am
set_option autoImplicit false
set_option linter.unusedVariables false
set_option linter.unusedSimpArgs false
set_option maxRecDepth 10000
set_option pp.maxSteps 20000
set_option pp.proofs false
theorem new33k (zs : List Nat) (h : zs.length ≤ 1000000) (pre : List Ob) : CallW Tryd.prog G0 23 [.ref pre.length 3 0 zs.length] (pre ++ [.row 3 1 false (lift (zs.map by8))]) (fun r st' => r = .ptr (pre.length + 2) 0 0 0 ∧ st' = pre ++ [.row 3 1 false (lift (zs.map by8)), .dead, rdB ⟨zs, 0, 0, 0⟩]) := by
  have c := (new33r zs h).vers (fun id => if id = 0 then 2 else 0)
  have c2 : CallW Tryd.prog G0 23 [.ref 0 3 0 zs.length] [.row 3 1 false (lift (zs.map by8))] (fun r st' => r = .ptr 2 0 0 0 ∧ st' = [.row 3 1 false (lift (zs.map by8)), .dead, rdB ⟨zs, 0, 0, 0⟩]) := by
    have e : upSt (fun id => if id = 0 then 2 else 0) 0 [Ob.row 1 1 false (lift (zs.map by8))] = [Ob.row 3 1 false (lift (zs.map by8))] := by
      simp only [upSt, Ob.up, map_up_lift]; rfl
    rw [e] at c
    refine CallW.mono c ?_
    rintro r st' ⟨r0, st0, ⟨rfl, rfl⟩, rfl, rfl⟩
    refine ⟨rfl, ?_⟩
    simp only [upSt, Ob.up, map_up_lift]
    rfl
  have c3 := CallW.under pre c2 (by
    intro o ho
    simp only [List.mem_singleton] at ho
    subst ho
    intro cs hcs
    simp only [lift, List.mem_map] at hcs
    obtain ⟨c, ⟨b, _, rfl⟩, rfl⟩ := hcs
    rfl) rfl
  simp only [List.map_cons, List.map_nil, ren_lift] at c3
  refine CallW.mono c3 ?_
  rintro r st' ⟨r0, s0, ⟨rfl, rfl⟩, _, rfl, rfl⟩
  refine ⟨rfl, ?_⟩
  simp only [List.map_cons, List.map_nil, ren_lift]
  rfl
set_option maxHeartbeats 4000000 in
theorem law6 (l : List Item) (hl : l.length ≤ 9223372036854775807) (hok : ∀ x ∈ l, okIt x) (more : Nat) (hmore : more < 256) : CallW Tryd.prog G1 6 [.i (.sl (l.map encIt)), .i (.int .u8 more)] [] (fun r st' => r = .i (.bool true) ∧ st' = []) := by
  refine call_of_bodyF 0 (Nat.le_refl _) Tryd.func6 rfl (fun a w => Tryd.call6 a w) (wpx_ok (own := fun t => t == 63) _ _ _ ?_)
  repeat ((conv => whnf); first | refine Br.t ?_ | refine Br.f ?_ | refine ⟨rfl, ?_⟩)
  conv => whnf
  refine (awake14.pure _ rfl rfl).mono ?_
  rintro r st' ⟨rfl, rfl⟩
  repeat ((conv => whnf); first | refine Br.t ?_ | refine Br.f ?_ | refine ⟨rfl, ?_⟩)
  conv => whnf
  refine CallW.mono (((long15 l hl).pure _ rfl rfl).glob) ?_
  rintro r st' ⟨rfl, rfl⟩
  repeat ((conv => whnf); first | refine Br.t ?_ | refine Br.f ?_ | refine ⟨rfl, ?_⟩)
  conv => whnf
  refine Br.mk (fun h => ?_) (fun h => ?_)
  · repeat ((conv => whnf); first | refine Br.t ?_ | refine Br.f ?_ | refine ⟨rfl, ?_⟩)
    conv => whnf
    refine (awake14.pure _ rfl rfl).mono ?_
    rintro r st' ⟨rfl, rfl⟩
    repeat ((conv => whnf); first | refine Br.t ?_ | refine Br.f ?_ | refine ⟨rfl, ?_⟩)
    conv => whnf
    refine fin (target := []) rfl (Nat.zero_le _) (by simp) rfl rfl
  · obtain ⟨hn, hall⟩ := lg_small l l.length (by simpa using h)
    repeat ((conv => whnf); first | refine Br.t ?_ | refine Br.f ?_ | refine ⟨rfl, ?_⟩)
    conv => whnf
    refine W.le (Le.nilCell 0 0 0 1 rfl rfl rfl) ?_
    refine loop_ok (α := Nat) (fun i => ⟨mkS 156 [(0, .i (.sl (l.map encIt))), (1, .i (.int .u8 more)), (4, .i (.bool false)), (5, .ptr 0 0 0 0), (6, .i (.int .i64 i))], wr 0 (((l.take i).flatMap itC).map by8)⟩)
      (fun i => i ≤ l.length) (fun i => l.length - i) 0 (Nat.zero_le _)
      (Le.slots (by simp [leS, mkS])) (fun i hi => wpx_ok (own := fun t => t == 63) _ _ _ ?_)
    have hlen : ∀ i, ((l.take i).flatMap itC).length ≤ 605 * 600 := fun i => by
      have := itemsC_len (l.take i) (fun y hy => hall y (List.mem_of_mem_take hy))
      have : (l.take i).length ≤ 600 := by rw [List.length_take]; omega
      omega
    repeat ((conv => whnf); first | refine Br.t ?_ | refine Br.f ?_ | refine ⟨rfl, ?_⟩)
    conv => whnf
    refine Br.mk (fun g1 => ?_) (fun g1 => ?_)
    · have g1 : i < l.length := by simpa using g1
      obtain ⟨x, hx⟩ : ∃ x, x = l[i] := ⟨_, rfl⟩
      have hxm : x ∈ l := hx ▸ List.getElem_mem g1
      have ex : (l.map encIt).getD (i : Int).toNat [] = encIt x := by rw [hx]; exact getD_enc g1
      have et : l.take (i + 1) = l.take i ++ [x] := by rw [hx]; simp
      have hln := hlen i
      obtain ⟨zs, hzs⟩ : ∃ zs, (l.take i).flatMap itC = zs := ⟨_, rfl⟩
      rw [hzs] at hln ⊢
      obtain ⟨o1, o2, o3, o4⟩ := hok x hxm
      have o5 := hall x hxm
      obtain ⟨d, n, b, m⟩ := x
      simp only at o1 o2 o3 o4 o5
      obtain ⟨m0, m1, m2⟩ := mod4 (n := d)
      repeat ((conv => whnf); first | refine Br.t ?_ | refine Br.f ?_ | refine ⟨rfl, ?_⟩)
      conv => whnf
      rw [ex]
      refine ⟨⟨by omega, by simp; omega, rfl⟩, ?_⟩
      repeat ((conv => whnf); first | refine Br.t ?_ | refine Br.f ?_ | refine ⟨rfl, ?_⟩)
      conv => whnf
      refine ⟨by decide, ?_⟩
      repeat ((conv => whnf); first | refine Br.t ?_ | refine Br.f ?_ | refine ⟨rfl, ?_⟩)
      conv => whnf
      refine Br.mk (fun c0 => ?_) (fun c0 => ?_)
      · have c0 : d % 4 = 0 := by rw [m0] at c0; simpa using c0
        have eB : itC (d, n, b, m) = putN (n % 65536).toNat := by unfold itC; rw [if_pos c0]
        repeat ((conv => whnf); first | refine Br.t ?_ | refine Br.f ?_ | refine ⟨rfl, ?_⟩)
        conv => whnf
        rw [ex]
        refine ⟨⟨by omega, by simp; omega, rfl⟩, ?_⟩
        repeat ((conv => whnf); first | refine Br.t ?_ | refine Br.f ?_ | refine ⟨rfl, ?_⟩)
        conv => whnf
        have cn := num 0 (zs.map by8) (n % 65536).toNat (by omega) (by rw [List.length_map]; omega)
        rw [← u16_i64] at cn
        refine CallW.mono ((atW [] cn rfl rfl).glob) ?_
        rintro r st' ⟨rfl, rfl⟩
        repeat ((conv => whnf); first | refine Br.t ?_ | refine Br.f ?_ | refine ⟨rfl, ?_⟩)
        conv => whnf
        refine ⟨i + 1, by omega, by omega, ?_⟩
        rw [et, List.flatMap_append, List.flatMap_singleton, eB, hzs]
        refine Le.back (fun id => if id = 1 then 1 else 0) (by intro id hid; simp at hid) (by simp [wr]) rfl (by intro o ho; exact wr_cl _ _ o ho) ?_ ?_
        · simp [leS, mkS, V.up]
          exact i64_id (by omega) (by omega)
        · rw [wr_up, Nat.zero_add, List.map_append]
          rfl
      · have c0 : ¬ d % 4 = 0 := by rw [m0] at c0; simpa using c0
        repeat ((conv => whnf); first | refine Br.t ?_ | refine Br.f ?_ | refine ⟨rfl, ?_⟩)
        conv => whnf
        refine Br.mk (fun c1 => ?_) (fun c1 => ?_)
        · have c1 : d % 4 = 1 := by rw [m1] at c1; simpa using c1
          have eB : itC (d, n, b, m) = b := by unfold itC; rw [if_neg c0, if_pos c1]
          repeat ((conv => whnf); first | refine Br.t ?_ | refine Br.f ?_ | refine ⟨rfl, ?_⟩)
          conv => whnf
          rw [ex]
          refine ⟨⟨by omega, by simp; omega, rfl⟩, ?_⟩
          repeat ((conv => whnf); first | refine Br.t ?_ | refine Br.f ?_ | refine ⟨rfl, ?_⟩)
          conv => whnf
          refine CallW.mono ((atW [] (raw 0 (zs.map by8) (b.map by8) (bytes_one _) (by rw [List.length_map, List.length_map]; omega)) rfl rfl).glob) ?_
          rintro r st' ⟨rfl, rfl⟩
          repeat ((conv => whnf); first | refine Br.t ?_ | refine Br.f ?_ | refine ⟨rfl, ?_⟩)
          conv => whnf
          refine ⟨i + 1, by omega, by omega, ?_⟩
          rw [et, List.flatMap_append, List.flatMap_singleton, eB, hzs]
          refine Le.back (fun id => if id = 1 then 1 else 0) (by intro id hid; simp at hid) (by simp [wr]) rfl (by intro o ho; exact wr_cl _ _ o ho) ?_ ?_
          · simp [leS, mkS, V.up]
            exact i64_id (by omega) (by omega)
          · rw [wr_up, Nat.zero_add, List.map_append]
            rfl
        · have c1 : ¬ d % 4 = 1 := by rw [m1] at c1; simpa using c1
          repeat ((conv => whnf); first | refine Br.t ?_ | refine Br.f ?_ | refine ⟨rfl, ?_⟩)
          conv => whnf
          refine Br.mk (fun c2 => ?_) (fun c2 => ?_)
          · have c2 : d % 4 = 2 := by rw [m2] at c2; simpa using c2
            have eB : itC (d, n, b, m) = putN b.length ++ b := by unfold itC; rw [if_neg c0, if_neg c1, if_pos c2]
            have hp := putN_len 4 b.length (by omega)
            repeat ((conv => whnf); first | refine Br.t ?_ | refine Br.f ?_ | refine ⟨rfl, ?_⟩)
            conv => whnf
            rw [ex]
            refine ⟨⟨by omega, by simp; omega, rfl⟩, ?_⟩
            repeat ((conv => whnf); first | refine Br.t ?_ | refine Br.f ?_ | refine ⟨rfl, ?_⟩)
            conv => whnf
            have cb := block 0 (zs.map by8) (b.map by8) (bytes_one _) (by rw [List.length_map]; omega) (by rw [List.length_map]; omega)
            rw [List.length_map, List.append_assoc, ← List.map_append] at cb
            refine CallW.mono ((atW [] cb rfl rfl).glob) ?_
            rintro r st' ⟨rfl, rfl⟩
            repeat ((conv => whnf); first | refine Br.t ?_ | refine Br.f ?_ | refine ⟨rfl, ?_⟩)
            conv => whnf
            refine ⟨i + 1, by omega, by omega, ?_⟩
            rw [et, List.flatMap_append, List.flatMap_singleton, eB, hzs]
            refine Le.back (fun id => if id = 1 then 2 else 0) (by intro id hid; simp at hid) (by simp [wr]) rfl (by intro o ho; exact wr_cl _ _ o ho) ?_ ?_
            · simp [leS, mkS, V.up]
              exact i64_id (by omega) (by omega)
            · rw [wr_up, Nat.zero_add, List.map_append]
              rfl
          · have c2 : ¬ d % 4 = 2 := by rw [m2] at c2; simpa using c2
            have eB : itC (d, n, b, m) = setN m := by unfold itC; rw [if_neg c0, if_neg c1, if_neg c2]
            repeat ((conv => whnf); first | refine Br.t ?_ | refine Br.f ?_ | refine ⟨rfl, ?_⟩)
            conv => whnf
            rw [ex]
            refine ⟨⟨by omega, by simp; omega, rfl⟩, ?_⟩
            repeat ((conv => whnf); first | refine Br.t ?_ | refine Br.f ?_ | refine ⟨rfl, ?_⟩)
            conv => whnf
            refine CallW.mono (atW [] (set20 0 (zs.map by8) m o4 (by rw [List.length_map]; omega)) rfl rfl) ?_
            rintro r st' ⟨rfl, rfl⟩
            repeat ((conv => whnf); first | refine Br.t ?_ | refine Br.f ?_ | refine ⟨rfl, ?_⟩)
            conv => whnf
            refine ⟨i + 1, by omega, by omega, ?_⟩
            rw [et, List.flatMap_append, List.flatMap_singleton, eB, hzs]
            refine Le.back (fun id => if id = 1 then ((ids m).length + (1 + 0)) else 0) (by intro id hid; simp at hid) (by simp [wr]) rfl (by intro o ho; exact wr_cl _ _ o ho) ?_ ?_
            · simp [leS, mkS, V.up]
              exact i64_id (by omega) (by omega)
            · rw [wr_up, Nat.zero_add, List.map_append]
              rfl
    · have g1 : i = l.length := by simp at g1; omega
      subst g1
      have hln := hlen l.length
      rw [List.take_length] at hln ⊢
      obtain ⟨zs, hzs⟩ : ∃ zs, l.flatMap itC = zs := ⟨_, rfl⟩
      rw [hzs] at hln ⊢
      repeat ((conv => whnf); first | refine Br.t ?_ | refine Br.f ?_ | refine ⟨rfl, ?_⟩)
      conv => whnf
      refine CallW.mono ((atW [] (bytes 0 (zs.map by8) (bytes_one _) (by rw [List.length_map]; omega)) rfl rfl).glob) ?_
      rintro r st' ⟨rfl, rfl⟩
      repeat ((conv => whnf); first | refine Br.t ?_ | refine Br.f ?_ | refine ⟨rfl, ?_⟩)
      conv => whnf
      refine ⟨apL (bytes_one zs) rfl 1 rfl rfl (by simp; omega) (len_mx (by simp; omega)), ?_⟩
      repeat ((conv => whnf); first | refine Br.t ?_ | refine Br.f ?_ | refine ⟨rfl, ?_⟩)
      conv => whnf
      refine ⟨⟨by intro cs hcs; simp at hcs; subst hcs; rfl, by simp [lift], by show (_ + 1) * 1 ≤ _; simp [lift]; omega, len_mx (by simp [lift]; omega)⟩, ?_⟩
      repeat ((conv => whnf); first | refine Br.t ?_ | refine Br.f ?_ | refine ⟨rfl, ?_⟩)
      conv => whnf
      obtain ⟨tt, htt⟩ : ∃ tt, zs ++ [more] = tt := ⟨_, rfl⟩
      have htl : tt.length = zs.length + 1 := by rw [← htt]; simp
      have htb : ∀ b ∈ tt, b < 256 := by
        intro b hb
        rw [← htt, ← hzs] at hb
        simp only [List.mem_append, List.mem_flatMap, List.mem_singleton] at hb
        rcases hb with ⟨x, hx, hb⟩ | rfl
        · exact itC_byte (hok x hx) b hb
        · exact hmore
      have cN := new33k tt (by omega) (wr 0 (zs.map by8))
      have e1 : 0 + (lift (zs.map by8)).length + (lift [[I.int .u8 (more : Int)]]).length = tt.length := by rw [htl]; simp [lift]
      have e2 : lift (zs.map by8) ++ lift [[I.int .u8 (more : Int)]] = lift (tt.map by8) := by rw [← htt, List.map_append, lift_app]; rfl
      rw [← e1, ← e2] at cN
      refine CallW.mono cN.glob ?_
      rintro r st' ⟨rfl, rfl⟩
      obtain ⟨T, hT⟩ : ∃ T, T = Ob.row 3 1 false (lift (zs.map by8) ++ lift [[I.int .u8 (more : Int)]]) := ⟨_, rfl⟩
      repeat ((conv => whnf); first | refine Br.t ?_ | refine Br.f ?_ | refine ⟨rfl, ?_⟩)
      conv => whnf
      refine loop_ok (α := Nat) (fun i => ⟨mkS 156 [(0, .i (.sl (l.map encIt))), (4, .i (.bool false)), (7, .i (.sl (zs.map by8))), (8, .ptr 4 0 0 0), (9, .i (.int .i64 i))], wr 0 (zs.map by8) ++ [.row 3 1 false (lift (zs.map by8) ++ lift [[I.int .u8 (more : Int)]]), .dead, rdB ⟨tt, ((l.take i).flatMap itC).length, 0, 0⟩]⟩)
        (fun i => i ≤ l.length) (fun i => l.length - i) 0 (Nat.zero_le _)
        (Le.slots (by simp [leS, mkS])) (fun i hi => wpx_ok (own := own0) _ _ _ ?_)
      have hdrop : ∀ i, tt.drop ((l.take i).flatMap itC).length = (l.drop i).flatMap itC ++ [more] := fun i => by
        rw [← htt, ← hzs]
        have : l.flatMap itC = (l.take i).flatMap itC ++ (l.drop i).flatMap itC := by rw [← List.flatMap_append, List.take_append_drop]
        rw [this, List.append_assoc, List.drop_left]
      have hple : ∀ i, ((l.take i).flatMap itC).length ≤ tt.length := fun i => by
        have := congrArg List.length (hdrop i)
        have h1 := hlen i
        rw [← htt, ← hzs]
        have : l.flatMap itC = (l.take i).flatMap itC ++ (l.drop i).flatMap itC := by rw [← List.flatMap_append, List.take_append_drop]
        rw [this]
        simp only [List.length_append]
        omega
      have okR : ∀ i, Rd.ok ⟨tt, ((l.take i).flatMap itC).length, 0, 0⟩ := fun i => ⟨by simp only; omega, hple i, htb⟩
      repeat ((conv => whnf); first | refine Br.t ?_ | refine Br.f ?_ | refine ⟨rfl, ?_⟩)
      conv => whnf
      refine Br.mk (fun g1 => ?_) (fun g1 => ?_)
      · have g1 : i < l.length := by simpa using g1
        obtain ⟨x, hx⟩ : ∃ x, x = l[i] := ⟨_, rfl⟩
        have hxm : x ∈ l := hx ▸ List.getElem_mem g1
        have ex : (l.map encIt).getD (i : Int).toNat [] = encIt x := by rw [hx]; exact getD_enc g1
        have et : ((l.take (i + 1)).flatMap itC).length = ((l.take i).flatMap itC).length + (itC x).length := by
          rw [show l.take (i + 1) = l.take i ++ [x] by rw [hx]; simp, List.flatMap_append, List.flatMap_singleton, List.length_append]
        have hdr := hdrop i
        rw [show l.drop i = x :: l.drop (i + 1) by rw [hx]; exact List.drop_eq_getElem_cons g1, List.flatMap_cons, List.append_assoc] at hdr
        have hok0 := okR i
        obtain ⟨P, hP⟩ : ∃ P, ((l.take i).flatMap itC).length = P := ⟨_, rfl⟩
        rw [hP] at hdr hok0 et ⊢
        obtain ⟨o1, o2, o3, o4⟩ := hok x hxm
        have o5 := hall x hxm
        have hidx : 0 ≤ (i : Int) ∧ (i : Int) < ((l.map encIt).length : Nat) ∧ ((l.map encIt).getD (i : Int).toNat []).length = szA Tryd.prog 30 := ⟨by omega, by simp; omega, by rw [ex]; rfl⟩
        obtain ⟨d, n, b, m⟩ := x
        simp only at o1 o2 o3 o4 o5
        obtain ⟨m0, m1, m2⟩ := mod4 (n := d)
        repeat ((conv => whnf); first | refine Br.t ?_ | refine Br.f ?_ | refine ⟨rfl, ?_⟩)
        conv => whnf
        rw [ex]
        refine ⟨⟨by omega, by simp; omega, rfl⟩, ?_⟩
        repeat ((conv => whnf); first | refine Br.t ?_ | refine Br.f ?_ | refine ⟨rfl, ?_⟩)
        conv => whnf
        refine ⟨by decide, ?_⟩
        repeat ((conv => whnf); first | refine Br.t ?_ | refine Br.f ?_ | refine ⟨rfl, ?_⟩)
        conv => whnf
        refine Br.mk (fun c0 => ?_) (fun c0 => ?_)
        · have c0 : d % 4 = 0 := by rw [m0] at c0; simpa using c0
          have eB : itC (d, n, b, m) = putN (n % 65536).toNat := by unfold itC; rw [if_pos c0]
          rw [eB] at hdr et
          have er := num_put (s := ⟨tt, P, 0, 0⟩) (mx := 65535) rfl hdr (by omega) (by omega)
          have cr := num37 ⟨tt, P, 0, 0⟩ hok0 65535
          rw [er] at cr
          repeat ((conv => whnf); first | refine Br.t ?_ | refine Br.f ?_ | refine ⟨rfl, ?_⟩)
          conv => whnf
          refine draw_ok (own := own0) [1] [(2, 1), (3, 1), (4, 1), (5, 1), (6, 1), (7, 1), (8, 1)] [(.i (.int .i64 (n % 65536).toNat), wr 0 (zs.map by8) ++ [.row 3 1 false (lift (zs.map by8) ++ lift [[I.int .u8 (more : Int)]]), .dead, rdB ⟨tt, P + (putN (n % 65536).toNat).length, 0, 0⟩])] rfl (by kernel_rfl) (Nat.zero_le _) ?_
          repeat ((conv => whnf); first | refine Br.t ?_ | refine Br.f ?_ | refine ⟨rfl, ?_⟩)
          conv => whnf
          refine ⟨(atR [_, _, _, _] [] cr rfl rfl).glob, ?_⟩
          repeat ((conv => whnf); first | refine Br.t ?_ | refine Br.f ?_ | refine ⟨rfl, ?_⟩)
          conv => whnf
          rw [ex]
          refine ⟨⟨by omega, by simp; omega, rfl⟩, ?_⟩
          repeat ((conv => whnf); first | refine Br.t ?_ | refine Br.f ?_ | refine ⟨rfl, ?_⟩)
          conv => whnf
          refine ⟨by repeat ((conv => whnf); first | exact trivial | refine ⟨rfl, ?_⟩), by repeat ((conv => whnf); first | exact trivial | refine ⟨by (conv => whnf); first | exact ⟨rfl, rfl⟩ | exact ⟨rfl, rfl, rfl⟩ | exact ⟨hidx, congrArg (fun z => V.iptr z 0) ex, rfl⟩ | exact ⟨isB_ok (isB_map b), rfl, rfl⟩, ?_⟩), ?_⟩
          repeat ((conv => whnf); first | refine Br.t ?_ | refine Br.f ?_ | refine ⟨rfl, ?_⟩)
          conv => whnf
          refine Br.mk (fun q => ?_) (fun q => ?_)
          · exfalso
            simp [u16_i64] at q
          · repeat ((conv => whnf); first | refine Br.t ?_ | refine Br.f ?_ | refine ⟨rfl, ?_⟩)
            conv => whnf
            refine CallW.mono ((atR [_, _, _, _] [] (fault35 _) rfl rfl).glob) ?_
            rintro r st' ⟨rfl, rfl⟩
            repeat ((conv => whnf); first | refine Br.t ?_ | refine Br.f ?_ | refine ⟨rfl, ?_⟩)
            conv => whnf
            refine ⟨by kernel_rfl, ?_⟩
            repeat ((conv => whnf); first | refine Br.t ?_ | refine Br.f ?_ | refine ⟨rfl, ?_⟩)
            conv => whnf
            refine ⟨i + 1, by omega, by omega, ?_⟩
            rw [et]
            refine Le.slots ?_
            simp [leS, mkS]
            exact i64_id (by omega) (by omega)
        · have c0 : ¬ d % 4 = 0 := by rw [m0] at c0; simpa using c0
          repeat ((conv => whnf); first | refine Br.t ?_ | refine Br.f ?_ | refine ⟨rfl, ?_⟩)
          conv => whnf
          refine Br.mk (fun c1 => ?_) (fun c1 => ?_)
          · have c1 : d % 4 = 1 := by rw [m1] at c1; simpa using c1
            have eB : itC (d, n, b, m) = b := by unfold itC; rw [if_neg c0, if_pos c1]
            rw [eB] at hdr et
            have er := raw_put (s := ⟨tt, P, 0, 0⟩) rfl hdr
            have cr := raw34 ⟨tt, P, 0, 0⟩ hok0 b.length
            rw [er] at cr
            have cr2 : CallW Tryd.prog G0 26 [.ptr 0 0 0 0, .i (.int .i64 ((b.map by8).length : Nat))] [rdB ⟨tt, P, 0, 0⟩] (fun r st' => r = .i (.sl (b.map by8)) ∧ st' = [rdB ⟨tt, P + b.length, 0, 0⟩]) := by rw [List.length_map]; exact cr
            repeat ((conv => whnf); first | refine Br.t ?_ | refine Br.f ?_ | refine ⟨rfl, ?_⟩)
            conv => whnf
            refine draw_ok (own := own0) [7] [(9, 7), (10, 7), (11, 7), (12, 7), (13, 7), (14, 7)] [(.i (.sl (b.map by8)), wr 0 (zs.map by8) ++ [.row 3 1 false (lift (zs.map by8) ++ lift [[I.int .u8 (more : Int)]]), .dead, rdB ⟨tt, P + b.length, 0, 0⟩])] rfl (by kernel_rfl) (Nat.zero_le _) ?_
            repeat ((conv => whnf); first | refine Br.t ?_ | refine Br.f ?_ | refine ⟨rfl, ?_⟩)
            conv => whnf
            rw [ex]
            refine ⟨⟨by omega, by simp; omega, rfl⟩, ?_⟩
            repeat ((conv => whnf); first | refine Br.t ?_ | refine Br.f ?_ | refine ⟨rfl, ?_⟩)
            conv => whnf
            refine ⟨(atR [_, _, _, _] [] cr2 rfl rfl).glob, ?_⟩
            repeat ((conv => whnf); first | refine Br.t ?_ | refine Br.f ?_ | refine ⟨rfl, ?_⟩)
            conv => whnf
            refine ⟨isB_ok (isB_map b), ?_⟩
            repeat ((conv => whnf); first | refine Br.t ?_ | refine Br.f ?_ | refine ⟨rfl, ?_⟩)
            conv => whnf
            rw [ex]
            refine ⟨⟨by omega, by simp; omega, rfl⟩, ?_⟩
            repeat ((conv => whnf); first | refine Br.t ?_ | refine Br.f ?_ | refine ⟨rfl, ?_⟩)
            conv => whnf
            refine ⟨isB_ok (isB_map b), ?_⟩
            repeat ((conv => whnf); first | refine Br.t ?_ | refine Br.f ?_ | refine ⟨rfl, ?_⟩)
            conv => whnf
            refine ⟨by repeat ((conv => whnf); first | exact trivial | refine ⟨rfl, ?_⟩), by repeat ((conv => whnf); first | exact trivial | refine ⟨by (conv => whnf); first | exact ⟨rfl, rfl⟩ | exact ⟨rfl, rfl, rfl⟩ | exact ⟨hidx, congrArg (fun z => V.iptr z 0) ex, rfl⟩ | exact ⟨isB_ok (isB_map b), rfl, rfl⟩, ?_⟩), ?_⟩
            repeat ((conv => whnf); first | refine Br.t ?_ | refine Br.f ?_ | refine ⟨rfl, ?_⟩)
            conv => whnf
            refine Br.mk (fun q => ?_) (fun q => ?_)
            · exfalso
              simp [u16_i64] at q
            · repeat ((conv => whnf); first | refine Br.t ?_ | refine Br.f ?_ | refine ⟨rfl, ?_⟩)
              conv => whnf
              refine CallW.mono ((atR [_, _, _, _] [] (fault35 _) rfl rfl).glob) ?_
              rintro r st' ⟨rfl, rfl⟩
              repeat ((conv => whnf); first | refine Br.t ?_ | refine Br.f ?_ | refine ⟨rfl, ?_⟩)
              conv => whnf
              refine ⟨by kernel_rfl, ?_⟩
              repeat ((conv => whnf); first | refine Br.t ?_ | refine Br.f ?_ | refine ⟨rfl, ?_⟩)
              conv => whnf
              refine ⟨i + 1, by omega, by omega, ?_⟩
              rw [et]
              refine Le.slots ?_
              simp [leS, mkS]
              exact i64_id (by omega) (by omega)
          · have c1 : ¬ d % 4 = 1 := by rw [m1] at c1; simpa using c1
            repeat ((conv => whnf); first | refine Br.t ?_ | refine Br.f ?_ | refine ⟨rfl, ?_⟩)
            conv => whnf
            refine Br.mk (fun c2 => ?_) (fun c2 => ?_)
            · have c2 : d % 4 = 2 := by rw [m2] at c2; simpa using c2
              have eB : itC (d, n, b, m) = putN b.length ++ b := by unfold itC; rw [if_neg c0, if_neg c1, if_pos c2]
              rw [eB] at hdr et
              have er := block_put (s := ⟨tt, P, 0, 0⟩) o5 rfl hdr
              have cr := block36 ⟨tt, P, 0, 0⟩ hok0 600
              rw [er] at cr
              repeat ((conv => whnf); first | refine Br.t ?_ | refine Br.f ?_ | refine ⟨rfl, ?_⟩)
              conv => whnf
              refine draw_ok (own := own0) [1] [(3, 1), (4, 1), (5, 1), (6, 1), (7, 1), (8, 1)] [(.i (.sl (b.map by8)), wr 0 (zs.map by8) ++ [.row 3 1 false (lift (zs.map by8) ++ lift [[I.int .u8 (more : Int)]]), .dead, rdB ⟨tt, P + (putN b.length ++ b).length, 0, 0⟩])] rfl (by kernel_rfl) (Nat.zero_le _) ?_
              repeat ((conv => whnf); first | refine Br.t ?_ | refine Br.f ?_ | refine ⟨rfl, ?_⟩)
              conv => whnf
              refine ⟨(atR [_, _, _, _] [] cr rfl rfl).glob, ?_⟩
              repeat ((conv => whnf); first | refine Br.t ?_ | refine Br.f ?_ | refine ⟨rfl, ?_⟩)
              conv => whnf
              refine ⟨isB_ok (isB_map b), ?_⟩
              repeat ((conv => whnf); first | refine Br.t ?_ | refine Br.f ?_ | refine ⟨rfl, ?_⟩)
              conv => whnf
              rw [ex]
              refine ⟨⟨by omega, by simp; omega, rfl⟩, ?_⟩
              repeat ((conv => whnf); first | refine Br.t ?_ | refine Br.f ?_ | refine ⟨rfl, ?_⟩)
              conv => whnf
              refine ⟨isB_ok (isB_map b), ?_⟩
              repeat ((conv => whnf); first | refine Br.t ?_ | refine Br.f ?_ | refine ⟨rfl, ?_⟩)
              conv => whnf
              refine ⟨by repeat ((conv => whnf); first | exact trivial | refine ⟨rfl, ?_⟩), by repeat ((conv => whnf); first | exact trivial | refine ⟨by (conv => whnf); first | exact ⟨rfl, rfl⟩ | exact ⟨rfl, rfl, rfl⟩ | exact ⟨hidx, congrArg (fun z => V.iptr z 0) ex, rfl⟩ | exact ⟨isB_ok (isB_map b), rfl, rfl⟩, ?_⟩), ?_⟩
              repeat ((conv => whnf); first | refine Br.t ?_ | refine Br.f ?_ | refine ⟨rfl, ?_⟩)
              conv => whnf
              refine Br.mk (fun q => ?_) (fun q => ?_)
              · exfalso
                simp [u16_i64] at q
              · repeat ((conv => whnf); first | refine Br.t ?_ | refine Br.f ?_ | refine ⟨rfl, ?_⟩)
                conv => whnf
                refine CallW.mono ((atR [_, _, _, _] [] (fault35 _) rfl rfl).glob) ?_
                rintro r st' ⟨rfl, rfl⟩
                repeat ((conv => whnf); first | refine Br.t ?_ | refine Br.f ?_ | refine ⟨rfl, ?_⟩)
                conv => whnf
                refine ⟨by kernel_rfl, ?_⟩
                repeat ((conv => whnf); first | refine Br.t ?_ | refine Br.f ?_ | refine ⟨rfl, ?_⟩)
                conv => whnf
                refine ⟨i + 1, by omega, by omega, ?_⟩
                rw [et]
                refine Le.slots ?_
                simp [leS, mkS]
                exact i64_id (by omega) (by omega)
            · have c2 : ¬ d % 4 = 2 := by rw [m2] at c2; simpa using c2
              have eB : itC (d, n, b, m) = setN m := by unfold itC; rw [if_neg c0, if_neg c1, if_neg c2]
              rw [eB] at hdr et
              have er := set_put (s := ⟨tt, P, 0, 0⟩) o4 rfl hdr
              have cr := set29 ⟨tt, P, 0, 0⟩ hok0 32 (by decide)
              rw [er] at cr
              repeat ((conv => whnf); first | refine Br.t ?_ | refine Br.f ?_ | refine ⟨rfl, ?_⟩)
              conv => whnf
              refine draw_ok (own := own0) [1] [(2, 1), (3, 1), (4, 1), (5, 1), (6, 1)] [(.i (.int .u32 m), wr 0 (zs.map by8) ++ [.row 3 1 false (lift (zs.map by8) ++ lift [[I.int .u8 (more : Int)]]), .dead, rdB ⟨tt, P + (setN m).length, 0, 0⟩])] rfl (by kernel_rfl) (Nat.zero_le _) ?_
              repeat ((conv => whnf); first | refine Br.t ?_ | refine Br.f ?_ | refine ⟨rfl, ?_⟩)
              conv => whnf
              refine ⟨(atR [_, _, _, _] [] cr rfl rfl).glob, ?_⟩
              repeat ((conv => whnf); first | refine Br.t ?_ | refine Br.f ?_ | refine ⟨rfl, ?_⟩)
              conv => whnf
              rw [ex]
              refine ⟨⟨by omega, by simp; omega, rfl⟩, ?_⟩
              repeat ((conv => whnf); first | refine Br.t ?_ | refine Br.f ?_ | refine ⟨rfl, ?_⟩)
              conv => whnf
              refine ⟨by repeat ((conv => whnf); first | exact trivial | refine ⟨rfl, ?_⟩), by repeat ((conv => whnf); first | exact trivial | refine ⟨by (conv => whnf); first | exact ⟨rfl, rfl⟩ | exact ⟨rfl, rfl, rfl⟩ | exact ⟨hidx, congrArg (fun z => V.iptr z 0) ex, rfl⟩ | exact ⟨isB_ok (isB_map b), rfl, rfl⟩, ?_⟩), ?_⟩
              repeat ((conv => whnf); first | refine Br.t ?_ | refine Br.f ?_ | refine ⟨rfl, ?_⟩)
              conv => whnf
              refine Br.mk (fun q => ?_) (fun q => ?_)
              · exfalso
                simp [u16_i64] at q
              · repeat ((conv => whnf); first | refine Br.t ?_ | refine Br.f ?_ | refine ⟨rfl, ?_⟩)
                conv => whnf
                refine CallW.mono ((atR [_, _, _, _] [] (fault35 _) rfl rfl).glob) ?_
                rintro r st' ⟨rfl, rfl⟩
                repeat ((conv => whnf); first | refine Br.t ?_ | refine Br.f ?_ | refine ⟨rfl, ?_⟩)
                conv => whnf
                refine ⟨by kernel_rfl, ?_⟩
                repeat ((conv => whnf); first | refine Br.t ?_ | refine Br.f ?_ | refine ⟨rfl, ?_⟩)
                conv => whnf
                refine ⟨i + 1, by omega, by omega, ?_⟩
                rw [et]
                refine Le.slots ?_
                simp [leS, mkS]
                exact i64_id (by omega) (by omega)
      · have g1 : i = l.length := by simp at g1; omega
        subst g1
        have hok0 := okR l.length
        rw [List.take_length, hzs] at hok0 ⊢
        repeat ((conv => whnf); first | refine Br.t ?_ | refine Br.f ?_ | refine ⟨rfl, ?_⟩)
        conv => whnf
        have ed : Rd.done ⟨tt, zs.length, 0, 0⟩ = ⟨tt, zs.length, zs.length, 7⟩ := by unfold Rd.done Rd.fail; rw [if_pos ⟨rfl, by simp only; omega⟩]; rfl
        have cd := done38 _ hok0
        rw [ed] at cd
        refine CallW.mono ((atR [_, _, _, _] [] (left50 _ hok0) rfl rfl).glob) ?_
        rintro r st' ⟨rfl, rfl⟩
        repeat ((conv => whnf); first | refine Br.t ?_ | refine Br.f ?_ | refine ⟨rfl, ?_⟩)
        conv => whnf
        refine Br.mk (fun q => ?_) (fun q => ?_)
        · repeat ((conv => whnf); first | refine Br.t ?_ | refine Br.f ?_ | refine ⟨rfl, ?_⟩)
          conv => whnf
          refine CallW.mono ((atR [_, _, _, _] [] cd rfl rfl).glob) ?_
          rintro r st' ⟨rfl, rfl⟩
          repeat ((conv => whnf); first | refine Br.t ?_ | refine Br.f ?_ | refine ⟨rfl, ?_⟩)
          conv => whnf
          refine CallW.mono ((atR [_, _, _, _] [] (fault35 _) rfl rfl).glob) ?_
          rintro r st' ⟨rfl, rfl⟩
          repeat ((conv => whnf); first | refine Br.t ?_ | refine Br.f ?_ | refine ⟨rfl, ?_⟩)
          conv => whnf
          refine ⟨by kernel_rfl, ?_⟩
          repeat ((conv => whnf); first | refine Br.t ?_ | refine Br.f ?_ | refine ⟨rfl, ?_⟩)
          conv => whnf
          refine fin (target := []) rfl (Nat.zero_le _) (by simp) ?_ rfl
          rw [List.length_map]
          simp
        · exfalso
          simp only [beq_eq_false_iff_ne, ne_eq] at q
          apply q
          omega
end Go.Proofs.YtdbmfnhbgacldaaDoor.Am
