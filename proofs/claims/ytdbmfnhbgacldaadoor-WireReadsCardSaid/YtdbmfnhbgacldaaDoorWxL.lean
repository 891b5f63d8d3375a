/- Contracts: the law that whatever any calls read of any bytes is the document's. -/
import Derived.Test.YtdbmfnhbgacldaaDoorWxI
import Derived.Test.YtdbmfnhbgacldaaDoorWxJ
namespace Go.Proofs.YtdbmfnhbgacldaaDoor.Am
set_option autoImplicit false
set_option linter.unusedVariables false
set_option linter.unusedSimpArgs false
set_option maxRecDepth 10000
set_option pp.maxSteps 20000
set_option pp.proofs false
theorem new33v (zs : List Nat) (h : zs.length ≤ 1000000) : CallW Tryd.prog G0 23 [.ref 0 2 0 zs.length] [.row 2 1 false (lift (zs.map by8))] (fun r st' => r = .ptr 2 0 0 0 ∧ st' = [.row 2 1 false (lift (zs.map by8)), .dead, rdB ⟨zs, 0, 0, 0⟩]) := by
  have c := (new33r zs h).vers (fun id => if id = 0 then 1 else 0)
  have e : upSt (fun id => if id = 0 then 1 else 0) 0 [Ob.row 1 1 false (lift (zs.map by8))] = [Ob.row 2 1 false (lift (zs.map by8))] := by
    simp only [upSt, Ob.up, map_up_lift]; rfl
  rw [e] at c
  refine CallW.mono c ?_
  rintro r st' ⟨r0, st0, ⟨rfl, rfl⟩, rfl, rfl⟩
  refine ⟨rfl, ?_⟩
  simp only [upSt, Ob.up, map_up_lift]
  rfl
theorem lift_set {α : Type} (f : α → List I) (xs : List α) (i : Nat) (x : α) : (lift (xs.map f)).set i ((f x).map V.i) = lift ((xs.set i x).map f) := by
  simp [lift, List.map_set]
theorem u8_wrap (x : Nat) : IntKind.u8.wrap ((x : Int) + 1) = (((x + 1) % 256 : Nat) : Int) := by
  simp [IntKind.wrap, IntKind.signed, IntKind.bits]
theorem two_cl (T : List Nat) (s s' : Rd) (m : Nat) : ∀ o ∈ [Ob.row 2 1 false (lift (T.map by8)), .dead, rdB s, rdB s'], o.cl m := by
  intro o ho
  simp only [List.mem_cons, List.not_mem_nil, or_false] at ho
  rcases ho with rfl | rfl | rfl | rfl
  · intro cs hcs
    simp only [lift, List.mem_map] at hcs
    obtain ⟨c, ⟨b, _, rfl⟩, rfl⟩ := hcs
    rfl
  · trivial
  · intro cs hcs
    simp only [List.mem_singleton] at hcs
    subst hcs
    rfl
  · intro cs hcs
    simp only [List.mem_singleton] at hcs
    subst hcs
    rfl
set_option maxHeartbeats 4000000 in
theorem law4 (bs : List Nat) (hl : bs.length ≤ 9223372036854775807) (hb : ∀ b ∈ bs, b < 256) (l : List Item) (h1 : l.length ≤ 9223372036854775807) (ok1 : ∀ x ∈ l, okIt x) :
    CallW Tryd.prog G1 4 [.i (.sl (bs.map by8)), .i (.sl (l.map encIt))] [] (fun r st' => r = .i (.bool true) ∧ st' = []) := by
  refine call_of_bodyF 0 (Nat.le_refl _) Tryd.func4 rfl (fun a w => Tryd.call4 a w) (wpx_ok (own := fun t => t == 26) _ _ _ ?_)
  repeat ((conv => whnf); first | refine Br.t ?_ | refine Br.f ?_ | refine ⟨rfl, ?_⟩)
  conv => whnf
  refine (awake14.pure _ rfl rfl).mono ?_
  rintro r st' ⟨rfl, rfl⟩
  repeat ((conv => whnf); first | refine Br.t ?_ | refine Br.f ?_ | refine ⟨rfl, ?_⟩)
  conv => whnf
  refine Br.mk (fun g => ?_) (fun g => ?_)
  · repeat ((conv => whnf); first | refine Br.t ?_ | refine Br.f ?_ | refine ⟨rfl, ?_⟩)
    conv => whnf
    refine (awake14.pure _ rfl rfl).mono ?_
    rintro r st' ⟨rfl, rfl⟩
    repeat ((conv => whnf); first | refine Br.t ?_ | refine Br.f ?_ | refine ⟨rfl, ?_⟩)
    conv => whnf
    refine fin (target := []) rfl (Nat.zero_le _) (by simp) rfl rfl
  · have g : bs.length ≤ 600 := by simp at g; omega
    repeat ((conv => whnf); first | refine Br.t ?_ | refine Br.f ?_ | refine ⟨rfl, ?_⟩)
    conv => whnf
    refine CallW.mono (((long15 l h1).pure _ rfl rfl).glob) ?_
    rintro r st' ⟨rfl, rfl⟩
    repeat ((conv => whnf); first | refine Br.t ?_ | refine Br.f ?_ | refine ⟨rfl, ?_⟩)
    conv => whnf
    refine Br.mk (fun q1 => ?_) (fun q1 => ?_)
    · repeat ((conv => whnf); first | refine Br.t ?_ | refine Br.f ?_ | refine ⟨rfl, ?_⟩)
      conv => whnf
      refine (awake14.pure _ rfl rfl).mono ?_
      rintro r st' ⟨rfl, rfl⟩
      repeat ((conv => whnf); first | refine Br.t ?_ | refine Br.f ?_ | refine ⟨rfl, ?_⟩)
      conv => whnf
      refine fin (target := []) rfl (Nat.zero_le _) (by simp) rfl rfl
    · repeat ((conv => whnf); first | refine Br.t ?_ | refine Br.f ?_ | refine ⟨rfl, ?_⟩)
      conv => whnf
      refine ⟨apL (bytes_one bs) rfl 1 rfl rfl (by simp; omega) (len_mx (by simp; omega)), ?_⟩
      repeat ((conv => whnf); first | refine Br.t ?_ | refine Br.f ?_ | refine ⟨rfl, ?_⟩)
      conv => whnf
      have cN := new33v bs (by omega)
      have e1 : 0 + (lift (bs.map by8)).length = bs.length := by simp [lift]
      rw [← e1] at cN
      refine CallW.mono cN.glob ?_
      rintro r st' ⟨rfl, rfl⟩
      rw [e1]
      repeat ((conv => whnf); first | refine Br.t ?_ | refine Br.f ?_ | refine ⟨rfl, ?_⟩)
      conv => whnf
      refine loop_ok (α := Nat × List Nat) (fun x => ⟨mkS 180 [(0, .i (.sl (bs.map by8))), (1, .i (.sl (l.map encIt))), (4, .i (.bool false)), (5, .ref 0 2 0 bs.length), (6, .ptr 2 0 0 0), (7, .i (.int .i64 x.1))], [.row 2 1 false (lift (x.2.map by8)), .dead, rdB ⟨bs, 0, 0, 0⟩]⟩)
        (fun x => x.1 ≤ bs.length ∧ x.2.length = bs.length) (fun x => bs.length - x.1) (0, bs) ⟨Nat.zero_le _, rfl⟩
        (Le.slots (by simp [leS, mkS])) (fun x hx => wpx_ok (own := own0) _ _ _ ?_)
      obtain ⟨i, T⟩ := x
      obtain ⟨k1, k2⟩ := hx
      simp only at k1 k2
      dsimp only
      repeat ((conv => whnf); first | refine Br.t ?_ | refine Br.f ?_ | refine ⟨rfl, ?_⟩)
      conv => whnf
      refine Br.mk (fun z => ?_) (fun z => ?_)
      · have z : i < bs.length := by simp at z; omega
        obtain ⟨y, hy⟩ : ∃ y, y = T[i]'(by omega) := ⟨_, rfl⟩
        have ey : (lift (T.map by8)).getD (0 + (i : Int).toNat) [] = (by8 y).map V.i := by rw [hy, Nat.zero_add, Int.toNat_natCast]; exact lift_getD _ _ (by omega)
        repeat ((conv => whnf); first | refine Br.t ?_ | refine Br.f ?_ | refine ⟨rfl, ?_⟩)
        conv => whnf
        refine ⟨by omega, ?_⟩
        repeat ((conv => whnf); first | refine Br.t ?_ | refine Br.f ?_ | refine ⟨rfl, ?_⟩)
        conv => whnf
        rw [ey]
        repeat ((conv => whnf); first | refine Br.t ?_ | refine Br.f ?_ | refine ⟨rfl, ?_⟩)
        conv => whnf
        refine ⟨by omega, ?_⟩
        repeat ((conv => whnf); first | refine Br.t ?_ | refine Br.f ?_ | refine ⟨rfl, ?_⟩)
        conv => whnf
        rw [ey]
        refine ⟨by rfl, ?_⟩
        have es : (lift (T.map by8)).set (0 + (i : Int).toNat) [V.i (I.int .u8 (IntKind.u8.wrap ((y : Int) + 1)))] = lift ((T.set i ((y + 1) % 256)).map by8) := by
          rw [Nat.zero_add, Int.toNat_natCast, u8_wrap]; exact lift_set by8 T i ((y + 1) % 256)
        repeat ((conv => whnf); first | refine Br.t ?_ | refine Br.f ?_ | refine ⟨rfl, ?_⟩)
        conv => whnf
        refine ⟨(i + 1, T.set i ((y + 1) % 256)), ⟨by simp only; omega, by simpa using k2⟩, by simp only; omega, ?_⟩
        dsimp only
        rw [← es]
        refine Le.slots ?_
        simp [leS, mkS]
        exact i64_id (by omega) (by omega)
      · have z : i = bs.length := by simp at z; omega
        subst z
        repeat ((conv => whnf); first | refine Br.t ?_ | refine Br.f ?_ | refine ⟨rfl, ?_⟩)
        conv => whnf
        refine loop_ok (α := Nat × Rd) (fun x => ⟨mkS 180 [(0, .i (.sl (bs.map by8))), (1, .i (.sl (l.map encIt))), (4, .i (.bool false)), (6, .ptr 2 0 0 0), (8, .ptr 3 0 0 0), (9, .i (.int .i64 x.1))], [.row 2 1 false (lift (T.map by8)), .dead, rdB x.2, rdB x.2]⟩)
          (fun x => x.1 ≤ l.length ∧ x.2.at' bs) (fun x => l.length - x.1) (0, ⟨bs, 0, 0, 0⟩) ⟨Nat.zero_le _, ⟨by simp only; omega, Nat.zero_le _, hb⟩, rfl, Nat.zero_le _⟩
          (Le.slots (by simp [leS, mkS])) (fun x hx => wpx_ok (own := own0) _ _ _ ?_)
        obtain ⟨i, s⟩ := x
        obtain ⟨j1, j2⟩ := hx
        simp only at j1 j2
        dsimp only
        have hok := j2.1
        repeat ((conv => whnf); first | refine Br.t ?_ | refine Br.f ?_ | refine ⟨rfl, ?_⟩)
        conv => whnf
        refine Br.mk (fun g1 => ?_) (fun g1 => ?_)
        · have g1 : i < l.length := by simpa using g1
          obtain ⟨x, hx⟩ : ∃ x, x = l[i] := ⟨_, rfl⟩
          have hxm : x ∈ l := hx ▸ List.getElem_mem g1
          have ex : (l.map encIt).getD (i : Int).toNat [] = encIt x := by rw [hx]; exact getD_enc g1
          obtain ⟨o1, o2, o3, o4⟩ := ok1 x hxm
          obtain ⟨d, n, b, m⟩ := x
          simp only at o1 o2 o3 o4
          obtain ⟨m0, m1, m2⟩ := mod4 (n := d)
          repeat ((conv => whnf); first | refine Br.t ?_ | refine Br.f ?_ | refine ⟨rfl, ?_⟩)
          conv => whnf
          rw [ex]
          refine ⟨⟨by omega, by simp; omega, rfl⟩, ?_⟩
          repeat ((conv => whnf); first | refine Br.t ?_ | refine Br.f ?_ | refine ⟨rfl, ?_⟩)
          conv => whnf
          rw [ex]
          refine ⟨⟨by omega, by simp; omega, rfl⟩, ?_⟩
          repeat ((conv => whnf); first | refine Br.t ?_ | refine Br.f ?_ | refine ⟨rfl, ?_⟩)
          conv => whnf
          refine ⟨by decide, ?_⟩
          repeat ((conv => whnf); first | refine Br.t ?_ | refine Br.f ?_ | refine ⟨rfl, ?_⟩)
          conv => whnf
          refine Br.mk (fun c0 => ?_) (fun c0 => ?_)
          · repeat ((conv => whnf); first | refine Br.t ?_ | refine Br.f ?_ | refine ⟨rfl, ?_⟩)
            conv => whnf
            refine CallW.mono ((atR [_, _] [_] (num37 s hok n) rfl rfl).glob) ?_
            rintro r st' ⟨rfl, rfl⟩
            repeat ((conv => whnf); first | refine Br.t ?_ | refine Br.f ?_ | refine ⟨rfl, ?_⟩)
            conv => whnf
            refine CallW.mono ((atR [_, _, _] [] (num41 s hok n) rfl rfl).glob) ?_
            rintro r st' ⟨rfl, rfl⟩
            have k2' := at_num j2 n
            obtain ⟨v, s', e'⟩ : ∃ v s', s.num n = (v, s') := ⟨_, _, rfl⟩
            rw [e'] at k2' ⊢
            simp only at k2' ⊢
            repeat ((conv => whnf); first | refine Br.t ?_ | refine Br.f ?_ | refine ⟨rfl, ?_⟩)
            conv => whnf
            refine Br.mk (fun q => by exfalso; simp at q) (fun q => ?_)
            repeat ((conv => whnf); first | refine Br.t ?_ | refine Br.f ?_ | refine ⟨rfl, ?_⟩)
            conv => whnf
            refine CallW.mono ((atR [_, _] [_] (fault35 s') rfl rfl).glob) ?_
            rintro r st' ⟨rfl, rfl⟩
            repeat ((conv => whnf); first | refine Br.t ?_ | refine Br.f ?_ | refine ⟨rfl, ?_⟩)
            conv => whnf
            have hp' := k2'.1.2.1
            have hb' := k2'.2.1
            refine draw_ok (own := own0) [] [] [(.i (.int .i64 (s'.bs.length - s'.p : Nat)), [.row 2 1 false (lift (T.map by8)), .dead, rdB s', rdB s', .row 0 2 false [[.i (.int .i64 s'.a), .i (.int .i64 s'.why)]]])] rfl (by kernel_rfl) (Nat.zero_le _) ?_
            repeat ((conv => whnf); first | refine Br.t ?_ | refine Br.f ?_ | refine ⟨rfl, ?_⟩)
            conv => whnf
            refine Br.mk (fun z => by exfalso; simp at z) (fun z => ?_)
            repeat ((conv => whnf); first | refine Br.t ?_ | refine Br.f ?_ | refine ⟨rfl, ?_⟩)
            conv => whnf
            refine Br.mk (fun z => by exfalso; simp at z) (fun z => ?_)
            repeat ((conv => whnf); first | refine Br.t ?_ | refine Br.f ?_ | refine ⟨rfl, ?_⟩)
            conv => whnf
            refine ⟨(atR [_, _] [_, _] (left50 s' k2'.1) rfl rfl).glob, ?_⟩
            repeat ((conv => whnf); first | refine Br.t ?_ | refine Br.f ?_ | refine ⟨rfl, ?_⟩)
            conv => whnf
            refine ⟨by repeat ((conv => whnf); first | exact trivial | refine ⟨rfl, ?_⟩), trivial, ?_⟩
            conv => whnf
            have el : IntKind.i64.wrap ((((bs.map by8).length : Nat) : Int) - (s'.p : Int)) = ((s'.bs.length - s'.p : Nat) : Int) := by
              rw [List.length_map, hb', i64_id (by rw [hb'] at hp'; omega) (by omega)]
              rw [hb'] at hp'
              omega
            refine Br.mk (fun z => ?_) (fun z => ?_)
            · exfalso
              rw [el] at z
              simp at z
            · repeat ((conv => whnf); first | refine Br.t ?_ | refine Br.f ?_ | refine ⟨rfl, ?_⟩)
              conv => whnf
              refine ⟨(i + 1, s'), ⟨by simp only; omega, k2'⟩, by simp only; omega, Le.back (fun _ => 0) (by intro id hid; rfl) (by simp) rfl (two_cl T s' s' _) ?_ ?_⟩
              · simp [leS, mkS, V.up]
                exact i64_id (by omega) (by omega)
              · simp only [upSt, Ob.up, map_up_lift]
                rfl
          · repeat ((conv => whnf); first | refine Br.t ?_ | refine Br.f ?_ | refine ⟨rfl, ?_⟩)
            conv => whnf
            refine Br.mk (fun c1 => ?_) (fun c1 => ?_)
            · repeat ((conv => whnf); first | refine Br.t ?_ | refine Br.f ?_ | refine ⟨rfl, ?_⟩)
              conv => whnf
              have k2' := at_raw j2 n
              have hbs := raw_ok hok n
              have c1' := raw34 s hok n
              have c2' := raw40 s hok n o2.2
              obtain ⟨v, s', e'⟩ : ∃ v s', s.raw n = (v, s') := ⟨_, _, rfl⟩
              rw [e'] at k2' c1' c2'
              simp only at k2' c1' c2'
              refine draw_ok (own := own0) [2, 6] [(3, 9), (4, 2), (5, 2)] [(.i (.sl (v.map by8)), [.row 2 1 false (lift (T.map by8)), .dead, rdB s', rdB s]), (.i (.sl (v.map by8)), [.row 2 1 false (lift (T.map by8)), .dead, rdB s', rdB s'])] rfl (by kernel_rfl) (Nat.zero_le _) ?_
              repeat ((conv => whnf); first | refine Br.t ?_ | refine Br.f ?_ | refine ⟨rfl, ?_⟩)
              conv => whnf
              refine ⟨(atR [_, _] [_] c1' rfl rfl).glob, ?_⟩
              repeat ((conv => whnf); first | refine Br.t ?_ | refine Br.f ?_ | refine ⟨rfl, ?_⟩)
              conv => whnf
              refine ⟨isB_ok (isB_map v), ?_⟩
              repeat ((conv => whnf); first | refine Br.t ?_ | refine Br.f ?_ | refine ⟨rfl, ?_⟩)
              conv => whnf
              refine ⟨(atR [_, _, _] [] c2' rfl rfl).glob, ?_⟩
              repeat ((conv => whnf); first | refine Br.t ?_ | refine Br.f ?_ | refine ⟨rfl, ?_⟩)
              conv => whnf
              refine ⟨isB_ok (isB_map v), ?_⟩
              repeat ((conv => whnf); first | refine Br.t ?_ | refine Br.f ?_ | refine ⟨rfl, ?_⟩)
              conv => whnf
              refine ⟨by repeat ((conv => whnf); first | exact trivial | refine ⟨rfl, ?_⟩), by repeat ((conv => whnf); first | exact trivial | refine ⟨by (conv => whnf); first | exact ⟨rfl, rfl⟩ | exact ⟨rfl, rfl, rfl⟩ | exact ⟨isB_ok (isB_map v), rfl, rfl⟩, ?_⟩), ?_⟩
              repeat ((conv => whnf); first | refine Br.t ?_ | refine Br.f ?_ | refine ⟨rfl, ?_⟩)
              conv => whnf
              refine Br.mk (fun q => by exfalso; simp at q) (fun q => ?_)
              repeat ((conv => whnf); first | refine Br.t ?_ | refine Br.f ?_ | refine ⟨rfl, ?_⟩)
              conv => whnf
              refine CallW.mono ((atR [_, _] [_] (fault35 s') rfl rfl).glob) ?_
              rintro r st' ⟨rfl, rfl⟩
              repeat ((conv => whnf); first | refine Br.t ?_ | refine Br.f ?_ | refine ⟨rfl, ?_⟩)
              conv => whnf
              have hp' := k2'.1.2.1
              have hb' := k2'.2.1
              refine draw_ok (own := own0) [] [] [(.i (.int .i64 (s'.bs.length - s'.p : Nat)), [.row 2 1 false (lift (T.map by8)), .dead, rdB s', rdB s', .row 0 2 false [[.i (.int .i64 s'.a), .i (.int .i64 s'.why)]]])] rfl (by kernel_rfl) (Nat.zero_le _) ?_
              repeat ((conv => whnf); first | refine Br.t ?_ | refine Br.f ?_ | refine ⟨rfl, ?_⟩)
              conv => whnf
              refine Br.mk (fun z => by exfalso; simp at z) (fun z => ?_)
              repeat ((conv => whnf); first | refine Br.t ?_ | refine Br.f ?_ | refine ⟨rfl, ?_⟩)
              conv => whnf
              refine Br.mk (fun z => by exfalso; simp at z) (fun z => ?_)
              repeat ((conv => whnf); first | refine Br.t ?_ | refine Br.f ?_ | refine ⟨rfl, ?_⟩)
              conv => whnf
              refine ⟨(atR [_, _] [_, _] (left50 s' k2'.1) rfl rfl).glob, ?_⟩
              repeat ((conv => whnf); first | refine Br.t ?_ | refine Br.f ?_ | refine ⟨rfl, ?_⟩)
              conv => whnf
              refine ⟨by repeat ((conv => whnf); first | exact trivial | refine ⟨rfl, ?_⟩), trivial, ?_⟩
              conv => whnf
              have el : IntKind.i64.wrap ((((bs.map by8).length : Nat) : Int) - (s'.p : Int)) = ((s'.bs.length - s'.p : Nat) : Int) := by
                rw [List.length_map, hb', i64_id (by rw [hb'] at hp'; omega) (by omega)]
                rw [hb'] at hp'
                omega
              refine Br.mk (fun z => ?_) (fun z => ?_)
              · exfalso
                rw [el] at z
                simp at z
              · repeat ((conv => whnf); first | refine Br.t ?_ | refine Br.f ?_ | refine ⟨rfl, ?_⟩)
                conv => whnf
                refine ⟨(i + 1, s'), ⟨by simp only; omega, k2'⟩, by simp only; omega, Le.back (fun _ => 0) (by intro id hid; rfl) (by simp) rfl (two_cl T s' s' _) ?_ ?_⟩
                · simp [leS, mkS, V.up]
                  exact i64_id (by omega) (by omega)
                · simp only [upSt, Ob.up, map_up_lift]
                  rfl
            · repeat ((conv => whnf); first | refine Br.t ?_ | refine Br.f ?_ | refine ⟨rfl, ?_⟩)
              conv => whnf
              refine Br.mk (fun c2 => ?_) (fun c2 => ?_)
              · repeat ((conv => whnf); first | refine Br.t ?_ | refine Br.f ?_ | refine ⟨rfl, ?_⟩)
                conv => whnf
                have hn1 := num_ok hok n
                have hlt := num_lt (s := s) n
                have k2' : (s.block n).2.at' bs := at_raw (at_num j2 n) _
                have c1' := block36 s hok n
                have c2' := num41 s hok n
                have c3' := raw40 (s.num n).2 hn1 (s.num n).1 (by omega)
                rw [show (s.num n).2.raw ((s.num n).1 : Nat) = s.block n from rfl] at c3'
                obtain ⟨w, s1, ew⟩ : ∃ v s', s.num n = (v, s') := ⟨_, _, rfl⟩
                obtain ⟨v, s', e'⟩ : ∃ v s', s.block n = (v, s') := ⟨_, _, rfl⟩
                rw [ew] at c2' c3'
                rw [e'] at k2' c1' c3'
                simp only at k2' c1' c2' c3'
                refine draw_ok (own := own0) [2, 7, 8] [(3, 8), (3, 11), (4, 2), (4, 8), (5, 2), (6, 2)] [(.i (.sl (v.map by8)), [.row 2 1 false (lift (T.map by8)), .dead, rdB s', rdB s]), (.i (.int .i64 w), [.row 2 1 false (lift (T.map by8)), .dead, rdB s', rdB s1]), (.i (.sl (v.map by8)), [.row 2 1 false (lift (T.map by8)), .dead, rdB s', rdB s'])] rfl (by kernel_rfl) (Nat.zero_le _) ?_
                repeat ((conv => whnf); first | refine Br.t ?_ | refine Br.f ?_ | refine ⟨rfl, ?_⟩)
                conv => whnf
                refine ⟨(atR [_, _] [_] c1' rfl rfl).glob, ?_⟩
                repeat ((conv => whnf); first | refine Br.t ?_ | refine Br.f ?_ | refine ⟨rfl, ?_⟩)
                conv => whnf
                refine ⟨isB_ok (isB_map v), ?_⟩
                repeat ((conv => whnf); first | refine Br.t ?_ | refine Br.f ?_ | refine ⟨rfl, ?_⟩)
                conv => whnf
                refine ⟨(atR [_, _, _] [] c2' rfl rfl).glob, ?_⟩
                repeat ((conv => whnf); first | refine Br.t ?_ | refine Br.f ?_ | refine ⟨rfl, ?_⟩)
                conv => whnf
                refine ⟨(atR [_, _, _] [] c3' rfl rfl).glob, ?_⟩
                repeat ((conv => whnf); first | refine Br.t ?_ | refine Br.f ?_ | refine ⟨rfl, ?_⟩)
                conv => whnf
                refine ⟨isB_ok (isB_map v), ?_⟩
                repeat ((conv => whnf); first | refine Br.t ?_ | refine Br.f ?_ | refine ⟨rfl, ?_⟩)
                conv => whnf
                refine ⟨by repeat ((conv => whnf); first | exact trivial | refine ⟨rfl, ?_⟩), by repeat ((conv => whnf); first | exact trivial | refine ⟨by (conv => whnf); first | exact ⟨rfl, rfl⟩ | exact ⟨rfl, rfl, rfl⟩ | exact ⟨isB_ok (isB_map v), rfl, rfl⟩, ?_⟩), ?_⟩
                repeat ((conv => whnf); first | refine Br.t ?_ | refine Br.f ?_ | refine ⟨rfl, ?_⟩)
                conv => whnf
                refine Br.mk (fun q => by exfalso; simp at q) (fun q => ?_)
                repeat ((conv => whnf); first | refine Br.t ?_ | refine Br.f ?_ | refine ⟨rfl, ?_⟩)
                conv => whnf
                refine CallW.mono ((atR [_, _] [_] (fault35 s') rfl rfl).glob) ?_
                rintro r st' ⟨rfl, rfl⟩
                repeat ((conv => whnf); first | refine Br.t ?_ | refine Br.f ?_ | refine ⟨rfl, ?_⟩)
                conv => whnf
                have hp' := k2'.1.2.1
                have hb' := k2'.2.1
                refine draw_ok (own := own0) [] [] [(.i (.int .i64 (s'.bs.length - s'.p : Nat)), [.row 2 1 false (lift (T.map by8)), .dead, rdB s', rdB s', .row 0 2 false [[.i (.int .i64 s'.a), .i (.int .i64 s'.why)]]])] rfl (by kernel_rfl) (Nat.zero_le _) ?_
                repeat ((conv => whnf); first | refine Br.t ?_ | refine Br.f ?_ | refine ⟨rfl, ?_⟩)
                conv => whnf
                refine Br.mk (fun z => by exfalso; simp at z) (fun z => ?_)
                repeat ((conv => whnf); first | refine Br.t ?_ | refine Br.f ?_ | refine ⟨rfl, ?_⟩)
                conv => whnf
                refine Br.mk (fun z => by exfalso; simp at z) (fun z => ?_)
                repeat ((conv => whnf); first | refine Br.t ?_ | refine Br.f ?_ | refine ⟨rfl, ?_⟩)
                conv => whnf
                refine ⟨(atR [_, _] [_, _] (left50 s' k2'.1) rfl rfl).glob, ?_⟩
                repeat ((conv => whnf); first | refine Br.t ?_ | refine Br.f ?_ | refine ⟨rfl, ?_⟩)
                conv => whnf
                refine ⟨by repeat ((conv => whnf); first | exact trivial | refine ⟨rfl, ?_⟩), trivial, ?_⟩
                conv => whnf
                have el : IntKind.i64.wrap ((((bs.map by8).length : Nat) : Int) - (s'.p : Int)) = ((s'.bs.length - s'.p : Nat) : Int) := by
                  rw [List.length_map, hb', i64_id (by rw [hb'] at hp'; omega) (by omega)]
                  rw [hb'] at hp'
                  omega
                refine Br.mk (fun z => ?_) (fun z => ?_)
                · exfalso
                  rw [el] at z
                  simp at z
                · repeat ((conv => whnf); first | refine Br.t ?_ | refine Br.f ?_ | refine ⟨rfl, ?_⟩)
                  conv => whnf
                  refine ⟨(i + 1, s'), ⟨by simp only; omega, k2'⟩, by simp only; omega, Le.back (fun _ => 0) (by intro id hid; rfl) (by simp) rfl (two_cl T s' s' _) ?_ ?_⟩
                  · simp [leS, mkS, V.up]
                    exact i64_id (by omega) (by omega)
                  · simp only [upSt, Ob.up, map_up_lift]
                    rfl
              · repeat ((conv => whnf); first | refine Br.t ?_ | refine Br.f ?_ | refine ⟨rfl, ?_⟩)
                conv => whnf
                refine CallW.mono ((atR [_, _] [_] (set29 s hok n o2) rfl rfl).glob) ?_
                rintro r st' ⟨rfl, rfl⟩
                repeat ((conv => whnf); first | refine Br.t ?_ | refine Br.f ?_ | refine ⟨rfl, ?_⟩)
                conv => whnf
                refine CallW.mono ((atR [_, _, _] [] (set30 s hok n o2) rfl rfl).glob) ?_
                rintro r st' ⟨rfl, rfl⟩
                have k2' := at_set j2 n
                obtain ⟨v, s', e'⟩ : ∃ v s', s.set n = (v, s') := ⟨_, _, rfl⟩
                rw [e'] at k2' ⊢
                simp only at k2' ⊢
                repeat ((conv => whnf); first | refine Br.t ?_ | refine Br.f ?_ | refine ⟨rfl, ?_⟩)
                conv => whnf
                refine Br.mk (fun q => by exfalso; simp at q) (fun q => ?_)
                repeat ((conv => whnf); first | refine Br.t ?_ | refine Br.f ?_ | refine ⟨rfl, ?_⟩)
                conv => whnf
                refine CallW.mono ((atR [_, _] [_] (fault35 s') rfl rfl).glob) ?_
                rintro r st' ⟨rfl, rfl⟩
                repeat ((conv => whnf); first | refine Br.t ?_ | refine Br.f ?_ | refine ⟨rfl, ?_⟩)
                conv => whnf
                have hp' := k2'.1.2.1
                have hb' := k2'.2.1
                refine draw_ok (own := own0) [] [] [(.i (.int .i64 (s'.bs.length - s'.p : Nat)), [.row 2 1 false (lift (T.map by8)), .dead, rdB s', rdB s', .row 0 2 false [[.i (.int .i64 s'.a), .i (.int .i64 s'.why)]]])] rfl (by kernel_rfl) (Nat.zero_le _) ?_
                repeat ((conv => whnf); first | refine Br.t ?_ | refine Br.f ?_ | refine ⟨rfl, ?_⟩)
                conv => whnf
                refine Br.mk (fun z => by exfalso; simp at z) (fun z => ?_)
                repeat ((conv => whnf); first | refine Br.t ?_ | refine Br.f ?_ | refine ⟨rfl, ?_⟩)
                conv => whnf
                refine Br.mk (fun z => by exfalso; simp at z) (fun z => ?_)
                repeat ((conv => whnf); first | refine Br.t ?_ | refine Br.f ?_ | refine ⟨rfl, ?_⟩)
                conv => whnf
                refine ⟨(atR [_, _] [_, _] (left50 s' k2'.1) rfl rfl).glob, ?_⟩
                repeat ((conv => whnf); first | refine Br.t ?_ | refine Br.f ?_ | refine ⟨rfl, ?_⟩)
                conv => whnf
                refine ⟨by repeat ((conv => whnf); first | exact trivial | refine ⟨rfl, ?_⟩), trivial, ?_⟩
                conv => whnf
                have el : IntKind.i64.wrap ((((bs.map by8).length : Nat) : Int) - (s'.p : Int)) = ((s'.bs.length - s'.p : Nat) : Int) := by
                  rw [List.length_map, hb', i64_id (by rw [hb'] at hp'; omega) (by omega)]
                  rw [hb'] at hp'
                  omega
                refine Br.mk (fun z => ?_) (fun z => ?_)
                · exfalso
                  rw [el] at z
                  simp at z
                · repeat ((conv => whnf); first | refine Br.t ?_ | refine Br.f ?_ | refine ⟨rfl, ?_⟩)
                  conv => whnf
                  refine ⟨(i + 1, s'), ⟨by simp only; omega, k2'⟩, by simp only; omega, Le.back (fun _ => 0) (by intro id hid; rfl) (by simp) rfl (two_cl T s' s' _) ?_ ?_⟩
                  · simp [leS, mkS, V.up]
                    exact i64_id (by omega) (by omega)
                  · simp only [upSt, Ob.up, map_up_lift]
                    rfl
        · obtain ⟨sd, ed⟩ : ∃ sd, s.done = sd := ⟨_, rfl⟩
          repeat ((conv => whnf); first | refine Br.t ?_ | refine Br.f ?_ | refine ⟨rfl, ?_⟩)
          conv => whnf
          refine Br.mk (fun w0 => ?_) (fun w0 => ?_)
          · have w0 : s.why = 0 := by simpa using w0
            repeat ((conv => whnf); first | refine Br.t ?_ | refine Br.f ?_ | refine ⟨rfl, ?_⟩)
            conv => whnf
            refine Br.mk (fun w1 => ?_) (fun w1 => ?_)
            · have w1 : s.p < bs.length := by simpa using w1
              have e6 : s.fail 7 = sd := by rw [← ed]; unfold Rd.done; rw [j2.2.1, if_pos ⟨w0, w1⟩]
              have cf := fail42 s 7
              rw [e6] at cf
              repeat ((conv => whnf); first | refine Br.t ?_ | refine Br.f ?_ | refine ⟨rfl, ?_⟩)
              conv => whnf
              refine CallW.mono ((atR [_, _, _] [] cf rfl rfl).glob) ?_
              rintro r st' ⟨rfl, rfl⟩
              repeat ((conv => whnf); first | refine Br.t ?_ | refine Br.f ?_ | refine ⟨rfl, ?_⟩)
              conv => whnf
              have cd := done38 s hok
              rw [ed] at cd
              refine CallW.mono ((atR [_, _] [_] cd rfl rfl).glob) ?_
              rintro r st' ⟨rfl, rfl⟩
              repeat ((conv => whnf); first | refine Br.t ?_ | refine Br.f ?_ | refine ⟨rfl, ?_⟩)
              conv => whnf
              refine CallW.mono ((atR [_, _] [_] (fault35 sd) rfl rfl).glob) ?_
              rintro r st' ⟨rfl, rfl⟩
              repeat ((conv => whnf); first | refine Br.t ?_ | refine Br.f ?_ | refine ⟨rfl, ?_⟩)
              conv => whnf
              refine draw_ok (own := own0) [] [] [] rfl (by kernel_rfl) (Nat.zero_le _) ?_
              repeat ((conv => whnf); first | refine Br.t ?_ | refine Br.f ?_ | refine ⟨rfl, ?_⟩)
              conv => whnf
              refine Br.mk (fun z => ?_) (fun z => by exfalso; simp [int0] at z)
              repeat ((conv => whnf); first | refine Br.t ?_ | refine Br.f ?_ | refine ⟨rfl, ?_⟩)
              conv => whnf
              refine Br.mk (fun z => ?_) (fun z => by exfalso; simp at z)
              repeat ((conv => whnf); first | refine Br.t ?_ | refine Br.f ?_ | refine ⟨rfl, ?_⟩)
              conv => whnf
              refine ⟨by repeat ((conv => whnf); first | exact trivial | refine ⟨rfl, ?_⟩), trivial, ?_⟩
              conv => whnf
              refine fin (target := []) rfl (Nat.zero_le _) (by simp) ?_ rfl
              simp
            · have w1 : ¬ s.p < bs.length := by simpa using w1
              have e6 : s = sd := by rw [← ed]; unfold Rd.done; rw [j2.2.1, if_neg (by omega)]
              repeat ((conv => whnf); first | refine Br.t ?_ | refine Br.f ?_ | refine ⟨rfl, ?_⟩)
              conv => whnf
              subst e6
              have cd := done38 s hok
              rw [ed] at cd
              refine CallW.mono ((atR [_, _] [_] cd rfl rfl).glob) ?_
              rintro r st' ⟨rfl, rfl⟩
              repeat ((conv => whnf); first | refine Br.t ?_ | refine Br.f ?_ | refine ⟨rfl, ?_⟩)
              conv => whnf
              refine CallW.mono ((atR [_, _] [_] (fault35 s) rfl rfl).glob) ?_
              rintro r st' ⟨rfl, rfl⟩
              repeat ((conv => whnf); first | refine Br.t ?_ | refine Br.f ?_ | refine ⟨rfl, ?_⟩)
              conv => whnf
              refine draw_ok (own := own0) [] [] [] rfl (by kernel_rfl) (Nat.zero_le _) ?_
              repeat ((conv => whnf); first | refine Br.t ?_ | refine Br.f ?_ | refine ⟨rfl, ?_⟩)
              conv => whnf
              refine Br.mk (fun z => ?_) (fun z => by exfalso; simp [int0] at z)
              repeat ((conv => whnf); first | refine Br.t ?_ | refine Br.f ?_ | refine ⟨rfl, ?_⟩)
              conv => whnf
              refine Br.mk (fun z => ?_) (fun z => by exfalso; simp at z)
              repeat ((conv => whnf); first | refine Br.t ?_ | refine Br.f ?_ | refine ⟨rfl, ?_⟩)
              conv => whnf
              refine ⟨by repeat ((conv => whnf); first | exact trivial | refine ⟨rfl, ?_⟩), trivial, ?_⟩
              conv => whnf
              refine fin (target := []) rfl (Nat.zero_le _) (by simp) ?_ rfl
              simp
          · have w0 : ¬ s.why = 0 := by simpa using w0
            have e6 : s = sd := by rw [← ed]; unfold Rd.done; rw [if_neg (by omega)]
            repeat ((conv => whnf); first | refine Br.t ?_ | refine Br.f ?_ | refine ⟨rfl, ?_⟩)
            conv => whnf
            subst e6
            have cd := done38 s hok
            rw [ed] at cd
            refine CallW.mono ((atR [_, _] [_] cd rfl rfl).glob) ?_
            rintro r st' ⟨rfl, rfl⟩
            repeat ((conv => whnf); first | refine Br.t ?_ | refine Br.f ?_ | refine ⟨rfl, ?_⟩)
            conv => whnf
            refine CallW.mono ((atR [_, _] [_] (fault35 s) rfl rfl).glob) ?_
            rintro r st' ⟨rfl, rfl⟩
            repeat ((conv => whnf); first | refine Br.t ?_ | refine Br.f ?_ | refine ⟨rfl, ?_⟩)
            conv => whnf
            refine draw_ok (own := own0) [] [] [] rfl (by kernel_rfl) (Nat.zero_le _) ?_
            repeat ((conv => whnf); first | refine Br.t ?_ | refine Br.f ?_ | refine ⟨rfl, ?_⟩)
            conv => whnf
            refine Br.mk (fun z => ?_) (fun z => by exfalso; simp [int0] at z)
            repeat ((conv => whnf); first | refine Br.t ?_ | refine Br.f ?_ | refine ⟨rfl, ?_⟩)
            conv => whnf
            refine Br.mk (fun z => ?_) (fun z => by exfalso; simp at z)
            repeat ((conv => whnf); first | refine Br.t ?_ | refine Br.f ?_ | refine ⟨rfl, ?_⟩)
            conv => whnf
            refine ⟨by repeat ((conv => whnf); first | exact trivial | refine ⟨rfl, ?_⟩), trivial, ?_⟩
            conv => whnf
            refine fin (target := []) rfl (Nat.zero_le _) (by simp) ?_ rfl
            simp
end Go.Proofs.YtdbmfnhbgacldaaDoor.Am
