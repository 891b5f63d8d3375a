/- Contracts: numbers and sets written. -/
import Derived.Test.YtdbmfnhbgacldaaDoorWxE
namespace Go.Proofs.YtdbmfnhbgacldaaDoor.Am
set_option autoImplicit false
set_option linter.unusedVariables false
set_option linter.unusedSimpArgs false
set_option maxRecDepth 10000
set_option pp.maxSteps 20000
set_option pp.proofs false
theorem numI1 (ys : List (List I)) (n : Int) (h2 : ys.length ≤ 1000000) : CallW Tryd.prog G0 16 [.ptr 0 0 0 0, .i (.int .i64 n)] (wr 0 ys) (fun r st' => r = .tup [] ∧ st' = wr 1 (ys ++ (putN (n % 4294967296).toNat).map by8)) := by
  refine call_of_bodyF 2 (Nat.le_refl _) Tryd.func16 rfl (fun a w => Tryd.call16 a w) (wpx_ok (own := own0) _ _ _ ?_)
  conv => whnf
  refine draw_ok (own := own0) [8, 11] [(0, 11)] [(.i (.sl ((putN (n % 4294967296).toNat).map by8)), wr 0 ys)] rfl (by kernel_rfl) (Nat.le_refl _) ?_
  conv => whnf
  refine ⟨by rfl, ?_⟩
  conv => whnf
  have c : CallW Tryd.prog G0 52 [.i (.int .u32 (IntKind.u32.wrap n))] (wr 0 ys) (fun r st' => r = .i (.sl ((putN (n % 4294967296).toNat).map by8)) ∧ st' = wr 0 ys) := by
    rw [show IntKind.u32.wrap n = ((n % 4294967296).toNat : Nat) by rw [IntKind.wrap_u32]; omega]
    exact (put46 _ (by omega)).pure _ rfl rfl
  refine ⟨c, ?_⟩
  have hl := putN_len 4 (n % 4294967296).toNat (by omega)
  conv => whnf
  refine ⟨apL (by simp [by8]) rfl 1 rfl (by simp [lift]) (by simp only [List.length_map]; omega) (len_mx (by simp only [List.length_map]; omega)), ?_⟩
  conv => whnf
  refine ⟨by rfl, ?_⟩
  conv => whnf
  refine ⟨?_, ?_, ?_⟩
  · repeat ((conv => whnf); first | exact trivial | refine ⟨rfl, ?_⟩)
  · conv => whnf
    refine ⟨?_, trivial⟩
    conv => whnf
    exact ⟨rfl, rfl⟩
  · conv => whnf
    refine fin (target := wr 1 (ys ++ (putN (n % 4294967296).toNat).map by8)) ?_ ?_ (wr_cl _ _) rfl rfl
    · simp [wr, putCells, lift]
    · simp
theorem numI (k : Nat) (ys : List (List I)) (n : Int) (h2 : ys.length ≤ 1000000) : CallW Tryd.prog G0 16 [.ptr 0 0 0 0, .i (.int .i64 n)] (wr k ys) (fun r st' => r = .tup [] ∧ st' = wr (1 + k) (ys ++ (putN (n % 4294967296).toNat).map by8)) := by
  have := (numI1 ys n h2).vers (fun id => if id = 1 then k else 0)
  rw [wr_up, Nat.zero_add] at this
  refine this.mono ?_
  rintro r st' ⟨r0, st0, ⟨rfl, rfl⟩, rfl, rfl⟩
  exact ⟨rfl, wr_up _ _ _⟩
/-- a set's bytes -/
def setN (m : Nat) : List Nat := putN (ids m).length ++ (ids m).flatMap putN
theorem flat_len : ∀ {l : List Nat}, (∀ i ∈ l, i < 128) → (l.flatMap putN).length = l.length
  | [], _ => rfl
  | x :: l, h => by
    rw [List.flatMap_cons, List.length_append, flat_len (fun i hi => h i (by simp [hi])), putN, dif_pos (h x (by simp))]
    simp; omega
theorem ids_32 (m : Nat) : ∀ i ∈ ids m, i < 32 := fun i hi => (mem_ids.1 hi).1
theorem set20 (k : Nat) (ys : List (List I)) (m : Nat) (hm : m < 4294967296) (h2 : ys.length ≤ 900000) : CallW Tryd.prog G1 20 [.ptr 0 0 0 0, .i (.int .u32 m)] (wr k ys) (fun r st' => r = .tup [] ∧ st' = wr ((ids m).length + (1 + k)) (ys ++ (setN m).map by8)) := by
  refine call_of_bodyF 2 (Nat.le_refl _) Tryd.func20 rfl (fun a w => Tryd.call20 a w) (wpx_ok (own := own0) _ _ _ ?_)
  have hl := ids_length m
  have h32 := ids_32 m
  have pl := putN_len 4 (ids m).length (by omega)
  repeat ((conv => whnf); first | refine Br.t ?_ | refine Br.f ?_ | refine ⟨rfl, ?_⟩)
  conv => whnf
  refine CallW.mono ((list53 m hm).pure _ rfl rfl) ?_
  rintro r st' ⟨rfl, rfl⟩
  repeat ((conv => whnf); first | refine Br.t ?_ | refine Br.f ?_ | refine ⟨rfl, ?_⟩)
  conv => whnf
  have c0 : CallW Tryd.prog G1 16 [.ptr 0 0 0 0, .i (.int .i64 (((ids m).map elI).length : Nat))] (wr k ys) (fun r st' => r = .tup [] ∧ st' = wr (1 + k) (ys ++ (putN (ids m).length).map by8)) := by
    rw [List.length_map]
    exact (num k ys (ids m).length (by omega) (by omega)).glob
  refine CallW.mono c0 ?_
  rintro r st' ⟨rfl, rfl⟩
  repeat ((conv => whnf); first | refine Br.t ?_ | refine Br.f ?_ | refine ⟨rfl, ?_⟩)
  conv => whnf
  refine loop_ok (α := Nat) (fun j => ⟨mkS 23 [(0, .ptr 0 0 0 0), (13, .i (.sl ((ids m).map elI))), (14, .i (.int .i64 ((ids m).map elI).length)), (15, .i (.int .i64 j))], wr (j + (1 + k)) (ys ++ (putN (ids m).length).map by8 ++ (((ids m).take j).flatMap putN).map by8)⟩)
    (fun j => j ≤ (ids m).length) (fun j => (ids m).length - j) 0 (Nat.zero_le _)
    ?_ (fun j hj => wpx_ok (own := own0) _ _ _ ?_)
  · rw [List.take_zero, List.flatMap_nil, List.map_nil, List.append_nil, Nat.zero_add]
    exact Le.slots (by simp [leS, mkS])
  have hfl := flat_len (l := (ids m).take j) (fun i hi => by have := h32 i (List.mem_of_mem_take hi); omega)
  have htl : ((ids m).take j).length ≤ 32 := by rw [List.length_take]; omega
  repeat ((conv => whnf); first | refine Br.t ?_ | refine Br.f ?_ | refine ⟨rfl, ?_⟩)
  conv => whnf
  refine Br.mk (fun g => ?_) (fun g => ?_)
  · have g : j < (ids m).length := by simpa using g
    obtain ⟨x, hx⟩ : ∃ x, x = (ids m)[j] := ⟨_, rfl⟩
    have ex : ((ids m).map elI).getD (j : Int).toNat [] = elI x := by rw [hx]; exact getD_enc g
    have et : (ids m).take (j + 1) = (ids m).take j ++ [x] := by rw [hx]; simp
    have hx32 : x < 32 := h32 x (hx ▸ List.getElem_mem g)
    repeat ((conv => whnf); first | refine Br.t ?_ | refine Br.f ?_ | refine ⟨rfl, ?_⟩)
    conv => whnf
    rw [ex]
    refine ⟨⟨by omega, by simp; omega, rfl⟩, ?_⟩
    repeat ((conv => whnf); first | refine Br.t ?_ | refine Br.f ?_ | refine ⟨rfl, ?_⟩)
    conv => whnf
    refine CallW.mono ((num (j + (1 + k)) (ys ++ (putN (ids m).length).map by8 ++ (((ids m).take j).flatMap putN).map by8) x (by omega) (by rw [List.length_append, List.length_append, List.length_map, List.length_map, hfl]; omega)).glob) ?_
    rintro r st' ⟨rfl, rfl⟩
    repeat ((conv => whnf); first | refine Br.t ?_ | refine Br.f ?_ | refine ⟨rfl, ?_⟩)
    conv => whnf
    refine ⟨j + 1, by omega, by omega, ?_⟩
    rw [et, List.flatMap_append, List.map_append, ← List.append_assoc, show j + 1 + (1 + k) = 1 + (j + (1 + k)) by omega, show [x].flatMap putN = putN x by simp]
    refine Le.slots ?_
    simp [leS, mkS]
    exact i64_id (by omega) (by omega)
  · have g : j = (ids m).length := by simp at g; omega
    subst g
    repeat ((conv => whnf); first | refine Br.t ?_ | refine Br.f ?_ | refine ⟨rfl, ?_⟩)
    conv => whnf
    refine fin (target := wr ((ids m).length + (1 + k)) (ys ++ (setN m).map by8)) ?_ (by simp) (wr_cl _ _) rfl rfl
    rw [List.take_length]
    simp only [setN, List.map_append, List.append_assoc]
    rfl
/-- the document's bytes of a set -/
theorem put17 (n : Nat) (h : n ≤ 140737488355328) : CallW Tryd.prog G0 17 [.i (.int .i64 n)] [] (fun r st' => r = .i (.sl ((putN n).map by8)) ∧ st' = []) := put30 n h
theorem put17r (n : Nat) (hn : n ≤ 140737488355328) : CallW Tryd.prog G0 17 [.i (.int .i64 n)] [] (fun r st' => r = .ref 0 1 0 (putN n).length ∧ st' = [.row 1 1 false (lift ((putN n).map by8))]) := by
  refine call_of_body Tryd.func17 rfl (fun a w => Tryd.call17 a w) (W.weak (wpx_ok (own := ownAll) _ _ _ ?_))
  conv => whnf
  refine Br.mk (fun h => ?_) (fun h => ?_)
  · simp at h
    have ep : putN n = [n] := by rw [putN, dif_pos (by omega)]
    rw [ep]
    repeat ((conv => whnf); first | refine Br.t ?_ | refine Br.f ?_ | refine ⟨rfl, ?_⟩)
    conv => whnf
    refine ⟨_, Le.refl _ _, ?_⟩
    conv => whnf
    refine ⟨rfl, ?_⟩
    show [Ob.row 1 1 false [[V.i (I.int .u8 (IntKind.u8.wrap (n : Int)))]]] = _
    rw [u8_small (show n < 256 by omega)]
    rfl
  · simp at h
    repeat ((conv => whnf); first | refine Br.t ?_ | refine Br.f ?_ | refine ⟨rfl, ?_⟩)
    conv => whnf
    refine ⟨by decide, ?_⟩
    repeat ((conv => whnf); first | refine Br.t ?_ | refine Br.f ?_ | refine ⟨rfl, ?_⟩)
    conv => whnf
    refine ⟨by decide, ?_⟩
    have e1 : IntKind.i64.wrap ((n : Int).tdiv 128) = ((n / 128 : Nat) : Int) := by
      rw [Int.tdiv_eq_ediv_of_nonneg (by omega), i64_id (by omega) (by omega)]
      rfl
    rw [e1]
    repeat ((conv => whnf); first | refine Br.t ?_ | refine Br.f ?_ | refine ⟨rfl, ?_⟩)
    conv => whnf
    refine ((put17 (n / 128) (by omega)).pure _ rfl rfl).mono ?_
    rintro r st' ⟨rfl, rfl⟩
    have hl7 := putN_len 6 (n / 128) (by omega)
    repeat ((conv => whnf); first | refine Br.t ?_ | refine Br.f ?_ | refine ⟨rfl, ?_⟩)
    conv => whnf
    refine ⟨apL (by simp [by8]) rfl 1 rfl rfl (by simp only [List.length_map]; omega) (len_mx (by simp only [List.length_map]; omega)), ?_⟩
    repeat ((conv => whnf); first | refine Br.t ?_ | refine Br.f ?_ | refine ⟨rfl, ?_⟩)
    conv => whnf
    have ep : putN n = (n % 128 + 128) :: putN (n / 128) := by rw [putN, dif_neg (by omega)]
    have e2 : IntKind.u8.wrap (IntKind.i64.wrap (128 + (n : Int).tmod 128)) = ((n % 128 + 128 : Nat) : Int) := by
      rw [Int.tmod_eq_emod_of_nonneg (by omega), i64_id (by omega) (by omega)]
      rw [show (128 : Int) + (n : Int) % 128 = ((n % 128 + 128 : Nat) : Int) by omega]
      exact u8_small (by omega)
    refine ⟨_, Le.down (fun id => if id = 0 then 1 else 0) (s := ⟨mkS 17 [(2, .ref 0 1 0 (putN n).length)], [.row 1 1 false (lift ((putN n).map by8))]⟩) (by intro id hid; simp at hid) ?_ ?_, ?_⟩
    · rw [ep]
      simp [leS, mkS, V.up, lift]
      omega
    · simp only [upSt, Ob.up, map_up_lift]
      rw [ep]
      show [Ob.row 2 1 false ([[V.i (I.int .u8 (IntKind.u8.wrap (IntKind.i64.wrap (128 + (n : Int).tmod 128))))]] ++ lift ((putN (n / 128)).map by8))] = _
      rw [e2]
      rfl
    · conv => whnf
      exact ⟨rfl, rfl⟩
theorem set21 (m : Nat) (hm : m < 4294967296) : CallW Tryd.prog G0 21 [.i (.int .u32 m)] [] (fun r st' => r = .i (.sl ((setN m).map by8)) ∧ st' = []) := by
  refine call_of_bodyF 0 (Nat.le_refl _) Tryd.func21 rfl (fun a w => Tryd.call21 a w) (wpx_ok (own := own0) _ _ _ ?_)
  have hl := ids_length m
  have h32 := ids_32 m
  have pl := putN_len 4 (ids m).length (by omega)
  repeat ((conv => whnf); first | refine Br.t ?_ | refine Br.f ?_ | refine ⟨rfl, ?_⟩)
  conv => whnf
  refine CallW.mono ((list54 m hm).pure _ rfl rfl) ?_
  rintro r st' ⟨rfl, rfl⟩
  repeat ((conv => whnf); first | refine Br.t ?_ | refine Br.f ?_ | refine ⟨rfl, ?_⟩)
  conv => whnf
  have c0 : CallW Tryd.prog G0 17 [.i (.int .i64 (((ids m).map elI).length : Nat))] [] (fun r st' => r = .ref 0 1 0 (putN (ids m).length).length ∧ st' = [.row 1 1 false (lift ((putN (ids m).length).map by8))]) := by
    rw [List.length_map]
    exact put17r _ (by omega)
  refine CallW.mono c0 ?_
  rintro r st' ⟨rfl, rfl⟩
  repeat ((conv => whnf); first | refine Br.t ?_ | refine Br.f ?_ | refine ⟨rfl, ?_⟩)
  conv => whnf
  refine loop_ok (α := Nat) (fun j => ⟨mkS 25 [(2, .nils), (3, .i (.sl ((ids m).map elI))), (4, .ref 0 1 0 (putN (ids m).length ++ ((ids m).take j).flatMap putN).length), (5, .i (.int .i64 j))], [.row 1 1 false (lift ((putN (ids m).length ++ ((ids m).take j).flatMap putN).map by8))]⟩)
    (fun j => j ≤ (ids m).length) (fun j => (ids m).length - j) 0 (Nat.zero_le _)
    ?_ (fun j hj => wpx_ok (own := own0) _ _ _ ?_)
  · rw [List.take_zero, List.flatMap_nil, List.append_nil]
    exact Le.slots (by simp [leS, mkS])
  have hfl := flat_len (l := (ids m).take j) (fun i hi => by have := h32 i (List.mem_of_mem_take hi); omega)
  have htl : ((ids m).take j).length ≤ 32 := by rw [List.length_take]; omega
  have hal : (putN (ids m).length ++ ((ids m).take j).flatMap putN).length ≤ 40 := by rw [List.length_append, hfl]; omega
  repeat ((conv => whnf); first | refine Br.t ?_ | refine Br.f ?_ | refine ⟨rfl, ?_⟩)
  conv => whnf
  refine Br.mk (fun g => ?_) (fun g => ?_)
  · have g : j < (ids m).length := by simpa using g
    obtain ⟨x, hx⟩ : ∃ x, x = (ids m)[j] := ⟨_, rfl⟩
    have ex : ((ids m).map elI).getD (j : Int).toNat [] = elI x := by rw [hx]; exact getD_enc g
    have et : (ids m).take (j + 1) = (ids m).take j ++ [x] := by rw [hx]; simp
    have hx32 : x < 32 := h32 x (hx ▸ List.getElem_mem g)
    have hpx : putN x = [x] := by rw [putN, dif_pos (by omega)]
    repeat ((conv => whnf); first | refine Br.t ?_ | refine Br.f ?_ | refine ⟨rfl, ?_⟩)
    conv => whnf
    rw [ex]
    refine ⟨⟨by omega, by simp; omega, rfl⟩, ?_⟩
    repeat ((conv => whnf); first | refine Br.t ?_ | refine Br.f ?_ | refine ⟨rfl, ?_⟩)
    conv => whnf
    refine CallW.mono ((put17 x (by omega)).pure _ rfl rfl) ?_
    rintro r st' ⟨rfl, rfl⟩
    repeat ((conv => whnf); first | refine Br.t ?_ | refine Br.f ?_ | refine ⟨rfl, ?_⟩)
    conv => whnf
    refine ⟨apL (by simp [by8]) rfl 1 rfl (by simp [lift]) (by rw [hpx, List.length_map]; simp only [List.length_singleton]; omega) (len_mx (by rw [hpx, List.length_map]; simp only [List.length_singleton]; omega)), ?_⟩
    repeat ((conv => whnf); first | refine Br.t ?_ | refine Br.f ?_ | refine ⟨rfl, ?_⟩)
    conv => whnf
    have e2 : putN (ids m).length ++ ((ids m).take (j + 1)).flatMap putN = putN (ids m).length ++ ((ids m).take j).flatMap putN ++ putN x := by
      rw [et, List.flatMap_append, show [x].flatMap putN = putN x by simp, List.append_assoc]
    refine ⟨j + 1, by omega, by omega, Le.down (fun id => if id = 0 then 1 else 0) (by intro id hid; simp at hid) ?_ ?_⟩
    · rw [e2]
      simp [leS, mkS, V.up, lift]
      first | exact i64_id (by omega) (by omega) | exact ⟨by omega, i64_id (by omega) (by omega)⟩
    · simp only [upSt, Ob.up, map_up_lift]
      rw [e2]
      simp only [List.map_append, lift_app]
      rfl
  · have g : j = (ids m).length := by simp at g; omega
    subst g
    repeat ((conv => whnf); first | refine Br.t ?_ | refine Br.f ?_ | refine ⟨rfl, ?_⟩)
    conv => whnf
    refine ⟨Nat.zero_le _, rfl, (setN m).map by8, ?_, ?_⟩
    · rw [List.take_length]; rfl
    · conv => whnf
      refine fin (target := []) rfl (Nat.zero_le _) (by simp) ?_ rfl
      rw [List.take_length, List.drop_zero, List.take_of_length_le (by simp [lift, setN])]
end Go.Proofs.YtdbmfnhbgacldaaDoor.Am
