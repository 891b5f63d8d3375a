/- Contracts, part 33: texts of this session, one behind the other. -/
import Derived.Test.YtdbmfnhbgacldaaDoorBdPcodeWrites32
import Derived.Test.YtdbmfnhbgacldaaDoorAmRf
import Derived.Test.YtdbmfnhbgacldaaDoorAmRd
import Derived.Lib.LaidTab
import Derived.Stop.LaidErr
/- Contracts: SHA-256 of the document: a block's words, the first. -/
namespace Go.Proofs.YtdbmfnhbgacldaaDoor.Am
set_option autoImplicit false
set_option linter.unusedVariables false
set_option linter.unusedSimpArgs false
set_option maxRecDepth 10000
set_option pp.maxSteps 3000
set_option pp.proofs false
def w4 (n : Nat) : List I := [u32I n]
/-- a word's first bytes, as a number -/
def accL (bs : List Nat) (k : Nat) : Nat → Nat
  | 0 => 0
  | j + 1 => accL bs k j * 256 + bs.getD (k + j) 0
theorem accL_lt {bs : List Nat} (hb : ∀ b ∈ bs, b < 256) (k : Nat) : ∀ j, accL bs k j < 256 ^ j
  | 0 => by simp [accL]
  | j + 1 => by
    have h := accL_lt hb k j
    have g : bs.getD (k + j) 0 < 256 := by
      rw [List.getD_eq_getElem?_getD]
      cases h : bs[k + j]? with
      | none => simp
      | some b => exact hb b (List.mem_of_getElem? h)
    rw [accL, Nat.pow_succ]; omega
theorem accL_4 {bs : List Nat} (hb : ∀ b ∈ bs, b < 256) (k : Nat) : accL bs k 4 = word4 (bs.drop k) := by
  have e : ∀ j, (bs.drop k).getD j 0 = bs.getD (k + j) 0 := fun j => by simp [List.getD_eq_getElem?_getD, List.getElem?_drop]
  have g : ∀ i, bs.getD i 0 < 256 := fun i => by
    rw [List.getD_eq_getElem?_getD]
    cases h : bs[i]? with
    | none => simp
    | some b => exact hb b (List.mem_of_getElem? h)
  unfold word4
  rw [e, e, e, e]
  simp only [accL]
  have g0 := g (k + 0); have g1 := g (k + 1); have g2 := g (k + 2); have g3 := g (k + 3)
  generalize bs.getD (k + 0) 0 = b0 at g0 ⊢
  generalize bs.getD (k + 1) 0 = b1 at g1 ⊢
  generalize bs.getD (k + 2) 0 = b2 at g2 ⊢
  generalize bs.getD (k + 3) 0 = b3 at g3 ⊢
  have o1 : b0 * 2 ^ 24 ||| b1 * 2 ^ 16 = b0 * 2 ^ 24 + b1 * 2 ^ 16 := by
    have := Nat.two_pow_add_eq_or_of_lt (i := 24) (b := b1 * 2 ^ 16) (by omega) b0
    rw [Nat.mul_comm b0, ← this]
  have o2 : (b0 * 2 ^ 24 + b1 * 2 ^ 16) ||| b2 * 2 ^ 8 = b0 * 2 ^ 24 + b1 * 2 ^ 16 + b2 * 2 ^ 8 := by
    have := Nat.two_pow_add_eq_or_of_lt (i := 16) (b := b2 * 2 ^ 8) (by omega) (b0 * 2 ^ 8 + b1)
    rw [show b0 * 2 ^ 24 + b1 * 2 ^ 16 = 2 ^ 16 * (b0 * 2 ^ 8 + b1) by omega, ← this]
  have o3 : (b0 * 2 ^ 24 + b1 * 2 ^ 16 + b2 * 2 ^ 8) ||| b3 = b0 * 2 ^ 24 + b1 * 2 ^ 16 + b2 * 2 ^ 8 + b3 := by
    have := Nat.two_pow_add_eq_or_of_lt (i := 8) (b := b3) (by omega) (b0 * 2 ^ 16 + b1 * 2 ^ 8 + b2)
    rw [show b0 * 2 ^ 24 + b1 * 2 ^ 16 + b2 * 2 ^ 8 = 2 ^ 8 * (b0 * 2 ^ 16 + b1 * 2 ^ 8 + b2) by omega, ← this]
  rw [o1, o2, o3]
  omega
def oS (ks P : List Nat) (l : W8) (at_ : Nat) (x : List (Nat × V)) : List V := mkS 267 ([(2, .ptr 0 1 0 0), (3, .i (.sl (ks.map w4))), (4, .i (.sl ((v8L l).map w4))), (5, .i (.sl (P.map by8))), (6, .i (.int .i64 at_))] ++ x)
def oB (L : List Nat) : List Ob := [b32R, w32R 1 L]
set_option maxHeartbeats 4000000 in
theorem rf_bytes (ks P : List Nat) (l : W8) (at_ i : Nat) (L bs : List Nat) (hbs : bs = (P.drop at_).take 64) (hb : ∀ b ∈ P, b < 256) (hP : P.length ≤ 1000000000) (ha : at_ + 64 ≤ P.length) (hi : i < 16) :
    W Tryd.prog G0 0 (.loop (lp Tryd.f42 2)) (fun e s => e = .exit 4 ∧ s = ⟨oS ks P l at_ [(7, .ref 1 1 0 L.length), (8, .i (.int .i64 i)), (9, .i (.int .u32 (word4 (bs.drop (4 * i)) : Nat)))], oB L⟩) ⟨oS ks P l at_ [(7, .ref 1 1 0 L.length), (8, .i (.int .i64 i)), (9, .i (.int .u32 0)), (10, .i (.int .i64 0))], oB L⟩ := by
  have hbb : ∀ b ∈ bs, b < 256 := fun b h => by rw [hbs] at h; exact hb b (List.mem_of_mem_drop (List.mem_of_mem_take h))
  have hlt := accL_lt hbb (4 * i)
  rw [← accL_4 hbb]
  refine W.weak (loop_ok (α := Nat) (fun j => ⟨oS ks P l at_ [(7, .ref 1 1 0 L.length), (8, .i (.int .i64 i)), (9, .i (.int .u32 (accL bs (4 * i) j : Nat))), (10, .i (.int .i64 j))], oB L⟩) (fun j => j ≤ 4) (fun j => 4 - j) 0 (Nat.zero_le _) (Le.refl _ _) (fun j hj => wpx_ok (own := own0) _ _ _ ?_))
  have hl := hlt j
  have hl1 := hlt (j + 1)
  have hst : accL bs (4 * i) (j + 1) = accL bs (4 * i) j * 256 + bs.getD (4 * i + j) 0 := rfl
  have hend : j = 4 → accL bs (4 * i) 4 = accL bs (4 * i) j := fun e => by rw [e]
  obtain ⟨n, hn⟩ : ∃ n, n = accL bs (4 * i) j := ⟨_, rfl⟩
  obtain ⟨n', hn'⟩ : ∃ n, n = accL bs (4 * i) (j + 1) := ⟨_, rfl⟩
  rw [← hn, ← hn'] at hst
  rw [← hn'] at hl1
  rw [← hn] at hl hend ⊢
  repeat ((conv => whnf); first | refine Br.t ?_ | refine Br.f ?_ | refine ⟨rfl, ?_⟩)
  conv => whnf
  refine Br.mk (fun g => ?_) (fun g => ?_)
  · have g : j < 4 := by simp at g; omega
    have e1 : IntKind.i64.wrap (IntKind.i64.wrap ((at_ : Int) + IntKind.i64.wrap (4 * (i : Int))) + (j : Int)) = ((at_ + 4 * i + j : Nat) : Int) := by
      rw [i64_id (n := 4 * (i : Int)) (by omega) (by omega), i64_id (n := (at_ : Int) + 4 * (i : Int)) (by omega) (by omega), i64_id (by omega) (by omega)]; omega
    have eb : bs.getD (4 * i + j) 0 = P.getD (at_ + 4 * i + j) 0 := by
      rw [hbs]; simp only [List.getD_eq_getElem?_getD, List.getElem?_take, List.getElem?_drop]
      rw [if_pos (by omega), Nat.add_assoc]
    have hbl : P.getD (at_ + 4 * i + j) 0 < 256 := by
      rw [List.getD_eq_getElem?_getD, List.getElem?_eq_getElem (by omega)]; exact hb _ (List.getElem_mem _)
    rw [eb] at hst
    obtain ⟨x, hx⟩ : ∃ x, x = P.getD (at_ + 4 * i + j) 0 := ⟨_, rfl⟩
    rw [← hx] at hst hbl
    have ev : IntKind.u32.wrap (IntKind.u32.wrap ((n : Int) * 256) + IntKind.u32.wrap ((x : Nat) : Int)) = (n' : Nat) := by
      have : 256 ^ (j + 1) ≤ 256 ^ 4 := Nat.pow_le_pow_right (by decide) (by omega)
      simp [IntKind.wrap, IntKind.signed, IntKind.bits]
      omega
    have eg : (P.map by8).getD (((at_ + 4 * i + j : Nat) : Int)).toNat [] = by8 x := by rw [Int.toNat_natCast, by_get (by omega), hx]
    repeat ((conv => whnf); first | refine Br.t ?_ | refine Br.f ?_ | refine ⟨rfl, ?_⟩)
    conv => whnf
    rw [e1, eg]
    refine ⟨⟨by omega, by simp; omega, rfl⟩, ?_⟩
    repeat ((conv => whnf); first | refine Br.t ?_ | refine Br.f ?_ | refine ⟨rfl, ?_⟩)
    conv => whnf
    refine ⟨j + 1, g, by omega, ?_⟩
    rw [← hn']
    refine Le.slE ?_ rfl
    simp [leS, mkS, oS, by8]
    exact ⟨ev, i64_id (by omega) (by omega)⟩
  · have g : j = 4 := by simp at g; omega
    rw [hend g]
    repeat ((conv => whnf); first | refine Br.t ?_ | refine Br.f ?_ | refine ⟨rfl, ?_⟩)
    conv => whnf
    exact ⟨_, Le.slE (sl' := oS ks P l at_ [(7, .ref 1 1 0 L.length), (8, .i (.int .i64 i)), (9, .i (.int .u32 n))]) (by simp [leS, mkS, oS]) rfl, rfl, rfl⟩
set_option maxHeartbeats 4000000 in
theorem rf_words (ks P : List Nat) (l : W8) (at_ : Nat) (bs : List Nat) (hbs : bs = (P.drop at_).take 64) (hb : ∀ b ∈ P, b < 256) (hP : P.length ≤ 1000000000) (ha : at_ + 64 ≤ P.length) :
    W Tryd.prog G0 0 (.loop (lp Tryd.f42 1)) (fun e s => e = .exit 2 ∧ s = ⟨oS ks P l at_ [(7, .ref 1 1 0 16)], oB (wList bs 16)⟩) ⟨oS ks P l at_ [(7, .ref 1 1 0 0), (8, .i (.int .i64 0))], oB []⟩ := by
  refine W.weak (loop_ok (α := Nat) (fun i => ⟨oS ks P l at_ [(7, .ref 1 1 0 i), (8, .i (.int .i64 i))], oB (wList bs i)⟩) (fun i => i ≤ 16) (fun i => 16 - i) 0 (Nat.zero_le _) (Le.refl _ _) (fun i hi => wpx_ok (own := own0) _ _ _ ?_))
  have hwl := wList_len bs i
  have hst : i < 16 → wList bs (i + 1) = wList bs i ++ [word4 (bs.drop (4 * i))] := fun h => by rw [wList, if_pos h]
  have hend : i = 16 → wList bs 16 = wList bs i := fun e => by rw [e]
  obtain ⟨L', hL'⟩ : ∃ L', L' = wList bs (i + 1) := ⟨_, rfl⟩
  rw [← hL'] at hst
  obtain ⟨L, hL⟩ : ∃ L, L = wList bs i := ⟨_, rfl⟩
  rw [← hL] at hwl hst hend ⊢
  repeat ((conv => whnf); first | refine Br.t ?_ | refine Br.f ?_ | refine ⟨rfl, ?_⟩)
  conv => whnf
  refine Br.mk (fun g => ?_) (fun g => ?_)
  · have g : i < 16 := by simp at g; omega
    have lo := rf_bytes ks P l at_ i L bs hbs hb hP ha g
    rw [hwl] at lo
    have hst := hst g
    obtain ⟨x, hx⟩ : ∃ x, x = word4 (bs.drop (4 * i)) := ⟨_, rfl⟩
    rw [← hx] at lo hst
    repeat ((conv => whnf); first | refine Br.t ?_ | refine Br.f ?_ | refine ⟨rfl, ?_⟩)
    conv => whnf
    refine W.le (Le.slE (sl' := oS ks P l at_ [(7, .ref 1 1 0 i), (8, .i (.int .i64 i)), (9, .i (.int .u32 0)), (10, .i (.int .i64 0))]) (by simp [leS, mkS, oS]) rfl) (W.mono lo ?_)
    rintro e s ⟨rfl, rfl⟩
    repeat ((conv => whnf); first | refine Br.t ?_ | refine Br.f ?_ | refine ⟨rfl, ?_⟩)
    conv => whnf
    refine ⟨⟨by intro cs hcs; simp at hcs; subst hcs; rfl, by simp [lift, hwl], by show (i + 1) * 4 ≤ _; omega, len_mx (by show i + 1 ≤ _; omega)⟩, ?_⟩
    repeat ((conv => whnf); first | refine Br.t ?_ | refine Br.f ?_ | refine ⟨rfl, ?_⟩)
    conv => whnf
    refine ⟨i + 1, by omega, by omega, ?_⟩
    rw [← hL']
    refine Le.down (fun id => if id = 1 then 1 else 0) (fun id hid => by cases hid) ?_ ?_
    · simp [leS, mkS, oS, V.up]
      exact ⟨rfl, i64_id (by omega) (by omega)⟩
    · rw [hst]
      show [b32R, Ob.row 2 1 false (lift (L.map fun n => [u32I n]) ++ lift [[u32I x]])] = _
      rw [← lift_app]
      simp [upSt, Ob.up, oB, w32R, b32R, V.up.upAll, V.up]
  · have g : i = 16 := by simp at g; omega
    rw [hend g, ← g]
    repeat ((conv => whnf); first | refine Br.t ?_ | refine Br.f ?_ | refine ⟨rfl, ?_⟩)
    conv => whnf
    exact ⟨⟨oS ks P l at_ [(7, .ref 1 1 0 i)], oB L⟩, Le.slots (by simp [leS, mkS, oS]), rfl, rfl⟩
end Go.Proofs.YtdbmfnhbgacldaaDoor.Am

/- Contracts: SHA-256 of the document: a block's words, all. -/
namespace Go.Proofs.YtdbmfnhbgacldaaDoor.Am
set_option autoImplicit false
set_option linter.unusedVariables false
set_option linter.unusedSimpArgs false
set_option maxRecDepth 10000
set_option pp.maxSteps 3000
set_option pp.proofs false
theorem w32_get {L : List Nat} {k : Nat} (h : k < L.length) : (lift (L.map fun n => [u32I n])).getD (0 + ((k : Nat) : Int).toNat) [] = [.i (.int .u32 (L.getD k 0 : Nat))] := by
  rw [Nat.zero_add, Int.toNat_natCast]
  simp [lift, List.getD_eq_getElem?_getD, h, u32I]
set_option maxHeartbeats 4000000 in
theorem rf_next (ks P : List Nat) (l : W8) (at_ : Nat) (bs : List Nat) (hw : ∀ n, ∀ x ∈ wList bs n, x < 4294967296) :
    W Tryd.prog G0 0 (.loop (lp Tryd.f42 3)) (fun e s => e = .exit 6 ∧ s = ⟨oS ks P l at_ [(7, .ref 1 1 0 64)], oB (wList bs 64)⟩) ⟨oS ks P l at_ [(7, .ref 1 1 0 16), (11, .i (.int .i64 16))], oB (wList bs 16)⟩ := by
  refine W.weak (loop_ok (α := Nat) (fun i => ⟨oS ks P l at_ [(7, .ref 1 1 0 i), (11, .i (.int .i64 i))], oB (wList bs i)⟩) (fun i => 16 ≤ i ∧ i ≤ 64) (fun i => 64 - i) 16 ⟨by decide, by decide⟩ (Le.refl _ _) (fun i hi => wpx_ok (own := own0) _ _ _ ?_))
  obtain ⟨hi1, hi2⟩ := hi
  have ei : IntKind.i64.wrap ((i : Int) + 1) = ((i + 1 : Nat) : Int) := i64_id (by omega) (by omega)
  have e15 : IntKind.i64.wrap ((i : Int) - 15) = ((i - 15 : Nat) : Int) := by rw [i64_id (by omega) (by omega)]; omega
  have e2 : IntKind.i64.wrap ((i : Int) - 2) = ((i - 2 : Nat) : Int) := by rw [i64_id (by omega) (by omega)]; omega
  have e16 : IntKind.i64.wrap ((i : Int) - 16) = ((i - 16 : Nat) : Int) := by rw [i64_id (by omega) (by omega)]; omega
  have e7 : IntKind.i64.wrap ((i : Int) - 7) = ((i - 7 : Nat) : Int) := by rw [i64_id (by omega) (by omega)]; omega
  have hwl := wList_len bs i
  have glt : ∀ k, k < i → (wList bs i).getD k 0 < 4294967296 := fun k hk => by
    rw [List.getD_eq_getElem?_getD, List.getElem?_eq_getElem (by omega)]; exact hw i _ (List.getElem_mem _)
  have hstep : 16 ≤ i → wList bs (i + 1) = wList bs i ++ [nextW (wList bs i)] := fun h => by rw [wList, if_neg (by omega)]
  obtain ⟨L', hL'⟩ : ∃ L', L' = wList bs (i + 1) := ⟨_, rfl⟩
  rw [← hL'] at hstep
  have hend : i = 64 → wList bs 64 = wList bs i := fun e => by rw [e]
  obtain ⟨L, hL⟩ : ∃ L, L = wList bs i := ⟨_, rfl⟩
  rw [← hL] at hwl glt hstep hend ⊢
  repeat ((conv => whnf); first | refine Br.t ?_ | refine Br.f ?_ | refine ⟨rfl, ?_⟩)
  conv => whnf
  refine Br.mk (fun g => ?_) (fun g => ?_)
  · have g : i < 64 := by simp at g; omega
    have gt : ∀ k, k < i → (lift (L.map fun n => [u32I n])).getD (0 + ((k : Nat) : Int).toNat) [] = [.i (.int .u32 (L.getD k 0 : Nat))] := fun k hk => w32_get (by omega)
    repeat ((conv => whnf); first | refine Br.t ?_ | refine Br.f ?_ | refine ⟨rfl, ?_⟩)
    conv => whnf
    refine draw_ok (own := own0) [] [] [] rfl (by kernel_rfl) (Nat.zero_le _) ?_
    repeat ((conv => whnf); first | refine Br.t ?_ | refine Br.f ?_ | refine ⟨rfl, ?_⟩)
    conv => whnf
    rw [e15]
    refine ⟨⟨by omega, by omega⟩, ?_⟩
    repeat ((conv => whnf); first | refine Br.t ?_ | refine Br.f ?_ | refine ⟨rfl, ?_⟩)
    conv => whnf
    rw [gt _ (by omega)]
    repeat ((conv => whnf); first | refine Br.t ?_ | refine Br.f ?_ | refine ⟨rfl, ?_⟩)
    conv => whnf
    rw [e2]
    refine ⟨⟨by omega, by omega⟩, ?_⟩
    repeat ((conv => whnf); first | refine Br.t ?_ | refine Br.f ?_ | refine ⟨rfl, ?_⟩)
    conv => whnf
    rw [gt _ (by omega)]
    repeat ((conv => whnf); first | refine Br.t ?_ | refine Br.f ?_ | refine ⟨rfl, ?_⟩)
    conv => whnf
    refine ⟨by repeat ((conv => whnf); first | exact trivial | refine ⟨rfl, ?_⟩), trivial, ?_⟩
    conv => whnf
    repeat ((conv => whnf); first | refine Br.t ?_ | refine Br.f ?_ | refine ⟨rfl, ?_⟩)
    conv => whnf
    obtain ⟨x, hx⟩ : ∃ x, x = L.getD (i - 15) 0 := ⟨_, rfl⟩
    obtain ⟨y, hy⟩ : ∃ y, y = L.getD (i - 2) 0 := ⟨_, rfl⟩
    have xlt : x < 4294967296 := by rw [hx]; exact glt _ (by omega)
    have ylt : y < 4294967296 := by rw [hy]; exact glt _ (by omega)
    rw [← hx, ← hy]
    have t1 := rr_ok x xlt 7 (by decide) (by decide)
    have t2 := rr_ok x xlt 18 (by decide) (by decide)
    have t3 := rr_ok y ylt 17 (by decide) (by decide)
    have t4 := rr_ok y ylt 19 (by decide) (by decide)
    have sx3 : ((x : Int)).fdiv (2 ^ min (Int.toNat 3) IntKind.u32.bits) = ((x / 2 ^ 3 : Nat) : Int) := sshr32 x 3 (by decide)
    have sy10 : ((y : Int)).fdiv (2 ^ min (Int.toNat 10) IntKind.u32.bits) = ((y / 2 ^ 10 : Nat) : Int) := sshr32 y 10 (by decide)
    have lx : x / 2 ^ 3 < 4294967296 := Nat.lt_of_le_of_lt (Nat.div_le_self _ _) xlt
    have ly : y / 2 ^ 10 < 4294967296 := Nat.lt_of_le_of_lt (Nat.div_le_self _ _) ylt
    have lr : ∀ z n, z < 4294967296 → rotr z n < 4294967296 := fun z n h => rotl_lt z _ h
    have lxx : ∀ a b, a < 4294967296 → b < 4294967296 → a ^^^ b < 4294967296 := fun a b ha hb => Nat.xor_lt_two_pow (n := 32) ha hb
    refine CallW.mono (t1.pure _ rfl rfl) ?_
    rintro r st' ⟨rfl, rfl⟩
    repeat ((conv => whnf); first | refine Br.t ?_ | refine Br.f ?_ | refine ⟨rfl, ?_⟩)
    conv => whnf
    refine CallW.mono (t2.pure _ rfl rfl) ?_
    rintro r st' ⟨rfl, rfl⟩
    repeat ((conv => whnf); first | refine Br.t ?_ | refine Br.f ?_ | refine ⟨rfl, ?_⟩)
    conv => whnf
    rw [sxor32 (lr x 7 xlt) (lr x 18 xlt)]
    refine ⟨by decide, ?_⟩
    repeat ((conv => whnf); first | refine Br.t ?_ | refine Br.f ?_ | refine ⟨rfl, ?_⟩)
    conv => whnf
    rw [sx3, sxor32 (lxx _ _ (lr _ _ xlt) (lr _ _ xlt)) lx]
    repeat ((conv => whnf); first | refine Br.t ?_ | refine Br.f ?_ | refine ⟨rfl, ?_⟩)
    conv => whnf
    refine CallW.mono (t3.pure _ rfl rfl) ?_
    rintro r st' ⟨rfl, rfl⟩
    repeat ((conv => whnf); first | refine Br.t ?_ | refine Br.f ?_ | refine ⟨rfl, ?_⟩)
    conv => whnf
    refine CallW.mono (t4.pure _ rfl rfl) ?_
    rintro r st' ⟨rfl, rfl⟩
    repeat ((conv => whnf); first | refine Br.t ?_ | refine Br.f ?_ | refine ⟨rfl, ?_⟩)
    conv => whnf
    rw [sxor32 (lr y 17 ylt) (lr y 19 ylt)]
    refine ⟨by decide, ?_⟩
    repeat ((conv => whnf); first | refine Br.t ?_ | refine Br.f ?_ | refine ⟨rfl, ?_⟩)
    conv => whnf
    rw [sy10, sxor32 (lxx _ _ (lr _ _ ylt) (lr _ _ ylt)) ly]
    repeat ((conv => whnf); first | refine Br.t ?_ | refine Br.f ?_ | refine ⟨rfl, ?_⟩)
    conv => whnf
    obtain ⟨a, ha⟩ : ∃ a, a = s0W x := ⟨_, rfl⟩
    obtain ⟨b, hbb⟩ : ∃ b, b = s1W y := ⟨_, rfl⟩
    rw [show (rotr x 7 ^^^ rotr x 18) ^^^ (x / 2 ^ 3) = a from ha.symm, show (rotr y 17 ^^^ rotr y 19) ^^^ (y / 2 ^ 10) = b from hbb.symm]
    refine draw_ok (own := own0) [17] [] [] rfl (by kernel_rfl) (Nat.zero_le _) ?_
    repeat ((conv => whnf); first | refine Br.t ?_ | refine Br.f ?_ | refine ⟨rfl, ?_⟩)
    conv => whnf
    rw [e16]
    refine ⟨⟨by omega, by omega⟩, ?_⟩
    repeat ((conv => whnf); first | refine Br.t ?_ | refine Br.f ?_ | refine ⟨rfl, ?_⟩)
    conv => whnf
    rw [gt _ (by omega)]
    repeat ((conv => whnf); first | refine Br.t ?_ | refine Br.f ?_ | refine ⟨rfl, ?_⟩)
    conv => whnf
    rw [sadd32, e7]
    refine ⟨⟨by omega, by omega⟩, ?_⟩
    repeat ((conv => whnf); first | refine Br.t ?_ | refine Br.f ?_ | refine ⟨rfl, ?_⟩)
    conv => whnf
    rw [gt _ (by omega)]
    repeat ((conv => whnf); first | refine Br.t ?_ | refine Br.f ?_ | refine ⟨rfl, ?_⟩)
    conv => whnf
    rw [sadd32, sadd32]
    have hnx : ((L.getD (i - 16) 0 + a) % 4294967296 + L.getD (i - 7) 0) % 4294967296 + b = ((L.getD (i - 16) 0 + a) % 4294967296 + L.getD (i - 7) 0) % 4294967296 + b := rfl
    obtain ⟨N, hN⟩ : ∃ N, N = nextW L := ⟨_, rfl⟩
    have hN2 : N = (((L.getD (i - 16) 0 + a) % 4294967296 + L.getD (i - 7) 0) % 4294967296 + b) % 4294967296 := by
      rw [hN, nextW, hwl, ← hx, ← hy, ← ha, ← hbb]
    rw [← hN2]
    have hstep := hstep hi1
    rw [← hN] at hstep
    refine ⟨⟨by intro cs hcs; simp at hcs; subst hcs; rfl, by simp [lift, hwl], by show (i + 1) * 4 ≤ _; omega, len_mx (by show i + 1 ≤ _; omega)⟩, ?_⟩
    repeat ((conv => whnf); first | refine Br.t ?_ | refine Br.f ?_ | refine ⟨rfl, ?_⟩)
    conv => whnf
    refine ⟨by repeat ((conv => whnf); first | exact trivial | refine ⟨rfl, ?_⟩), trivial, ?_⟩
    conv => whnf
    repeat ((conv => whnf); first | refine Br.t ?_ | refine Br.f ?_ | refine ⟨rfl, ?_⟩)
    conv => whnf
    refine ⟨i + 1, ⟨by omega, by omega⟩, by omega, ?_⟩
    rw [← hL']
    refine Le.down (fun id => if id = 1 then 1 else 0) (fun id hid => by cases hid) ?_ ?_
    · rw [ei]
      repeat ((conv => whnf); first | exact trivial | refine ⟨.inl rfl, ?_⟩ | refine ⟨.inr rfl, ?_⟩)
    · rw [hstep]
      show [b32R, Ob.row 2 1 false (lift (L.map fun n => [u32I n]) ++ lift [[u32I N]])] = _
      rw [← lift_app]
      simp [upSt, Ob.up, oB, w32R, b32R, V.up.upAll, V.up]
  · have g : i = 64 := by simp at g; omega
    rw [hend g, ← g]
    repeat ((conv => whnf); first | refine Br.t ?_ | refine Br.f ?_ | refine ⟨rfl, ?_⟩)
    conv => whnf
    exact ⟨⟨oS ks P l at_ [(7, .ref 1 1 0 i)], oB L⟩, Le.slots (by simp [leS, mkS, oS]), rfl, rfl⟩
end Go.Proofs.YtdbmfnhbgacldaaDoor.Am

/- Contracts: SHA-256 of the document: the rounds. -/
namespace Go.Proofs.YtdbmfnhbgacldaaDoor.Am
set_option autoImplicit false
set_option linter.unusedVariables false
set_option linter.unusedSimpArgs false
set_option maxRecDepth 100000
set_option pp.maxSteps 3000
set_option pp.proofs false
/-- the slots: words' row, counter, the eight, and nothing else that is needed -/
def rfL (ks P : List Nat) (l : W8) (at_ : Nat) (x7 x24 : V) (v : W8) : List V := [.undef, .undef, .ptr 0 1 0 0, .i (.sl (ks.map w4)), .i (.sl ((v8L l).map w4)), .i (.sl (P.map by8)), .i (.int .i64 at_), x7, .undef, .undef, .undef, .undef, .undef, .undef, .undef, .undef, u32V v.1, u32V v.2.1, u32V v.2.2.1, u32V v.2.2.2.1, u32V v.2.2.2.2.1, u32V v.2.2.2.2.2.1, u32V v.2.2.2.2.2.2.1, u32V v.2.2.2.2.2.2.2, x24, .undef, .undef] ++ List.replicate 240 .undef
def rfS (ks P : List Nat) (l : W8) (at_ : Nat) (ws : List Nat) (i : Nat) (v : W8) : S := ⟨rfL ks P l at_ (.ref 1 1 0 64) (.i (.int .i64 i)) v, oB ws⟩
set_option maxHeartbeats 8000000 in
theorem rf_rounds (ks P : List Nat) (l : W8) (at_ : Nat) (ws : List Nat) (hk : ks.length = 64) (hw : ws.length = 64) (h : W8) (hh : okW8 h) :
    W Tryd.prog G0 0 (.loop (lp Tryd.f42 4)) (fun e s => e = .exit 8 ∧ s = ⟨rfL ks P l at_ .undef .undef (rndsW ks ws h 64), oB ws⟩) (rfS ks P l at_ ws 0 h) := by
  refine W.weak (loop_ok (α := Nat) (fun i => rfS ks P l at_ ws i (rndsW ks ws h i)) (fun i => i ≤ 64) (fun i => 64 - i) 0 (Nat.zero_le _) (Le.refl _ (rfS ks P l at_ ws 0 h)) (fun i hi => wpx_ok (own := own0) _ _ _ ?_))
  have ei : IntKind.i64.wrap ((i : Int) + 1) = ((i + 1 : Nat) : Int) := i64_id (by omega) (by omega)
  have ho := rnds_ok hh ks ws i
  have hst : rndsW ks ws h (i + 1) = rndW (rndsW ks ws h i) (ks.getD i 0) (ws.getD i 0) := rfl
  have hend : i = 64 → rndsW ks ws h 64 = rndsW ks ws h i := fun e => by rw [e]
  obtain ⟨v', hv'⟩ : ∃ v', v' = rndsW ks ws h (i + 1) := ⟨_, rfl⟩
  rw [← hv'] at hst
  generalize rndsW ks ws h 64 = vE at hend ⊢
  obtain ⟨⟨v0, v1, v2, v3, v4, v5, v6, v7⟩, hv⟩ : ∃ v, v = rndsW ks ws h i := ⟨_, rfl⟩
  rw [← hv] at ho hst hend ⊢
  obtain ⟨h0, h1, h2, h3, h4, h5, h6, h7⟩ := ho
  replace h0 : v0 < 4294967296 := h0
  replace h1 : v1 < 4294967296 := h1
  replace h2 : v2 < 4294967296 := h2
  replace h3 : v3 < 4294967296 := h3
  replace h4 : v4 < 4294967296 := h4
  replace h5 : v5 < 4294967296 := h5
  replace h6 : v6 < 4294967296 := h6
  replace h7 : v7 < 4294967296 := h7
  repeat ((conv => whnf); first | refine Br.t ?_ | refine Br.f ?_ | refine ⟨rfl, ?_⟩)
  conv => whnf
  refine Br.mk (fun g => ?_) (fun g => ?_)
  · have g : i < 64 := by simp at g; omega
    obtain ⟨k, hkk⟩ : ∃ k, k = ks.getD i 0 := ⟨_, rfl⟩
    obtain ⟨w, hww⟩ : ∃ w, w = ws.getD i 0 := ⟨_, rfl⟩
    rw [← hkk, ← hww] at hst
    have ek : (ks.map w4).getD ((i : Int)).toNat [] = w4 k := by
      rw [Int.toNat_natCast, hkk, List.getD_eq_getElem?_getD, List.getD_eq_getElem?_getD, List.getElem?_map, List.getElem?_eq_getElem (show i < ks.length by omega)]; rfl
    have ew : (lift (ws.map fun n => [u32I n])).getD (0 + ((i : Nat) : Int).toNat) [] = [.i (.int .u32 (w : Nat))] := by rw [hww]; exact w32_get (by omega)
    have lr : ∀ z n, z < 4294967296 → rotr z n < 4294967296 := fun z n h => rotl_lt z _ h
    have lxx : ∀ a b, a < 4294967296 → b < 4294967296 → a ^^^ b < 4294967296 := fun a b ha hb => Nat.xor_lt_two_pow (n := 32) ha hb
    have ln : 4294967295 ^^^ v4 < 4294967296 := lxx _ _ (by decide) h4
    have la : ∀ a b, b < 4294967296 → a &&& b < 4294967296 := fun a b hb => Nat.and_lt_two_pow (n := 32) a hb
    have t1 := rr_ok v4 h4 6 (by decide) (by decide)
    have t2 := rr_ok v4 h4 11 (by decide) (by decide)
    have t3 := rr_ok v4 h4 25 (by decide) (by decide)
    repeat ((conv => whnf); first | refine Br.t ?_ | refine Br.f ?_ | refine ⟨rfl, ?_⟩)
    conv => whnf
    refine draw_ok (own := own0) [] [] [(.i (.int .u32 (rotr v4 6 : Nat)), oB ws), (.i (.int .u32 (rotr v4 11 : Nat)), oB ws), (.i (.int .u32 (rotr v4 25 : Nat)), oB ws)] rfl (by kernel_rfl) (Nat.zero_le _) ?_
    repeat ((conv => whnf); first | refine Br.t ?_ | refine Br.f ?_ | refine ⟨rfl, ?_⟩)
    conv => whnf
    refine ⟨t1.pure _ rfl rfl, ?_⟩
    repeat ((conv => whnf); first | refine Br.t ?_ | refine Br.f ?_ | refine ⟨rfl, ?_⟩)
    conv => whnf
    refine ⟨t2.pure _ rfl rfl, ?_⟩
    repeat ((conv => whnf); first | refine Br.t ?_ | refine Br.f ?_ | refine ⟨rfl, ?_⟩)
    conv => whnf
    rw [sxor32 (lr v4 6 h4) (lr v4 11 h4)]
    refine ⟨t3.pure _ rfl rfl, ?_⟩
    repeat ((conv => whnf); first | refine Br.t ?_ | refine Br.f ?_ | refine ⟨rfl, ?_⟩)
    conv => whnf
    rw [sxor32 (lxx _ _ (lr v4 6 h4) (lr v4 11 h4)) (lr v4 25 h4), sadd32, sand32 h4 h5, snot32 h4, sand32 ln h6, sxor32 (la _ _ h5) (la _ _ h6), sadd32]
    rw [ek]
    refine ⟨⟨by omega, by simp [hk]; omega, rfl⟩, ?_⟩
    repeat ((conv => whnf); first | refine Br.t ?_ | refine Br.f ?_ | refine ⟨rfl, ?_⟩)
    conv => whnf
    rw [sadd32]
    refine ⟨⟨by omega, by omega⟩, ?_⟩
    repeat ((conv => whnf); first | refine Br.t ?_ | refine Br.f ?_ | refine ⟨rfl, ?_⟩)
    conv => whnf
    rw [ew]
    repeat ((conv => whnf); first | refine Br.t ?_ | refine Br.f ?_ | refine ⟨rfl, ?_⟩)
    conv => whnf
    rw [sadd32]
    refine ⟨by repeat ((conv => whnf); first | exact trivial | refine ⟨rfl, ?_⟩), trivial, ?_⟩
    conv => whnf
    obtain ⟨tt, htt⟩ : ∃ tt, tt = tW v4 v5 v6 v7 k w := ⟨_, rfl⟩
    have htl : tt < 4294967296 := by rw [htt]; exact Nat.mod_lt _ (by decide)
    rw [show ((((v7 + ((rotr v4 6 ^^^ rotr v4 11) ^^^ rotr v4 25)) % 4294967296 + ((v4 &&& v5) ^^^ ((4294967295 ^^^ v4) &&& v6))) % 4294967296 + k) % 4294967296 + w) % 4294967296 = tt from htt.symm]
    repeat ((conv => whnf); first | refine Br.t ?_ | refine Br.f ?_ | refine ⟨rfl, ?_⟩)
    conv => whnf
    have a1 := rr_ok v0 h0 2 (by decide) (by decide)
    have a2 := rr_ok v0 h0 13 (by decide) (by decide)
    have a3 := rr_ok v0 h0 22 (by decide) (by decide)
    refine CallW.mono (a1.pure _ rfl rfl) ?_
    rintro r st' ⟨rfl, rfl⟩
    repeat ((conv => whnf); first | refine Br.t ?_ | refine Br.f ?_ | refine ⟨rfl, ?_⟩)
    conv => whnf
    refine CallW.mono (a2.pure _ rfl rfl) ?_
    rintro r st' ⟨rfl, rfl⟩
    repeat ((conv => whnf); first | refine Br.t ?_ | refine Br.f ?_ | refine ⟨rfl, ?_⟩)
    conv => whnf
    rw [sxor32 (lr v0 2 h0) (lr v0 13 h0)]
    refine CallW.mono (a3.pure _ rfl rfl) ?_
    rintro r st' ⟨rfl, rfl⟩
    repeat ((conv => whnf); first | refine Br.t ?_ | refine Br.f ?_ | refine ⟨rfl, ?_⟩)
    conv => whnf
    rw [sxor32 (lxx _ _ (lr v0 2 h0) (lr v0 13 h0)) (lr v0 22 h0), sand32 h0 h1, sand32 h0 h2, sxor32 (la _ _ h1) (la _ _ h2), sand32 h1 h2, sxor32 (lxx _ _ (la _ _ h1) (la _ _ h2)) (la _ _ h2), sadd32]
    obtain ⟨uu, huu⟩ : ∃ uu, uu = uW v0 v1 v2 := ⟨_, rfl⟩
    have hul : uu < 4294967296 := by rw [huu]; exact Nat.mod_lt _ (by decide)
    rw [show (((rotr v0 2 ^^^ rotr v0 13) ^^^ rotr v0 22) + (((v0 &&& v1) ^^^ (v0 &&& v2)) ^^^ (v1 &&& v2))) % 4294967296 = uu from huu.symm]
    repeat ((conv => whnf); first | refine Br.t ?_ | refine Br.f ?_ | refine ⟨rfl, ?_⟩)
    conv => whnf
    rw [sadd32, sadd32]
    refine ⟨i + 1, g, by omega, ?_⟩
    rw [← hv', hst]
    show Le _ _ (rfS ks P l at_ ws (i + 1) ((tW v4 v5 v6 v7 k w + uW v0 v1 v2) % 4294967296, v0, v1, v2, (v3 + tW v4 v5 v6 v7 k w) % 4294967296, v4, v5, v6))
    rw [← htt, ← huu]
    refine Le.slE (by rw [ei]; repeat ((conv => whnf); first | exact trivial | refine ⟨.inl rfl, ?_⟩ | refine ⟨.inr rfl, ?_⟩)) rfl
  · have g : i = 64 := by simp at g; omega
    rw [hend g]
    repeat ((conv => whnf); first | refine Br.t ?_ | refine Br.f ?_ | refine ⟨rfl, ?_⟩)
    conv => whnf
    exact ⟨_, Le.slE (sl' := rfL ks P l at_ .undef .undef (v0, v1, v2, v3, v4, v5, v6, v7)) (by repeat ((conv => whnf); first | exact trivial | refine ⟨.inl rfl, ?_⟩ | refine ⟨.inr rfl, ?_⟩)) rfl, rfl, rfl⟩
end Go.Proofs.YtdbmfnhbgacldaaDoor.Am

/- Contracts: SHA-256 of the document: the digest's bytes. -/
namespace Go.Proofs.YtdbmfnhbgacldaaDoor.Am
set_option autoImplicit false
set_option linter.unusedVariables false
set_option linter.unusedSimpArgs false
set_option maxRecDepth 100000
set_option pp.maxSteps 3000
set_option pp.proofs false
def rgL (l : W8) (x28 x29 x30 : V) : List V := [.undef, .undef, .ptr 0 1 0 0, .undef, .i (.sl ((v8L l).map w4)), .undef, .undef, .undef, .undef, .undef, .undef, .undef, .undef, .undef, .undef, .undef, .undef, .undef, .undef, .undef, .undef, .undef, .undef, .undef, .undef, .undef, .undef, .ptr 1 1 0 0, x28, x29, x30] ++ List.replicate 236 .undef
def rgB (R : List (List V)) : List Ob := [b32R, .row 1 1 false R]
/-- the last k bytes of a word are laid -/
def setK (L : List Nat) (n i : Nat) : Nat → List (List V)
  | 0 => bRow L
  | k + 1 => (setK L n i k).set (4 * i + 3 - k) (b1 (n / 256 ^ k % 256))
theorem setK_len {L : List Nat} (h : L.length ≤ 32) (n i : Nat) : ∀ k, (setK L n i k).length = 32
  | 0 => bRow_len h
  | k + 1 => by rw [setK, List.length_set, setK_len h n i k]
theorem setK_at {L : List Nat} (h : L.length ≤ 32) (n i : Nat) : ∀ k, ∀ cs ∈ setK L n i k, ∃ x, cs = b1 x
  | 0, cs, hc => by
    simp only [setK, bRow, List.mem_append, List.mem_map, List.mem_replicate] at hc
    rcases hc with ⟨x, _, rfl⟩ | ⟨_, rfl⟩
    · exact ⟨x, rfl⟩
    · exact ⟨0, rfl⟩
  | k + 1, cs, hc => by
    rw [setK] at hc
    rcases List.mem_or_eq_of_mem_set hc with hc | rfl
    · exact setK_at h n i k cs hc
    · exact ⟨_, rfl⟩
theorem setK_get {L : List Nat} (h : L.length ≤ 32) (n i k j : Nat) (hj : j < 32) : ∃ x, (setK L n i k).getD j [] = b1 x := by
  rw [List.getD_eq_getElem?_getD, List.getElem?_eq_getElem (by rw [setK_len h]; exact hj)]
  exact setK_at h n i k _ (List.getElem_mem _)
theorem setK_4 {L : List Nat} {i : Nat} (hL : L.length = 4 * i) (hi : i < 8) (n : Nat) : setK L n i 4 = bRow (L ++ [n / 2 ^ 24 % 256, n / 2 ^ 16 % 256, n / 2 ^ 8 % 256, n % 256]) := by
  simp only [setK]
  unfold bRow
  have e : List.replicate (32 - L.length) (b1 0) = b1 0 :: b1 0 :: b1 0 :: b1 0 :: List.replicate (28 - L.length) (b1 0) := by
    rw [show 32 - L.length = (28 - L.length) + 1 + 1 + 1 + 1 by omega]; rfl
  have q : ∀ (R : List (List V)) (j : Nat) (x : List V), (L.map b1 ++ R).set (4 * i + j) x = L.map b1 ++ R.set j x := fun R j x => by
    rw [List.set_append_right _ _ (by simp; omega), List.length_map, hL, Nat.add_sub_cancel_left]
  rw [e, show 4 * i + 3 - 0 = 4 * i + 3 from rfl, show 4 * i + 3 - 1 = 4 * i + 2 from rfl, show 4 * i + 3 - 2 = 4 * i + 1 from rfl, show 4 * i + 3 - 3 = 4 * i + 0 from rfl, q, q, q, q]
  rw [List.map_append, List.append_assoc, List.length_append]
  congr 1
  simp only [List.set_cons_succ, List.set_cons_zero, List.map_cons, List.map_nil, List.length_cons, List.length_nil, List.cons_append, List.nil_append]
  rw [show 32 - (L.length + (0 + 1 + 1 + 1 + 1)) = 28 - L.length by omega]
  simp
theorem digL_4 (ws : List Nat) (i : Nat) : digL ws (4 * (i + 1)) = digL ws (4 * i) ++ [ws.getD i 0 / 2 ^ 24 % 256, ws.getD i 0 / 2 ^ 16 % 256, ws.getD i 0 / 2 ^ 8 % 256, ws.getD i 0 % 256] := by
  rw [show 4 * (i + 1) = 4 * i + 1 + 1 + 1 + 1 by omega, digL_snoc, digL_snoc, digL_snoc, digL_snoc]
  rw [show (4 * i + 1 + 1 + 1) / 4 = i by omega, show (4 * i + 1 + 1 + 1) % 4 = 3 by omega, show (4 * i + 1 + 1) / 4 = i by omega, show (4 * i + 1 + 1) % 4 = 2 by omega, show (4 * i + 1) / 4 = i by omega, show (4 * i + 1) % 4 = 1 by omega, show (4 * i) / 4 = i by omega, show (4 * i) % 4 = 0 by omega]
  simp
set_option maxHeartbeats 8000000 in
theorem rg_in (l : W8) (i : Nat) (hi : i < 8) (L : List Nat) (hL : L.length = 4 * i) (n : Nat) (hn : n < 4294967296) :
    W Tryd.prog G0 0 (.loop (lp Tryd.f42 6)) (fun e s => e = .exit 12 ∧ s = ⟨rgL l (.i (.int .i64 i)) .undef .undef, rgB (bRow (L ++ [n / 2 ^ 24 % 256, n / 2 ^ 16 % 256, n / 2 ^ 8 % 256, n % 256]))⟩) ⟨rgL l (.i (.int .i64 i)) (.i (.int .u32 n)) (.i (.int .i64 3)), rgB (bRow L)⟩ := by
  rw [← setK_4 hL hi n]
  refine W.weak (loop_ok (α := Nat) (fun k => ⟨rgL l (.i (.int .i64 i)) (.i (.int .u32 (n / 256 ^ k : Nat))) (.i (.int .i64 ((3 : Int) - (k : Int)))), rgB (setK L n i k)⟩) (fun k => k ≤ 4) (fun k => 4 - k) 0 (Nat.zero_le _) (Le.slE (by simp [leS, rgL]) rfl) (fun k hk => wpx_ok (own := own0) _ _ _ ?_))
  have hl := setK_len (L := L) (by omega) n i k
  have hat := setK_get (L := L) (by omega) n i k
  have hst : setK L n i (k + 1) = (setK L n i k).set (4 * i + 3 - k) (b1 (n / 256 ^ k % 256)) := rfl
  have hend : k = 4 → setK L n i 4 = setK L n i k := fun e => by rw [e]
  have hdv : n / 256 ^ (k + 1) = n / 256 ^ k / 256 := by rw [Nat.pow_succ, Nat.div_div_eq_div_mul]
  have hlt : n / 256 ^ k < 4294967296 := Nat.lt_of_le_of_lt (Nat.div_le_self _ _) hn
  obtain ⟨R', hR'⟩ : ∃ R', R' = setK L n i (k + 1) := ⟨_, rfl⟩
  rw [← hR'] at hst
  obtain ⟨R, hR⟩ : ∃ R, R = setK L n i k := ⟨_, rfl⟩
  obtain ⟨m, hm⟩ : ∃ m, m = n / 256 ^ k := ⟨_, rfl⟩
  rw [← hR, ← hm] at hst
  rw [← hR] at hl hat hend ⊢
  rw [← hm] at hdv hlt ⊢
  have em : ((m : Nat) : Int).tmod 256 = ((m % 256 : Nat) : Int) := by rw [Int.tmod_eq_emod_of_nonneg (by omega)]; simp
  have ed : ((m : Nat) : Int).tdiv 256 = ((m / 256 : Nat) : Int) := by rw [Int.tdiv_eq_ediv_of_nonneg (by omega)]; simp
  have e8 : IntKind.u8.wrap (((m % 256 : Nat) : Int)) = ((m % 256 : Nat) : Int) := by simp [IntKind.wrap, IntKind.signed, IntKind.bits]
  repeat ((conv => whnf); first | refine Br.t ?_ | refine Br.f ?_ | refine ⟨rfl, ?_⟩)
  conv => whnf
  refine Br.mk (fun g => ?_) (fun g => ?_)
  · have g : k < 4 := by simp at g; omega
    have e1 : IntKind.i64.wrap (IntKind.i64.wrap (4 * (i : Int)) + ((3 : Int) - (k : Int))) = ((4 * i + 3 - k : Nat) : Int) := by
      rw [i64_id (n := 4 * (i : Int)) (by omega) (by omega), i64_id (by omega) (by omega)]; omega
    obtain ⟨x, hx⟩ := hat (4 * i + 3 - k) (by omega)
    repeat ((conv => whnf); first | refine Br.t ?_ | refine Br.f ?_ | refine ⟨rfl, ?_⟩)
    conv => whnf
    refine ⟨by decide, ?_⟩
    repeat ((conv => whnf); first | refine Br.t ?_ | refine Br.f ?_ | refine ⟨rfl, ?_⟩)
    conv => whnf
    rw [em, e1]
    repeat ((conv => whnf); first | refine Br.t ?_ | refine Br.f ?_ | refine ⟨rfl, ?_⟩)
    conv => whnf
    rw [e8]
    refine ⟨⟨rfl, rfl, hl, by omega, by omega⟩, ?_⟩
    repeat ((conv => whnf); first | refine Br.t ?_ | refine Br.f ?_ | refine ⟨rfl, ?_⟩)
    conv => whnf
    rw [Int.toNat_natCast, hx]
    refine ⟨rfl, ?_⟩
    repeat ((conv => whnf); first | refine Br.t ?_ | refine Br.f ?_ | refine ⟨rfl, ?_⟩)
    conv => whnf
    refine ⟨by decide, ?_⟩
    repeat ((conv => whnf); first | refine Br.t ?_ | refine Br.f ?_ | refine ⟨rfl, ?_⟩)
    conv => whnf
    rw [ed, w32 ((m / 256 : Nat) : Int) (by omega) (by omega)]
    repeat ((conv => whnf); first | refine Br.t ?_ | refine Br.f ?_ | refine ⟨rfl, ?_⟩)
    conv => whnf
    refine ⟨k + 1, by omega, by omega, ?_⟩
    rw [← hR', hdv, hst]
    refine Le.slE ?_ rfl
    have ej : IntKind.i64.wrap ((3 : Int) - (k : Int) - 1) = (3 : Int) - ((k + 1 : Nat) : Int) := by rw [i64_id (by omega) (by omega)]; omega
    rw [ej]
    repeat ((conv => whnf); first | exact trivial | refine ⟨.inl rfl, ?_⟩ | refine ⟨.inr rfl, ?_⟩)
  · have g : k = 4 := by simp at g; omega
    rw [hend g]
    repeat ((conv => whnf); first | refine Br.t ?_ | refine Br.f ?_ | refine ⟨rfl, ?_⟩)
    conv => whnf
    exact ⟨_, Le.slE (sl' := rgL l (.i (.int .i64 i)) .undef .undef) (by simp [leS, rgL]) rfl, rfl, rfl⟩
set_option maxHeartbeats 8000000 in
theorem rg_out (l : W8) (hl : okW8 l) :
    W Tryd.prog G0 0 (.loop (lp Tryd.f42 5)) (fun e s => e = .exit 10 ∧ s = ⟨rgL l .undef .undef .undef, rgB (bRow (digL (v8L l) 32))⟩) ⟨rgL l (.i (.int .i64 0)) .undef .undef, rgB (bRow [])⟩ := by
  refine W.weak (loop_ok (α := Nat) (fun i => ⟨rgL l (.i (.int .i64 i)) .undef .undef, rgB (bRow (digL (v8L l) (4 * i)))⟩) (fun i => i ≤ 8) (fun i => 8 - i) 0 (Nat.zero_le _) (Le.refl _ _) (fun i hi => wpx_ok (own := own0) _ _ _ ?_))
  have hlt : ∀ j, (v8L l).getD j 0 < 4294967296 := fun j => by
    obtain ⟨h0, h1, h2, h3, h4, h5, h6, h7⟩ := hl
    match j with
    | 0 => exact h0
    | 1 => exact h1
    | 2 => exact h2
    | 3 => exact h3
    | 4 => exact h4
    | 5 => exact h5
    | 6 => exact h6
    | 7 => exact h7
    | j + 8 => simp [v8L]
  have h4 := digL_4 (v8L l) i
  have hdl := digL_len (v8L l) (4 * i)
  have hend : i = 8 → digL (v8L l) 32 = digL (v8L l) (4 * i) := fun e => by rw [e]
  obtain ⟨L', hL'⟩ : ∃ L', L' = digL (v8L l) (4 * (i + 1)) := ⟨_, rfl⟩
  obtain ⟨L, hL⟩ : ∃ L, L = digL (v8L l) (4 * i) := ⟨_, rfl⟩
  rw [← hL', ← hL] at h4
  rw [← hL] at hdl hend ⊢
  repeat ((conv => whnf); first | refine Br.t ?_ | refine Br.f ?_ | refine ⟨rfl, ?_⟩)
  conv => whnf
  refine Br.mk (fun g => ?_) (fun g => ?_)
  · have g : i < 8 := by simp at g; omega
    have ek : ((v8L l).map w4).getD ((i : Int)).toNat [] = w4 ((v8L l).getD i 0) := by
      rw [Int.toNat_natCast, List.getD_eq_getElem?_getD, List.getD_eq_getElem?_getD, List.getElem?_map, List.getElem?_eq_getElem (show i < (v8L l).length from g)]; rfl
    have lo := rg_in l i g L hdl ((v8L l).getD i 0) (hlt i)
    rw [← h4] at lo
    repeat ((conv => whnf); first | refine Br.t ?_ | refine Br.f ?_ | refine ⟨rfl, ?_⟩)
    conv => whnf
    rw [ek]
    refine ⟨⟨by omega, by show (i : Int) < ((8 : Nat) : Int); omega, rfl⟩, ?_⟩
    repeat ((conv => whnf); first | refine Br.t ?_ | refine Br.f ?_ | refine ⟨rfl, ?_⟩)
    conv => whnf
    refine W.le (s' := ⟨rgL l (.i (.int .i64 i)) (.i (.int .u32 ((v8L l).getD i 0 : Nat))) (.i (.int .i64 3)), rgB (bRow L)⟩) (Le.slE (by simp [leS, rgL]) rfl) (W.mono lo ?_)
    rintro e s ⟨rfl, rfl⟩
    repeat ((conv => whnf); first | refine Br.t ?_ | refine Br.f ?_ | refine ⟨rfl, ?_⟩)
    conv => whnf
    refine ⟨i + 1, by omega, by omega, ?_⟩
    rw [← hL']
    refine Le.slE ?_ rfl
    simp [leS, rgL]
    exact i64_id (by omega) (by omega)
  · have g : i = 8 := by simp at g; omega
    rw [hend g]
    repeat ((conv => whnf); first | refine Br.t ?_ | refine Br.f ?_ | refine ⟨rfl, ?_⟩)
    conv => whnf
    exact ⟨_, Le.slE (sl' := rgL l .undef .undef .undef) (by simp [leS, rgL]) rfl, rfl, rfl⟩
end Go.Proofs.YtdbmfnhbgacldaaDoor.Am

/- Contracts: SHA-256 of the document: the blocks. -/
namespace Go.Proofs.YtdbmfnhbgacldaaDoor.Am
set_option autoImplicit false
set_option linter.unusedVariables false
set_option linter.unusedSimpArgs false
set_option maxRecDepth 100000
set_option pp.maxSteps 3000
set_option pp.proofs false
def ofL (ks P : List Nat) (l : W8) (at_ : Nat) : List V := [.undef, .undef, .ptr 0 1 0 0, .i (.sl (ks.map w4)), .i (.sl ((v8L l).map w4)), .i (.sl (P.map by8)), .i (.int .i64 at_)] ++ List.replicate 260 .undef
theorem b32_cl : ∀ o ∈ [b32R], o.cl 1 := by
  intro o ho
  simp only [List.mem_singleton] at ho
  subst ho
  intro cs hcs
  have := List.eq_of_mem_replicate hcs
  subst this
  rfl
theorem padW_64 (B : List Nat) : (padW B).length % 64 = 0 := by
  have h := zB_len B (nZ B.length)
  unfold padW
  rw [List.length_append, h]
  simp only [nZ, tlL, List.length_cons, List.length_nil]
  omega
theorem padW_len (B : List Nat) : (padW B).length ≤ B.length + 80 := by
  have h := zB_len B (nZ B.length)
  have : nZ B.length < 64 := Nat.mod_lt _ (by decide)
  unfold padW
  rw [List.length_append, h]
  simp only [tlL, List.length_cons, List.length_nil]
  omega
theorem padW_lt {B : List Nat} (hB : ∀ b ∈ B, b < 256) : ∀ b ∈ padW B, b < 256 := by
  intro b hb
  unfold padW at hb
  rcases List.mem_append.1 hb with hb | hb
  · exact zB_lt hB _ b hb
  · simp only [tlL, List.mem_cons, List.not_mem_nil, or_false] at hb
    rcases hb with rfl | rfl | rfl | rfl | rfl | rfl | rfl | rfl <;> exact Nat.mod_lt _ (by decide)
set_option maxHeartbeats 8000000 in
theorem rf_blocks (ks P : List Nat) (hk : ks.length = 64) (hb : ∀ b ∈ P, b < 256) (hP : P.length ≤ 1000000000) (h64 : P.length % 64 = 0) (h0 : W8) (hh0 : okW8 h0) :
    W Tryd.prog G0 0 (.loop (lp Tryd.f42 0)) (fun e s => e = .exit 0 ∧ s = ⟨ofL ks P (hashW ks h0 P (P.length / 64)) P.length, [b32R]⟩) ⟨ofL ks P h0 0, [b32R]⟩ := by
  refine W.weak (loop_ok (α := Nat) (fun k => ⟨ofL ks P (hashW ks h0 P k) (64 * k), [b32R]⟩) (fun k => 64 * k ≤ P.length) (fun k => P.length - k) 0 (Nat.zero_le _) (Le.refl _ _) (fun k hkl => wpx_ok (own := own0) _ _ _ ?_))
  have hh := hash_ok ks hh0 P k
  have hst : hashW ks h0 P (k + 1) = sumW (hashW ks h0 P k) (rndsW ks (wList ((P.drop (64 * k)).take 64) 64) (hashW ks h0 P k) 64) := rfl
  have hend : ¬ 64 * k < P.length → hashW ks h0 P (P.length / 64) = hashW ks h0 P k ∧ P.length = 64 * k := fun g => by
    have : P.length / 64 = k := by omega
    rw [this]; exact ⟨rfl, by omega⟩
  obtain ⟨h1, hh1⟩ : ∃ h1, h1 = hashW ks h0 P (k + 1) := ⟨_, rfl⟩
  rw [← hh1] at hst
  generalize hashW ks h0 P (P.length / 64) = hE at hend ⊢
  generalize hashW ks h0 P k = l at hh hst hend ⊢
  repeat ((conv => whnf); first | refine Br.t ?_ | refine Br.f ?_ | refine ⟨rfl, ?_⟩)
  conv => whnf
  refine Br.mk (fun g => ?_) (fun g => ?_)
  · have g : 64 * k < P.length := by simp at g; omega
    obtain ⟨bs, hbs⟩ : ∃ bs, bs = (P.drop (64 * k)).take 64 := ⟨_, rfl⟩
    rw [← hbs] at hst
    have hbb : ∀ b ∈ bs, b < 256 := fun b h => by rw [hbs] at h; exact hb b (List.mem_of_mem_drop (List.mem_of_mem_take h))
    have lw := rf_words ks P l (64 * k) bs hbs hb hP (by omega)
    have ln := rf_next ks P l (64 * k) bs (wList_lt hbb)
    have hwl := wList_len bs 64
    generalize wList bs 16 = L16 at lw ln
    generalize wList bs 64 = ws at ln hwl hst
    have lr := rf_rounds ks P l (64 * k) ws hk hwl l hh
    generalize rndsW ks ws l 64 = v at lr hst
    repeat ((conv => whnf); first | refine Br.t ?_ | refine Br.f ?_ | refine ⟨rfl, ?_⟩)
    conv => whnf
    refine W.le (s' := ⟨oS ks P l (64 * k) [(7, .ref 1 1 0 0), (8, .i (.int .i64 0))], oB []⟩) ((Le.nil (n := 0) 7 1 rfl).trans (Le.slE (by simp [leS, mkS, oS]) rfl)) (W.mono lw ?_)
    rintro e s ⟨rfl, rfl⟩
    repeat ((conv => whnf); first | refine Br.t ?_ | refine Br.f ?_ | refine ⟨rfl, ?_⟩)
    conv => whnf
    refine W.le (s' := ⟨oS ks P l (64 * k) [(7, .ref 1 1 0 16), (11, .i (.int .i64 16))], oB L16⟩) (Le.slE (by simp [leS, mkS, oS]) rfl) (W.mono ln ?_)
    rintro e s ⟨rfl, rfl⟩
    repeat ((conv => whnf); first | refine Br.t ?_ | refine Br.f ?_ | refine ⟨rfl, ?_⟩)
    conv => whnf
    obtain ⟨l0, l1, l2, l3, l4, l5, l6, l7⟩ := l
    obtain ⟨v0, v1, v2, v3, v4, v5, v6, v7⟩ := v
    refine draw_ok (own := own0) [] [] [] rfl (by kernel_rfl) (Nat.zero_le _) ?_
    repeat ((conv => whnf); first | refine Br.t ?_ | refine Br.f ?_ | refine ⟨rfl, ?_⟩)
    conv => whnf
    refine ⟨⟨by decide, by show (0 : Int) < ((8 : Nat) : Int); decide, rfl⟩, ?_⟩
    repeat ((conv => whnf); first | refine Br.t ?_ | refine Br.f ?_ | refine ⟨rfl, ?_⟩)
    conv => whnf
    refine ⟨⟨by decide, by show (1 : Int) < ((8 : Nat) : Int); decide, rfl⟩, ?_⟩
    repeat ((conv => whnf); first | refine Br.t ?_ | refine Br.f ?_ | refine ⟨rfl, ?_⟩)
    conv => whnf
    refine ⟨⟨by decide, by show (2 : Int) < ((8 : Nat) : Int); decide, rfl⟩, ?_⟩
    repeat ((conv => whnf); first | refine Br.t ?_ | refine Br.f ?_ | refine ⟨rfl, ?_⟩)
    conv => whnf
    refine ⟨⟨by decide, by show (3 : Int) < ((8 : Nat) : Int); decide, rfl⟩, ?_⟩
    repeat ((conv => whnf); first | refine Br.t ?_ | refine Br.f ?_ | refine ⟨rfl, ?_⟩)
    conv => whnf
    refine ⟨⟨by decide, by show (4 : Int) < ((8 : Nat) : Int); decide, rfl⟩, ?_⟩
    repeat ((conv => whnf); first | refine Br.t ?_ | refine Br.f ?_ | refine ⟨rfl, ?_⟩)
    conv => whnf
    refine ⟨⟨by decide, by show (5 : Int) < ((8 : Nat) : Int); decide, rfl⟩, ?_⟩
    repeat ((conv => whnf); first | refine Br.t ?_ | refine Br.f ?_ | refine ⟨rfl, ?_⟩)
    conv => whnf
    refine ⟨⟨by decide, by show (6 : Int) < ((8 : Nat) : Int); decide, rfl⟩, ?_⟩
    repeat ((conv => whnf); first | refine Br.t ?_ | refine Br.f ?_ | refine ⟨rfl, ?_⟩)
    conv => whnf
    refine ⟨⟨by decide, by show (7 : Int) < ((8 : Nat) : Int); decide, rfl⟩, ?_⟩
    repeat ((conv => whnf); first | refine Br.t ?_ | refine Br.f ?_ | refine ⟨rfl, ?_⟩)
    conv => whnf
    refine ⟨by repeat ((conv => whnf); first | exact trivial | refine ⟨rfl, ?_⟩), trivial, ?_⟩
    conv => whnf
    repeat ((conv => whnf); first | refine Br.t ?_ | refine Br.f ?_ | refine ⟨rfl, ?_⟩)
    conv => whnf
    refine W.le (s' := rfS ks P (l0, l1, l2, l3, l4, l5, l6, l7) (64 * k) ws 0 (l0, l1, l2, l3, l4, l5, l6, l7)) (Le.slE (by repeat ((conv => whnf); first | exact trivial | refine ⟨.inl rfl, ?_⟩ | refine ⟨.inr rfl, ?_⟩)) rfl) (W.mono lr ?_)
    rintro e s ⟨rfl, rfl⟩
    repeat ((conv => whnf); first | refine Br.t ?_ | refine Br.f ?_ | refine ⟨rfl, ?_⟩)
    conv => whnf
    refine draw_ok (own := own0) [] [] [] rfl (by kernel_rfl) (Nat.zero_le _) ?_
    repeat ((conv => whnf); first | refine Br.t ?_ | refine Br.f ?_ | refine ⟨rfl, ?_⟩)
    conv => whnf
    refine ⟨⟨by decide, by show (0 : Int) < ((8 : Nat) : Int); decide, rfl⟩, ?_⟩
    repeat ((conv => whnf); first | refine Br.t ?_ | refine Br.f ?_ | refine ⟨rfl, ?_⟩)
    conv => whnf
    rw [sadd32]
    refine ⟨⟨by decide, by show (1 : Int) < ((8 : Nat) : Int); decide, rfl⟩, ?_⟩
    repeat ((conv => whnf); first | refine Br.t ?_ | refine Br.f ?_ | refine ⟨rfl, ?_⟩)
    conv => whnf
    rw [sadd32]
    refine ⟨⟨by decide, by show (2 : Int) < ((8 : Nat) : Int); decide, rfl⟩, ?_⟩
    repeat ((conv => whnf); first | refine Br.t ?_ | refine Br.f ?_ | refine ⟨rfl, ?_⟩)
    conv => whnf
    rw [sadd32]
    refine ⟨⟨by decide, by show (3 : Int) < ((8 : Nat) : Int); decide, rfl⟩, ?_⟩
    repeat ((conv => whnf); first | refine Br.t ?_ | refine Br.f ?_ | refine ⟨rfl, ?_⟩)
    conv => whnf
    rw [sadd32]
    refine ⟨⟨by decide, by show (4 : Int) < ((8 : Nat) : Int); decide, rfl⟩, ?_⟩
    repeat ((conv => whnf); first | refine Br.t ?_ | refine Br.f ?_ | refine ⟨rfl, ?_⟩)
    conv => whnf
    rw [sadd32]
    refine ⟨⟨by decide, by show (5 : Int) < ((8 : Nat) : Int); decide, rfl⟩, ?_⟩
    repeat ((conv => whnf); first | refine Br.t ?_ | refine Br.f ?_ | refine ⟨rfl, ?_⟩)
    conv => whnf
    rw [sadd32]
    refine ⟨⟨by decide, by show (6 : Int) < ((8 : Nat) : Int); decide, rfl⟩, ?_⟩
    repeat ((conv => whnf); first | refine Br.t ?_ | refine Br.f ?_ | refine ⟨rfl, ?_⟩)
    conv => whnf
    rw [sadd32]
    refine ⟨⟨by decide, by show (7 : Int) < ((8 : Nat) : Int); decide, rfl⟩, ?_⟩
    repeat ((conv => whnf); first | refine Br.t ?_ | refine Br.f ?_ | refine ⟨rfl, ?_⟩)
    conv => whnf
    rw [sadd32]
    refine ⟨by repeat ((conv => whnf); first | exact trivial | refine ⟨rfl, ?_⟩), trivial, ?_⟩
    conv => whnf
    repeat ((conv => whnf); first | refine Br.t ?_ | refine Br.f ?_ | refine ⟨rfl, ?_⟩)
    conv => whnf
    have e6 : IntKind.i64.wrap (((64 * k : Nat) : Int) + 64) = ((64 * (k + 1) : Nat) : Int) := by rw [i64_id (by omega) (by omega)]; omega
    refine ⟨k + 1, by omega, by omega, ?_⟩
    rw [← hh1, hst, e6]
    refine (Le.slE (sl' := ofL ks P (sumW (l0, l1, l2, l3, l4, l5, l6, l7) (v0, v1, v2, v3, v4, v5, v6, v7)) (64 * (k + 1))) (st' := [b32R] ++ [w32R 1 ws]) (by repeat ((conv => whnf); first | exact trivial | refine ⟨.inl rfl, ?_⟩ | refine ⟨.inr rfl, ?_⟩)) rfl).trans (Le.short (Nat.zero_le _) rfl b32_cl)
  · have g : ¬ 64 * k < P.length := by simp at g; omega
    obtain ⟨e1, e2⟩ := hend g
    rw [e1, e2]
    repeat ((conv => whnf); first | refine Br.t ?_ | refine Br.f ?_ | refine ⟨rfl, ?_⟩)
    conv => whnf
    exact ⟨_, Le.slE (sl' := ofL ks P l (64 * k)) (by simp [leS, ofL]) rfl, rfl, rfl⟩
end Go.Proofs.YtdbmfnhbgacldaaDoor.Am

/- SHA-256: the keys and the first words, out of their digits. -/
namespace Go.Proofs.YtdbmfnhbgacldaaDoor.Am
set_option autoImplicit false
set_option maxRecDepth 100000
/-- the rounds' keys -/
def KEYS : List Nat := [1116352408, 1899447441, 3049323471, 3921009573, 961987163, 1508970993, 2453635748, 2870763221, 3624381080, 310598401, 607225278, 1426881987, 1925078388, 2162078206, 2614888103, 3248222580, 3835390401, 4022224774, 264347078, 604807628, 770255983, 1249150122, 1555081692, 1996064986, 2554220882, 2821834349, 2952996808, 3210313671, 3336571891, 3584528711, 113926993, 338241895, 666307205, 773529912, 1294757372, 1396182291, 1695183700, 1986661051, 2177026350, 2456956037, 2730485921, 2820302411, 3259730800, 3345764771, 3516065817, 3600352804, 4094571909, 275423344, 430227734, 506948616, 659060556, 883997877, 958139571, 1322822218, 1537002063, 1747873779, 1955562222, 2024104815, 2227730452, 2361852424, 2428436474, 2756734187, 3204031479, 3329325298]
theorem KEYS_len : KEYS.length = 64 := rfl
theorem KEYS_lt : ∀ x ∈ KEYS, x < 4294967296 := by decide
def sK : ByteArray := ⟨#[52, 50, 56, 97, 50, 102, 57, 56, 32, 55, 49, 51, 55, 52, 52, 57, 49, 32, 98, 53, 99, 48, 102, 98, 99, 102, 32, 101, 57, 98, 53, 100, 98, 97, 53, 32, 51, 57, 53, 54, 99, 50, 53, 98, 32, 53, 57, 102, 49, 49, 49, 102, 49, 32, 57, 50, 51, 102, 56, 50, 97, 52, 32, 97, 98, 49, 99, 53, 101, 100, 53, 32, 100, 56, 48, 55, 97, 97, 57, 56, 32, 49, 50, 56, 51, 53, 98, 48, 49, 32, 50, 52, 51, 49, 56, 53, 98, 101, 32, 53, 53, 48, 99, 55, 100, 99, 51, 32, 55, 50, 98, 101, 53, 100, 55, 52, 32, 56, 48, 100, 101, 98, 49, 102, 101, 32, 57, 98, 100, 99, 48, 54, 97, 55, 32, 99, 49, 57, 98, 102, 49, 55, 52, 32, 101, 52, 57, 98, 54, 57, 99, 49, 32, 101, 102, 98, 101, 52, 55, 56, 54, 32, 48, 102, 99, 49, 57, 100, 99, 54, 32, 50, 52, 48, 99, 97, 49, 99, 99, 32, 50, 100, 101, 57, 50, 99, 54, 102, 32, 52, 97, 55, 52, 56, 52, 97, 97, 32, 53, 99, 98, 48, 97, 57, 100, 99, 32, 55, 54, 102, 57, 56, 56, 100, 97, 32, 57, 56, 51, 101, 53, 49, 53, 50, 32, 97, 56, 51, 49, 99, 54, 54, 100, 32, 98, 48, 48, 51, 50, 55, 99, 56, 32, 98, 102, 53, 57, 55, 102, 99, 55, 32, 99, 54, 101, 48, 48, 98, 102, 51, 32, 100, 53, 97, 55, 57, 49, 52, 55, 32, 48, 54, 99, 97, 54, 51, 53, 49, 32, 49, 52, 50, 57, 50, 57, 54, 55, 32, 50, 55, 98, 55, 48, 97, 56, 53, 32, 50, 101, 49, 98, 50, 49, 51, 56, 32, 52, 100, 50, 99, 54, 100, 102, 99, 32, 53, 51, 51, 56, 48, 100, 49, 51, 32, 54, 53, 48, 97, 55, 51, 53, 52, 32, 55, 54, 54, 97, 48, 97, 98, 98, 32, 56, 49, 99, 50, 99, 57, 50, 101, 32, 57, 50, 55, 50, 50, 99, 56, 53, 32, 97, 50, 98, 102, 101, 56, 97, 49, 32, 97, 56, 49, 97, 54, 54, 52, 98, 32, 99, 50, 52, 98, 56, 98, 55, 48, 32, 99, 55, 54, 99, 53, 49, 97, 51, 32, 100, 49, 57, 50, 101, 56, 49, 57, 32, 100, 54, 57, 57, 48, 54, 50, 52, 32, 102, 52, 48, 101, 51, 53, 56, 53, 32, 49, 48, 54, 97, 97, 48, 55, 48, 32, 49, 57, 97, 52, 99, 49, 49, 54, 32, 49, 101, 51, 55, 54, 99, 48, 56, 32, 50, 55, 52, 56, 55, 55, 52, 99, 32, 51, 52, 98, 48, 98, 99, 98, 53, 32, 51, 57, 49, 99, 48, 99, 98, 51, 32, 52, 101, 100, 56, 97, 97, 52, 97, 32, 53, 98, 57, 99, 99, 97, 52, 102, 32, 54, 56, 50, 101, 54, 102, 102, 51, 32, 55, 52, 56, 102, 56, 50, 101, 101, 32, 55, 56, 97, 53, 54, 51, 54, 102, 32, 56, 52, 99, 56, 55, 56, 49, 52, 32, 56, 99, 99, 55, 48, 50, 48, 56, 32, 57, 48, 98, 101, 102, 102, 102, 97, 32, 97, 52, 53, 48, 54, 99, 101, 98, 32, 98, 101, 102, 57, 97, 51, 102, 55, 32, 99, 54, 55, 49, 55, 56, 102, 50]⟩
def sL : ByteArray := ⟨#[54, 97, 48, 57, 101, 54, 54, 55, 32, 98, 98, 54, 55, 97, 101, 56, 53, 32, 51, 99, 54, 101, 102, 51, 55, 50, 32, 97, 53, 52, 102, 102, 53, 51, 97, 32, 53, 49, 48, 101, 53, 50, 55, 102, 32, 57, 98, 48, 53, 54, 56, 56, 99, 32, 49, 102, 56, 51, 100, 57, 97, 98, 32, 53, 98, 101, 48, 99, 100, 49, 57]⟩
theorem hexK : hexL (strL sK) = KEYS := by kernel_rfl
theorem hexH : hexL (strL sL) = v8L H0W := by kernel_rfl
theorem digK : ∀ c ∈ strL sK, c = 32 ∨ (48 ≤ c ∧ c ≤ 57) ∨ (97 ≤ c ∧ c ≤ 102) := of_decide_eq_true (by kernel_rfl)
theorem digH : ∀ c ∈ strL sL, c = 32 ∨ (48 ≤ c ∧ c ≤ 57) ∨ (97 ≤ c ∧ c ≤ 102) := of_decide_eq_true (by kernel_rfl)
theorem sizeK : sK.size ≤ 100000 := of_decide_eq_true (by kernel_rfl)
theorem sizeH : sL.size ≤ 100000 := of_decide_eq_true (by kernel_rfl)
end Go.Proofs.YtdbmfnhbgacldaaDoor.Am

/- Contracts: SHA-256 of the document: all. -/
namespace Go.Proofs.YtdbmfnhbgacldaaDoor.Am
set_option autoImplicit false
set_option linter.unusedVariables false
set_option linter.unusedSimpArgs false
set_option maxRecDepth 100000
set_option pp.maxSteps 3000
set_option pp.proofs false
set_option maxHeartbeats 8000000 in
theorem rfof_ok (B : List Nat) (hB : ∀ b ∈ B, b < 256) (hl : B.length ≤ 900000000) : CallW Tryd.prog G0 42 [.i (.sl (B.map by8))] [] (fun r st' => r = dArr (shaW KEYS H0W B) ∧ st' = []) := by
  refine call_of_bodyF 0 (Nat.le_refl _) Tryd.func42 rfl (fun a w => Tryd.call42 a w) (wpx_ok (own := own0) _ _ _ ?_)
  have ck := hex_ok sK sizeK digK
  have ch := hex_ok sL sizeH digH
  rw [hexK] at ck
  rw [hexH] at ch
  have cp := padded_ok B hl
  have lb := rf_blocks KEYS (padW B) rfl (padW_lt hB) (by have := padW_len B; omega) (padW_64 B) H0W H0_ok
  unfold shaW
  have hok := hash_ok KEYS H0_ok (padW B) ((padW B).length / 64)
  generalize hashW KEYS H0W (padW B) ((padW B).length / 64) = H at lb hok ⊢
  have lo := rg_out H hok
  have hdl := digL_len (v8L H) 32
  generalize digL (v8L H) 32 = D at lo hdl ⊢
  generalize padW B = P at cp lb
  repeat ((conv => whnf); first | refine Br.t ?_ | refine Br.f ?_ | refine ⟨rfl, ?_⟩)
  conv => whnf
  refine CallW.mono (ck.pure _ rfl rfl) ?_
  rintro r st' ⟨rfl, rfl⟩
  repeat ((conv => whnf); first | refine Br.t ?_ | refine Br.f ?_ | refine ⟨rfl, ?_⟩)
  conv => whnf
  refine CallW.mono (ch.pure _ rfl rfl) ?_
  rintro r st' ⟨rfl, rfl⟩
  repeat ((conv => whnf); first | refine Br.t ?_ | refine Br.f ?_ | refine ⟨rfl, ?_⟩)
  conv => whnf
  refine CallW.mono (cp.pure _ rfl rfl) ?_
  rintro r st' ⟨rfl, rfl⟩
  repeat ((conv => whnf); first | refine Br.t ?_ | refine Br.f ?_ | refine ⟨rfl, ?_⟩)
  conv => whnf
  refine W.le (s' := ⟨ofL KEYS P H0W 0, [b32R]⟩) (Le.slE (by repeat ((conv => whnf); first | exact trivial | refine ⟨.inl rfl, ?_⟩ | refine ⟨.inr rfl, ?_⟩)) rfl) (W.mono lb ?_)
  rintro e s ⟨rfl, rfl⟩
  repeat ((conv => whnf); first | refine Br.t ?_ | refine Br.f ?_ | refine ⟨rfl, ?_⟩)
  conv => whnf
  refine W.le (s' := ⟨rgL H (.i (.int .i64 0)) .undef .undef, rgB (bRow [])⟩) (Le.slE (by repeat ((conv => whnf); first | exact trivial | refine ⟨.inl rfl, ?_⟩ | refine ⟨.inr rfl, ?_⟩)) rfl) (W.mono lo ?_)
  rintro e s ⟨rfl, rfl⟩
  have e : List.map (fun cs => cs.getD 0 V.undef) (List.map (fun c => [c]) (D.map b8V)) = D.map b8V := by rw [List.map_map, List.map_map]; rfl
  repeat ((conv => whnf); first | refine Br.t ?_ | refine Br.f ?_ | refine ⟨rfl, ?_⟩)
  conv => whnf
  refine ⟨⟨rfl, rfl, bRow_len (Nat.le_of_eq hdl)⟩, ?_⟩
  repeat ((conv => whnf); first | refine Br.t ?_ | refine Br.f ?_ | refine ⟨rfl, ?_⟩)
  conv => whnf
  rw [fVs'_eq, bRow_vals hdl]
  repeat ((conv => whnf); first | refine Br.t ?_ | refine Br.f ?_ | refine ⟨rfl, ?_⟩)
  conv => whnf
  refine ⟨⟨rfl, rfl, by decide, by show (D.map b8V).length = 32; rw [List.length_map, hdl], known_b _ D⟩, ?_⟩
  repeat ((conv => whnf); first | refine Br.t ?_ | refine Br.f ?_ | refine ⟨rfl, ?_⟩)
  conv => whnf
  refine ⟨⟨rfl, rfl, by show (List.map _ (D.map b8V)).length = 32; rw [List.length_map, List.length_map, hdl]⟩, ?_⟩
  repeat ((conv => whnf); first | refine Br.t ?_ | refine Br.f ?_ | refine ⟨rfl, ?_⟩)
  conv => whnf
  change fVs' (List.map (fun cs => cs.getD 0 V.undef) (List.map (fun c => [c]) (D.map b8V))) _
  rw [e, fVs'_eq]
  exact frzW_b D ⟨Nat.zero_le _, cl_b 0 D, by simp, rfl, rfl⟩
end Go.Proofs.YtdbmfnhbgacldaaDoor.Am

/- Contracts: the document's bytes of a program: the letters of its nodes. -/
namespace Go.Proofs.YtdbmfnhbgacldaaDoor.Am
set_option autoImplicit false
set_option linter.unusedVariables false
set_option linter.unusedSimpArgs false
set_option maxRecDepth 100000
set_option pp.maxSteps 3000
set_option pp.proofs false
def letr (c : Nat) : UInt8 := if c = 1 then 97 else if c = 2 then 110 else 120
def tolS (P : List Nat) : ByteArray := ⟨⟨P.map letr⟩⟩
theorem told_ok (q : Int) : CallW Tryd.prog G0 65 [.i (.int .i64 q)] [] (fun r st' => r = .i (.str (tolS (partsL q))) ∧ st' = []) := by
  refine call_of_bodyF 0 (Nat.le_refl _) Tryd.func65 rfl (fun a w => Tryd.call65 a w) (wpx_ok (own := own0) _ _ _ ?_)
  unfold partsL
  repeat ((conv => whnf); first | refine Br.t ?_ | refine Br.f ?_ | refine ⟨rfl, ?_⟩)
  conv => whnf
  refine Br.mk (fun h => ?_) (fun h => ?_)
  · have h : q = 9 := by simpa using h
    rw [if_pos h]
    repeat ((conv => whnf); first | refine Br.t ?_ | refine Br.f ?_ | refine ⟨rfl, ?_⟩)
    conv => whnf
    refine fin (target := []) rfl (Nat.zero_le _) (by simp) rfl rfl
  have h : ¬ q = 9 := by simpa using h
  rw [if_neg h]
  repeat ((conv => whnf); first | refine Br.t ?_ | refine Br.f ?_ | refine ⟨rfl, ?_⟩)
  conv => whnf
  refine Br.mk (fun h => ?_) (fun h => ?_)
  · have h : q = 0 := by simpa using h
    rw [if_pos h]
    repeat ((conv => whnf); first | refine Br.t ?_ | refine Br.f ?_ | refine ⟨rfl, ?_⟩)
    conv => whnf
    refine fin (target := []) rfl (Nat.zero_le _) (by simp) rfl rfl
  have h : ¬ q = 0 := by simpa using h
  rw [if_neg h]
  repeat ((conv => whnf); first | refine Br.t ?_ | refine Br.f ?_ | refine ⟨rfl, ?_⟩)
  conv => whnf
  refine Br.mk (fun h => ?_) (fun h => ?_)
  · have h : q = 5 := by simpa using h
    rw [if_pos h]
    repeat ((conv => whnf); first | refine Br.t ?_ | refine Br.f ?_ | refine ⟨rfl, ?_⟩)
    conv => whnf
    refine fin (target := []) rfl (Nat.zero_le _) (by simp) rfl rfl
  have h : ¬ q = 5 := by simpa using h
  rw [if_neg h]
  repeat ((conv => whnf); first | refine Br.t ?_ | refine Br.f ?_ | refine ⟨rfl, ?_⟩)
  conv => whnf
  refine Br.mk (fun h => ?_) (fun h => ?_)
  · have h : q = 8 := by simpa using h
    rw [if_pos h]
    repeat ((conv => whnf); first | refine Br.t ?_ | refine Br.f ?_ | refine ⟨rfl, ?_⟩)
    conv => whnf
    refine fin (target := []) rfl (Nat.zero_le _) (by simp) rfl rfl
  have h : ¬ q = 8 := by simpa using h
  rw [if_neg h]
  repeat ((conv => whnf); first | refine Br.t ?_ | refine Br.f ?_ | refine ⟨rfl, ?_⟩)
  conv => whnf
  refine fin (target := []) rfl (Nat.zero_le _) (by simp) rfl rfl
def pwL (n : Nat) (x4 x5 x6 x7 x8 x9 x10 : V) : List V := [.undef, .ptr 0 0 0 0, .undef, .ref 1 1 0 n, x4, x5, x6, x7, x8, x9, x10] ++ List.replicate 94 .undef
def bR (v : Nat) (L : List Nat) : Ob := .row v 1 false (lift (L.map by8))
theorem nat_i {a : Int} (h : 0 ≤ a) : ((a.toNat : Nat) : Int) = a := Int.toNat_of_nonneg h
set_option maxHeartbeats 8000000 in
theorem pw_letters (p : Pg) (f i : Nat) (P : List Nat) (hP : P.length ≤ 3) (pm : ∀ c ∈ P, c = 1 ∨ c = 2 ∨ c = 3) (x : Nd) (hx : ndOk x) (L0 : List Nat) (hL0 : L0.length ≤ 1000000) :
    W Tryd.prog G0 0 (.loop (lp Tryd.f41 3)) (fun e s => e = .exit 6 ∧ s = ⟨pwL (L0 ++ P.flatMap fun c => putN (fld x c).toNat).length .undef .undef (.i (.int .i64 f)) (.i (.int .i64 i)) (.ptr 2 0 0 0) .undef .undef, [pgB p, bR 1 (L0 ++ P.flatMap fun c => putN (fld x c).toNat), ndB x]⟩)
      ⟨pwL L0.length .undef .undef (.i (.int .i64 f)) (.i (.int .i64 i)) (.ptr 2 0 0 0) (.i (.str (tolS P))) (.i (.int .i64 (0 : Nat))), [pgB p, bR 1 L0, ndB x]⟩ := by
  refine W.weak (loop_ok (α := Nat × List Nat) (fun z => ⟨pwL z.2.length .undef .undef (.i (.int .i64 f)) (.i (.int .i64 i)) (.ptr 2 0 0 0) (.i (.str (tolS P))) (.i (.int .i64 (z.1 : Nat))), [pgB p, bR 1 z.2, ndB x]⟩)
    (fun z => z.1 ≤ P.length ∧ z.2.length ≤ 1000000 + 5 * z.1 ∧ z.2 ++ (P.drop z.1).flatMap (fun c => putN (fld x c).toNat) = L0 ++ P.flatMap fun c => putN (fld x c).toNat) (fun z => P.length - z.1) (0, L0) ⟨Nat.zero_le _, by simp only; omega, rfl⟩ (Le.refl _ _) (fun z hz => wpx_ok (own := own0) _ _ _ ?_))
  obtain ⟨j, L⟩ := z
  obtain ⟨j1, j2, j3⟩ := hz
  simp only at j1 j2 j3
  dsimp only
  have hsz : (tolS P).size = P.length := by simp [tolS, ByteArray.size]
  generalize L0 ++ P.flatMap (fun c => putN (fld x c).toNat) = LE at j3 ⊢
  repeat ((conv => whnf); first | refine Br.t ?_ | refine Br.f ?_ | refine ⟨rfl, ?_⟩)
  conv => whnf
  rw [hsz]
  refine Br.mk (fun g2 => ?_) (fun g2 => ?_)
  · have g2 : j < P.length := by simp at g2; omega
    obtain ⟨cc, hc⟩ : ∃ c, c = P[j] := ⟨_, rfl⟩
    have hcm : cc ∈ P := hc ▸ List.getElem_mem g2
    have edr : P.drop j = cc :: P.drop (j + 1) := by rw [hc]; exact List.drop_eq_getElem_cons g2
    have ech : (tolS P).data.getD (j : Int).toNat 0 = letr cc := by
      rw [Int.toNat_natCast, hc]; simp [tolS, Array.getD_eq_getD_getElem?, g2]
    rw [edr] at j3
    have hb := (hx.2.1 cc)
    obtain ⟨v, hv⟩ : ∃ v, v = (fld x cc).toNat := ⟨_, rfl⟩
    have hvl : v ≤ 64 := by omega
    have hpl := putN_len 4 v (by omega)
    have cp := put30 v (by omega)
    have hi : ((v : Nat) : Int) = fld x cc := by rw [hv]; exact nat_i hb.1
    rw [hi] at cp
    simp only [List.flatMap_cons, ← hv] at j3
    repeat ((conv => whnf); first | refine Br.t ?_ | refine Br.f ?_ | refine ⟨rfl, ?_⟩)
    conv => whnf
    refine ⟨by rw [hsz]; omega, ?_⟩
    repeat ((conv => whnf); first | refine Br.t ?_ | refine Br.f ?_ | refine ⟨rfl, ?_⟩)
    conv => whnf
    rw [ech]
    rcases pm cc hcm with rfl | rfl | rfl
    · repeat ((conv => whnf); first | refine Br.t ?_ | refine Br.f ?_ | refine ⟨rfl, ?_⟩)
      conv => whnf
      refine CallW.mono (cp.pure _ rfl rfl) ?_
      rintro r st' ⟨rfl, rfl⟩
      repeat ((conv => whnf); first | refine Br.t ?_ | refine Br.f ?_ | refine ⟨rfl, ?_⟩)
      conv => whnf
      refine ⟨⟨bytes_one _, by simp [lift], by show (L.length + (lift ((putN v).map by8)).length) * 1 ≤ _; simp [lift]; omega, len_mx (by simp [lift]; omega)⟩, ?_⟩
      repeat ((conv => whnf); first | refine Br.t ?_ | refine Br.f ?_ | refine ⟨rfl, ?_⟩)
      conv => whnf
      refine ⟨(j + 1, L ++ putN v), ⟨by simp only; omega, by simp only [List.length_append]; omega, by rw [← j3]; simp only [List.flatMap_cons, hv, List.append_assoc]⟩, by simp only; omega, ?_⟩
      refine Le.down (fun id => if id = 1 then 1 else 0) (fun id hid => by cases hid) ?_ ?_
      · simp [leS, pwL, V.up, lift]
        exact i64_id (by omega) (by omega)
      · simp only [upSt, Ob.up, map_up_lift, bR, pgB, ndB, List.map_cons, List.map_nil, encP4, encNd, V.up.upAll, V.up, List.map_append, lift_app]
        rfl
    · repeat ((conv => whnf); first | refine Br.t ?_ | refine Br.f ?_ | refine ⟨rfl, ?_⟩)
      conv => whnf
      refine CallW.mono (cp.pure _ rfl rfl) ?_
      rintro r st' ⟨rfl, rfl⟩
      repeat ((conv => whnf); first | refine Br.t ?_ | refine Br.f ?_ | refine ⟨rfl, ?_⟩)
      conv => whnf
      refine ⟨⟨bytes_one _, by simp [lift], by show (L.length + (lift ((putN v).map by8)).length) * 1 ≤ _; simp [lift]; omega, len_mx (by simp [lift]; omega)⟩, ?_⟩
      repeat ((conv => whnf); first | refine Br.t ?_ | refine Br.f ?_ | refine ⟨rfl, ?_⟩)
      conv => whnf
      refine ⟨(j + 1, L ++ putN v), ⟨by simp only; omega, by simp only [List.length_append]; omega, by rw [← j3]; simp only [List.flatMap_cons, hv, List.append_assoc]⟩, by simp only; omega, ?_⟩
      refine Le.down (fun id => if id = 1 then 1 else 0) (fun id hid => by cases hid) ?_ ?_
      · simp [leS, pwL, V.up, lift]
        exact i64_id (by omega) (by omega)
      · simp only [upSt, Ob.up, map_up_lift, bR, pgB, ndB, List.map_cons, List.map_nil, encP4, encNd, V.up.upAll, V.up, List.map_append, lift_app]
        rfl
    · repeat ((conv => whnf); first | refine Br.t ?_ | refine Br.f ?_ | refine ⟨rfl, ?_⟩)
      conv => whnf
      refine CallW.mono (cp.pure _ rfl rfl) ?_
      rintro r st' ⟨rfl, rfl⟩
      repeat ((conv => whnf); first | refine Br.t ?_ | refine Br.f ?_ | refine ⟨rfl, ?_⟩)
      conv => whnf
      refine ⟨⟨bytes_one _, by simp [lift], by show (L.length + (lift ((putN v).map by8)).length) * 1 ≤ _; simp [lift]; omega, len_mx (by simp [lift]; omega)⟩, ?_⟩
      repeat ((conv => whnf); first | refine Br.t ?_ | refine Br.f ?_ | refine ⟨rfl, ?_⟩)
      conv => whnf
      refine ⟨(j + 1, L ++ putN v), ⟨by simp only; omega, by simp only [List.length_append]; omega, by rw [← j3]; simp only [List.flatMap_cons, hv, List.append_assoc]⟩, by simp only; omega, ?_⟩
      refine Le.down (fun id => if id = 1 then 1 else 0) (fun id hid => by cases hid) ?_ ?_
      · simp [leS, pwL, V.up, lift]
        exact i64_id (by omega) (by omega)
      · simp only [upSt, Ob.up, map_up_lift, bR, pgB, ndB, List.map_cons, List.map_nil, encP4, encNd, V.up.upAll, V.up, List.map_append, lift_app]
        rfl
  · have g2 : j = P.length := by simp at g2; omega
    subst g2
    rw [List.drop_length, List.flatMap_nil, List.append_nil] at j3
    rw [← j3]
    repeat ((conv => whnf); first | refine Br.t ?_ | refine Br.f ?_ | refine ⟨rfl, ?_⟩)
    conv => whnf
    exact ⟨_, Le.slE (sl' := pwL L.length .undef .undef (.i (.int .i64 f)) (.i (.int .i64 i)) (.ptr 2 0 0 0) .undef .undef) (by simp [leS, pwL]) rfl, rfl, rfl⟩
end Go.Proofs.YtdbmfnhbgacldaaDoor.Am

/- Contracts: the document's bytes of a program. -/
namespace Go.Proofs.YtdbmfnhbgacldaaDoor.Am
set_option autoImplicit false
set_option linter.unusedVariables false
set_option linter.unusedSimpArgs false
set_option maxRecDepth 100000
set_option pp.maxSteps 3000
set_option pp.proofs false
theorem bR_cl (v : Nat) (L : List Nat) (m : Nat) : (bR v L).cl m := cl_lift _ _ _ _ _
theorem pb_cl (p : Pg) (L : List Nat) (m : Nat) : ∀ o ∈ [pgB p, bR 1 L], o.cl m := by
  intro o ho
  simp only [List.mem_cons, List.not_mem_nil, or_false] at ho
  rcases ho with rfl | rfl
  · exact pgB_cl p m
  · exact bR_cl 1 L m
set_option maxHeartbeats 8000000 in
theorem pw_nodes (p : Pg) (hp : PgOk p) (f : Nat) (hf : f < p.fs.length) (L0 : List Nat) (hL0 : L0.length ≤ 900000) :
    W Tryd.prog G0 0 (.loop (lp Tryd.f41 2)) (fun e s => e = .exit 4 ∧ s = ⟨pwL (L0 ++ (p.fs[f]).flatMap nodeN).length .undef .undef (.i (.int .i64 f)) .undef .undef .undef .undef, [pgB p, bR 1 (L0 ++ (p.fs[f]).flatMap nodeN)]⟩)
      ⟨pwL L0.length .undef .undef (.i (.int .i64 f)) (.i (.int .i64 (0 : Nat))) .undef .undef .undef, [pgB p, bR 1 L0]⟩ := by
  have hN := hp.f _ (List.getElem_mem hf)
  have hnd : ∀ x ∈ p.fs[f], ndOk x := fun x hx => hp.nd (List.getElem_mem hf) hx
  have ef : (p.fs.map encF).getD ((f : Nat) : Int).toNat [] = encF (p.fs[f]) := by rw [Int.toNat_natCast]; exact getD_enc hf
  have hfl : p.fs.length ≤ 16 := hp.n.2
  generalize p.fs[f] = N at hN hnd ef ⊢
  refine W.weak (loop_ok (α := Nat × List Nat) (fun z => ⟨pwL z.2.length .undef .undef (.i (.int .i64 f)) (.i (.int .i64 (z.1 : Nat))) .undef .undef .undef, [pgB p, bR 1 z.2]⟩)
    (fun z => z.1 ≤ N.length ∧ z.2.length ≤ 900000 + 20 * z.1 ∧ z.2 ++ (N.drop z.1).flatMap nodeN = L0 ++ N.flatMap nodeN) (fun z => N.length - z.1) (0, L0) ⟨Nat.zero_le _, by simp only; omega, rfl⟩ (Le.refl _ _) (fun z hz => wpx_ok (own := own0) _ _ _ ?_))
  obtain ⟨i, L⟩ := z
  obtain ⟨j1, j2, j3⟩ := hz
  simp only at j1 j2 j3
  dsimp only
  generalize L0 ++ N.flatMap nodeN = LE at j3 ⊢
  repeat ((conv => whnf); first | refine Br.t ?_ | refine Br.f ?_ | refine ⟨rfl, ?_⟩)
  conv => whnf
  refine ⟨⟨by omega, by simp; omega, by rw [ef]; rfl⟩, ?_⟩
  rw [ef]
  repeat ((conv => whnf); first | refine Br.t ?_ | refine Br.f ?_ | refine ⟨rfl, ?_⟩)
  conv => whnf
  refine Br.mk (fun g => ?_) (fun g => ?_)
  · have g : i < N.length := by simp at g; omega
    obtain ⟨x, hx⟩ : ∃ x, x = N[i] := ⟨_, rfl⟩
    have hxn := hnd x (hx ▸ List.getElem_mem g)
    have ex : (N.map encNd).getD ((i : Nat) : Int).toNat [] = encNd x := by rw [Int.toNat_natCast, hx]; exact getD_enc g
    have edr : N.drop i = x :: N.drop (i + 1) := by rw [hx]; exact List.drop_eq_getElem_cons g
    rw [edr, List.flatMap_cons] at j3
    have hb := hxn.1
    obtain ⟨v, hv⟩ : ∃ v, v = x.1.toNat := ⟨_, rfl⟩
    have hpl := putN_len 4 v (by omega)
    have cp := put30 v (by omega)
    have hi : ((v : Nat) : Int) = x.1 := by rw [hv]; exact nat_i hb.1
    rw [hi] at cp
    have lo := pw_letters p f i (partsL x.1) (parts_len _) (fun c hc => parts_mem hc) x hxn (L ++ putN v) (by simp; omega)
    have hln := node_len hxn
    have enode : nodeN x = putN v ++ (partsL x.1).flatMap fun c => putN (fld x c).toNat := by rw [nodeN, hv]
    rw [List.append_assoc, ← enode] at lo
    have ct := told_ok x.1
    obtain ⟨L', hL'⟩ : ∃ L', L' = L ++ nodeN x := ⟨_, rfl⟩
    have hL'l : L'.length = L.length + (nodeN x).length := by rw [hL', List.length_append]
    rw [← hL'] at lo
    have j3' : L' ++ (N.drop (i + 1)).flatMap nodeN = LE := by rw [hL', List.append_assoc]; exact j3
    repeat ((conv => whnf); first | refine Br.t ?_ | refine Br.f ?_ | refine ⟨rfl, ?_⟩)
    conv => whnf
    refine ⟨⟨by omega, by simp; omega, by rw [ef]; rfl⟩, ?_⟩
    rw [ef]
    repeat ((conv => whnf); first | refine Br.t ?_ | refine Br.f ?_ | refine ⟨rfl, ?_⟩)
    conv => whnf
    refine ⟨⟨by omega, by simp; omega, by rw [ex]; rfl⟩, ?_⟩
    rw [ex]
    repeat ((conv => whnf); first | refine Br.t ?_ | refine Br.f ?_ | refine ⟨rfl, ?_⟩)
    conv => whnf
    refine CallW.mono (cp.pure _ rfl rfl) ?_
    rintro r st' ⟨rfl, rfl⟩
    repeat ((conv => whnf); first | refine Br.t ?_ | refine Br.f ?_ | refine ⟨rfl, ?_⟩)
    conv => whnf
    refine ⟨⟨bytes_one _, by simp [lift], by show (L.length + (lift ((putN v).map by8)).length) * 1 ≤ _; simp [lift]; omega, len_mx (by simp [lift]; omega)⟩, ?_⟩
    repeat ((conv => whnf); first | refine Br.t ?_ | refine Br.f ?_ | refine ⟨rfl, ?_⟩)
    conv => whnf
    refine CallW.mono (ct.pure _ rfl rfl) ?_
    rintro r st' ⟨rfl, rfl⟩
    repeat ((conv => whnf); first | refine Br.t ?_ | refine Br.f ?_ | refine ⟨rfl, ?_⟩)
    conv => whnf
    refine W.le (s' := ⟨pwL (L ++ putN v).length .undef .undef (.i (.int .i64 f)) (.i (.int .i64 i)) (.ptr 2 0 0 0) (.i (.str (tolS (partsL x.1)))) (.i (.int .i64 (0 : Nat))), [pgB p, bR 1 (L ++ putN v), ndB x]⟩) (Le.down (fun id => if id = 1 then 1 else 0) (fun id hid => by cases hid) ?_ ?_) (W.mono lo ?_)
    · simp [leS, pwL, V.up, lift]
    · simp only [upSt, Ob.up, map_up_lift, bR, pgB, ndB, List.map_cons, List.map_nil, encP4, encNd, V.up.upAll, V.up, List.map_append, lift_app]
      rfl
    rintro e s ⟨rfl, rfl⟩
    repeat ((conv => whnf); first | refine Br.t ?_ | refine Br.f ?_ | refine ⟨rfl, ?_⟩)
    conv => whnf
    refine ⟨(i + 1, L'), ⟨by simp only; omega, by simp only; omega, j3'⟩, by simp only; omega, ?_⟩
    refine (Le.slE (sl' := pwL L'.length .undef .undef (.i (.int .i64 f)) (.i (.int .i64 (i + 1 : Nat))) .undef .undef .undef) (st' := [pgB p, bR 1 L'] ++ [ndB x]) (by simp [leS, pwL]; exact i64_id (by omega) (by omega)) rfl).trans (Le.short (Nat.zero_le _) rfl (pb_cl p L' _))
  · have g : i = N.length := by simp at g; omega
    subst g
    rw [List.drop_length, List.flatMap_nil, List.append_nil] at j3
    rw [← j3]
    repeat ((conv => whnf); first | refine Br.t ?_ | refine Br.f ?_ | refine ⟨rfl, ?_⟩)
    conv => whnf
    exact ⟨_, Le.slE (sl' := pwL L.length .undef .undef (.i (.int .i64 f)) .undef .undef .undef .undef) (by simp [leS, pwL]) rfl, rfl, rfl⟩
set_option maxHeartbeats 8000000 in
theorem pw_funcs (p : Pg) (hp : PgOk p) (L0 : List Nat) (hL0 : L0.length ≤ 100000) :
    W Tryd.prog G0 0 (.loop (lp Tryd.f41 1)) (fun e s => e = .exit 2 ∧ s = ⟨pwL (L0 ++ p.fs.flatMap fnN).length .undef .undef .undef .undef .undef .undef .undef, [pgB p, bR 1 (L0 ++ p.fs.flatMap fnN)]⟩)
      ⟨pwL L0.length .undef .undef (.i (.int .i64 (0 : Nat))) .undef .undef .undef .undef, [pgB p, bR 1 L0]⟩ := by
  have hfl : p.fs.length ≤ 16 := hp.n.2
  refine W.weak (loop_ok (α := Nat × List Nat) (fun z => ⟨pwL z.2.length .undef .undef (.i (.int .i64 (z.1 : Nat))) .undef .undef .undef .undef, [pgB p, bR 1 z.2]⟩)
    (fun z => z.1 ≤ p.fs.length ∧ z.2.length ≤ 100000 + 1300 * z.1 ∧ z.2 ++ (p.fs.drop z.1).flatMap fnN = L0 ++ p.fs.flatMap fnN) (fun z => p.fs.length - z.1) (0, L0) ⟨Nat.zero_le _, by simp only; omega, rfl⟩ (Le.refl _ _) (fun z hz => wpx_ok (own := own0) _ _ _ ?_))
  obtain ⟨f, L⟩ := z
  obtain ⟨j1, j2, j3⟩ := hz
  simp only at j1 j2 j3
  dsimp only
  generalize L0 ++ p.fs.flatMap fnN = LE at j3 ⊢
  repeat ((conv => whnf); first | refine Br.t ?_ | refine Br.f ?_ | refine ⟨rfl, ?_⟩)
  conv => whnf
  refine Br.mk (fun g => ?_) (fun g => ?_)
  · have g : f < p.fs.length := by simp at g; omega
    have hN := hp.f _ (List.getElem_mem g)
    have hnd : ∀ x ∈ p.fs[f], ndOk x := fun x hx => hp.nd (List.getElem_mem g) hx
    have ef : (p.fs.map encF).getD ((f : Nat) : Int).toNat [] = encF (p.fs[f]) := by rw [Int.toNat_natCast]; exact getD_enc g
    have edr : p.fs.drop f = p.fs[f] :: p.fs.drop (f + 1) := List.drop_eq_getElem_cons g
    rw [edr, List.flatMap_cons] at j3
    have lo := fun L0 h => pw_nodes p hp f g L0 h
    have hfn := fn_len hN.2.1 hnd
    obtain ⟨N, hNN⟩ : ∃ N, N = p.fs[f] := ⟨_, rfl⟩
    rw [← hNN] at hN hnd ef j3 lo hfn
    obtain ⟨v, hv⟩ : ∃ v, v = N.length := ⟨_, rfl⟩
    have hvl : v ≤ 64 := by have := hN.2.1; omega
    have hpl := putN_len 4 v (by omega)
    have cp := put30 v (by omega)
    have lo := lo (L ++ putN v) (by simp; omega)
    have efn : fnN N = putN v ++ N.flatMap nodeN := by rw [fnN, hv]
    rw [List.append_assoc, ← efn] at lo
    obtain ⟨L', hL'⟩ : ∃ L', L' = L ++ fnN N := ⟨_, rfl⟩
    have hL'l : L'.length = L.length + (fnN N).length := by rw [hL', List.length_append]
    rw [← hL'] at lo
    have j3' : L' ++ (p.fs.drop (f + 1)).flatMap fnN = LE := by rw [hL', List.append_assoc]; exact j3
    repeat ((conv => whnf); first | refine Br.t ?_ | refine Br.f ?_ | refine ⟨rfl, ?_⟩)
    conv => whnf
    refine ⟨⟨by omega, by simp; omega, by rw [ef]; rfl⟩, ?_⟩
    rw [ef]
    repeat ((conv => whnf); first | refine Br.t ?_ | refine Br.f ?_ | refine ⟨rfl, ?_⟩)
    conv => whnf
    rw [show (((N.map encNd).length : Nat) : Int) = ((v : Nat) : Int) by rw [List.length_map, hv]]
    refine CallW.mono (cp.pure _ rfl rfl) ?_
    rintro r st' ⟨rfl, rfl⟩
    repeat ((conv => whnf); first | refine Br.t ?_ | refine Br.f ?_ | refine ⟨rfl, ?_⟩)
    conv => whnf
    refine ⟨⟨bytes_one _, by simp [lift], by show (L.length + (lift ((putN v).map by8)).length) * 1 ≤ _; simp [lift]; omega, len_mx (by simp [lift]; omega)⟩, ?_⟩
    repeat ((conv => whnf); first | refine Br.t ?_ | refine Br.f ?_ | refine ⟨rfl, ?_⟩)
    conv => whnf
    refine W.le (s' := ⟨pwL (L ++ putN v).length .undef .undef (.i (.int .i64 f)) (.i (.int .i64 (0 : Nat))) .undef .undef .undef, [pgB p, bR 1 (L ++ putN v)]⟩) (Le.down (fun id => if id = 1 then 1 else 0) (fun id hid => by cases hid) ?_ ?_) (W.mono lo ?_)
    · simp [leS, pwL, V.up, lift]
    · simp only [upSt, Ob.up, map_up_lift, bR, pgB, List.map_cons, List.map_nil, encP4, V.up.upAll, V.up, List.map_append, lift_app]
      rfl
    rintro e s ⟨rfl, rfl⟩
    repeat ((conv => whnf); first | refine Br.t ?_ | refine Br.f ?_ | refine ⟨rfl, ?_⟩)
    conv => whnf
    refine ⟨(f + 1, L'), ⟨by simp only; omega, by simp only; omega, j3'⟩, by simp only; omega, ?_⟩
    exact Le.slE (sl' := pwL L'.length .undef .undef (.i (.int .i64 (f + 1 : Nat))) .undef .undef .undef .undef) (by simp [leS, pwL]; exact i64_id (by omega) (by omega)) rfl
  · have g : f = p.fs.length := by simp at g; omega
    subst g
    rw [List.drop_length, List.flatMap_nil, List.append_nil] at j3
    rw [← j3]
    repeat ((conv => whnf); first | refine Br.t ?_ | refine Br.f ?_ | refine ⟨rfl, ?_⟩)
    conv => whnf
    exact ⟨_, Le.slE (sl' := pwL L.length .undef .undef .undef .undef .undef .undef .undef) (by simp [leS, pwL]) rfl, rfl, rfl⟩
theorem nums_le {p : Pg} (hp : PgOk p) : ∀ x ∈ numsP p, x ≤ 16 := by
  have := hp.g; have := hp.l; have := hp.s; have := hp.n
  intro x hx
  simp [numsP] at hx
  omega
set_option maxHeartbeats 8000000 in
theorem pw_nums (p : Pg) (hp : PgOk p) :
    W Tryd.prog G0 0 (.loop (lp Tryd.f41 0)) (fun e s => e = .exit 0 ∧ s = ⟨pwL (alp ++ (numsP p).flatMap putN).length .undef .undef .undef .undef .undef .undef .undef, [pgB p, bR 1 (alp ++ (numsP p).flatMap putN)]⟩)
      ⟨pwL alp.length (.i (.sl ((numsP p).map elI))) (.i (.int .i64 (0 : Nat))) .undef .undef .undef .undef .undef, [pgB p, bR 1 alp]⟩ := by
  have hle := nums_le hp
  have h4 : (numsP p).length = 4 := rfl
  generalize numsP p = ns at hle h4 ⊢
  refine W.weak (loop_ok (α := Nat × List Nat) (fun z => ⟨pwL z.2.length (.i (.sl (ns.map elI))) (.i (.int .i64 (z.1 : Nat))) .undef .undef .undef .undef .undef, [pgB p, bR 1 z.2]⟩)
    (fun z => z.1 ≤ ns.length ∧ z.2.length ≤ 100 + 5 * z.1 ∧ z.2 ++ (ns.drop z.1).flatMap putN = alp ++ ns.flatMap putN) (fun z => ns.length - z.1) (0, alp) ⟨Nat.zero_le _, by show 4 ≤ _; omega, rfl⟩ (Le.refl _ _) (fun z hz => wpx_ok (own := own0) _ _ _ ?_))
  obtain ⟨i, L⟩ := z
  obtain ⟨j1, j2, j3⟩ := hz
  simp only at j1 j2 j3
  dsimp only
  generalize alp ++ ns.flatMap putN = LE at j3 ⊢
  repeat ((conv => whnf); first | refine Br.t ?_ | refine Br.f ?_ | refine ⟨rfl, ?_⟩)
  conv => whnf
  refine Br.mk (fun g => ?_) (fun g => ?_)
  · have g : i < ns.length := by simp at g; omega
    have ef : (ns.map elI).getD ((i : Nat) : Int).toNat [] = elI (ns[i]) := by rw [Int.toNat_natCast]; exact getD_enc g
    have edr : ns.drop i = ns[i] :: ns.drop (i + 1) := List.drop_eq_getElem_cons g
    have hv := hle _ (List.getElem_mem g)
    rw [edr, List.flatMap_cons] at j3
    generalize ns[i] = v at ef j3 hv
    have hpl := putN_len 4 v (by omega)
    have cp := put30 v (by omega)
    have j3' : (L ++ putN v) ++ (ns.drop (i + 1)).flatMap putN = LE := by rw [List.append_assoc]; exact j3
    repeat ((conv => whnf); first | refine Br.t ?_ | refine Br.f ?_ | refine ⟨rfl, ?_⟩)
    conv => whnf
    refine ⟨⟨by omega, by simp; omega, by rw [ef]; rfl⟩, ?_⟩
    rw [ef]
    repeat ((conv => whnf); first | refine Br.t ?_ | refine Br.f ?_ | refine ⟨rfl, ?_⟩)
    conv => whnf
    refine CallW.mono (cp.pure _ rfl rfl) ?_
    rintro r st' ⟨rfl, rfl⟩
    repeat ((conv => whnf); first | refine Br.t ?_ | refine Br.f ?_ | refine ⟨rfl, ?_⟩)
    conv => whnf
    refine ⟨⟨bytes_one _, by simp [lift], by show (L.length + (lift ((putN v).map by8)).length) * 1 ≤ _; simp [lift]; omega, len_mx (by simp [lift]; omega)⟩, ?_⟩
    repeat ((conv => whnf); first | refine Br.t ?_ | refine Br.f ?_ | refine ⟨rfl, ?_⟩)
    conv => whnf
    refine ⟨(i + 1, L ++ putN v), ⟨by simp only; omega, by simp only [List.length_append]; omega, j3'⟩, by simp only; omega, ?_⟩
    refine Le.down (fun id => if id = 1 then 1 else 0) (fun id hid => by cases hid) ?_ ?_
    · simp [leS, pwL, V.up, lift]
      exact i64_id (by omega) (by omega)
    · simp only [upSt, Ob.up, map_up_lift, bR, pgB, List.map_cons, List.map_nil, encP4, V.up.upAll, V.up, List.map_append, lift_app]
      rfl
  · have g : i = ns.length := by simp at g; omega
    subst g
    rw [List.drop_length, List.flatMap_nil, List.append_nil] at j3
    rw [← j3]
    repeat ((conv => whnf); first | refine Br.t ?_ | refine Br.f ?_ | refine ⟨rfl, ?_⟩)
    conv => whnf
    exact ⟨_, Le.slE (sl' := pwL L.length .undef .undef .undef .undef .undef .undef .undef) (by simp [leS, pwL]) rfl, rfl, rfl⟩
set_option maxHeartbeats 8000000 in
theorem refwrite (p : Pg) (hp : PgOk p) : CallW Tryd.prog G0 41 [pgV p] [] (fun r st' => r = .i (.sl ((progN p).map by8)) ∧ st' = []) := by
  refine call_of_bodyF 0 (Nat.le_refl _) Tryd.func41 rfl (fun a w => Tryd.call41 a w) (wpx_ok (own := fun t => t == 11 || t == 12) _ _ _ ?_)
  have l0 := pw_nums p hp
  have l1 := pw_funcs p hp (alp ++ (numsP p).flatMap putN) (by
    have h1 := flat_le (b := 5) (l := numsP p) (f := putN) (fun x hx => put_le (by have := nums_le hp x hx; omega))
    rw [List.length_append]
    simp only [alp, numsP, List.length_cons, List.length_nil] at h1 ⊢
    omega)
  have en : [[I.int .i64 p.g], [I.int .i64 p.l], [I.int .i64 p.s], [I.int .i64 (p.fs.length : Nat)]] = (numsP p).map elI := by
    have h1 := nat_i hp.g.1; have h2 := nat_i hp.l.1; have h3 := nat_i hp.s.1
    simp only [numsP, List.map_cons, List.map_nil, elI, h1, h2, h3]
  have ep : alp ++ (numsP p).flatMap putN ++ p.fs.flatMap fnN = progN p := rfl
  rw [ep] at l1
  obtain ⟨X, hX⟩ : ∃ X, X = progN p := ⟨_, rfl⟩
  rw [← hX] at l1 ⊢
  generalize alp ++ (numsP p).flatMap putN = Y at l0 l1
  repeat ((conv => whnf); first | refine Br.t ?_ | refine Br.f ?_ | refine ⟨rfl, ?_⟩)
  conv => whnf
  refine ⟨⟨rfl, by decide⟩, ?_⟩
  repeat ((conv => whnf); first | refine Br.t ?_ | refine Br.f ?_ | refine ⟨rfl, ?_⟩)
  conv => whnf
  refine W.le (s' := ⟨pwL alp.length (.i (.sl ((numsP p).map elI))) (.i (.int .i64 (0 : Nat))) .undef .undef .undef .undef .undef, [pgB p, bR 1 alp]⟩) (Le.slE (by rw [← en]; simp [leS, pwL, alp]) rfl) (W.mono l0 ?_)
  rintro e s ⟨rfl, rfl⟩
  repeat ((conv => whnf); first | refine Br.t ?_ | refine Br.f ?_ | refine ⟨rfl, ?_⟩)
  conv => whnf
  refine W.le (s' := ⟨pwL Y.length .undef .undef (.i (.int .i64 (0 : Nat))) .undef .undef .undef .undef, [pgB p, bR 1 Y]⟩) (Le.slE (by simp [leS, pwL]) rfl) (W.mono l1 ?_)
  rintro e s ⟨rfl, rfl⟩
  repeat ((conv => whnf); first | refine Br.t ?_ | refine Br.f ?_ | refine ⟨rfl, ?_⟩)
  conv => whnf
  refine ⟨Nat.zero_le _, rfl, X.map by8, rfl, Nat.zero_le _, rfl, by simp, ?_, rfl⟩
  rw [List.drop_zero, List.take_of_length_le (by simp)]
end Go.Proofs.YtdbmfnhbgacldaaDoor.Am

/- Contracts: the document's word on which nodes may be. -/
namespace Go.Proofs.YtdbmfnhbgacldaaDoor.Am
set_option autoImplicit false
set_option linter.unusedVariables false
set_option linter.unusedSimpArgs false
set_option maxRecDepth 10000
set_option pp.maxSteps 3000
set_option pp.proofs false
def sizeR (p : Pg) (c : Nat) (z : Int) : Int := if c = 103 then p.g else if c = 108 then p.l else if c = 115 then p.s else if c = 102 then p.fs.length else if c = 110 then mx1 z else 1
theorem refsize (p : Pg) (c : Nat) (z : Int) : CallW Tryd.prog G0 95 [pgV p, .i (.int .u8 c), .i (.int .i64 z)] [] (fun r st' => r = .i (.int .i64 (sizeR p c z)) ∧ st' = []) := by
  refine call_of_bodyF 0 (Nat.le_refl _) Tryd.func95 rfl (fun a w => Tryd.call95 a w) (wpx_ok (own := own0) _ _ _ ?_)
  unfold sizeR
  repeat ((conv => whnf); first | refine Br.t ?_ | refine Br.f ?_ | refine ⟨rfl, ?_⟩)
  conv => whnf
  refine Br.mk (fun h => ?_) (fun h => ?_)
  · have h : c = 103 := by simp at h; omega
    subst h
    repeat ((conv => whnf); first | refine Br.t ?_ | refine Br.f ?_ | refine ⟨rfl, ?_⟩)
    conv => whnf
    refine fin (target := []) rfl (Nat.zero_le _) (by simp) rfl rfl
  · have h : ¬ c = 103 := by simp at h; omega
    rw [if_neg h]
    repeat ((conv => whnf); first | refine Br.t ?_ | refine Br.f ?_ | refine ⟨rfl, ?_⟩)
    conv => whnf
    refine Br.mk (fun h => ?_) (fun h => ?_)
    · have h : c = 108 := by simp at h; omega
      subst h
      repeat ((conv => whnf); first | refine Br.t ?_ | refine Br.f ?_ | refine ⟨rfl, ?_⟩)
      conv => whnf
      refine fin (target := []) rfl (Nat.zero_le _) (by simp) rfl rfl
    · have h : ¬ c = 108 := by simp at h; omega
      rw [if_neg h]
      repeat ((conv => whnf); first | refine Br.t ?_ | refine Br.f ?_ | refine ⟨rfl, ?_⟩)
      conv => whnf
      refine Br.mk (fun h => ?_) (fun h => ?_)
      · have h : c = 115 := by simp at h; omega
        subst h
        repeat ((conv => whnf); first | refine Br.t ?_ | refine Br.f ?_ | refine ⟨rfl, ?_⟩)
        conv => whnf
        refine fin (target := []) rfl (Nat.zero_le _) (by simp) rfl rfl
      · have h : ¬ c = 115 := by simp at h; omega
        rw [if_neg h]
        repeat ((conv => whnf); first | refine Br.t ?_ | refine Br.f ?_ | refine ⟨rfl, ?_⟩)
        conv => whnf
        refine Br.mk (fun h => ?_) (fun h => ?_)
        · have h : c = 102 := by simp at h; omega
          subst h
          repeat ((conv => whnf); first | refine Br.t ?_ | refine Br.f ?_ | refine ⟨rfl, ?_⟩)
          conv => whnf
          refine fin (target := []) rfl (Nat.zero_le _) (by simp) ?_ rfl
          simp
        · have h : ¬ c = 102 := by simp at h; omega
          rw [if_neg h]
          repeat ((conv => whnf); first | refine Br.t ?_ | refine Br.f ?_ | refine ⟨rfl, ?_⟩)
          conv => whnf
          refine Br.mk (fun h => ?_) (fun h => ?_)
          · have h : c = 110 := by simp at h; omega
            subst h
            repeat ((conv => whnf); first | refine Br.t ?_ | refine Br.f ?_ | refine ⟨rfl, ?_⟩)
            conv => whnf
            refine fin (target := []) rfl (Nat.zero_le _) (by simp) rfl rfl
          · have h : ¬ c = 110 := by simp at h; omega
            rw [if_neg h]
            repeat ((conv => whnf); first | refine Br.t ?_ | refine Br.f ?_ | refine ⟨rfl, ?_⟩)
            conv => whnf
            refine fin (target := []) rfl (Nat.zero_le _) (by simp) rfl rfl
/-- a row's letters -/
def rowR (k : Int) : List UInt8 := if k = 0 then [45, 110, 45] else if k = 1 ∨ k = 2 then [103, 110, 45] else if k = 3 ∨ k = 4 then [108, 110, 45] else if k = 5 then [102, 110, 115] else if k = 6 then [115, 110, 45] else
  if k = 7 then [102, 110, 45] else if k = 8 then [45, 110, 110] else if k = 9 then [45, 45, 45] else []
theorem kind10 {k : Int} (h0 : 0 ≤ k) (h9 : k ≤ 9) : k = 0 ∨ k = 1 ∨ k = 2 ∨ k = 3 ∨ k = 4 ∨ k = 5 ∨ k = 6 ∨ k = 7 ∨ k = 8 ∨ k = 9 := by omega
theorem rowR_none {k : Int} (h : k < 0 ∨ 9 < k) : rowR k = [] := by
  unfold rowR
  repeat' rw [if_neg (by omega)]
theorem refrow (k : Int) : CallW Tryd.prog G0 94 [.i (.int .i64 k)] [] (fun r st' => r = .i (.str ⟨(rowR k).toArray⟩) ∧ st' = []) := by
  refine call_of_bodyF 0 (Nat.le_refl _) Tryd.func94 rfl (fun a w => Tryd.call94 a w) (wpx_ok (own := own0) _ _ _ ?_)
  repeat ((conv => whnf); first | refine Br.t ?_ | refine Br.f ?_ | refine ⟨rfl, ?_⟩)
  conv => whnf
  refine Br.mk (fun h => ?_) (fun h => ?_)
  · have h : k < 0 := by simpa using h
    rw [rowR_none (.inl h)]
    repeat ((conv => whnf); first | refine Br.t ?_ | refine Br.f ?_ | refine ⟨rfl, ?_⟩)
    conv => whnf
    refine fin (target := []) rfl (Nat.zero_le _) (by simp) rfl rfl
  · have h : 0 ≤ k := by simpa using h
    repeat ((conv => whnf); first | refine Br.t ?_ | refine Br.f ?_ | refine ⟨rfl, ?_⟩)
    conv => whnf
    refine Br.mk (fun h9 => ?_) (fun h9 => ?_)
    · have h9 : 9 < k := by simpa using h9
      rw [rowR_none (.inr h9)]
      repeat ((conv => whnf); first | refine Br.t ?_ | refine Br.f ?_ | refine ⟨rfl, ?_⟩)
      conv => whnf
      refine fin (target := []) rfl (Nat.zero_le _) (by simp) rfl rfl
    · have h9 : k ≤ 9 := by simpa using h9
      repeat ((conv => whnf); first | refine Br.t ?_ | refine Br.f ?_ | refine ⟨rfl, ?_⟩)
      conv => whnf
      rcases kind10 h h9 with rfl | rfl | rfl | rfl | rfl | rfl | rfl | rfl | rfl | rfl
      all_goals
        refine ⟨⟨by omega, by simp, rfl⟩, ?_⟩
        repeat ((conv => whnf); first | refine Br.t ?_ | refine Br.f ?_ | refine ⟨rfl, ?_⟩)
        conv => whnf
        refine fin (target := []) rfl (Nat.zero_le _) (by simp) rfl rfl
/-- from a field on -/
def mayG (p : Pg) (z : Int) : List (Int × UInt8) → Bool
  | [] => true
  | (v, c) :: r => if v < 0 ∨ sizeR p c.toNat z ≤ v then false else mayG p z r
theorem mayG_ok (p : Pg) (k a x y z : Int) {c0 c1 c2 : UInt8} (h : rowR k = [c0, c1, c2]) : mayG p z [(a, c0), (x, c1), (y, c2)] = mayF p (k, a, x, y) z := by
  have hk : 0 ≤ k ∧ k ≤ 9 := by
    by_cases h1 : k < 0 ∨ 9 < k
    · rw [rowR_none h1] at h; cases h
    · omega
  rcases kind10 hk.1 hk.2 with rfl | rfl | rfl | rfl | rfl | rfl | rfl | rfl | rfl | rfl <;>
  · simp [rowR] at h
    obtain ⟨rfl, rfl, rfl⟩ := h
    rw [Bool.eq_iff_iff]
    simp [mayG, mayF, fieldsF, sizeR, inB, mx1]
    (repeat' split) <;> omega
theorem may_none (p : Pg) (k a x y z : Int) (h : k < 0 ∨ 9 < k) : mayF p (k, a, x, y) z = false := by
  have : (fieldsF p k z).2.2.2 = false := by
    unfold fieldsF
    repeat' rw [if_neg (by omega)]
  unfold mayF
  simp [this]
def mayS (p : Pg) (k a x y z : Int) (c0 c1 c2 : UInt8) (i : Int) : List V := mkS 46 [(2, .i (.int .i64 z)), (3, .ptr 0 0 0 0), (4, .ptr 1 0 0 0), (7, .i (.str ⟨#[c0, c1, c2]⟩)), (8, .i (.sl [[.int .i64 a], [.int .i64 x], [.int .i64 y]])), (9, .i (.int .i64 i))]
theorem drop3 {i : Nat} (h : i < 3) {α : Type} (a b c : α) : ∃ x, [a, b, c].drop i = x :: [a, b, c].drop (i + 1) ∧ [a, b, c][i]? = some x := by
  rcases i with _ | _ | _ | i
  · exact ⟨a, rfl, rfl⟩
  · exact ⟨b, rfl, rfl⟩
  · exact ⟨c, rfl, rfl⟩
  · omega
set_option maxHeartbeats 1000000 in
theorem refmay (p : Pg) (n : Nd) (z : Int) : CallW Tryd.prog G0 63 [pgV p, ndV n, .i (.int .i64 z)] [] (fun r st' => r = .i (.bool (mayF p n z)) ∧ st' = []) := by
  refine call_of_bodyF 0 (Nat.le_refl _) Tryd.func63 rfl (fun a w => Tryd.call63 a w) (wpx_ok (own := own0) _ _ _ ?_)
  obtain ⟨k, a, x, y⟩ := n
  repeat ((conv => whnf); first | refine Br.t ?_ | refine Br.f ?_ | refine ⟨rfl, ?_⟩)
  conv => whnf
  refine CallW.mono ((refrow k).pure _ rfl rfl) ?_
  rintro r st' ⟨rfl, rfl⟩
  by_cases hk : k < 0 ∨ 9 < k
  · rw [may_none p k a x y z hk, rowR_none hk]
    repeat ((conv => whnf); first | refine Br.t ?_ | refine Br.f ?_ | refine ⟨rfl, ?_⟩)
    conv => whnf
    refine fin (target := []) rfl (Nat.zero_le _) (by simp) rfl rfl
  · obtain ⟨c0, c1, c2, hr⟩ : ∃ c0 c1 c2, rowR k = [c0, c1, c2] := by
      rcases kind10 (k := k) (by omega) (by omega) with rfl | rfl | rfl | rfl | rfl | rfl | rfl | rfl | rfl | rfl <;> exact ⟨_, _, _, rfl⟩
    rw [← mayG_ok p k a x y z hr, hr]
    obtain ⟨R, hR⟩ : ∃ R, R = mayG p z [(a, c0), (x, c1), (y, c2)] := ⟨_, rfl⟩
    rw [← hR]
    repeat ((conv => whnf); first | refine Br.t ?_ | refine Br.f ?_ | refine ⟨rfl, ?_⟩)
    conv => whnf
    refine loop_ok (α := Nat) (fun i => ⟨mayS p k a x y z c0 c1 c2 i, [pgB p, .row 0 4 false [[.i (.int .i64 k), .i (.int .i64 a), .i (.int .i64 x), .i (.int .i64 y)]]]⟩)
      (fun i => i ≤ 3 ∧ mayG p z ([(a, c0), (x, c1), (y, c2)].drop i) = R) (fun i => 3 - i) 0 ⟨Nat.zero_le _, hR.symm⟩
      (Le.slots (by simp [leS, mkS, mayS])) (fun i hi => wpx_ok (own := own0) _ _ _ ?_)
    obtain ⟨h1, h2⟩ := hi
    repeat ((conv => whnf); first | refine Br.t ?_ | refine Br.f ?_ | refine ⟨rfl, ?_⟩)
    conv => whnf
    refine Br.mk (fun g => ?_) (fun g => ?_)
    · have g : i < 3 := by simp at g; omega
      obtain ⟨⟨v, c⟩, hd, hg⟩ := drop3 g (a, c0) (x, c1) (y, c2)
      have hv : [a, x, y][i]? = some v ∧ [c0, c1, c2][i]? = some c := by
        rcases i with _ | _ | _ | i
        · simp at hg ⊢; exact hg
        · simp at hg ⊢; exact hg
        · simp at hg ⊢; exact hg
        · omega
      have ec : (#[c0, c1, c2] : Array UInt8).getD (i : Int).toNat 0 = c := by
        rw [Int.toNat_natCast, Array.getD_eq_getD_getElem?]
        simpa using congrArg (Option.getD · 0) hv.2
      have ev' : ([[I.int .i64 a], [.int .i64 x], [.int .i64 y]] : List (List I)).getD (i : Int).toNat [] = [.int .i64 v] := by
        rw [Int.toNat_natCast]
        rcases i with _ | _ | _ | i
        · simp at hv; simp [hv.1]
        · simp at hv; simp [hv.1]
        · simp at hv; simp [hv.1]
        · omega
      rw [hd, mayG] at h2
      refine draw_ok (own := own0) [] [] [(.i (.int .i64 (sizeR p c.toNat z)), [pgB p, .row 0 4 false [[.i (.int .i64 k), .i (.int .i64 a), .i (.int .i64 x), .i (.int .i64 y)]]])] rfl (by kernel_rfl) (Nat.zero_le _) ?_
      repeat ((conv => whnf); first | refine Br.t ?_ | refine Br.f ?_ | refine ⟨rfl, ?_⟩)
      conv => whnf
      refine ⟨⟨by omega, by show (i : Int) < 3; omega⟩, ?_⟩
      repeat ((conv => whnf); first | refine Br.t ?_ | refine Br.f ?_ | refine ⟨rfl, ?_⟩)
      conv => whnf
      refine ⟨by rw [ec]; exact (refsize p c.toNat z).pure _ rfl rfl, ?_⟩
      repeat ((conv => whnf); first | refine Br.t ?_ | refine Br.f ?_ | refine ⟨rfl, ?_⟩)
      conv => whnf
      refine ⟨by repeat ((conv => whnf); first | exact trivial | refine ⟨rfl, ?_⟩), trivial, ?_⟩
      conv => whnf
      rw [ev']
      refine ⟨⟨by omega, by simp; omega, rfl⟩, ?_⟩
      repeat ((conv => whnf); first | refine Br.t ?_ | refine Br.f ?_ | refine ⟨rfl, ?_⟩)
      conv => whnf
      refine Br.mk (fun g1 => ?_) (fun g1 => ?_)
      · have g1 : v < 0 := by simpa using g1
        rw [if_pos (.inl g1)] at h2
        subst h2
        repeat ((conv => whnf); first | refine Br.t ?_ | refine Br.f ?_ | refine ⟨rfl, ?_⟩)
        conv => whnf
        refine fin (target := []) rfl (Nat.zero_le _) (by simp) rfl rfl
      · have g1 : 0 ≤ v := by simpa using g1
        repeat ((conv => whnf); first | refine Br.t ?_ | refine Br.f ?_ | refine ⟨rfl, ?_⟩)
        conv => whnf
        rw [ev']
        refine ⟨⟨by omega, by simp; omega, rfl⟩, ?_⟩
        repeat ((conv => whnf); first | refine Br.t ?_ | refine Br.f ?_ | refine ⟨rfl, ?_⟩)
        conv => whnf
        refine Br.mk (fun g2 => ?_) (fun g2 => ?_)
        · have g2 : sizeR p c.toNat z ≤ v := by simpa using g2
          rw [if_pos (.inr g2)] at h2
          subst h2
          repeat ((conv => whnf); first | refine Br.t ?_ | refine Br.f ?_ | refine ⟨rfl, ?_⟩)
          conv => whnf
          refine fin (target := []) rfl (Nat.zero_le _) (by simp) rfl rfl
        · have g2 : v < sizeR p c.toNat z := by simpa using g2
          rw [if_neg (by omega)] at h2
          repeat ((conv => whnf); first | refine Br.t ?_ | refine Br.f ?_ | refine ⟨rfl, ?_⟩)
          conv => whnf
          refine ⟨i + 1, ⟨by omega, h2⟩, by omega, Le.back (fun _ => 0) (by intro id hid; rfl) (by simp) rfl ?_ ?_ ?_⟩
          · intro o ho
            simp only [List.mem_cons, List.not_mem_nil, or_false] at ho
            rcases ho with rfl | rfl
            · exact pgB_cl p _
            · intro cs hcs; simp only [List.mem_singleton] at hcs; subst hcs; rfl
          · simp [leS, mkS, V.up, mayS]
            exact i64_id (by omega) (by omega)
          · rfl
    · have g : i = 3 := by simp at g; omega
      subst g
      rw [show [(a, c0), (x, c1), (y, c2)].drop 3 = [] from rfl, mayG] at h2
      subst h2
      repeat ((conv => whnf); first | refine Br.t ?_ | refine Br.f ?_ | refine ⟨rfl, ?_⟩)
      conv => whnf
      refine fin (target := []) rfl (Nat.zero_le _) (by simp) rfl rfl
end Go.Proofs.YtdbmfnhbgacldaaDoor.Am

/- The search along calls: what it tells; calls that go round nowhere. -/
namespace Go.Proofs.YtdbmfnhbgacldaaDoor.Am
set_option autoImplicit false
set_option linter.unusedVariables false
set_option linter.unusedSimpArgs false
/-- steps along E, one at least -/
inductive Conn (E : Nat → Nat → Prop) : Nat → Nat → Prop
  | one {a b : Nat} : E a b → Conn E a b
  | step {a b c : Nat} : E a b → Conn E b c → Conn E a c
theorem Conn.trans {E : Nat → Nat → Prop} {a b c : Nat} (h : Conn E a b) (k : Conn E b c) : Conn E a c := by
  induction h with
  | one h => exact .step h k
  | step h _ ih => exact .step h (ih k)
theorem Conn.closed {E : Nat → Nat → Prop} {S : Nat → Prop} (hS : ∀ a b, S a → E a b → S b) {a b : Nat} (h : Conn E a b) : S a → S b := by
  induction h with
  | one h => exact fun ha => hS _ _ ha h
  | step h _ ih => exact fun ha => ih (hS _ _ ha h)
/-- function a has a call of function b -/
def E (fs : List (List Nd)) (a b : Nat) : Prop := ∃ n ∈ fs.getD a [], n.1 = 7 ∧ n.2.1 = (b : Int)
theorem fs_mem {fs : List (List Nd)} {a : Nat} (h : a < fs.length) : fs.getD a [] ∈ fs := by
  rw [List.getD_eq_getElem?_getD, List.getElem?_eq_getElem h]; exact List.getElem_mem h
theorem fs_out {fs : List (List Nd)} {a : Nat} (h : fs.length ≤ a) : fs.getD a [] = [] := by
  rw [List.getD_eq_getElem?_getD, List.getElem?_eq_none h]; rfl
theorem E_lt {p : Pg} (h : Calls0 p) {a b : Nat} (he : E p.fs a b) : a < p.fs.length ∧ b < p.fs.length := by
  obtain ⟨n, hm, h7, h1⟩ := he
  by_cases ha : a < p.fs.length
  · have := h _ (fs_mem ha) n hm h7
    exact ⟨ha, by omega⟩
  · rw [fs_out (by omega)] at hm; cases hm
def sn (s : List Bool) (i : Nat) : Bool := s.getD i false
theorem sn_set (s : List Bool) (i j : Nat) (h : i < s.length) : sn (s.set i true) j = (decide (i = j) || sn s j) := by
  unfold sn
  rw [List.getD_eq_getElem?_getD, List.getD_eq_getElem?_getD, List.getElem?_set]
  by_cases e : i = j
  · subst e; simp [h]
  · simp [e]
theorem unseen_le : ∀ (s t : List Bool), s.length = t.length → (∀ i, sn s i = true → sn t i = true) → t.count false ≤ s.count false
  | [], [], _, _ => Nat.le_refl _
  | x :: s, y :: t, hl, h => by
    have ih := unseen_le s t (by simpa using hl) (fun i hi => by have := h (i + 1); simpa [sn] using this (by simpa [sn] using hi))
    have h0 := h 0
    simp only [sn, List.getD_cons_zero] at h0
    rw [List.count_cons, List.count_cons]
    cases x <;> cases y <;> simp_all <;> omega
theorem sn_some {s : List Bool} {i : Nat} (hi : i < s.length) (h : sn s i = false) : s[i]? = some false := by
  unfold sn at h
  rw [List.getD_eq_getElem?_getD, List.getElem?_eq_getElem hi] at h
  rw [List.getElem?_eq_getElem hi]
  simpa using h
/-- what a search that found nothing leaves -/
def Lft (fs : List (List Nd)) (tg : Nat) (s t : List Bool) : Prop := ∀ v, sn t v = true → sn s v = false → v ≠ tg ∧ ∀ u, E fs v u → sn t u = true
structure Fnd (fs : List (List Nd)) (tg : Nat) (seen : List Bool) (fr : Nat) (r : Bool × List Bool) : Prop where
  len : r.2.length = fs.length
  mono : ∀ i, sn seen i = true → sn r.2 i = true
  hit : r.1 = true → fr = tg ∨ Conn (E fs) fr tg
  miss : r.1 = false → sn r.2 fr = true ∧ Lft fs tg seen r.2
theorem go_fnd (fs : List (List Nd)) (tg k : Nat) (ih : ∀ (fr : Nat) (seen : List Bool), fr < fs.length → seen.length = fs.length → seen.count false < k → Fnd fs tg seen fr (dfs fs tg k fr seen))
    (base : List Bool) (hb : base.length = fs.length) (hbk : base.count false < k) (fr : Nat) :
    ∀ (L : List Nd) (t : List Bool), (∀ n ∈ L, n.1 = 7 → n.2.1.toNat < fs.length ∧ E fs fr n.2.1.toNat) → t.length = fs.length → (∀ j, sn base j = true → sn t j = true) → Lft fs tg base t →
      (goL (dfs fs tg k) L t).2.length = fs.length ∧ (∀ j, sn t j = true → sn (goL (dfs fs tg k) L t).2 j = true) ∧ ((goL (dfs fs tg k) L t).1 = true → Conn (E fs) fr tg) ∧
      ((goL (dfs fs tg k) L t).1 = false → Lft fs tg base (goL (dfs fs tg k) L t).2 ∧ ∀ n ∈ L, n.1 = 7 → sn (goL (dfs fs tg k) L t).2 n.2.1.toNat = true)
  | [], t, _, ht, _, hL => ⟨ht, fun _ h => h, fun h => (by cases h), fun _ => ⟨hL, fun n h => (by cases h)⟩⟩
  | n :: L, t, hE, ht, hm, hL => by
    have hE' : ∀ n ∈ L, n.1 = 7 → n.2.1.toNat < fs.length ∧ E fs fr n.2.1.toNat := fun m h => hE m (List.mem_cons_of_mem _ h)
    rw [goL]
    by_cases h7 : n.1 = 7
    · rw [if_pos h7]
      obtain ⟨ha, hEa⟩ := hE n List.mem_cons_self h7
      have hcnt := unseen_le base t (by omega) hm
      obtain ⟨f1, f2, f3, f4⟩ := ih n.2.1.toNat t ha ht (by omega)
      split
      · rename_i hr
        refine ⟨f1, f2, fun _ => ?_, fun h => (by cases h)⟩
        rcases f3 hr with h | h
        · rw [← h]; exact .one hEa
        · exact .step hEa h
      · rename_i hr
        obtain ⟨hs1, hL1⟩ := f4 (by simpa using hr)
        have hLt' : Lft fs tg base (dfs fs tg k n.2.1.toNat t).2 := fun v hv hnv => by
          cases hx : sn t v
          · exact hL1 v hv hx
          · obtain ⟨p, q⟩ := hL v hx hnv
            exact ⟨p, fun u hu => f2 u (q u hu)⟩
        obtain ⟨g1, g2, g3, g4⟩ := go_fnd fs tg k ih base hb hbk fr L _ hE' f1 (fun j h => f2 j (hm j h)) hLt'
        refine ⟨g1, fun j h => g2 j (f2 j h), g3, fun h => ?_⟩
        obtain ⟨x, y⟩ := g4 h
        refine ⟨x, fun m hmm h7m => ?_⟩
        rcases List.mem_cons.1 hmm with rfl | hmm
        · exact g2 _ hs1
        · exact y m hmm h7m
    · rw [if_neg h7]
      obtain ⟨g1, g2, g3, g4⟩ := go_fnd fs tg k ih base hb hbk fr L t hE' ht hm hL
      refine ⟨g1, g2, g3, fun h => ?_⟩
      obtain ⟨x, y⟩ := g4 h
      refine ⟨x, fun m hmm h7m => ?_⟩
      rcases List.mem_cons.1 hmm with rfl | hmm
      · exact absurd h7m h7
      · exact y m hmm h7m
theorem dfs_fnd {p : Pg} (hc : Calls0 p) (tg : Nat) : ∀ (k fr : Nat) (seen : List Bool), fr < p.fs.length → seen.length = p.fs.length → seen.count false < k → Fnd p.fs tg seen fr (dfs p.fs tg k fr seen)
  | 0, fr, seen, _, _, h => by omega
  | k + 1, fr, seen, hfr, hl, hk => by
    simp only [dfs]
    by_cases e : fr = tg
    · rw [if_pos e]
      exact ⟨hl, fun _ h => h, fun _ => .inl e, fun h => (by cases h)⟩
    · rw [if_neg e]
      cases hs : seen.getD fr false with
      | true =>
        rw [if_pos rfl]
        exact ⟨hl, fun _ h => h, fun h => (by cases h), fun _ => ⟨hs, fun v h1 h2 => (by simp only at h1; rw [h1] at h2; cases h2)⟩⟩
      | false =>
        rw [if_neg (by simp)]
        have hset := count_set seen fr (sn_some (by omega) hs)
        have hseen : ∀ i, sn seen i = true → sn (seen.set fr true) i = true := fun i hi => by rw [sn_set _ _ _ (by omega), hi, Bool.or_true]
        have hfrs : sn (seen.set fr true) fr = true := by rw [sn_set _ _ _ (by omega)]; simp
        obtain ⟨g1, g2, g3, g4⟩ := go_fnd p.fs tg k (dfs_fnd hc tg k) (seen.set fr true) (by rw [List.length_set]; exact hl) (by omega) fr (p.fs.getD fr []) (seen.set fr true)
          (fun n hn h7 => by
            have := hc _ (fs_mem hfr) n hn h7
            exact ⟨by omega, n, hn, h7, by omega⟩) (by rw [List.length_set]; exact hl) (fun _ h => h) (fun v h1 h2 => (by rw [h1] at h2; cases h2))
        refine ⟨g1, fun i hi => g2 i (hseen i hi), fun hr => .inr (g3 hr), fun hr => ⟨g2 _ hfrs, fun v hv hnv => ?_⟩⟩
        obtain ⟨hL, hA⟩ := g4 hr
        by_cases ev : v = fr
        · subst ev
          refine ⟨e, fun u hu => ?_⟩
          obtain ⟨nd, hnd, h7, hu1⟩ := hu
          have := hA nd hnd h7
          rw [hu1, Int.toNat_natCast] at this
          exact this
        · refine hL v hv ?_
          rw [sn_set _ _ _ (by omega), hnv, decide_eq_false (fun h => ev h.symm)]; rfl
/-- the search from nothing seen tells whether 'tg' is come to -/
theorem reach {p : Pg} (hc : Calls0 p) (tg fr : Nat) (hfr : fr < p.fs.length) :
    (dfs p.fs tg (p.fs.length + 1) fr (List.replicate p.fs.length false)).1 = true ↔ fr = tg ∨ Conn (E p.fs) fr tg := by
  obtain ⟨h0, _, h1, h2⟩ := dfs_fnd hc tg (p.fs.length + 1) fr (List.replicate p.fs.length false) hfr (by simp) (by simp)
  refine ⟨h1, fun h => ?_⟩
  cases hr : (dfs p.fs tg (p.fs.length + 1) fr (List.replicate p.fs.length false)).1 with
  | true => rfl
  | false =>
    obtain ⟨hs, hL⟩ := h2 hr
    have hno : ∀ i, sn (List.replicate p.fs.length false) i = false := fun i => by
      unfold sn
      rw [List.getD_eq_getElem?_getD, List.getElem?_replicate]
      split <;> rfl
    have hin : sn (dfs p.fs tg (p.fs.length + 1) fr (List.replicate p.fs.length false)).2 tg = true := by
      rcases h with rfl | h
      · exact hs
      · exact h.closed (S := fun v => sn (dfs p.fs tg (p.fs.length + 1) fr (List.replicate p.fs.length false)).2 v = true) (fun a b ha hab => (hL a ha (hno a)).2 b hab) hs
    exact absurd rfl (hL tg hin (hno tg)).1
/-! Functions taken out one by one. -/
end Go.Proofs.YtdbmfnhbgacldaaDoor.Am

/- The document's table of calls: what comes to what, by rounds of three. -/
namespace Go.Proofs.YtdbmfnhbgacldaaDoor.Am
set_option autoImplicit false
set_option linter.unusedVariables false
set_option linter.unusedSimpArgs false
def cell (m : List (List Nat)) (a b : Nat) : Nat := (m.getD a []).getD b 0
def rowL (L : List Nd) (row : List Nat) : List Nat := L.foldl (fun r x => if x.1 = 7 then r.set x.2.1.toNat 1 else r) row
def rows0 (p : Pg) : List (List Nat) := p.fs.map fun L => rowL L (List.replicate p.fs.length 0)
def put1 (m : List (List Nat)) (a b : Nat) : List (List Nat) := m.set a ((m.getD a []).set b 1)
def stepB (k a : Nat) (m : List (List Nat)) (b : Nat) : List (List Nat) := if cell m a k = 1 ∧ cell m k b = 1 then put1 m a b else m
def stepA (n k : Nat) (m : List (List Nat)) (a : Nat) : List (List Nat) := (List.range n).foldl (stepB k a) m
def stepK (n : Nat) (m : List (List Nat)) (k : Nat) : List (List Nat) := (List.range n).foldl (stepA n k) m
def mat (p : Pg) : List (List Nat) := (List.range p.fs.length).foldl (stepK p.fs.length) (rows0 p)
theorem fold_succ {α : Type} (f : α → Nat → α) (x : α) (j : Nat) : (List.range (j + 1)).foldl f x = f ((List.range j).foldl f x) j := by
  rw [List.range_succ, List.foldl_append]; rfl
def on (m : List (List Nat)) (a b : Nat) : Prop := cell m a b = 1
def Sq (n : Nat) (m : List (List Nat)) : Prop := m.length = n ∧ ∀ a, a < n → (m.getD a []).length = n
theorem getD_set_eq {α : Type} (l : List α) (i j : Nat) (x d : α) (h : i < l.length) : (l.set i x).getD j d = if i = j then x else l.getD j d := by
  rw [List.getD_eq_getElem?_getD, List.getD_eq_getElem?_getD, List.getElem?_set]
  by_cases e : i = j
  · subst e; simp [h]
  · simp [e]
theorem Sq.put {n : Nat} {m : List (List Nat)} (h : Sq n m) {a b : Nat} (ha : a < n) : Sq n (put1 m a b) := by
  refine ⟨by unfold put1; rw [List.length_set, h.1], fun c hc => ?_⟩
  unfold put1
  rw [getD_set_eq _ _ _ _ _ (by rw [h.1]; exact ha)]
  split
  · rw [List.length_set]; exact h.2 a ha
  · exact h.2 c hc
theorem on_put {n : Nat} {m : List (List Nat)} (h : Sq n m) {a b c d : Nat} (ha : a < n) (hb : b < n) : on (put1 m a b) c d ↔ (c = a ∧ d = b) ∨ on m c d := by
  unfold on put1 cell
  rw [getD_set_eq _ _ _ _ _ (by rw [h.1]; exact ha)]
  by_cases e : a = c
  · subst e
    rw [if_pos rfl, getD_set_eq _ _ _ _ _ (by rw [h.2 a ha]; exact hb)]
    by_cases e2 : b = d
    · subst e2; simp
    · rw [if_neg e2]
      constructor
      · exact .inr
      · rintro (⟨_, h⟩ | h)
        · exact absurd h.symm e2
        · exact h
  · rw [if_neg e]
    constructor
    · exact .inr
    · rintro (⟨h, _⟩ | h)
      · exact absurd h.symm e
      · exact h
/-- steps along E whose inner places are below K -/
inductive Via (E : Nat → Nat → Prop) (K : Nat) : Nat → Nat → Prop
  | one {a b : Nat} : E a b → Via E K a b
  | step {a c b : Nat} : E a c → c < K → Via E K c b → Via E K a b
theorem Via.split {E : Nat → Nat → Prop} {K a b : Nat} (h : Via E (K + 1) a b) : Via E K a b ∨ (Via E K a K ∧ Via E K K b) := by
  induction h with
  | one h => exact .inl (.one h)
  | @step a c b h hc _ ih =>
    by_cases e : c = K
    · subst e
      rcases ih with ih | ih
      · exact .inr ⟨.one h, ih⟩
      · exact .inr ⟨.one h, ih.2⟩
    · rcases ih with ih | ih
      · exact .inl (.step h (by omega) ih)
      · exact .inr ⟨.step h (by omega) ih.1, ih.2⟩
theorem Conn.via {E : Nat → Nat → Prop} {n : Nat} (hE : ∀ a b, E a b → b < n) {a b : Nat} (h : Conn E a b) : Via E n a b := by
  induction h with
  | one h => exact .one h
  | step h _ ih => exact .step h (hE _ _ h) ih
/-- what a round of k keeps: its start m0 -/
structure Inv (fs : List (List Nd)) (m0 m : List (List Nat)) : Prop where
  sq : Sq fs.length m
  sound : ∀ a b, a < fs.length → b < fs.length → on m a b → Conn (E fs) a b
  mono : ∀ a b, on m0 a b → on m a b
theorem stepB_fold (fs : List (List Nd)) (m0 m1 : List (List Nat)) (k a : Nat) (hk : k < fs.length) (ha : a < fs.length) (h1 : Inv fs m0 m1) : ∀ j, j ≤ fs.length →
    Inv fs m0 ((List.range j).foldl (stepB k a) m1) ∧ (∀ c e, on m1 c e → on ((List.range j).foldl (stepB k a) m1) c e) ∧ (∀ e, e < j → on m0 a k → on m0 k e → on ((List.range j).foldl (stepB k a) m1) a e)
  | 0, _ => ⟨h1, fun _ _ h => h, fun e h => by omega⟩
  | j + 1, hj => by
    obtain ⟨hI, hm, hd⟩ := stepB_fold fs m0 m1 k a hk ha h1 j (by omega)
    rw [fold_succ]
    generalize (List.range j).foldl (stepB k a) m1 = m at hI hm hd
    unfold stepB
    split
    · rename_i hc
      refine ⟨⟨hI.sq.put ha, fun c e hc1 he h => ?_, fun c e h => (on_put hI.sq ha (by omega)).2 (.inr (hI.mono c e h))⟩, fun c e h => (on_put hI.sq ha (by omega)).2 (.inr (hm c e h)), fun e he x y => ?_⟩
      · rcases (on_put hI.sq ha (by omega)).1 h with ⟨rfl, rfl⟩ | h
        · exact (hI.sound _ _ ha hk hc.1).trans (hI.sound _ _ hk (by omega) hc.2)
        · exact hI.sound c e hc1 he h
      · by_cases e' : e = j
        · subst e'; exact (on_put hI.sq ha (by omega)).2 (.inl ⟨rfl, rfl⟩)
        · exact (on_put hI.sq ha (by omega)).2 (.inr (hd e (by omega) x y))
    · rename_i hc
      refine ⟨hI, hm, fun e he x y => ?_⟩
      by_cases e' : e = j
      · subst e'; exact absurd ⟨hI.mono _ _ x, hI.mono _ _ y⟩ hc
      · exact hd e (by omega) x y
theorem stepA_fold (fs : List (List Nd)) (m0 : List (List Nat)) (k : Nat) (hk : k < fs.length) (h0 : Inv fs m0 m0) : ∀ j, j ≤ fs.length →
    Inv fs m0 ((List.range j).foldl (stepA fs.length k) m0) ∧ (∀ c e, c < j → e < fs.length → on m0 c k → on m0 k e → on ((List.range j).foldl (stepA fs.length k) m0) c e)
  | 0, _ => ⟨h0, fun c e h => by omega⟩
  | j + 1, hj => by
    obtain ⟨hI, hd⟩ := stepA_fold fs m0 k hk h0 j (by omega)
    rw [fold_succ]
    generalize (List.range j).foldl (stepA fs.length k) m0 = m at hI hd
    unfold stepA
    obtain ⟨g1, g2, g3⟩ := stepB_fold fs m0 m k j hk (by omega) hI fs.length (Nat.le_refl _)
    refine ⟨g1, fun c e hc he x y => ?_⟩
    by_cases e' : c = j
    · subst e'; exact g3 e he x y
    · exact g2 _ _ (hd c e (by omega) he x y)
theorem stepK_fold (fs : List (List Nd)) (m0 : List (List Nat)) (h0 : Inv fs [] m0) (hv : ∀ a b, a < fs.length → b < fs.length → E fs a b → on m0 a b) : ∀ j, j ≤ fs.length →
    Inv fs [] ((List.range j).foldl (stepK fs.length) m0) ∧ (∀ a b, a < fs.length → b < fs.length → Via (E fs) j a b → on ((List.range j).foldl (stepK fs.length) m0) a b)
  | 0, _ => ⟨h0, fun a b ha hb h => by
    cases h with
    | one h => exact hv a b ha hb h
    | step _ h _ => omega⟩
  | j + 1, hj => by
    obtain ⟨hI, hd⟩ := stepK_fold fs m0 h0 hv j (by omega)
    rw [fold_succ]
    generalize (List.range j).foldl (stepK fs.length) m0 = m at hI hd
    unfold stepK
    obtain ⟨g1, g2⟩ := stepA_fold fs m j (by omega) ⟨hI.sq, hI.sound, fun _ _ h => h⟩ fs.length (Nat.le_refl _)
    refine ⟨⟨g1.sq, g1.sound, fun a b h => by simp [on, cell] at h⟩, fun a b ha hb h => ?_⟩
    rcases h.split with h | ⟨x, y⟩
    · exact g1.mono _ _ (hd a b ha hb h)
    · exact g2 a b ha hb (hd a j ha (by omega) x) (hd j b (by omega) hb y)
theorem rowL_len : ∀ (L : List Nd) (row : List Nat), (rowL L row).length = row.length
  | [], row => rfl
  | x :: L, row => by
    rw [rowL, List.foldl_cons]
    have := rowL_len L (if x.1 = 7 then row.set x.2.1.toNat 1 else row)
    rw [rowL] at this
    rw [this]
    split
    · rw [List.length_set]
    · rfl
theorem rowL_on : ∀ (L : List Nd) (row : List Nat), (∀ x ∈ L, x.1 = 7 → 0 ≤ x.2.1 ∧ x.2.1 < row.length) → ∀ b, (rowL L row).getD b 0 = 1 ↔ row.getD b 0 = 1 ∨ ∃ x ∈ L, x.1 = 7 ∧ x.2.1 = (b : Int)
  | [], row, _, b => by simp [rowL]
  | x :: L, row, h, b => by
    rw [rowL, List.foldl_cons]
    have ih := rowL_on L (if x.1 = 7 then row.set x.2.1.toNat 1 else row) (fun y hy h7 => by
      have := h y (List.mem_cons_of_mem _ hy) h7
      split
      · rw [List.length_set]; exact this
      · exact this) b
    rw [rowL] at ih
    rw [ih]
    clear ih
    by_cases h7 : x.1 = 7
    · have hx := h x List.mem_cons_self h7
      rw [if_pos h7, getD_set_eq _ _ _ _ _ (by omega)]
      by_cases e : x.2.1.toNat = b
      · rw [if_pos e]
        have eb : x.2.1 = (b : Int) := by omega
        exact ⟨fun _ => .inr ⟨x, List.mem_cons_self, h7, eb⟩, fun _ => .inl rfl⟩
      · rw [if_neg e]
        constructor
        · rintro (h1 | ⟨y, h1, h2⟩)
          · exact .inl h1
          · exact .inr ⟨y, List.mem_cons_of_mem _ h1, h2⟩
        · rintro (h1 | ⟨y, h1, h2, h3⟩)
          · exact .inl h1
          · rcases List.mem_cons.1 h1 with rfl | h1
            · omega
            · exact .inr ⟨y, h1, h2, h3⟩
    · rw [if_neg h7]
      constructor
      · rintro (h1 | ⟨y, h1, h2⟩)
        · exact .inl h1
        · exact .inr ⟨y, List.mem_cons_of_mem _ h1, h2⟩
      · rintro (h1 | ⟨y, h1, h2, h3⟩)
        · exact .inl h1
        · rcases List.mem_cons.1 h1 with rfl | h1
          · exact absurd h2 h7
          · exact .inr ⟨y, h1, h2, h3⟩
theorem rows0_get (p : Pg) {a : Nat} (ha : a < p.fs.length) : (rows0 p).getD a [] = rowL (p.fs.getD a []) (List.replicate p.fs.length 0) := by
  simp [rows0, List.getD_eq_getElem?_getD, ha]
theorem rows0_on {p : Pg} (hc : Calls0 p) {a : Nat} (ha : a < p.fs.length) (b : Nat) : on (rows0 p) a b ↔ E p.fs a b := by
  unfold on cell
  rw [rows0_get p ha, rowL_on _ _ (fun x hx h7 => by have := hc _ (fs_mem ha) x hx h7; simpa using this)]
  constructor
  · rintro (h | h)
    · rw [List.getD_eq_getElem?_getD, List.getElem?_replicate] at h
      split at h <;> simp at h
    · exact h
  · exact .inr
theorem rows0_sq (p : Pg) : Sq p.fs.length (rows0 p) := ⟨by simp [rows0], fun a ha => by rw [rows0_get p ha, rowL_len]; simp⟩
/-- the table tells what comes to what -/
theorem mat_on {p : Pg} (hc : Calls0 p) : Sq p.fs.length (mat p) ∧ ∀ a b, a < p.fs.length → b < p.fs.length → (on (mat p) a b ↔ Conn (E p.fs) a b) := by
  obtain ⟨h1, h2⟩ := stepK_fold p.fs (rows0 p) ⟨rows0_sq p, fun a b ha hb h => .one ((rows0_on hc ha b).1 h), fun a b h => by simp [on, cell] at h⟩ (fun a b ha hb h => (rows0_on hc ha b).2 h) p.fs.length (Nat.le_refl _)
  exact ⟨h1.sq, fun a b ha hb => ⟨h1.sound a b ha hb, fun h => h2 a b ha hb (h.via fun _ _ e => (E_lt hc e).2)⟩⟩
end Go.Proofs.YtdbmfnhbgacldaaDoor.Am

/- Contracts: the document's table of calls. -/
namespace Go.Proofs.YtdbmfnhbgacldaaDoor.Am
set_option autoImplicit false
set_option linter.unusedVariables false
set_option linter.unusedSimpArgs false
set_option maxRecDepth 10000
set_option pp.maxSteps 3000
set_option pp.proofs false
theorem fOs_in {vs : List Ob} {K : List Ob → Prop} (h : K vs) : fOs vs K := by rw [fOs_eq]; exact h
theorem told_in {sl : List V} {st : List Ob} {d : Nat} {b : Bool} {K : S → Prop} (h : fVs (sl.set d (.i (.bool b))) fun s => K ⟨s, st⟩) : fS (S.told ⟨sl, st⟩ d b) K := by
  rw [fVs_eq] at h; rw [fS_eq]; exact h
theorem skip_f {sl : List V} {st : List Ob} {d j : Nat} {b : Bool} {K : S → Prop} (h : fVs ((sl.set d (.i (.bool b))).set j (.tup [])) fun s => K ⟨s, st⟩) : fS (S.told ⟨sl, st⟩ d b) (fun s => fS (s.put (some j) (.tup []) s.st) K) := by
  rw [fVs_eq] at h; rw [fS_eq, fS_eq]; exact h
theorem opA_0 {P : Program} {own : Bool} {st : List Ob} {ρ : Operand → V} {op : Op} (h : arrOpA P st ρ op = none) : opA P own st ρ op = opA0 P own st ρ op := by unfold opA; rw [h]
theorem flatA_0 {P : Program} {t : TypeId} (h : aggA P t = some false) : flatA P t = none := by
  unfold flatA
  split
  · split
    · rw [if_neg (by rw [h]; simp)]
    · rw [if_neg (by rw [h]; simp)]
    · rfl
  · rfl
theorem op_ix {P : Program} {own : Bool} {st : List Ob} {ρ : Operand → V} {t : TypeId} {x i : Operand} {id ver off len sz : Nat} {ro : Bool} {es : List (List V)} {el : TypeId} {k : IntKind} {v : Int} (hs : st[id]? = some (.row ver sz ro es))
    (hx : ρ x = .ref id ver off len) (hi : ρ i = .i (.int k v)) (he : elemA P t = some el) (ha : (aggA P el).isSome = true) (hz : sz = szA P el) :
    opA P own st ρ (.indexAddr t x i) = some (some (0 ≤ v ∧ v < len), .ptr id ver (off + v.toNat) 0, st) := by
  rw [opA_0 (by simp only [arrOpA, hx, flatAt])]
  simp only [opA0, hx, hi, indexAddrA, he, ha, hs, hz, and_self, if_true, Option.map_some]
theorem op_load {P : Program} {own : Bool} {st : List Ob} {ρ : Operand → V} {t : TypeId} {a : Operand} {id ver e j sz : Nat} {ro : Bool} {es : List (List V)} {v : V} (hs : st[id]? = some (.row ver sz ro es))
    (ha : ρ a = .ptr id ver e j) (ht : aggA P t = some false) (hv : (es.getD e []).getD j .undef = v) :
    opA P own st ρ (.load t a) = some (some (Nat.blt j (es.getD e []).length = true), v, st) := by
  rw [opA_0 (by simp only [arrOpA]; split <;> first | rfl | rw [flatA_0 ht])]
  simp only [opA0, ha, loadA, hs, if_true, partA, ht, Option.map_some, hv]
theorem op_store {P : Program} {own : Bool} {st st' : List Ob} {ρ : Operand → V} {t : TypeId} {a x : Operand} {id ver e j sz : Nat} {es : List (List V)} {v : V} (hs : st[id]? = some (.row ver sz false es))
    (ha : ρ a = .ptr id ver e j) (hv : ρ x = v) (h' : st.set id (.row ver sz false (es.set e (putCells (es.getD e []) j v.cells))) = st') (hf : flatA P t = none := by rfl) :
    opA P own st ρ (.store t a x) = some (some (((aggA P t).isSome && Nat.beq (szA P t) v.cells.length && knownAll st v.cells && Nat.ble (j + v.cells.length) (es.getD e []).length) = true), .tup [], st') := by
  rw [opA_0 (by simp only [arrOpA]; split <;> first | rfl | rw [hf])]
  simp only [opA0, ha, storeA, hs, if_true, Option.map_some, hv, h']
theorem op_lit1 {P : Program} {own : Bool} {st : List Ob} {ρ : Operand → V} {t el : TypeId} {x : Operand} {z : V} {id ver n sz : Nat} {ro : Bool} {es : List (List V)} (hs : st[id]? = some (.row ver sz ro es)) (hx : ρ x = .ref id ver 0 n) (he : elemA P t = some el) (hz : zeroA P el = some [z])
    (hg : (aggA P el).isSome = true) (h1 : szA P el = 1) : opA P own st ρ (.buildSlice t 1 #[(0, x)]) = some (some (true = true), .ref st.length 1 0 1, st ++ [.row 1 1 false [[.ref id ver 0 n]]]) := by
  have hk : (V.ref id ver 0 n).shaped st = true := by simp [V.shaped, V.known, hs]
  rw [opA_0 (by simp only [arrOpA])]
  simp only [opA0, List.map_cons, List.map_nil, hx, litA, he, hz, hg, h1, List.length_singleton, litEs, hk, if_true]
  simp [litEs, toIss, toIs, V.toI, V.cells, maxLen]
theorem op_app1 {P : Program} {own : Bool} {st st' : List Ob} {ρ : Operand → V} {t t1 : TypeId} {s x : Operand} {id ver len by_ idx verx : Nat} {ro : Bool} {es : List (List V)} {v : V} (hsx : st[idx]? = some (.row verx 1 ro [[v]])) (hss : st[id]? = some (.row ver 1 false es))
    (hs : ρ s = .ref id ver 0 len) (hx : ρ x = .ref idx verx 0 1) (he : elInfo P t = some (1, by_)) (ht : srcType P t1 = true) (h' : st.set id (.row (ver + 1) 1 false (es ++ [[v]])) = st') :
    opA P own st ρ (.call { callee := .builtin .append, args := #[s, x], argTypes := #[t, t1] }) = some (some ((∀ cs ∈ [[v]], knownAll st cs = true) ∧ len = es.length ∧ (len + 1) * by_ ≤ 140737488355328 ∧ len + 1 ≤ maxLen), .ref id (ver + 1) 0 (len + 1), st') := by
  have e : (([[v]] : List (List V)).drop 0).take 1 = [[v]] := rfl
  rw [opA_0 rfl]
  simp only [opA0, List.map_cons, List.map_nil, builtinA, hs, hx, appA, he, ht, if_true, srcA, hsx, hss, and_self, e, Option.map_some, List.length_singleton, h']
theorem st_ok {P : Program} {st : List Ob} {t : TypeId} (ha : (aggA P t).isSome = true) (hz : szA P t = 1) (r : List Nat) (a : Nat) (h : a < r.length) (n : Int) : ((aggA P t).isSome && Nat.beq (szA P t) (V.i (.int .i64 n)).cells.length && knownAll st (V.i (.int .i64 n)).cells && Nat.ble (0 + (V.i (.int .i64 n)).cells.length) ((lift (r.map fun n : Nat => [I.int .i64 n])).getD (0 + a) []).length) = true := by
  rw [ha, hz, Nat.zero_add a, lift_getD (fun n : Nat => [I.int .i64 n]) r h]; rfl
theorem Le.pad {n : Nat} {sl : List V} {st : List Ob} : Le n ⟨sl, st⟩ ⟨sl, st ++ [.row 1 0 false []]⟩ := by
  intro D μ a w hn hr
  obtain ⟨r1, r2, r3, r4⟩ := new_row 1 hr.st (Grow.refl w) (x := none) (sz' := 0) (es' := []) (.inl ⟨rfl, rfl⟩)
  exact ⟨_, ⟨hr.dfr, ⟨hr.sl.1, fun j v hj => r4 _ _ (hr.sl.2 j v hj)⟩, r1⟩, r2, r3.mono hn⟩
theorem Le.pads {n : Nat} {sl : List V} {st : List Ob} : ∀ k, Le n ⟨sl, st⟩ ⟨sl, st ++ List.replicate k (.row 1 0 false [])⟩
  | 0 => by rw [List.replicate_zero, List.append_nil]; exact Le.refl _ _
  | k + 1 => by rw [List.replicate_succ', ← List.append_assoc]; exact (Le.pads k).trans Le.pad
def elN (n : Nat) : List I := [.int .i64 n]
def rowB (r : List Nat) : Ob := .row 1 1 false (lift (r.map elN))
def refs (n k : Nat) : List (List V) := (List.range k).map fun j => [.ref (j + 16) 1 0 n]
/-- the table's rows, each in its own place, behind sixteen others (so that their numbers are sixteen and more) -/
def tabG (p : Pg) (v : Nat) (es : List (List V)) (X : List Ob) : List Ob := pgB p :: .row v 1 false es :: .row 1 0 false [] :: .row 1 0 false [] :: .row 1 0 false [] :: .row 1 0 false [] :: .row 1 0 false [] :: .row 1 0 false [] :: .row 1 0 false [] :: .row 1 0 false [] ::
  .row 1 0 false [] :: .row 1 0 false [] :: .row 1 0 false [] :: .row 1 0 false [] :: .row 1 0 false [] :: .row 1 0 false [] :: X
def caTabB (p : Pg) (n k : Nat) (X : List Ob) : List Ob := tabG p 1 (refs n k) X
theorem tab_set (p : Pg) (n c : Nat) (X : List Ob) (k : Nat) (r : List Nat) (a : Nat) (hk : X[k]? = some (rowB r)) (ha : a < r.length) :
    (caTabB p n c X).set (k + 16) (.row 1 1 false ((lift (r.map elN)).set (0 + a) (putCells ((lift (r.map elN)).getD (0 + a) []) 0 (V.i (.int .i64 1)).cells))) = caTabB p n c (X.set k (rowB (r.set a 1))) := by
  rw [Nat.zero_add, lift_getD elN r ha]
  have e : putCells ((elN r[a]).map V.i) 0 (V.i (.int .i64 1)).cells = (elN 1).map V.i := rfl
  rw [e, lift_set elN r a 1]
  rfl
theorem tab_get (p : Pg) (n c : Nat) (X : List Ob) (k : Nat) : (caTabB p n c X)[k + 16]? = X[k]? := rfl
theorem rowL_snoc (L : List Nd) (x : Nd) (row : List Nat) : rowL (L ++ [x]) row = if x.1 = 7 then (rowL L row).set x.2.1.toNat 1 else rowL L row := by
  rw [rowL, List.foldl_append]; rfl
theorem up_rows (d : Nat → Nat) (k : Nat) (hd : ∀ j, k ≤ j → d j = 0) : ∀ (rs : List (List Nat)), upSt d k (rs.map rowB) = rs.map rowB := by
  intro rs
  induction rs generalizing k with
  | nil => rfl
  | cons r rs ih =>
    rw [List.map_cons, upSt, ih (k + 1) (fun j hj => hd j (by omega))]
    simp only [rowB, Ob.up, map_up_lift, hd k (Nat.le_refl _)]
theorem up_refs (d : Nat → Nat) (n k : Nat) (hd : ∀ j, 2 ≤ j → d j = 0) : (refs n k).map (V.up.upAll d) = refs n k := by
  simp only [refs, List.map_map]
  refine List.map_congr_left fun j _ => ?_
  simp [V.up.upAll, V.up, hd (j + 16) (by omega)]
theorem refs_snoc (n k : Nat) : refs n (k + 1) = refs n k ++ [[.ref (k + 16) 1 0 n]] := by simp [refs, List.range_succ]
theorem refs_len (n k : Nat) : (refs n k).length = k := by simp [refs]
theorem tab_len (p : Pg) (n k : Nat) (X : List Ob) : (caTabB p n k X).length = X.length + 16 := rfl
theorem tab_cl (p : Pg) (n : Nat) (rs : List (List Nat)) (k : Nat) (hk : k ≤ rs.length) : ∀ o ∈ caTabB p n k (rs.map rowB), o.cl (caTabB p n k (rs.map rowB)).length := by
  intro o ho
  rw [tab_len, List.length_map]
  simp only [caTabB, tabG, List.mem_cons] at ho
  have hnil : Ob.cl (rs.length + 16) (.row 1 0 false []) := fun cs h => by cases h
  rcases ho with rfl | rfl | rfl | rfl | rfl | rfl | rfl | rfl | rfl | rfl | rfl | rfl | rfl | rfl | rfl | rfl | ho
  · exact pgB_cl p _
  · intro cs hcs
    simp only [refs, List.mem_map, List.mem_range] at hcs
    obtain ⟨j, hj, rfl⟩ := hcs
    simp [V.cl.clAll, V.cl]; omega
  · exact hnil
  · exact hnil
  · exact hnil
  · exact hnil
  · exact hnil
  · exact hnil
  · exact hnil
  · exact hnil
  · exact hnil
  · exact hnil
  · exact hnil
  · exact hnil
  · exact hnil
  · exact hnil
  · simp only [List.mem_map] at ho
    obtain ⟨r, _, rfl⟩ := ho
    exact row_cl 1 1 (r.map elN) _ _ (by simp [rowB])
theorem map_get (M : List (List Nat)) (a : Nat) (h : a < M.length) : (M.map rowB)[a]? = some (rowB (M.getD a [])) := by
  simp [List.getD_eq_getElem?_getD, h]
theorem refs_get (n k a : Nat) (h : a < k) : (refs n k).getD (0 + ((a : Nat) : Int).toNat) [] = [.ref (a + 16) 1 0 n] := by
  rw [Nat.zero_add, Int.toNat_natCast]
  simp [refs, List.getD_eq_getElem?_getD, h]
theorem cell_get (M : List (List Nat)) (a k : Nat) (h : k < (M.getD a []).length) : (lift ((M.getD a []).map elN)).getD (0 + ((k : Nat) : Int).toNat) [] = [.i (.int .i64 (cell M a k : Nat))] := by
  rw [Nat.zero_add, Int.toNat_natCast, lift_getD elN _ h]
  have e : cell M a k = (M.getD a [])[k] := by rw [cell, List.getD_eq_getElem?_getD, List.getElem?_eq_getElem h]; rfl
  rw [e]; rfl
theorem set_rows (M : List (List Nat)) (a b : Nat) : (M.map rowB).set a (rowB ((M.getD a []).set b 1)) = (put1 M a b).map rowB := by
  rw [put1, List.map_set]
theorem Sq.stepB {n : Nat} {M : List (List Nat)} (h : Sq n M) {a : Nat} (ha : a < n) (k b : Nat) : Sq n (Am.stepB k a M b) := by
  unfold Am.stepB
  split
  · exact h.put ha
  · exact h
/-! The table told as data. -/
def dRefs (n : Nat) (M : List (List Nat)) (j : Nat) : List (List V) := (List.range n).map fun i => if i < j then [.i (.sl ((M.getD i []).map elN))] else [.ref (i + 16) 1 0 n]
def dRows (n : Nat) (M : List (List Nat)) (j : Nat) : List Ob := (List.range n).map fun i => if i < j then .dead else rowB (M.getD i [])
def encM (M : List (List Nat)) : List (List I) := M.map fun r => [.sl (r.map elN)]
theorem dRefs_zero (n : Nat) (M : List (List Nat)) : dRefs n M 0 = refs n n := by
  simp only [dRefs, refs]
  refine List.map_congr_left fun i _ => ?_
  rw [if_neg (by omega)]
theorem dRows_zero {n : Nat} {M : List (List Nat)} (h : M.length = n) : dRows n M 0 = M.map rowB := by
  refine List.ext_getElem (by simp [dRows, h]) fun i h1 h2 => ?_
  have : i < M.length := by simpa using h2
  simp [dRows, List.getD_eq_getElem?_getD, this]
theorem dRefs_full {n : Nat} {M : List (List Nat)} (h : M.length = n) : dRefs n M n = lift (encM M) := by
  refine List.ext_getElem (by simp [dRefs, lift, encM, h]) fun i h1 h2 => ?_
  have hn : i < n := by simpa [dRefs] using h1
  have : i < M.length := by omega
  simp [dRefs, lift, encM, List.getD_eq_getElem?_getD, this, hn]
theorem dat_lift (id ver : Nat) (is es : List (List I)) : (lift es).map (V.dat.datAll id ver is) = lift es := by
  simp only [lift, List.map_map]
  refine List.map_congr_left fun cs _ => ?_
  simp only [Function.comp]
  induction cs with
  | nil => rfl
  | cons c cs ih => simp [V.dat.datAll, V.dat, ih]
theorem dat_refs {n : Nat} {M : List (List Nat)} (hs : Sq n M) (j : Nat) (hj : j < n) : (dRefs n M j).map (V.dat.datAll (j + 16) 1 ((M.getD j []).map elN)) = dRefs n M (j + 1) := by
  simp only [dRefs, List.map_map]
  refine List.map_congr_left fun i hi => ?_
  have hi : i < n := by simpa using hi
  simp only [Function.comp]
  by_cases h1 : i < j
  · rw [if_pos h1, if_pos (by omega)]; rfl
  · rw [if_neg h1]
    by_cases h2 : i = j
    · subst h2
      rw [if_pos (by omega)]
      simp only [V.dat.datAll, V.dat, if_true, List.drop_zero]
      rw [List.take_of_length_le (by rw [List.length_map, hs.2 i hi]; exact Nat.le_refl _)]
    · rw [if_neg (by omega)]
      simp only [V.dat.datAll, V.dat]
      rw [if_neg (by omega)]
theorem dat_rows (n : Nat) (M : List (List Nat)) (j : Nat) (hj : j < n) (is : List (List I)) : ((dRows n M j).map (Ob.dat (j + 16) 1 is)).set j .dead = dRows n M (j + 1) := by
  refine List.ext_getElem (by simp [dRows]) fun i h1 h2 => ?_
  have hi : i < n := by simpa [dRows] using h2
  rw [List.getElem_set]
  simp only [dRows, List.getElem_map, List.getElem_range]
  by_cases h : j = i
  · subst h; rw [if_pos rfl, if_pos (by omega)]
  · rw [if_neg h]
    by_cases h3 : i < j
    · rw [if_pos h3, if_pos (by omega)]; rfl
    · rw [if_neg h3, if_neg (by omega)]
      simp only [rowB, Ob.dat, dat_lift]
def caEndS (n : Nat) : List V := mkS 96 [(2, .ref 1 1 0 n)]
theorem data_step (p : Pg) {n : Nat} {M : List (List Nat)} (hs : Sq n M) (j : Nat) (hj : j < n) : Le 0 ⟨caEndS n, tabG p 1 (dRefs n M j) (dRows n M j)⟩ ⟨caEndS n, tabG p 1 (dRefs n M (j + 1)) (dRows n M (j + 1))⟩ := by
  refine Le.data (j + 16) 1 1 ((M.getD j []).map elN) ?_ ?_ ?_
  · show (dRows n M j)[j]? = _
    simp [dRows, hj, rowB]
  · simp [leS, caEndS, mkS, V.dat]
  · rw [← dat_refs hs j hj, ← dat_rows n M j hj ((M.getD j []).map elN)]
    rfl
theorem data_all (p : Pg) {n : Nat} {M : List (List Nat)} (hs : Sq n M) : ∀ j, j ≤ n → Le 0 ⟨caEndS n, caTabB p n n (M.map rowB)⟩ ⟨caEndS n, tabG p 1 (dRefs n M j) (dRows n M j)⟩
  | 0, _ => by rw [dRefs_zero, dRows_zero hs.1]; exact Le.refl _ _
  | j + 1, h => (data_all p hs j (by omega)).trans (data_step p hs j (by omega))
theorem data_tab (p : Pg) {n : Nat} {M : List (List Nat)} (hs : Sq n M) : Le 0 ⟨caEndS n, caTabB p n n (M.map rowB)⟩ ⟨mkS 96 [(2, .i (.sl (encM M)))], ((tabG p 1 (lift (encM M)) (dRows n M n)).map (Ob.dat 1 1 (encM M))).set 1 .dead⟩ := by
  refine (data_all p hs n (Nat.le_refl _)).trans ?_
  rw [dRefs_full hs.1]
  refine Le.data 1 1 1 (encM M) rfl ?_ rfl
  have hl : (encM M).length = n := by rw [encM, List.length_map, hs.1]
  simp [leS, caEndS, mkS, V.dat]
  rw [List.take_of_length_le (by omega)]
set_option maxHeartbeats 2000000 in
theorem calls_i (p : Pg) (n f : Nat) (L : List Nd) (X : List Ob) (hn : n ≤ 1000) (hf : f < n) (hXl : X.length = f) (eL : (p.fs.map encF).getD (f : Int).toNat [] = encF L) (hfl : f < p.fs.length) (hLl : L.length ≤ 1000) (hLc : ∀ y ∈ L, y.1 = 7 → 0 ≤ y.2.1 ∧ y.2.1 < n) :
    W Tryd.prog G0 0 (.loop (lp Tryd.f64 1)) (fun e s' => e = .exit 2 ∧ s' = ⟨(mkS 96 [(1, .ptr 0 0 0 0), (3, .i (.int .i64 n)), (4, .ref 1 1 0 f), (5, .i (.int .i64 f)), (6, .ref (f + 16) 1 0 n)]), caTabB p n f (X ++ [rowB (rowL L (List.replicate n 0))])⟩)
      ⟨mkS 96 [(1, .ptr 0 0 0 0), (3, .i (.int .i64 n)), (4, .ref 1 1 0 f), (5, .i (.int .i64 f)), (6, .ref (f + 16) 1 0 n), (7, .i (.int .i64 0))], caTabB p n f (X ++ [rowB (List.replicate n 0)])⟩ := by
  refine W.weak (loop_ok (α := Nat) (fun i => ⟨mkS 96 [(1, .ptr 0 0 0 0), (3, .i (.int .i64 n)), (4, .ref 1 1 0 f), (5, .i (.int .i64 f)), (6, .ref (f + 16) 1 0 n), (7, .i (.int .i64 i))], caTabB p n f (X ++ [rowB (rowL (L.take i) (List.replicate n 0))])⟩)
    (fun i => i ≤ L.length) (fun i => L.length - i) 0 (Nat.zero_le _) (by rw [List.take_zero]; exact Le.refl _ _) (fun i hi => wpx_ok (own := own0) _ _ _ ?_))
  repeat ((conv => whnf); first | (refine Br.t ?_; try with_reducible refine told_in ?_) | (refine Br.f ?_; first | refine skip_f ?_ | skip) | refine ⟨rfl, ?_⟩ | refine fOs_in ?_)
  conv => whnf
  rw [eL]
  refine ⟨⟨by omega, by simp; omega, rfl⟩, ?_⟩
  repeat ((conv => whnf); first | (refine Br.t ?_; try with_reducible refine told_in ?_) | (refine Br.f ?_; first | refine skip_f ?_ | skip) | refine ⟨rfl, ?_⟩ | refine fOs_in ?_)
  conv => whnf
  refine Br.mk (fun g1 => ?_) (fun g1 => ?_)
  · have g1 : i < L.length := by simpa using g1
    obtain ⟨y, hy⟩ : ∃ y, y = L[i] := ⟨_, rfl⟩
    have hym : y ∈ L := hy ▸ List.getElem_mem g1
    have ey : (L.map encNd).getD (i : Int).toNat [] = encNd y := by rw [hy]; exact getD_enc g1
    have hyc := hLc y hym
    have et : L.take (i + 1) = L.take i ++ [y] := by rw [hy]; simp
    repeat ((conv => whnf); first | (refine Br.t ?_; try with_reducible refine told_in ?_) | (refine Br.f ?_; first | refine skip_f ?_ | skip) | refine ⟨rfl, ?_⟩ | refine fOs_in ?_)
    conv => whnf
    rw [eL]
    refine ⟨⟨by omega, by simp; omega, rfl⟩, ?_⟩
    repeat ((conv => whnf); first | (refine Br.t ?_; try with_reducible refine told_in ?_) | (refine Br.f ?_; first | refine skip_f ?_ | skip) | refine ⟨rfl, ?_⟩ | refine fOs_in ?_)
    conv => whnf
    rw [ey]
    refine ⟨⟨by omega, by simp; omega, rfl⟩, ?_⟩
    repeat ((conv => whnf); first | (refine Br.t ?_; try with_reducible refine told_in ?_) | (refine Br.f ?_; first | refine skip_f ?_ | skip) | refine ⟨rfl, ?_⟩ | refine fOs_in ?_)
    conv => whnf
    refine Br.mk (fun g7 => ?_) (fun g7 => ?_)
    · have g7 : y.1 = 7 := by simpa using g7
      obtain ⟨a1, a2⟩ := hyc g7
      repeat ((conv => whnf); first | (refine Br.t ?_; try with_reducible refine told_in ?_) | (refine Br.f ?_; first | refine skip_f ?_ | skip) | refine ⟨rfl, ?_⟩ | refine fOs_in ?_)
      conv => whnf
      rw [eL]
      refine ⟨⟨by omega, by simp; omega, rfl⟩, ?_⟩
      repeat ((conv => whnf); first | (refine Br.t ?_; try with_reducible refine told_in ?_) | (refine Br.f ?_; first | refine skip_f ?_ | skip) | refine ⟨rfl, ?_⟩ | refine fOs_in ?_)
      conv => whnf
      rw [ey]
      refine ⟨⟨by omega, by simp; omega, rfl⟩, ?_⟩
      repeat ((conv => whnf); first | (refine Br.t ?_; try with_reducible refine told_in ?_) | (refine Br.f ?_; first | refine skip_f ?_ | skip) | refine ⟨rfl, ?_⟩ | refine fOs_in ?_)
      conv => whnf
      have hXr : (X ++ [rowB (rowL (L.take i) (List.replicate n 0))])[f]? = some (rowB (rowL (L.take i) (List.replicate n 0))) := by
        rw [List.getElem?_append_right (by omega), hXl, Nat.sub_self]
        rfl
      have hr := (tab_get p n f (X ++ [rowB (rowL (L.take i) (List.replicate n 0))]) f).trans hXr
      have hst := tab_set p n f (X ++ [rowB (rowL (L.take i) (List.replicate n 0))]) f _ y.2.1.toNat hXr (by rw [rowL_len, List.length_replicate]; omega)
      rw [List.set_append_right _ _ (by omega), hXl, Nat.sub_self] at hst
      conv in (opA _ _ _ _ _) => tactic => exact op_ix hr rfl rfl rfl rfl rfl
      repeat ((conv => whnf); first | (refine Br.t ?_; try with_reducible refine told_in ?_) | (refine Br.f ?_; first | refine skip_f ?_ | skip) | refine ⟨rfl, ?_⟩ | refine fOs_in ?_)
      conv => whnf
      refine ⟨⟨by omega, by omega⟩, ?_⟩
      repeat ((conv => whnf); first | (refine Br.t ?_; try with_reducible refine told_in ?_) | (refine Br.f ?_; first | refine skip_f ?_ | skip) | refine ⟨rfl, ?_⟩ | refine fOs_in ?_)
      conv => whnf
      conv in (opA _ _ _ _ _) => tactic => exact op_store hr rfl rfl hst
      repeat ((conv => whnf); first | (refine Br.t ?_; try with_reducible refine told_in ?_) | (refine Br.f ?_; first | refine skip_f ?_ | skip) | refine ⟨rfl, ?_⟩ | refine fOs_in ?_)
      conv => whnf
      refine ⟨?_, ?_⟩
      · exact st_ok rfl rfl _ _ (by rw [rowL_len, List.length_replicate]; omega) _
      · repeat ((conv => whnf); first | (refine Br.t ?_; try with_reducible refine told_in ?_) | (refine Br.f ?_; first | refine skip_f ?_ | skip) | refine ⟨rfl, ?_⟩ | refine fOs_in ?_)
        conv => whnf
        refine ⟨i + 1, by omega, by omega, ?_⟩
        rw [et, rowL_snoc, if_pos g7]
        refine Le.slots ?_
        simp [leS, mkS]
        exact i64_id (by omega) (by omega)
    · have g7 : y.1 ≠ 7 := by simpa using g7
      repeat ((conv => whnf); first | (refine Br.t ?_; try with_reducible refine told_in ?_) | (refine Br.f ?_; first | refine skip_f ?_ | skip) | refine ⟨rfl, ?_⟩ | refine fOs_in ?_)
      conv => whnf
      refine ⟨i + 1, by omega, by omega, ?_⟩
      rw [et, rowL_snoc, if_neg g7]
      refine Le.slots ?_
      simp [leS, mkS]
      exact i64_id (by omega) (by omega)
  · have g1 : i = L.length := by simp at g1; omega
    subst g1
    repeat ((conv => whnf); first | (refine Br.t ?_; try with_reducible refine told_in ?_) | (refine Br.f ?_; first | refine skip_f ?_ | skip) | refine ⟨rfl, ?_⟩ | refine fOs_in ?_)
    conv => whnf
    rw [List.take_length]
    refine ⟨_, Le.slots ?_, rfl, rfl⟩
    simp [leS, mkS]
end Go.Proofs.YtdbmfnhbgacldaaDoor.Am

/- Contracts: the table of calls, its rows. -/
namespace Go.Proofs.YtdbmfnhbgacldaaDoor.Am
set_option autoImplicit false
set_option linter.unusedVariables false
set_option linter.unusedSimpArgs false
set_option maxRecDepth 10000
set_option pp.maxSteps 3000
set_option pp.proofs false
set_option maxHeartbeats 2000000 in
theorem calls_f (p : Pg) (hc : Calls0 p) (hn : p.fs.length ≤ 1000) (hw : ∀ f ∈ p.fs, f.length ≤ 1000) (n : Nat) (hnn : n = p.fs.length) :
    W Tryd.prog G0 0 (.loop (lp Tryd.f64 0)) (fun e s' => e = .exit 0 ∧ s' = ⟨mkS 96 [(3, .i (.int .i64 n)), (4, .ref 1 1 0 n)], caTabB p n n ((rows0 p).map rowB)⟩)
      ⟨mkS 96 [(1, .ptr 0 0 0 0), (3, .i (.int .i64 n)), (4, .ref 1 1 0 0), (5, .i (.int .i64 0))], caTabB p n 0 []⟩ := by
  refine W.weak (loop_ok (α := Nat) (fun f => ⟨mkS 96 [(1, .ptr 0 0 0 0), (3, .i (.int .i64 n)), (4, .ref 1 1 0 f), (5, .i (.int .i64 f))], caTabB p n f (((rows0 p).take f).map rowB)⟩)
    (fun f => f ≤ p.fs.length) (fun f => p.fs.length - f) 0 (Nat.zero_le _) (by rw [List.take_zero]; exact Le.refl _ _) (fun f hf => W.weak (wpx_ok (own := own0) _ _ _ ?_)))
  have hl : ((rows0 p).take f).length = f := by simp [rows0]; omega
  obtain ⟨X, hX⟩ : ∃ X, X = ((rows0 p).take f).map rowB := ⟨_, rfl⟩
  have hXl : X.length = f := by rw [hX, List.length_map, hl]
  rw [← hX]
  repeat ((conv => whnf); first | (refine Br.t ?_; try with_reducible refine told_in ?_) | (refine Br.f ?_; first | refine skip_f ?_ | skip) | refine ⟨rfl, ?_⟩ | refine fOs_in ?_)
  conv => whnf
  refine Br.mk (fun g => ?_) (fun g => ?_)
  · have g : f < n := by simpa using g
    obtain ⟨L, hL⟩ : ∃ L, L = p.fs[f] := ⟨_, rfl⟩
    have hLm : L ∈ p.fs := hL ▸ List.getElem_mem _
    have eL : (p.fs.map encF).getD (f : Int).toNat [] = encF L := by rw [hL]; exact getD_enc (by omega)
    have hLl := hw L hLm
    have hLc := hc L hLm
    rw [← hnn] at hLc
    repeat ((conv => whnf); first | (refine Br.t ?_; try with_reducible refine told_in ?_) | (refine Br.f ?_; first | refine skip_f ?_ | skip) | refine ⟨rfl, ?_⟩ | refine fOs_in ?_)
    conv => whnf
    refine ⟨⟨by omega, rfl, by show (8 : Int) * _ ≤ _; omega, by show _ ≤ (9223372036854775807 : Int); omega⟩, ?_⟩
    change fW (.ref (X.length + 16) 1 0 (n : Int).toNat) _
    rw [hXl, Int.toNat_natCast]
    repeat ((conv => whnf); first | (refine Br.t ?_; try with_reducible refine told_in ?_) | (refine Br.f ?_; first | refine skip_f ?_ | skip) | refine ⟨rfl, ?_⟩ | refine fOs_in ?_)
    conv => whnf
    have e0 : rowB (List.replicate n 0) = .row 1 1 false (List.replicate n [.i (.int .i64 0)]) := by
      simp [rowB, lift, elN]
    refine W.le (s' := ⟨mkS 96 [(1, .ptr 0 0 0 0), (3, .i (.int .i64 n)), (4, .ref 1 1 0 f), (5, .i (.int .i64 f)), (6, .ref (f + 16) 1 0 n), (7, .i (.int .i64 0))], caTabB p n f (X ++ [rowB (List.replicate n 0)])⟩) (by rw [e0]; exact Le.slots (by simp [leS, mkS])) ?_
    refine W.mono (calls_i p n f L X (by omega) g hXl eL (by omega) hLl hLc) ?_
    rintro e s' ⟨rfl, rfl⟩
    obtain ⟨r, hr⟩ : ∃ r, r = rowL L (List.replicate n 0) := ⟨_, rfl⟩
    rw [← hr]
    have hXr : (X ++ [rowB r])[f]? = some (rowB r) := by
      rw [List.getElem?_append_right (by omega), hXl, Nat.sub_self]
      rfl
    have hg := (tab_get p n f (X ++ [rowB r]) f).trans hXr
    repeat ((conv => whnf); first | (refine Br.t ?_; try with_reducible refine told_in ?_) | (refine Br.f ?_; first | refine skip_f ?_ | skip) | refine ⟨rfl, ?_⟩ | refine fOs_in ?_)
    conv => whnf
    conv in (opA _ _ _ _ _) => tactic => exact op_lit1 hg rfl rfl rfl rfl rfl
    repeat ((conv => whnf); first | (refine Br.t ?_; try with_reducible refine told_in ?_) | (refine Br.f ?_; first | refine skip_f ?_ | skip) | refine ⟨rfl, ?_⟩ | refine fOs_in ?_)
    conv => whnf
    have hsx : (caTabB p n f (X ++ [rowB r] ++ [.row 1 1 false [[.ref (f + 16) 1 0 n]]]))[(caTabB p n f (X ++ [rowB r])).length]? = some (.row 1 1 false [[.ref (f + 16) 1 0 n]]) := by
      show ((caTabB p n f (X ++ [rowB r])) ++ [Ob.row 1 1 false [[.ref (f + 16) 1 0 n]]])[_]? = _
      rw [List.getElem?_append_right (Nat.le_refl _), Nat.sub_self]; rfl
    conv in (opA _ _ _ _ _) => tactic => exact op_app1 hsx rfl rfl rfl rfl rfl rfl
    repeat ((conv => whnf); first | (refine Br.t ?_; try with_reducible refine told_in ?_) | (refine Br.f ?_; first | refine skip_f ?_ | skip) | refine ⟨rfl, ?_⟩ | refine fOs_in ?_)
    conv => whnf
    refine ⟨⟨fun cs hcs => ?_, (refs_len n f).symm, by show (f + 1) * 24 ≤ _; omega, len_mx (by omega)⟩, ?_⟩
    · simp only [List.mem_singleton] at hcs
      subst hcs
      have hgg : (caTabB p n f (X ++ [rowB r] ++ [.row 1 1 false [[.ref (f + 16) 1 0 n]]]))[f + 16]? = some (rowB r) := by
        show (X ++ [rowB r] ++ [Ob.row 1 1 false [[.ref (f + 16) 1 0 n]]])[f]? = _
        rw [List.getElem?_append_left (by simp; omega)]
        exact hXr
      show ((match (caTabB p n f (X ++ [rowB r] ++ [.row 1 1 false [[.ref (f + 16) 1 0 n]]]))[f + 16]? with | some (.row ver' _ _ _) => 1 == ver' | _ => false) && true) = true
      rw [hgg]
      rfl
    · repeat ((conv => whnf); first | (refine Br.t ?_; try with_reducible refine told_in ?_) | (refine Br.f ?_; first | refine skip_f ?_ | skip) | refine ⟨rfl, ?_⟩ | refine fOs_in ?_)
      conv => whnf
      have eY : X ++ [rowB r] = ((rows0 p).take (f + 1)).map rowB := by
        have h1 : f < (rows0 p).length := by simp [rows0]; omega
        have h2 : (rows0 p)[f] = r := by
          rw [hr, hL]
          simp [rows0, hnn]
        rw [List.take_succ_eq_append_getElem h1, List.map_append, ← hX, h2]
        rfl
      refine ⟨_, Le.refl _ _, f + 1, by omega, by omega, Le.back (fun id => if id = 1 then 1 else 0) (by intro id hid; simp at hid) (by simp) ?_ ?_ ?_ ?_⟩
      · simp [mkS, V.cl.clAll, V.cl, tab_len]
      · exact tab_cl p n _ _ (by simp [rows0]; omega)
      · simp [leS, mkS, V.up]
        exact i64_id (by omega) (by omega)
      · have e1 : refs n f ++ [[.ref (f + 16) 1 0 n]] = (refs n (f + 1)).map (V.up.upAll (fun id => if id = 1 then 1 else 0)) := by
          rw [up_refs _ _ _ (fun j hj => if_neg (by omega)), refs_snoc]
        have e2 : ∀ (rs : List (List Nat)) (o : Ob), List.take (rs.map rowB).length (rs.map rowB ++ [o]) = upSt (fun id => if id = 1 then 1 else 0) 16 (rs.map rowB) := fun rs o => by
          rw [up_rows _ _ (fun j hj => if_neg (by omega)), List.take_left]
        rw [eY]
        show tabG p 2 (refs n f ++ [[.ref (f + 16) 1 0 n]]) (List.take (((rows0 p).take (f + 1)).map rowB).length (((rows0 p).take (f + 1)).map rowB ++ [Ob.row 1 1 false [[.ref (f + 16) 1 0 n]]])) = tabG p 2 ((refs n (f + 1)).map (V.up.upAll (fun id => if id = 1 then 1 else 0))) (upSt (fun id => if id = 1 then 1 else 0) 16 (((rows0 p).take (f + 1)).map rowB))
        rw [e1, e2]
  · have g : f = p.fs.length := by simp at g; omega
    subst g
    have hall : (rows0 p).take p.fs.length = rows0 p := List.take_of_length_le (by simp [rows0])
    rw [hall] at hX
    repeat ((conv => whnf); first | (refine Br.t ?_; try with_reducible refine told_in ?_) | (refine Br.f ?_; first | refine skip_f ?_ | skip) | refine ⟨rfl, ?_⟩ | refine fOs_in ?_)
    conv => whnf
    refine ⟨⟨mkS 96 [(3, .i (.int .i64 n)), (4, .ref 1 1 0 n)], caTabB p n n X⟩, by rw [← hnn]; exact Le.slots (by simp [leS, mkS]), ?_⟩
    exact ⟨_, Le.refl _ _, rfl, by rw [hX]⟩
end Go.Proofs.YtdbmfnhbgacldaaDoor.Am

/- Contracts: the table of calls, in full. -/
namespace Go.Proofs.YtdbmfnhbgacldaaDoor.Am
set_option autoImplicit false
set_option linter.unusedVariables false
set_option linter.unusedSimpArgs false
set_option maxRecDepth 10000
set_option pp.maxSteps 3000
set_option pp.proofs false
set_option maxHeartbeats 2000000 in
theorem calls_b (p : Pg) (n k a : Nat) (M1 : List (List Nat)) (hn : n ≤ 1000) (g1 : k < n) (g2 : a < n) (hs : Sq n M1) :
    W Tryd.prog G0 0 (.loop (lp Tryd.f64 4)) (fun e s' => e = .exit 8 ∧ Sq n (stepA n k M1 a) ∧ s' = ⟨mkS 96 [(3, .i (.int .i64 n)), (4, .ref 1 1 0 n), (8, .i (.int .i64 k)), (9, .i (.int .i64 a))], caTabB p n n ((stepA n k M1 a).map rowB)⟩)
      ⟨mkS 96 [(3, .i (.int .i64 n)), (4, .ref 1 1 0 n), (8, .i (.int .i64 k)), (9, .i (.int .i64 a)), (10, .i (.int .i64 0))], caTabB p n n (M1.map rowB)⟩ := by
  refine W.weak (loop_ok (α := Nat) (fun b => ⟨mkS 96 [(3, .i (.int .i64 n)), (4, .ref 1 1 0 n), (8, .i (.int .i64 k)), (9, .i (.int .i64 a)), (10, .i (.int .i64 b))], caTabB p n n (((List.range b).foldl (stepB k a) M1).map rowB)⟩)
    (fun b => b ≤ n ∧ Sq n ((List.range b).foldl (stepB k a) M1)) (fun b => n - b) 0 ⟨Nat.zero_le _, hs⟩ (Le.refl _ _) (fun b hb => wpx_ok (own := own0) _ _ _ ?_))
  obtain ⟨hb1, hb2⟩ := hb
  obtain ⟨M2, hM2⟩ : ∃ M2, M2 = (List.range b).foldl (stepB k a) M1 := ⟨_, rfl⟩
  rw [← hM2] at hb2 ⊢
  repeat ((conv => whnf); first | (refine Br.t ?_; try with_reducible refine told_in ?_) | (refine Br.f ?_; first | refine skip_f ?_ | skip) | refine ⟨rfl, ?_⟩ | refine fOs_in ?_)
  conv => whnf
  refine Br.mk (fun g3 => ?_) (fun g3 => ?_)
  · have g3 : b < n := by simpa using g3
    have hsq := hb2.stepB g2 k b
    have hla := hb2.2 a g2
    have hlk := hb2.2 k g1
    have hga := (tab_get p n n (M2.map rowB) a).trans (map_get M2 a (by rw [hb2.1]; exact g2))
    have hgk := (tab_get p n n (M2.map rowB) k).trans (map_get M2 k (by rw [hb2.1]; exact g1))
    obtain ⟨X, hX2⟩ : ∃ X, X = M2.map rowB := ⟨_, rfl⟩
    rw [← hX2] at hga hgk
    rw [← hX2]
    repeat ((conv => whnf); first | (refine Br.t ?_; try with_reducible refine told_in ?_) | (refine Br.f ?_; first | refine skip_f ?_ | skip) | refine ⟨rfl, ?_⟩ | refine fOs_in ?_)
    conv => whnf
    refine ⟨⟨by omega, by omega⟩, ?_⟩
    repeat ((conv => whnf); first | (refine Br.t ?_; try with_reducible refine told_in ?_) | (refine Br.f ?_; first | refine skip_f ?_ | skip) | refine ⟨rfl, ?_⟩ | refine fOs_in ?_)
    conv => whnf
    rw [refs_get n n a (by omega)]
    repeat ((conv => whnf); first | (refine Br.t ?_; try with_reducible refine told_in ?_) | (refine Br.f ?_; first | refine skip_f ?_ | skip) | refine ⟨rfl, ?_⟩ | refine fOs_in ?_)
    conv => whnf
    obtain ⟨v1, hv1⟩ : ∃ v, v = cell M2 a k := ⟨_, rfl⟩
    obtain ⟨v2, hv2⟩ : ∃ v, v = cell M2 k b := ⟨_, rfl⟩
    conv in (opA _ _ _ _ _) => tactic => exact op_ix hga rfl rfl rfl rfl rfl
    repeat ((conv => whnf); first | (refine Br.t ?_; try with_reducible refine told_in ?_) | (refine Br.f ?_; first | refine skip_f ?_ | skip) | refine ⟨rfl, ?_⟩ | refine fOs_in ?_)
    conv => whnf
    refine ⟨⟨by omega, by omega⟩, ?_⟩
    repeat ((conv => whnf); first | (refine Br.t ?_; try with_reducible refine told_in ?_) | (refine Br.f ?_; first | refine skip_f ?_ | skip) | refine ⟨rfl, ?_⟩ | refine fOs_in ?_)
    conv => whnf
    conv in (opA _ _ _ _ _) => tactic => exact op_load (v := .i (.int .i64 (v1 : Nat))) hga rfl rfl (by rw [cell_get M2 a k (by omega), ← hv1]; rfl)
    repeat ((conv => whnf); first | (refine Br.t ?_; try with_reducible refine told_in ?_) | (refine Br.f ?_; first | refine skip_f ?_ | skip) | refine ⟨rfl, ?_⟩ | refine fOs_in ?_)
    conv => whnf
    refine ⟨by rw [cell_get M2 a k (by omega)]; rfl, ?_⟩
    repeat ((conv => whnf); first | (refine Br.t ?_; try with_reducible refine told_in ?_) | (refine Br.f ?_; first | refine skip_f ?_ | skip) | refine ⟨rfl, ?_⟩ | refine fOs_in ?_)
    conv => whnf
    refine Br.mk (fun c1 => told_in ?_) (fun c1 => skip_f ?_)
    · have c1 : cell M2 a k = 1 := by rw [← hv1]; simp at c1; omega
      repeat ((conv => whnf); first | (refine Br.t ?_; try with_reducible refine told_in ?_) | (refine Br.f ?_; first | refine skip_f ?_ | skip) | refine ⟨rfl, ?_⟩ | refine fOs_in ?_)
      conv => whnf
      refine ⟨⟨by omega, by omega⟩, ?_⟩
      repeat ((conv => whnf); first | (refine Br.t ?_; try with_reducible refine told_in ?_) | (refine Br.f ?_; first | refine skip_f ?_ | skip) | refine ⟨rfl, ?_⟩ | refine fOs_in ?_)
      conv => whnf
      rw [refs_get n n k (by omega)]
      repeat ((conv => whnf); first | (refine Br.t ?_; try with_reducible refine told_in ?_) | (refine Br.f ?_; first | refine skip_f ?_ | skip) | refine ⟨rfl, ?_⟩ | refine fOs_in ?_)
      conv => whnf
      conv in (opA _ _ _ _ _) => tactic => exact op_ix hgk rfl rfl rfl rfl rfl
      repeat ((conv => whnf); first | (refine Br.t ?_; try with_reducible refine told_in ?_) | (refine Br.f ?_; first | refine skip_f ?_ | skip) | refine ⟨rfl, ?_⟩ | refine fOs_in ?_)
      conv => whnf
      refine ⟨⟨by omega, by omega⟩, ?_⟩
      repeat ((conv => whnf); first | (refine Br.t ?_; try with_reducible refine told_in ?_) | (refine Br.f ?_; first | refine skip_f ?_ | skip) | refine ⟨rfl, ?_⟩ | refine fOs_in ?_)
      conv => whnf
      conv in (opA _ _ _ _ _) => tactic => exact op_load (v := .i (.int .i64 (v2 : Nat))) hgk rfl rfl (by rw [cell_get M2 k b (by omega), ← hv2]; rfl)
      repeat ((conv => whnf); first | (refine Br.t ?_; try with_reducible refine told_in ?_) | (refine Br.f ?_; first | refine skip_f ?_ | skip) | refine ⟨rfl, ?_⟩ | refine fOs_in ?_)
      conv => whnf
      refine ⟨by rw [cell_get M2 k b (by omega)]; rfl, ?_⟩
      repeat ((conv => whnf); first | (refine Br.t ?_; try with_reducible refine told_in ?_) | (refine Br.f ?_; first | refine skip_f ?_ | skip) | refine ⟨rfl, ?_⟩ | refine fOs_in ?_)
      conv => whnf
      refine Br.mk (fun c2 => ?_) (fun c2 => ?_)
      · have c2 : cell M2 k b = 1 := by rw [← hv2]; simp at c2; omega
        have hst := tab_set p n n X a (M2.getD a []) b (by rw [hX2]; exact map_get M2 a (by rw [hb2.1]; exact g2)) (by omega)
        rw [hX2, set_rows, ← hX2] at hst
        repeat ((conv => whnf); first | (refine Br.t ?_; try with_reducible refine told_in ?_) | (refine Br.f ?_; first | refine skip_f ?_ | skip) | refine ⟨rfl, ?_⟩ | refine fOs_in ?_)
        conv => whnf
        refine ⟨⟨by omega, by omega⟩, ?_⟩
        repeat ((conv => whnf); first | (refine Br.t ?_; try with_reducible refine told_in ?_) | (refine Br.f ?_; first | refine skip_f ?_ | skip) | refine ⟨rfl, ?_⟩ | refine fOs_in ?_)
        conv => whnf
        rw [refs_get n n a (by omega)]
        repeat ((conv => whnf); first | (refine Br.t ?_; try with_reducible refine told_in ?_) | (refine Br.f ?_; first | refine skip_f ?_ | skip) | refine ⟨rfl, ?_⟩ | refine fOs_in ?_)
        conv => whnf
        conv in (opA _ _ _ _ _) => tactic => exact op_ix hga rfl rfl rfl rfl rfl
        repeat ((conv => whnf); first | (refine Br.t ?_; try with_reducible refine told_in ?_) | (refine Br.f ?_; first | refine skip_f ?_ | skip) | refine ⟨rfl, ?_⟩ | refine fOs_in ?_)
        conv => whnf
        refine ⟨⟨by omega, by omega⟩, ?_⟩
        repeat ((conv => whnf); first | (refine Br.t ?_; try with_reducible refine told_in ?_) | (refine Br.f ?_; first | refine skip_f ?_ | skip) | refine ⟨rfl, ?_⟩ | refine fOs_in ?_)
        conv => whnf
        conv in (opA _ _ _ _ _) => tactic => exact op_store hga rfl rfl hst
        repeat ((conv => whnf); first | (refine Br.t ?_; try with_reducible refine told_in ?_) | (refine Br.f ?_; first | refine skip_f ?_ | skip) | refine ⟨rfl, ?_⟩ | refine fOs_in ?_)
        conv => whnf
        refine ⟨st_ok rfl rfl _ _ (by omega) _, ?_⟩
        repeat ((conv => whnf); first | (refine Br.t ?_; try with_reducible refine told_in ?_) | (refine Br.f ?_; first | refine skip_f ?_ | skip) | refine ⟨rfl, ?_⟩ | refine fOs_in ?_)
        conv => whnf
        refine ⟨b + 1, ⟨by omega, ?_⟩, by omega, ?_⟩
        · rw [fold_succ, ← hM2]; exact hsq
        · rw [fold_succ, ← hM2]
          unfold stepB
          rw [if_pos ⟨c1, c2⟩]
          refine Le.slots ?_
          simp [leS, mkS]
          exact i64_id (by omega) (by omega)
      · have c2 : ¬ cell M2 k b = 1 := by rw [← hv2]; simp at c2; omega
        repeat ((conv => whnf); first | (refine Br.t ?_; try with_reducible refine told_in ?_) | (refine Br.f ?_; first | refine skip_f ?_ | skip) | refine ⟨rfl, ?_⟩ | refine fOs_in ?_)
        conv => whnf
        refine ⟨b + 1, ⟨by omega, ?_⟩, by omega, ?_⟩
        · rw [fold_succ, ← hM2]; exact hsq
        · rw [fold_succ, ← hM2]
          unfold stepB
          rw [if_neg (fun h => c2 h.2), ← hX2]
          refine Le.slots ?_
          simp [leS, mkS]
          exact i64_id (by omega) (by omega)
    · have c1 : ¬ cell M2 a k = 1 := by rw [← hv1]; simp at c1; omega
      repeat ((conv => whnf); first | (refine Br.t ?_; try with_reducible refine told_in ?_) | (refine Br.f ?_; first | refine skip_f ?_ | skip) | refine ⟨rfl, ?_⟩ | refine fOs_in ?_)
      conv => whnf
      refine ⟨b + 1, ⟨by omega, ?_⟩, by omega, ?_⟩
      · rw [fold_succ, ← hM2]; exact hsq
      · rw [fold_succ, ← hM2]
        unfold stepB
        rw [if_neg (fun h => c1 h.1), ← hX2]
        refine Le.slots ?_
        simp [leS, mkS]
        exact i64_id (by omega) (by omega)
  · have g3 : b = n := by simp at g3; omega
    subst g3
    repeat ((conv => whnf); first | (refine Br.t ?_; try with_reducible refine told_in ?_) | (refine Br.f ?_; first | refine skip_f ?_ | skip) | refine ⟨rfl, ?_⟩ | refine fOs_in ?_)
    conv => whnf
    have e2 : M2 = stepA b k M1 a := hM2
    rw [← e2]
    refine ⟨⟨mkS 96 [(3, .i (.int .i64 b)), (4, .ref 1 1 0 b), (8, .i (.int .i64 k)), (9, .i (.int .i64 a))], caTabB p b b (M2.map rowB)⟩, ?_, rfl, hb2, rfl⟩
    rw [hM2]
    exact Le.slots (by simp [leS, mkS])
set_option maxHeartbeats 2000000 in
theorem calls_a (p : Pg) (n k : Nat) (M : List (List Nat)) (hn : n ≤ 1000) (g1 : k < n) (hs : Sq n M) :
    W Tryd.prog G0 0 (.loop (lp Tryd.f64 3)) (fun e s' => e = .exit 6 ∧ Sq n (stepK n M k) ∧ s' = ⟨mkS 96 [(3, .i (.int .i64 n)), (4, .ref 1 1 0 n), (8, .i (.int .i64 k))], caTabB p n n ((stepK n M k).map rowB)⟩)
      ⟨mkS 96 [(3, .i (.int .i64 n)), (4, .ref 1 1 0 n), (8, .i (.int .i64 k)), (9, .i (.int .i64 0))], caTabB p n n (M.map rowB)⟩ := by
  refine W.weak (loop_ok (α := Nat) (fun a => ⟨mkS 96 [(3, .i (.int .i64 n)), (4, .ref 1 1 0 n), (8, .i (.int .i64 k)), (9, .i (.int .i64 a))], caTabB p n n (((List.range a).foldl (stepA n k) M).map rowB)⟩)
    (fun a => a ≤ n ∧ Sq n ((List.range a).foldl (stepA n k) M)) (fun a => n - a) 0 ⟨Nat.zero_le _, hs⟩ (Le.refl _ _) (fun a ha => wpx_ok (own := own0) _ _ _ ?_))
  obtain ⟨ha1, ha2⟩ := ha
  obtain ⟨M1, hM1⟩ : ∃ M1, M1 = (List.range a).foldl (stepA n k) M := ⟨_, rfl⟩
  rw [← hM1] at ha2 ⊢
  repeat ((conv => whnf); first | (refine Br.t ?_; try with_reducible refine told_in ?_) | (refine Br.f ?_; first | refine skip_f ?_ | skip) | refine ⟨rfl, ?_⟩ | refine fOs_in ?_)
  conv => whnf
  refine Br.mk (fun g2 => ?_) (fun g2 => ?_)
  · have g2 : a < n := by simpa using g2
    repeat ((conv => whnf); first | (refine Br.t ?_; try with_reducible refine told_in ?_) | (refine Br.f ?_; first | refine skip_f ?_ | skip) | refine ⟨rfl, ?_⟩ | refine fOs_in ?_)
    conv => whnf
    refine W.le (Le.slots (sl' := mkS 96 [(3, .i (.int .i64 n)), (4, .ref 1 1 0 n), (8, .i (.int .i64 k)), (9, .i (.int .i64 a)), (10, .i (.int .i64 0))]) (by simp [leS, mkS])) (W.mono (calls_b p n k a M1 hn g1 g2 ha2) ?_)
    rintro e s' ⟨rfl, hq, rfl⟩
    repeat ((conv => whnf); first | (refine Br.t ?_; try with_reducible refine told_in ?_) | (refine Br.f ?_; first | refine skip_f ?_ | skip) | refine ⟨rfl, ?_⟩ | refine fOs_in ?_)
    conv => whnf
    refine ⟨a + 1, ⟨by omega, ?_⟩, by omega, ?_⟩
    · rw [fold_succ, ← hM1]; exact hq
    · rw [fold_succ, ← hM1]
      refine Le.slots ?_
      simp [leS, mkS]
      exact i64_id (by omega) (by omega)
  · have g2 : a = n := by simp at g2; omega
    subst g2
    repeat ((conv => whnf); first | (refine Br.t ?_; try with_reducible refine told_in ?_) | (refine Br.f ?_; first | refine skip_f ?_ | skip) | refine ⟨rfl, ?_⟩ | refine fOs_in ?_)
    conv => whnf
    have e2 : M1 = stepK a M k := hM1
    rw [← e2]
    refine ⟨⟨mkS 96 [(3, .i (.int .i64 a)), (4, .ref 1 1 0 a), (8, .i (.int .i64 k))], caTabB p a a (M1.map rowB)⟩, ?_, rfl, ha2, rfl⟩
    rw [hM1]
    exact Le.slots (by simp [leS, mkS])
set_option maxHeartbeats 2000000 in
theorem calls_k (p : Pg) (n : Nat) (hn : n ≤ 1000) (hnn : n = p.fs.length) :
    W Tryd.prog G0 0 (.loop (lp Tryd.f64 2)) (fun e s' => e = .exit 4 ∧ Sq n (mat p) ∧ s' = ⟨mkS 96 [(3, .i (.int .i64 n)), (4, .ref 1 1 0 n)], caTabB p n n ((mat p).map rowB)⟩)
      ⟨mkS 96 [(3, .i (.int .i64 n)), (4, .ref 1 1 0 n), (8, .i (.int .i64 0))], caTabB p n n ((rows0 p).map rowB)⟩ := by
  refine W.weak (loop_ok (α := Nat) (fun k => ⟨mkS 96 [(3, .i (.int .i64 n)), (4, .ref 1 1 0 n), (8, .i (.int .i64 k))], caTabB p n n (((List.range k).foldl (stepK n) (rows0 p)).map rowB)⟩)
    (fun k => k ≤ n ∧ Sq n ((List.range k).foldl (stepK n) (rows0 p))) (fun k => n - k) 0 ⟨Nat.zero_le _, by rw [hnn]; exact rows0_sq p⟩ (Le.refl _ _) (fun k hk => wpx_ok (own := own0) _ _ _ ?_))
  obtain ⟨hk1, hk2⟩ := hk
  obtain ⟨M, hM⟩ : ∃ M, M = (List.range k).foldl (stepK n) (rows0 p) := ⟨_, rfl⟩
  rw [← hM] at hk2 ⊢
  repeat ((conv => whnf); first | (refine Br.t ?_; try with_reducible refine told_in ?_) | (refine Br.f ?_; first | refine skip_f ?_ | skip) | refine ⟨rfl, ?_⟩ | refine fOs_in ?_)
  conv => whnf
  refine Br.mk (fun g1 => ?_) (fun g1 => ?_)
  · have g1 : k < n := by simpa using g1
    repeat ((conv => whnf); first | (refine Br.t ?_; try with_reducible refine told_in ?_) | (refine Br.f ?_; first | refine skip_f ?_ | skip) | refine ⟨rfl, ?_⟩ | refine fOs_in ?_)
    conv => whnf
    refine W.le (Le.slots (sl' := mkS 96 [(3, .i (.int .i64 n)), (4, .ref 1 1 0 n), (8, .i (.int .i64 k)), (9, .i (.int .i64 0))]) (by simp [leS, mkS])) (W.mono (calls_a p n k M hn g1 hk2) ?_)
    rintro e s' ⟨rfl, hq, rfl⟩
    repeat ((conv => whnf); first | (refine Br.t ?_; try with_reducible refine told_in ?_) | (refine Br.f ?_; first | refine skip_f ?_ | skip) | refine ⟨rfl, ?_⟩ | refine fOs_in ?_)
    conv => whnf
    refine ⟨k + 1, ⟨by omega, ?_⟩, by omega, ?_⟩
    · rw [fold_succ, ← hM]; exact hq
    · rw [fold_succ, ← hM]
      refine Le.slots ?_
      simp [leS, mkS]
      exact i64_id (by omega) (by omega)
  · have g1 : k = n := by simp at g1; omega
    have hMm : M = mat p := by rw [hM, g1, hnn]; rfl
    subst g1
    repeat ((conv => whnf); first | (refine Br.t ?_; try with_reducible refine told_in ?_) | (refine Br.f ?_; first | refine skip_f ?_ | skip) | refine ⟨rfl, ?_⟩ | refine fOs_in ?_)
    conv => whnf
    rw [← hMm]
    refine ⟨⟨mkS 96 [(3, .i (.int .i64 k)), (4, .ref 1 1 0 k)], caTabB p k k (M.map rowB)⟩, ?_, rfl, hk2, rfl⟩
    rw [hM]
    exact Le.slots (by simp [leS, mkS])
set_option maxHeartbeats 2000000 in
theorem refcalls (p : Pg) (hc : Calls0 p) (hn : p.fs.length ≤ 1000) (hw : ∀ f ∈ p.fs, f.length ≤ 1000) : CallW Tryd.prog G0 64 [pgV p] [] (fun r st' => r = .i (.sl (encM (mat p))) ∧ st' = []) := by
  refine call_of_bodyF 0 (Nat.le_refl _) Tryd.func64 rfl (fun a w => Tryd.call64 a w) (W.weak (wpx_ok (own := own0) _ _ _ ?_))
  obtain ⟨n, hnn⟩ : ∃ n, n = p.fs.length := ⟨_, rfl⟩
  repeat ((conv => whnf); first | (refine Br.t ?_; try with_reducible refine told_in ?_) | (refine Br.f ?_; first | refine skip_f ?_ | skip) | refine ⟨rfl, ?_⟩ | refine fOs_in ?_)
  conv => whnf
  refine W.le (s' := ⟨mkS 96 [(1, .ptr 0 0 0 0), (3, .i (.int .i64 n)), (4, .ref 1 1 0 0), (5, .i (.int .i64 0))], caTabB p n 0 []⟩) ((Le.nil (n := 0) 4 1 rfl).trans ((Le.pads 14).trans (Le.slots (by simp [leS, mkS, hnn])))) (W.mono (calls_f p hc hn hw n hnn) ?_)
  rintro e s' ⟨rfl, rfl⟩
  repeat ((conv => whnf); first | (refine Br.t ?_; try with_reducible refine told_in ?_) | (refine Br.f ?_; first | refine skip_f ?_ | skip) | refine ⟨rfl, ?_⟩ | refine fOs_in ?_)
  conv => whnf
  refine W.le (Le.slots (sl' := mkS 96 [(3, .i (.int .i64 n)), (4, .ref 1 1 0 n), (8, .i (.int .i64 0))]) (by simp [leS, mkS])) (W.mono (calls_k p n (by omega) hnn) ?_)
  rintro e s' ⟨rfl, hq, rfl⟩
  repeat ((conv => whnf); first | (refine Br.t ?_; try with_reducible refine told_in ?_) | (refine Br.f ?_; first | refine skip_f ?_ | skip) | refine ⟨rfl, ?_⟩ | refine fOs_in ?_)
  conv => whnf
  refine ⟨_, (Le.slots (sl' := caEndS n) (by simp [leS, mkS, caEndS])).trans (data_tab p hq), ?_⟩
  repeat ((conv => whnf); first | (refine Br.t ?_; try with_reducible refine told_in ?_) | (refine Br.f ?_; first | refine skip_f ?_ | skip) | refine ⟨rfl, ?_⟩ | refine fOs_in ?_)
  conv => whnf
  refine fin (target := []) rfl (Nat.zero_le _) (by simp) rfl rfl
end Go.Proofs.YtdbmfnhbgacldaaDoor.Am

/- Contracts: the document's word on what is wrong with a program first is the program's. -/
namespace Go.Proofs.YtdbmfnhbgacldaaDoor.Am
set_option autoImplicit false
set_option linter.unusedVariables false
set_option linter.unusedSimpArgs false
set_option maxRecDepth 10000
set_option pp.maxSteps 3000
set_option pp.proofs false
def rndMN (p : Pg) (f : Nat) : Nat → List Nd → Option Nat
  | _, [] => none
  | i, n :: r => if n.1 = 7 ∧ (n.2.1 = (f : Int) ∨ cell (mat p) n.2.1.toNat f = 1) then some i else rndMN p f (i + 1) r
def rndM (p : Pg) : Nat → List (List Nd) → Option (Nat × Nat)
  | _, [] => none
  | f, l :: r => match rndMN p f 0 l with
    | some i => some (f, i)
    | none => rndM p (f + 1) r
theorem rndMN_eq {p : Pg} (hc : Calls0 p) {f : Nat} (hf : f < p.fs.length) : ∀ (i : Nat) (l : List Nd), (∀ n ∈ l, n.1 = 7 → 0 ≤ n.2.1 ∧ n.2.1 < p.fs.length) → rndMN p f i l = rndN p f i l
  | i, [], _ => rfl
  | i, n :: r, h => by
    have ih := rndMN_eq hc hf (i + 1) r (fun m hm => h m (List.mem_cons_of_mem _ hm))
    rw [rndMN, rndN, ih]
    by_cases h7 : n.1 = 7
    · obtain ⟨a1, a2⟩ := h n List.mem_cons_self h7
      have hr := reach hc f n.2.1.toNat (by omega)
      have hm := (mat_on hc).2 n.2.1.toNat f (by omega) hf
      have e : (n.1 = 7 ∧ (n.2.1 = (f : Int) ∨ cell (mat p) n.2.1.toNat f = 1)) ↔ (n.1 = 7 ∧ (dfs p.fs f (p.fs.length + 1) n.2.1.toNat (List.replicate p.fs.length false)).1 = true) := by
        rw [hr, ← hm]
        unfold on
        constructor
        · rintro ⟨_, h | h⟩
          · exact ⟨h7, .inl (by omega)⟩
          · exact ⟨h7, .inr h⟩
        · rintro ⟨_, h | h⟩
          · exact ⟨h7, .inl (by omega)⟩
          · exact ⟨h7, .inr h⟩
      simp only [e]
    · rw [if_neg (fun h => h7 h.1), if_neg (fun h => h7 h.1)]
theorem rndM_eq {p : Pg} (hc : Calls0 p) : ∀ (f : Nat) (l : List (List Nd)), f + l.length = p.fs.length → (∀ L ∈ l, L ∈ p.fs) → rndM p f l = rndF p f l
  | f, [], _, _ => rfl
  | f, L :: r, hl, hm => by
    simp only [List.length_cons] at hl
    rw [rndM, rndF, rndMN_eq hc (by omega) 0 L (hc L (hm L List.mem_cons_self)), rndM_eq hc (f + 1) r (by omega) (fun L hL => hm L (List.mem_cons_of_mem _ hL))]
    try rfl
def rcS (n : Nat) (l : List (Nat × V)) : List V := mkS 146 ([(1, .ptr 0 0 0 0), (5, .i (.int .i64 n))] ++ l)
theorem encM_get {M : List (List Nat)} {a : Nat} (h : a < M.length) : (encM M).getD (a : Int).toNat [] = [.sl ((M.getD a []).map elN)] := by
  rw [Int.toNat_natCast, encM]
  simp [List.getD_eq_getElem?_getD, h]
theorem row_get {r : List Nat} {b : Nat} (h : b < r.length) : (r.map elN).getD (b : Int).toNat [] = [.int .i64 (r.getD b 0 : Nat)] := by
  rw [Int.toNat_natCast]
  simp [List.getD_eq_getElem?_getD, h, elN]
/-- the nodes' turn -/
theorem rc_node (p : Pg) (f : Nat) (L : List Nd) (hf : f < p.fs.length) (hfl : p.fs.length ≤ 16) (eL : (p.fs.map encF).getD (f : Int).toNat [] = encF L) (hLl : L.length ≤ 64) (Q : Exit → S → Prop)
    (hbad : ∀ i, i < L.length → badN p L.length 0 L = some i → Q .ret ⟨rcS p.fs.length [(2, .i (.int .i64 f)), (3, .i (.int .i64 i)), (4, .i (.int .i64 3))], [pgB p]⟩)
    (hok : badN p L.length 0 L = none → Q (.exit 2) ⟨rcS p.fs.length [(6, .i (.int .i64 f))], [pgB p]⟩) :
    W Tryd.prog G0 0 (.loop (lp Tryd.f40 1)) Q ⟨rcS p.fs.length [(6, .i (.int .i64 f)), (7, .i (.int .i64 0))], [pgB p]⟩ := by
  refine W.weak (loop_ok (α := Nat) (fun i => ⟨rcS p.fs.length [(6, .i (.int .i64 f)), (7, .i (.int .i64 i))], [pgB p]⟩)
    (fun i => i ≤ L.length ∧ badN p L.length i (L.drop i) = badN p L.length 0 L) (fun i => L.length - i) 0 ⟨Nat.zero_le _, rfl⟩ (Le.refl _ _) (fun i hi => wpx_ok (own := own0) _ _ _ ?_))
  obtain ⟨h3, h4⟩ := hi
  repeat ((conv => whnf); first | refine Br.t ?_ | refine Br.f ?_ | refine ⟨rfl, ?_⟩)
  conv => whnf
  rw [eL]
  refine ⟨⟨by omega, by simp; omega, rfl⟩, ?_⟩
  repeat ((conv => whnf); first | refine Br.t ?_ | refine Br.f ?_ | refine ⟨rfl, ?_⟩)
  conv => whnf
  refine Br.mk (fun g1 => ?_) (fun g1 => ?_)
  · have g1 : i < L.length := by simpa using g1
    obtain ⟨x, hx⟩ : ∃ x, x = L[i] := ⟨_, rfl⟩
    have ex : (L.map encNd).getD (i : Int).toNat [] = encNd x := by rw [hx]; exact getD_enc g1
    have exd : L.drop i = x :: L.drop (i + 1) := by rw [hx]; exact List.drop_eq_getElem_cons g1
    rw [exd, badN] at h4
    obtain ⟨q, hq⟩ : ∃ q, mayF p x L.length = q := ⟨_, rfl⟩
    have cm := refmay p x (((L.map encNd).length : Nat) : Int)
    rw [List.length_map, hq] at cm
    refine draw_ok (own := own0) [] [] [(.i (.bool q), [pgB p])] rfl (by kernel_rfl) (Nat.zero_le _) ?_
    repeat ((conv => whnf); first | refine Br.t ?_ | refine Br.f ?_ | refine ⟨rfl, ?_⟩)
    conv => whnf
    rw [eL]
    refine ⟨⟨by omega, by simp; omega, rfl⟩, ?_⟩
    repeat ((conv => whnf); first | refine Br.t ?_ | refine Br.f ?_ | refine ⟨rfl, ?_⟩)
    conv => whnf
    rw [ex]
    refine ⟨⟨by omega, by simp; omega, rfl⟩, ?_⟩
    repeat ((conv => whnf); first | refine Br.t ?_ | refine Br.f ?_ | refine ⟨rfl, ?_⟩)
    conv => whnf
    rw [eL]
    refine ⟨⟨by omega, by simp; omega, rfl⟩, ?_⟩
    repeat ((conv => whnf); first | refine Br.t ?_ | refine Br.f ?_ | refine ⟨rfl, ?_⟩)
    conv => whnf
    refine ⟨by rw [List.length_map]; exact cm.pure _ rfl rfl, ?_⟩
    repeat ((conv => whnf); first | refine Br.t ?_ | refine Br.f ?_ | refine ⟨rfl, ?_⟩)
    conv => whnf
    refine ⟨by repeat ((conv => whnf); first | exact trivial | refine ⟨rfl, ?_⟩), trivial, ?_⟩
    conv => whnf
    rw [hq] at h4
    cases q with
    | false =>
      rw [if_neg (by simp)] at h4
      repeat ((conv => whnf); first | refine Br.t ?_ | refine Br.f ?_ | refine ⟨rfl, ?_⟩)
      conv => whnf
      exact ⟨_, Le.slots (by simp [leS, mkS, rcS]), hbad i g1 h4.symm⟩
    | true =>
      rw [if_pos rfl] at h4
      repeat ((conv => whnf); first | refine Br.t ?_ | refine Br.f ?_ | refine ⟨rfl, ?_⟩)
      conv => whnf
      refine ⟨i + 1, ⟨by omega, h4⟩, by omega, Le.slots ?_⟩
      simp [leS, mkS, rcS]
      exact i64_id (by omega) (by omega)
  · have g1 : i = L.length := by simp at g1; omega
    subst g1
    rw [List.drop_length, badN] at h4
    repeat ((conv => whnf); first | refine Br.t ?_ | refine Br.f ?_ | refine ⟨rfl, ?_⟩)
    conv => whnf
    exact ⟨_, Le.slots (by simp [leS, mkS, rcS]), hok h4.symm⟩
/-- the functions' turn -/
theorem rc_fn (p : Pg) (hfl : p.fs.length ≤ 16) (hw : ∀ f ∈ p.fs, f.length ≤ 9223372036854775807) (Q : Exit → S → Prop)
    (hbad : ∀ r, chkF p 0 p.fs = some r → Q .ret ⟨rcS p.fs.length [(2, .i (.int .i64 r.1)), (3, .i (.int .i64 r.2.1)), (4, .i (.int .i64 r.2.2))], [pgB p]⟩)
    (hok : chkF p 0 p.fs = none → Q (.exit 0) ⟨rcS p.fs.length [], [pgB p]⟩) :
    W Tryd.prog G0 0 (.loop (lp Tryd.f40 0)) Q ⟨rcS p.fs.length [(6, .i (.int .i64 0))], [pgB p]⟩ := by
  refine W.weak (loop_ok (α := Nat) (fun f => ⟨rcS p.fs.length [(6, .i (.int .i64 f))], [pgB p]⟩)
    (fun f => f ≤ p.fs.length ∧ chkF p f (p.fs.drop f) = chkF p 0 p.fs) (fun f => p.fs.length - f) 0 ⟨Nat.zero_le _, rfl⟩ (Le.refl _ _) (fun f hf => wpx_ok (own := own0) _ _ _ ?_))
  obtain ⟨h1, h2⟩ := hf
  repeat ((conv => whnf); first | refine Br.t ?_ | refine Br.f ?_ | refine ⟨rfl, ?_⟩)
  conv => whnf
  refine Br.mk (fun g => ?_) (fun g => ?_)
  · have g : f < p.fs.length := by simpa using g
    obtain ⟨L, hL⟩ : ∃ L, L = p.fs[f] := ⟨_, rfl⟩
    have hLm : L ∈ p.fs := hL ▸ List.getElem_mem g
    have eL : (p.fs.map encF).getD (f : Int).toNat [] = encF L := by rw [hL]; exact getD_enc g
    have edr : p.fs.drop f = L :: p.fs.drop (f + 1) := by rw [hL]; exact List.drop_eq_getElem_cons g
    have hLl := hw L hLm
    rw [edr, chkF] at h2
    repeat ((conv => whnf); first | refine Br.t ?_ | refine Br.f ?_ | refine ⟨rfl, ?_⟩)
    conv => whnf
    rw [eL]
    refine ⟨⟨by omega, by simp; omega, rfl⟩, ?_⟩
    repeat ((conv => whnf); first | refine Br.t ?_ | refine Br.f ?_ | refine ⟨rfl, ?_⟩)
    conv => whnf
    refine Br.mk (fun d => ?_) (fun d => ?_)
    · have d : L.length = 0 := by simp at d; simp [d]
      rw [if_pos d] at h2
      repeat ((conv => whnf); first | refine Br.t ?_ | refine Br.f ?_ | refine ⟨rfl, ?_⟩)
      conv => whnf
      exact ⟨_, Le.slots (by simp [leS, mkS, rcS]), hbad _ h2.symm⟩
    · have d : ¬ L.length = 0 := by intro e; simp at d; exact d (List.eq_nil_of_length_eq_zero e)
      rw [if_neg d] at h2
      repeat ((conv => whnf); first | refine Br.t ?_ | refine Br.f ?_ | refine ⟨rfl, ?_⟩)
      conv => whnf
      rw [eL]
      refine ⟨⟨by omega, by simp; omega, rfl⟩, ?_⟩
      repeat ((conv => whnf); first | refine Br.t ?_ | refine Br.f ?_ | refine ⟨rfl, ?_⟩)
      conv => whnf
      refine Br.mk (fun d2 => ?_) (fun d2 => ?_)
      · have d2 : 64 < L.length := by simp at d2; omega
        rw [if_pos d2] at h2
        repeat ((conv => whnf); first | refine Br.t ?_ | refine Br.f ?_ | refine ⟨rfl, ?_⟩)
        conv => whnf
        exact ⟨_, Le.slots (by simp [leS, mkS, rcS]), hbad _ h2.symm⟩
      · have d2 : ¬ 64 < L.length := by simp at d2; omega
        rw [if_neg d2] at h2
        repeat ((conv => whnf); first | refine Br.t ?_ | refine Br.f ?_ | refine ⟨rfl, ?_⟩)
        conv => whnf
        refine W.le (Le.slots (sl' := rcS p.fs.length [(6, .i (.int .i64 f)), (7, .i (.int .i64 0))]) (by simp [leS, mkS, rcS])) (rc_node p f L g hfl eL (by omega) _ (fun i hi hb => ?_) (fun hb => ?_))
        · rw [hb] at h2
          simp only at h2
          repeat ((conv => whnf); first | refine Br.t ?_ | refine Br.f ?_ | refine ⟨rfl, ?_⟩)
          conv => whnf
          exact ⟨_, Le.slots (by simp [leS, mkS, rcS]), hbad _ h2.symm⟩
        · rw [hb] at h2
          simp only at h2
          repeat ((conv => whnf); first | refine Br.t ?_ | refine Br.f ?_ | refine ⟨rfl, ?_⟩)
          conv => whnf
          refine ⟨f + 1, ⟨by omega, h2⟩, by omega, Le.slots ?_⟩
          simp [leS, mkS, rcS]
          exact i64_id (by omega) (by omega)
  · have g : f = p.fs.length := by simp at g; omega
    subst g
    rw [List.drop_length, chkF] at h2
    repeat ((conv => whnf); first | refine Br.t ?_ | refine Br.f ?_ | refine ⟨rfl, ?_⟩)
    conv => whnf
    exact ⟨_, Le.slots (by simp [leS, mkS, rcS]), hok h2.symm⟩
end Go.Proofs.YtdbmfnhbgacldaaDoor.Am

/- Contracts: the document's check of a program, in full. -/
namespace Go.Proofs.YtdbmfnhbgacldaaDoor.Am
set_option autoImplicit false
set_option linter.unusedVariables false
set_option linter.unusedSimpArgs false
set_option maxRecDepth 10000
set_option pp.maxSteps 3000
set_option pp.proofs false

set_option maxHeartbeats 1000000 in
theorem rc_call (p : Pg) (f : Nat) (L : List Nd) (hf : f < p.fs.length) (hfl : p.fs.length ≤ 16) (eL : (p.fs.map encF).getD (f : Int).toNat [] = encF L) (hLl : L.length ≤ 64) (hM : Sq p.fs.length (mat p)) (hLc : ∀ n ∈ L, n.1 = 7 → 0 ≤ n.2.1 ∧ n.2.1 < p.fs.length) (Q : Exit → S → Prop)
    (hbad : ∀ i, i < L.length → rndMN p f 0 L = some i → Q .ret ⟨rcS p.fs.length [(2, .i (.int .i64 f)), (3, .i (.int .i64 i)), (4, .i (.int .i64 8))], [pgB p]⟩)
    (hok : rndMN p f 0 L = none → Q (.exit 6) ⟨rcS p.fs.length [(8, .i (.sl (encM (mat p)))), (9, .i (.int .i64 f))], [pgB p]⟩) :
    W Tryd.prog G0 0 (.loop (lp Tryd.f40 3)) Q ⟨rcS p.fs.length [(8, .i (.sl (encM (mat p)))), (9, .i (.int .i64 f)), (10, .i (.int .i64 0))], [pgB p]⟩ := by
  refine W.weak (loop_ok (α := Nat) (fun i => ⟨rcS p.fs.length [(8, .i (.sl (encM (mat p)))), (9, .i (.int .i64 f)), (10, .i (.int .i64 i))], [pgB p]⟩)
    (fun i => i ≤ L.length ∧ rndMN p f i (L.drop i) = rndMN p f 0 L) (fun i => L.length - i) 0 ⟨Nat.zero_le _, rfl⟩ (Le.refl _ _) (fun i hi => wpx_ok (own := own0) _ _ _ ?_))
  obtain ⟨h3, h4⟩ := hi
  repeat ((conv => whnf); first | refine Br.t ?_ | refine Br.f ?_ | refine ⟨rfl, ?_⟩)
  conv => whnf
  rw [eL]
  refine ⟨⟨by omega, by simp; omega, rfl⟩, ?_⟩
  repeat ((conv => whnf); first | refine Br.t ?_ | refine Br.f ?_ | refine ⟨rfl, ?_⟩)
  conv => whnf
  refine Br.mk (fun g1 => ?_) (fun g1 => ?_)
  · have g1 : i < L.length := by simpa using g1
    obtain ⟨x, hx⟩ : ∃ x, x = L[i] := ⟨_, rfl⟩
    have hxm : x ∈ L := hx ▸ List.getElem_mem g1
    have ex : (L.map encNd).getD (i : Int).toNat [] = encNd x := by rw [hx]; exact getD_enc g1
    have exd : L.drop i = x :: L.drop (i + 1) := by rw [hx]; exact List.drop_eq_getElem_cons g1
    rw [exd, rndMN] at h4
    repeat ((conv => whnf); first | refine Br.t ?_ | refine Br.f ?_ | refine ⟨rfl, ?_⟩)
    conv => whnf
    rw [eL]
    refine ⟨⟨by omega, by simp; omega, rfl⟩, ?_⟩
    repeat ((conv => whnf); first | refine Br.t ?_ | refine Br.f ?_ | refine ⟨rfl, ?_⟩)
    conv => whnf
    rw [ex]
    refine ⟨⟨by omega, by simp; omega, rfl⟩, ?_⟩
    repeat ((conv => whnf); first | refine Br.t ?_ | refine Br.f ?_ | refine ⟨rfl, ?_⟩)
    conv => whnf
    refine Br.mk (fun g7 => ?_) (fun g7 => ?_)
    · have g7 : x.1 = 7 := by simpa using g7
      obtain ⟨a1, a2⟩ := hLc x hxm g7
      obtain ⟨a, ha⟩ : ∃ a : Nat, (a : Int) = x.2.1 := ⟨x.2.1.toNat, by omega⟩
      rw [← ha] at a1 a2
      rw [← ha, Int.toNat_natCast] at h4
      have hla : ((mat p).getD a []).length = p.fs.length := hM.2 a (by omega)
      repeat ((conv => whnf); first | refine Br.t ?_ | refine Br.f ?_ | refine ⟨rfl, ?_⟩)
      conv => whnf
      rw [← ha]
      repeat ((conv => whnf); first | refine Br.t ?_ | refine Br.f ?_ | refine ⟨rfl, ?_⟩)
      conv => whnf
      refine Br.mk (fun g8 => ?_) (fun g8 => ?_)
      · have g8 : (a : Int) = f := by simpa using g8
        rw [if_pos ⟨g7, .inl g8⟩] at h4
        repeat ((conv => whnf); first | refine Br.t ?_ | refine Br.f ?_ | refine ⟨rfl, ?_⟩)
        conv => whnf
        refine ⟨_, Le.back (s := ⟨rcS p.fs.length [(2, .i (.int .i64 f)), (3, .i (.int .i64 i)), (4, .i (.int .i64 8))], [pgB p]⟩) (fun _ => 0) (by intro id hid; rfl) (by simp) rfl ?_ ?_ rfl, hbad i g1 h4.symm⟩
        · intro o ho
          simp only [List.mem_singleton] at ho
          subst ho
          exact pgB_cl p _
        · simp [leS, mkS, V.up, rcS]
      · have g8 : ¬ (a : Int) = f := by simpa using g8
        repeat ((conv => whnf); first | refine Br.t ?_ | refine Br.f ?_ | refine ⟨rfl, ?_⟩)
        conv => whnf
        rw [encM_get (by rw [hM.1]; omega)]
        refine ⟨⟨by omega, by rw [encM, List.length_map, hM.1]; omega, rfl⟩, ?_⟩
        repeat ((conv => whnf); first | refine Br.t ?_ | refine Br.f ?_ | refine ⟨rfl, ?_⟩)
        conv => whnf
        rw [row_get (by omega)]
        refine ⟨⟨by omega, by rw [List.length_map]; omega, rfl⟩, ?_⟩
        repeat ((conv => whnf); first | refine Br.t ?_ | refine Br.f ?_ | refine ⟨rfl, ?_⟩)
        conv => whnf
        have e : ((mat p).getD a []).getD f 0 = cell (mat p) a f := rfl
        rw [e]
        refine Br.mk (fun g9 => ?_) (fun g9 => ?_)
        · have g9 : cell (mat p) a f = 1 := by simp at g9; omega
          rw [if_pos ⟨g7, .inr g9⟩] at h4
          repeat ((conv => whnf); first | refine Br.t ?_ | refine Br.f ?_ | refine ⟨rfl, ?_⟩)
          conv => whnf
          refine ⟨_, Le.back (s := ⟨rcS p.fs.length [(2, .i (.int .i64 f)), (3, .i (.int .i64 i)), (4, .i (.int .i64 8))], [pgB p]⟩) (fun _ => 0) (by intro id hid; rfl) (by simp) rfl ?_ ?_ rfl, hbad i g1 h4.symm⟩
          · intro o ho
            simp only [List.mem_singleton] at ho
            subst ho
            exact pgB_cl p _
          · simp [leS, mkS, V.up, rcS]
        · have g9 : ¬ cell (mat p) a f = 1 := by simp at g9; omega
          rw [if_neg (fun h => h.2.elim g8 g9)] at h4
          repeat ((conv => whnf); first | refine Br.t ?_ | refine Br.f ?_ | refine ⟨rfl, ?_⟩)
          conv => whnf
          refine ⟨i + 1, ⟨by omega, h4⟩, by omega, Le.back (fun _ => 0) (by intro id hid; rfl) (by simp) rfl ?_ ?_ ?_⟩
          · intro o ho
            simp only [List.mem_singleton] at ho
            subst ho
            exact pgB_cl p _
          · simp [leS, mkS, V.up, rcS]
            exact i64_id (by omega) (by omega)
          · rfl
    · have g7 : ¬ x.1 = 7 := by simpa using g7
      rw [if_neg (fun h => g7 h.1)] at h4
      repeat ((conv => whnf); first | refine Br.t ?_ | refine Br.f ?_ | refine ⟨rfl, ?_⟩)
      conv => whnf
      refine ⟨i + 1, ⟨by omega, h4⟩, by omega, Le.back (fun _ => 0) (by intro id hid; rfl) (by simp) rfl ?_ ?_ ?_⟩
      · intro o ho
        simp only [List.mem_singleton] at ho
        subst ho
        exact pgB_cl p _
      · simp [leS, mkS, V.up, rcS]
        exact i64_id (by omega) (by omega)
      · rfl
  · have g1 : i = L.length := by simp at g1; omega
    subst g1
    rw [List.drop_length, rndMN] at h4
    repeat ((conv => whnf); first | refine Br.t ?_ | refine Br.f ?_ | refine ⟨rfl, ?_⟩)
    conv => whnf
    exact ⟨_, Le.slots (by simp [leS, mkS, rcS]), hok h4.symm⟩
set_option maxHeartbeats 1000000 in
theorem rc_calls (p : Pg) (hc : Calls0 p) (hfl : p.fs.length ≤ 16) (hw : ∀ f ∈ p.fs, f.length ≤ 64) (Q : Exit → S → Prop)
    (hbad : ∀ r, rndF p 0 p.fs = some r → Q .ret ⟨rcS p.fs.length [(2, .i (.int .i64 r.1)), (3, .i (.int .i64 r.2)), (4, .i (.int .i64 8))], [pgB p]⟩)
    (hok : rndF p 0 p.fs = none → Q (.exit 4) ⟨rcS p.fs.length [], [pgB p]⟩) :
    W Tryd.prog G0 0 (.loop (lp Tryd.f40 2)) Q ⟨rcS p.fs.length [(8, .i (.sl (encM (mat p)))), (9, .i (.int .i64 0))], [pgB p]⟩ := by
  rw [← rndM_eq hc 0 p.fs (by omega) (fun L h => h)] at hbad hok
  refine W.weak (loop_ok (α := Nat) (fun f => ⟨rcS p.fs.length [(8, .i (.sl (encM (mat p)))), (9, .i (.int .i64 f))], [pgB p]⟩)
    (fun f => f ≤ p.fs.length ∧ rndM p f (p.fs.drop f) = rndM p 0 p.fs) (fun f => p.fs.length - f) 0 ⟨Nat.zero_le _, rfl⟩ (Le.refl _ _) (fun f hf => wpx_ok (own := own0) _ _ _ ?_))
  obtain ⟨h1, h2⟩ := hf
  repeat ((conv => whnf); first | refine Br.t ?_ | refine Br.f ?_ | refine ⟨rfl, ?_⟩)
  conv => whnf
  refine Br.mk (fun g => ?_) (fun g => ?_)
  · have g : f < p.fs.length := by simpa using g
    obtain ⟨L, hL⟩ : ∃ L, L = p.fs[f] := ⟨_, rfl⟩
    have hLm : L ∈ p.fs := hL ▸ List.getElem_mem g
    have eL : (p.fs.map encF).getD (f : Int).toNat [] = encF L := by rw [hL]; exact getD_enc g
    have edr : p.fs.drop f = L :: p.fs.drop (f + 1) := by rw [hL]; exact List.drop_eq_getElem_cons g
    rw [edr, rndM] at h2
    repeat ((conv => whnf); first | refine Br.t ?_ | refine Br.f ?_ | refine ⟨rfl, ?_⟩)
    conv => whnf
    refine W.le (Le.slots (sl' := rcS p.fs.length [(8, .i (.sl (encM (mat p)))), (9, .i (.int .i64 f)), (10, .i (.int .i64 0))]) (by simp [leS, mkS, rcS])) (rc_call p f L g hfl eL (hw L hLm) (mat_on hc).1 (hc L hLm) _ (fun i hi hb => ?_) (fun hb => ?_))
    · rw [hb] at h2
      simp only at h2
      repeat ((conv => whnf); first | refine Br.t ?_ | refine Br.f ?_ | refine ⟨rfl, ?_⟩)
      conv => whnf
      exact ⟨_, Le.slots (by simp [leS, mkS, rcS]), hbad _ h2.symm⟩
    · rw [hb] at h2
      simp only at h2
      repeat ((conv => whnf); first | refine Br.t ?_ | refine Br.f ?_ | refine ⟨rfl, ?_⟩)
      conv => whnf
      refine ⟨f + 1, ⟨by omega, h2⟩, by omega, Le.slots ?_⟩
      simp [leS, mkS, rcS]
      exact i64_id (by omega) (by omega)
  · have g : f = p.fs.length := by simp at g; omega
    subst g
    rw [List.drop_length, rndM] at h2
    repeat ((conv => whnf); first | refine Br.t ?_ | refine Br.f ?_ | refine ⟨rfl, ?_⟩)
    conv => whnf
    exact ⟨_, Le.slots (by simp [leS, mkS, rcS]), hok h2.symm⟩
set_option maxHeartbeats 1000000 in
theorem refcheck (p : Pg) (hp : okPg p) : CallW Tryd.prog G0 40 [pgV p] [] (fun r st' => r = tri (chk p) ∧ st' = []) := by
  refine call_of_bodyF 0 (Nat.le_refl _) Tryd.func40 rfl (fun a w => Tryd.call40 a w) (wpx_ok (own := own0) _ _ _ ?_)
  obtain ⟨hl, hw⟩ := hp
  repeat ((conv => whnf); first | refine Br.t ?_ | refine Br.f ?_ | refine ⟨rfl, ?_⟩)
  conv => whnf
  refine Br.mk (fun h => ?_) (fun b1 => ?_)
  · simp at h
    have e1 : chk p = (-1, -1, 1) := by unfold chk; rw [if_pos (by omega)]
    rw [e1]
    repeat ((conv => whnf); first | refine Br.t ?_ | refine Br.f ?_ | refine ⟨rfl, ?_⟩)
    conv => whnf
    refine fin (target := []) rfl (Nat.zero_le _) (by simp) rfl rfl
  · simp at b1
    repeat ((conv => whnf); first | refine Br.t ?_ | refine Br.f ?_ | refine ⟨rfl, ?_⟩)
    conv => whnf
    refine Br.mk (fun h => ?_) (fun b2 => ?_)
    · simp at h
      have e1 : chk p = (-1, -1, 1) := by unfold chk; rw [if_pos (by omega)]
      rw [e1]
      repeat ((conv => whnf); first | refine Br.t ?_ | refine Br.f ?_ | refine ⟨rfl, ?_⟩)
      conv => whnf
      refine fin (target := []) rfl (Nat.zero_le _) (by simp) rfl rfl
    · simp at b2
      repeat ((conv => whnf); first | refine Br.t ?_ | refine Br.f ?_ | refine ⟨rfl, ?_⟩)
      conv => whnf
      refine Br.mk (fun h => ?_) (fun b3 => ?_)
      · simp at h
        have e1 : chk p = (-1, -1, 1) := by unfold chk; rw [if_pos (by omega)]
        rw [e1]
        repeat ((conv => whnf); first | refine Br.t ?_ | refine Br.f ?_ | refine ⟨rfl, ?_⟩)
        conv => whnf
        refine fin (target := []) rfl (Nat.zero_le _) (by simp) rfl rfl
      · simp at b3
        repeat ((conv => whnf); first | refine Br.t ?_ | refine Br.f ?_ | refine ⟨rfl, ?_⟩)
        conv => whnf
        refine Br.mk (fun h => ?_) (fun b4 => ?_)
        · have h : p.fs.length = 0 := by simp at h; simp [h]
          have e1 : chk p = (-1, -1, 1) := by unfold chk; rw [if_pos (by omega)]
          rw [e1]
          repeat ((conv => whnf); first | refine Br.t ?_ | refine Br.f ?_ | refine ⟨rfl, ?_⟩)
          conv => whnf
          refine fin (target := []) rfl (Nat.zero_le _) (by simp) rfl rfl
        · have b4 : p.fs.length ≠ 0 := by intro e; simp at b4; exact b4 (List.eq_nil_of_length_eq_zero e)
          repeat ((conv => whnf); first | refine Br.t ?_ | refine Br.f ?_ | refine ⟨rfl, ?_⟩)
          conv => whnf
          refine Br.mk (fun h => ?_) (fun c1 => ?_)
          · simp at h
            have e4 : chk p = (-1, -1, 4) := by unfold chk; rw [if_neg (by omega), if_pos (by omega)]
            rw [e4]
            repeat ((conv => whnf); first | refine Br.t ?_ | refine Br.f ?_ | refine ⟨rfl, ?_⟩)
            conv => whnf
            refine fin (target := []) rfl (Nat.zero_le _) (by simp) rfl rfl
          · simp at c1
            repeat ((conv => whnf); first | refine Br.t ?_ | refine Br.f ?_ | refine ⟨rfl, ?_⟩)
            conv => whnf
            refine Br.mk (fun h => ?_) (fun c2 => ?_)
            · simp at h
              have e4 : chk p = (-1, -1, 4) := by unfold chk; rw [if_neg (by omega), if_pos (by omega)]
              rw [e4]
              repeat ((conv => whnf); first | refine Br.t ?_ | refine Br.f ?_ | refine ⟨rfl, ?_⟩)
              conv => whnf
              refine fin (target := []) rfl (Nat.zero_le _) (by simp) rfl rfl
            · simp at c2
              repeat ((conv => whnf); first | refine Br.t ?_ | refine Br.f ?_ | refine ⟨rfl, ?_⟩)
              conv => whnf
              refine Br.mk (fun h => ?_) (fun c3 => ?_)
              · simp at h
                have e4 : chk p = (-1, -1, 4) := by unfold chk; rw [if_neg (by omega), if_pos (by omega)]
                rw [e4]
                repeat ((conv => whnf); first | refine Br.t ?_ | refine Br.f ?_ | refine ⟨rfl, ?_⟩)
                conv => whnf
                refine fin (target := []) rfl (Nat.zero_le _) (by simp) rfl rfl
              · simp at c3
                repeat ((conv => whnf); first | refine Br.t ?_ | refine Br.f ?_ | refine ⟨rfl, ?_⟩)
                conv => whnf
                refine Br.mk (fun h => ?_) (fun c4 => ?_)
                · have h : 16 < p.fs.length := by simp at h; omega
                  have e4 : chk p = (-1, -1, 4) := by unfold chk; rw [if_neg (by omega), if_pos (by omega)]
                  rw [e4]
                  repeat ((conv => whnf); first | refine Br.t ?_ | refine Br.f ?_ | refine ⟨rfl, ?_⟩)
                  conv => whnf
                  refine fin (target := []) rfl (Nat.zero_le _) (by simp) rfl rfl
                · have c4 : p.fs.length ≤ 16 := by simp at c4; omega
                  have e0 : chk p = match chkF p 0 p.fs with
                    | some r => r
                    | none => match rndF p 0 p.fs with
                      | some (f, i) => ((f : Int), (i : Int), 8)
                      | none => (0, 0, 0) := by unfold chk; rw [if_neg (by omega), if_neg (by omega)]; try rfl
                  rw [e0]
                  repeat ((conv => whnf); first | refine Br.t ?_ | refine Br.f ?_ | refine ⟨rfl, ?_⟩)
                  conv => whnf
                  refine W.le (Le.slots (sl' := rcS p.fs.length [(6, .i (.int .i64 0))]) (by simp [leS, mkS, rcS])) (rc_fn p c4 hw _ (fun r hr => ?_) (fun hr => ?_))
                  · rw [hr]
                    repeat ((conv => whnf); first | refine Br.t ?_ | refine Br.f ?_ | refine ⟨rfl, ?_⟩)
                    conv => whnf
                    refine fin (target := []) rfl (Nat.zero_le _) (by simp) rfl rfl
                  · have hc := calls_ok hr
                    have h64 : ∀ f ∈ p.fs, f.length ≤ 64 := fun f hf => (chkF_none hr f hf).2.1
                    rw [hr]
                    repeat ((conv => whnf); first | refine Br.t ?_ | refine Br.f ?_ | refine ⟨rfl, ?_⟩)
                    conv => whnf
                    refine CallW.mono ((refcalls p hc (by omega) (fun f hf => by have := h64 f hf; omega)).pure _ rfl rfl) ?_
                    rintro r st' ⟨rfl, rfl⟩
                    repeat ((conv => whnf); first | refine Br.t ?_ | refine Br.f ?_ | refine ⟨rfl, ?_⟩)
                    conv => whnf
                    refine W.le (Le.slots (sl' := rcS p.fs.length [(8, .i (.sl (encM (mat p)))), (9, .i (.int .i64 0))]) (by simp [leS, mkS, rcS])) (rc_calls p hc c4 h64 _ (fun r hr => ?_) (fun hr => ?_))
                    · rw [hr]
                      repeat ((conv => whnf); first | refine Br.t ?_ | refine Br.f ?_ | refine ⟨rfl, ?_⟩)
                      conv => whnf
                      refine fin (target := []) rfl (Nat.zero_le _) (by simp) rfl rfl
                    · rw [hr]
                      repeat ((conv => whnf); first | refine Br.t ?_ | refine Br.f ?_ | refine ⟨rfl, ?_⟩)
                      conv => whnf
                      refine fin (target := []) rfl (Nat.zero_le _) (by simp) rfl rfl
end Go.Proofs.YtdbmfnhbgacldaaDoor.Am

/- Contracts: a program's digest; the law of a program's bytes. -/
namespace Go.Proofs.YtdbmfnhbgacldaaDoor.Am
set_option autoImplicit false
set_option linter.unusedVariables false
set_option linter.unusedSimpArgs false
set_option maxRecDepth 100000
set_option pp.maxSteps 3000
set_option pp.proofs false
theorem cons_of {α : Type} {n : Nat} {l : List α} (h : l.length = n + 1) : ∃ d t, l = d :: t ∧ t.length = n := by
  cases l with
  | nil => simp at h
  | cons d t => exact ⟨d, t, rfl, by simpa using h⟩
theorem nil_of {α : Type} {l : List α} (h : l.length = 0) : l = [] := List.length_eq_zero_iff.1 h
theorem list32 {l : List Nat} (h : l.length = 32) : ∃ d0 d1 d2 d3 d4 d5 d6 d7 d8 d9 d10 d11 d12 d13 d14 d15 d16 d17 d18 d19 d20 d21 d22 d23 d24 d25 d26 d27 d28 d29 d30 d31, l = [d0, d1, d2, d3, d4, d5, d6, d7, d8, d9, d10, d11, d12, d13, d14, d15, d16, d17, d18, d19, d20, d21, d22, d23, d24, d25, d26, d27, d28, d29, d30, d31] := by
  obtain ⟨d0, t0, rfl, h0⟩ := cons_of h
  obtain ⟨d1, t1, rfl, h1⟩ := cons_of h0
  obtain ⟨d2, t2, rfl, h2⟩ := cons_of h1
  obtain ⟨d3, t3, rfl, h3⟩ := cons_of h2
  obtain ⟨d4, t4, rfl, h4⟩ := cons_of h3
  obtain ⟨d5, t5, rfl, h5⟩ := cons_of h4
  obtain ⟨d6, t6, rfl, h6⟩ := cons_of h5
  obtain ⟨d7, t7, rfl, h7⟩ := cons_of h6
  obtain ⟨d8, t8, rfl, h8⟩ := cons_of h7
  obtain ⟨d9, t9, rfl, h9⟩ := cons_of h8
  obtain ⟨d10, t10, rfl, h10⟩ := cons_of h9
  obtain ⟨d11, t11, rfl, h11⟩ := cons_of h10
  obtain ⟨d12, t12, rfl, h12⟩ := cons_of h11
  obtain ⟨d13, t13, rfl, h13⟩ := cons_of h12
  obtain ⟨d14, t14, rfl, h14⟩ := cons_of h13
  obtain ⟨d15, t15, rfl, h15⟩ := cons_of h14
  obtain ⟨d16, t16, rfl, h16⟩ := cons_of h15
  obtain ⟨d17, t17, rfl, h17⟩ := cons_of h16
  obtain ⟨d18, t18, rfl, h18⟩ := cons_of h17
  obtain ⟨d19, t19, rfl, h19⟩ := cons_of h18
  obtain ⟨d20, t20, rfl, h20⟩ := cons_of h19
  obtain ⟨d21, t21, rfl, h21⟩ := cons_of h20
  obtain ⟨d22, t22, rfl, h22⟩ := cons_of h21
  obtain ⟨d23, t23, rfl, h23⟩ := cons_of h22
  obtain ⟨d24, t24, rfl, h24⟩ := cons_of h23
  obtain ⟨d25, t25, rfl, h25⟩ := cons_of h24
  obtain ⟨d26, t26, rfl, h26⟩ := cons_of h25
  obtain ⟨d27, t27, rfl, h27⟩ := cons_of h26
  obtain ⟨d28, t28, rfl, h28⟩ := cons_of h27
  obtain ⟨d29, t29, rfl, h29⟩ := cons_of h28
  obtain ⟨d30, t30, rfl, h30⟩ := cons_of h29
  obtain ⟨d31, t31, rfl, h31⟩ := cons_of h30
  rw [nil_of h31]
  exact ⟨d0, d1, d2, d3, d4, d5, d6, d7, d8, d9, d10, d11, d12, d13, d14, d15, d16, d17, d18, d19, d20, d21, d22, d23, d24, d25, d26, d27, d28, d29, d30, d31, rfl⟩
def p0 : Pg := ⟨0, 0, 0, [[(9, 0, 0, 0)]]⟩
theorem chk_p0 : (chk p0).2.2 = 0 := by decide
theorem num_nat2 (n : Nat) (h : n < 128) : putN n = [n] := by rw [putN, dif_pos h]
theorem prog_p0 : progN p0 = [97, 108, 112, 49, 0, 0, 0, 1, 1, 9] := by
  show alp ++ (putN 0 ++ (putN 0 ++ (putN 0 ++ (putN 1 ++ [])))) ++ ((putN 1 ++ ((putN 9 ++ []) ++ [])) ++ []) = _
  rw [num_nat2 0 (by decide), num_nat2 1 (by decide), num_nat2 9 (by decide)]
  rfl
theorem okPg_p0 : okPg p0 := ⟨by decide, by decide⟩
theorem awake07 : CallW Tryd.prog G0 36 [] [] (fun r st' => r = .i (.bool true) ∧ st' = []) := by
  refine call_of_bodyF 0 (Nat.le_refl _) Tryd.func36 rfl (fun a w => Tryd.call36 a w) (wpx_ok (own := own0) _ _ _ ?_)
  repeat ((conv => whnf); first | refine Br.t ?_ | refine Br.f ?_ | refine ⟨rfl, ?_⟩)
  conv => whnf
  have c := write17 p0 okPg_p0
  rw [if_pos chk_p0, chk_p0, prog_p0] at c
  refine CallW.mono (c.pure _ rfl rfl) ?_
  rintro r st' ⟨rfl, rfl⟩
  repeat ((conv => whnf); first | refine Br.t ?_ | refine Br.f ?_ | refine ⟨rfl, ?_⟩)
  conv => whnf
  refine ⟨isB_ok (isB_map [97, 108, 112, 49, 0, 0, 0, 1, 1, 9]), ?_⟩
  repeat ((conv => whnf); first | refine Br.t ?_ | refine Br.f ?_ | refine ⟨rfl, ?_⟩)
  conv => whnf
  refine fin (target := []) rfl (Nat.zero_le _) (by simp) rfl rfl
theorem progN_byte {p : Pg} (h : PgOk p) : (∀ b ∈ progN p, b < 256) ∧ (progN p).length ≤ 22000 := by
  constructor
  · intro b hb
    simp only [progN, List.mem_append, List.mem_flatMap, fnN, nodeN] at hb
    rcases hb with (hb | ⟨n, _, hb⟩) | ⟨L, _, hb | ⟨x, _, hb | ⟨c, _, hb⟩⟩⟩
    · simp only [alp, List.mem_cons, List.not_mem_nil, or_false] at hb; omega
    · exact putN_byte _ b hb
    · exact putN_byte _ b hb
    · exact putN_byte _ b hb
    · exact putN_byte _ b hb
  · have h1 := flat_le (b := 5) (l := numsP p) (f := putN) (fun x hx => put_le (by have := nums_le h x hx; omega))
    have h2 := flat_le (b := 1285) (l := p.fs) (f := fnN) (fun L hL => fn_len (h.f L hL).2.1 (fun x hx => h.nd hL hx))
    have := h.n
    rw [progN, List.length_append, List.length_append]
    simp only [alp, numsP, List.length_cons, List.length_nil] at h1 ⊢
    omega
/-- the digest of a program -/
def digP (p : Pg) : List Nat := if (chk p).2.2 = 0 then shaW KEYS H0W (progN p) else List.replicate 32 0
set_option maxHeartbeats 8000000 in
theorem digest_ok (p : Pg) (hp : okPg p) : CallW Tryd.prog (Gk none KEYS) 39 [pgV p] [] (fun r st' => r = .tup [dArr (digP p), .i (.int .i64 (chk p).2.2)] ∧ st' = []) := by
  refine call_of_bodyF 0 (Nat.le_refl _) Tryd.func39 rfl (fun a w => Tryd.call39 a w) (wpx_ok (own := own0) _ _ _ ?_)
  have cw := write17 p hp
  unfold digP
  repeat ((conv => whnf); first | refine Br.t ?_ | refine Br.f ?_ | refine ⟨rfl, ?_⟩)
  conv => whnf
  refine CallW.mono (cw.glob.pure _ rfl rfl) ?_
  rintro r st' ⟨rfl, rfl⟩
  repeat ((conv => whnf); first | refine Br.t ?_ | refine Br.f ?_ | refine ⟨rfl, ?_⟩)
  conv => whnf
  refine Br.mk (fun g => ?_) (fun g => ?_)
  · have g : ¬ (chk p).2.2 = 0 := by simpa using g
    rw [if_neg g]
    generalize (chk p).2.2 = c
    repeat ((conv => whnf); first | refine Br.t ?_ | refine Br.f ?_ | refine ⟨rfl, ?_⟩)
    conv => whnf
    refine ⟨⟨rfl, rfl, rfl, rfl, rfl⟩, ?_⟩
    repeat ((conv => whnf); first | refine Br.t ?_ | refine Br.f ?_ | refine ⟨rfl, ?_⟩)
    conv => whnf
    refine ⟨⟨rfl, rfl, rfl⟩, ?_⟩
    repeat ((conv => whnf); first | refine Br.t ?_ | refine Br.f ?_ | refine ⟨rfl, ?_⟩)
    conv => whnf
    refine fin (target := []) rfl (Nat.zero_le _) (by simp) rfl rfl
  · have g : (chk p).2.2 = 0 := by simpa using g
    have ok := chk_zero g
    have hb := progN_byte ok
    have co := of_ok none KEYS KEYS_len KEYS_lt [progN p] (by simpa using hb.1) (by simp) (by simp; omega)
    rw [if_pos g, if_pos g, g]
    rw [show [progN p].flatten = progN p by simp] at co
    have hdl : (shaW KEYS H0W (progN p)).length = 32 := digL_len _ _
    generalize shaW KEYS H0W (progN p) = D at co hdl ⊢
    obtain ⟨d0, d1, d2, d3, d4, d5, d6, d7, d8, d9, d10, d11, d12, d13, d14, d15, d16, d17, d18, d19, d20, d21, d22, d23, d24, d25, d26, d27, d28, d29, d30, d31, rfl⟩ := list32 hdl
    repeat ((conv => whnf); first | refine Br.t ?_ | refine Br.f ?_ | refine ⟨rfl, ?_⟩)
    conv => whnf
    refine CallW.mono (co.pure _ rfl (cl_b 0 _)) ?_
    rintro r st' ⟨rfl, rfl⟩
    repeat ((conv => whnf); first | refine Br.t ?_ | refine Br.f ?_ | refine ⟨rfl, ?_⟩)
    conv => whnf
    refine ⟨⟨rfl, rfl, rfl, rfl, rfl⟩, ?_⟩
    repeat ((conv => whnf); first | refine Br.t ?_ | refine Br.f ?_ | refine ⟨rfl, ?_⟩)
    conv => whnf
    refine ⟨⟨rfl, rfl, rfl⟩, ?_⟩
    repeat ((conv => whnf); first | refine Br.t ?_ | refine Br.f ?_ | refine ⟨rfl, ?_⟩)
    conv => whnf
    refine fin (target := []) rfl (Nat.zero_le _) (by simp) rfl rfl
theorem digP_len (p : Pg) : (digP p).length = 32 := by
  unfold digP
  split
  · exact digL_len _ _
  · rfl
set_option maxHeartbeats 8000000 in
theorem pcodewrites (p : Pg) (hp : okPg p) : CallW Tryd.prog (Gk none KEYS) 7 [pgV p] [] (fun r st' => r = .i (.bool true) ∧ st' = []) := by
  refine call_of_bodyF 0 (Nat.le_refl _) Tryd.func7 rfl (fun a w => Tryd.call7 a w) (wpx_ok (own := own0) _ _ _ ?_)
  have cd := digest_ok p hp
  have hdl := digP_len p
  have cw := write17 p hp
  have cc := refcheck p hp
  repeat ((conv => whnf); first | refine Br.t ?_ | refine Br.f ?_ | refine ⟨rfl, ?_⟩)
  conv => whnf
  refine CallW.mono (awake07.glob.pure _ rfl rfl) ?_
  rintro r st' ⟨rfl, rfl⟩
  repeat ((conv => whnf); first | refine Br.t ?_ | refine Br.f ?_ | refine ⟨rfl, ?_⟩)
  conv => whnf
  refine CallW.mono ((small16 p hp).glob.pure _ rfl rfl) ?_
  rintro r st' ⟨rfl, rfl⟩
  repeat ((conv => whnf); first | refine Br.t ?_ | refine Br.f ?_ | refine ⟨rfl, ?_⟩)
  conv => whnf
  refine Br.mk (fun z => ?_) (fun z => ?_)
  · repeat ((conv => whnf); first | refine Br.t ?_ | refine Br.f ?_ | refine ⟨rfl, ?_⟩)
    conv => whnf
    refine CallW.mono (awake07.glob.pure _ rfl rfl) ?_
    rintro r st' ⟨rfl, rfl⟩
    repeat ((conv => whnf); first | refine Br.t ?_ | refine Br.f ?_ | refine ⟨rfl, ?_⟩)
    conv => whnf
    refine fin (target := []) rfl (Nat.zero_le _) (by simp) rfl rfl
  · repeat ((conv => whnf); first | refine Br.t ?_ | refine Br.f ?_ | refine ⟨rfl, ?_⟩)
    conv => whnf
    refine CallW.mono (cw.glob.pure _ rfl rfl) ?_
    rintro r st' ⟨rfl, rfl⟩
    repeat ((conv => whnf); first | refine Br.t ?_ | refine Br.f ?_ | refine ⟨rfl, ?_⟩)
    conv => whnf
    by_cases g : (chk p).2.2 = 0
    · have ok := chk_zero g
      have hb := progN_byte ok
      have cr := refwrite p ok
      have cf := rfof_ok (progN p) hb.1 (by omega)
      have hD : digP p = shaW KEYS H0W (progN p) := by unfold digP; rw [if_pos g]
      rw [hD] at cd hdl
      generalize shaW KEYS H0W (progN p) = D at cd cf hdl
      obtain ⟨d0, d1, d2, d3, d4, d5, d6, d7, d8, d9, d10, d11, d12, d13, d14, d15, d16, d17, d18, d19, d20, d21, d22, d23, d24, d25, d26, d27, d28, d29, d30, d31, rfl⟩ := list32 hdl
      refine CallW.mono (cd.pure _ rfl rfl) ?_
      rintro r st' ⟨rfl, rfl⟩
      rw [if_pos g]
      repeat ((conv => whnf); first | refine Br.t ?_ | refine Br.f ?_ | refine ⟨rfl, ?_⟩)
      conv => whnf
      refine ⟨⟨rfl, rfl, rfl, rfl, rfl⟩, ?_⟩
      repeat ((conv => whnf); first | refine Br.t ?_ | refine Br.f ?_ | refine ⟨rfl, ?_⟩)
      conv => whnf
      refine CallW.mono (cc.glob.pure _ rfl rfl) ?_
      rintro r st' ⟨rfl, rfl⟩
      unfold tri
      rw [g]
      repeat ((conv => whnf); first | refine Br.t ?_ | refine Br.f ?_ | refine ⟨rfl, ?_⟩)
      conv => whnf
      refine CallW.mono (cr.glob.pure _ rfl rfl) ?_
      rintro r st' ⟨rfl, rfl⟩
      repeat ((conv => whnf); first | refine Br.t ?_ | refine Br.f ?_ | refine ⟨rfl, ?_⟩)
      conv => whnf
      obtain ⟨nw, hnw⟩ : ∃ l, l = progN p := ⟨_, rfl⟩
      rw [← hnw] at cf hb ⊢
      refine draw_ok (own := own0) [] [] [(dArr [d0, d1, d2, d3, d4, d5, d6, d7, d8, d9, d10, d11, d12, d13, d14, d15, d16, d17, d18, d19, d20, d21, d22, d23, d24, d25, d26, d27, d28, d29, d30, d31], [pgB p, .row 1 1 false [b1 d0, b1 d1, b1 d2, b1 d3, b1 d4, b1 d5, b1 d6, b1 d7, b1 d8, b1 d9, b1 d10, b1 d11, b1 d12, b1 d13, b1 d14, b1 d15, b1 d16, b1 d17, b1 d18, b1 d19, b1 d20, b1 d21, b1 d22, b1 d23, b1 d24, b1 d25, b1 d26, b1 d27, b1 d28, b1 d29, b1 d30, b1 d31]])] rfl (by kernel_rfl) (Nat.zero_le _) ?_
      repeat ((conv => whnf); first | refine Br.t ?_ | refine Br.f ?_ | refine ⟨rfl, ?_⟩)
      conv => whnf
      refine ⟨isB_ok (isB_map _), ?_⟩
      repeat ((conv => whnf); first | refine Br.t ?_ | refine Br.f ?_ | refine ⟨rfl, ?_⟩)
      conv => whnf
      refine ⟨isB_ok (isB_map _), ?_⟩
      repeat ((conv => whnf); first | refine Br.t ?_ | refine Br.f ?_ | refine ⟨rfl, ?_⟩)
      conv => whnf
      refine Br.mk (fun q2 => ?_) (fun q2 => ?_)
      · repeat ((conv => whnf); first | refine Br.t ?_ | refine Br.f ?_ | refine ⟨rfl, ?_⟩)
        conv => whnf
        refine ⟨⟨rfl, rfl, rfl⟩, ?_⟩
        repeat ((conv => whnf); first | refine Br.t ?_ | refine Br.f ?_ | refine ⟨rfl, ?_⟩)
        conv => whnf
        refine ⟨cf.glob.pure _ rfl (cl_b 0 _), ?_⟩
        repeat ((conv => whnf); first | refine Br.t ?_ | refine Br.f ?_ | refine ⟨rfl, ?_⟩)
        conv => whnf
        refine ⟨by repeat ((conv => whnf); first | exact trivial | refine ⟨rfl, ?_⟩), trivial, ?_⟩
        conv => whnf
        repeat ((conv => whnf); first | refine Br.t ?_ | refine Br.f ?_ | refine ⟨rfl, ?_⟩)
        conv => whnf
        refine fin (target := []) rfl (Nat.zero_le _) (by simp) ?_ rfl
        simp
      · exact absurd q2 (by simp)
    · have hD : digP p = List.replicate 32 0 := by unfold digP; rw [if_neg g]
      rw [hD] at cd
      refine CallW.mono (cd.pure _ rfl rfl) ?_
      rintro r st' ⟨rfl, rfl⟩
      rw [if_neg g]
      repeat ((conv => whnf); first | refine Br.t ?_ | refine Br.f ?_ | refine ⟨rfl, ?_⟩)
      conv => whnf
      refine ⟨⟨rfl, rfl, rfl, rfl, rfl⟩, ?_⟩
      repeat ((conv => whnf); first | refine Br.t ?_ | refine Br.f ?_ | refine ⟨rfl, ?_⟩)
      conv => whnf
      refine CallW.mono (cc.glob.pure _ rfl rfl) ?_
      rintro r st' ⟨rfl, rfl⟩
      unfold tri
      repeat ((conv => whnf); first | refine Br.t ?_ | refine Br.f ?_ | refine ⟨rfl, ?_⟩)
      conv => whnf
      refine Br.mk (fun q => ?_) (fun q => ?_)
      · generalize (chk p).2.2 = c
        repeat ((conv => whnf); first | refine Br.t ?_ | refine Br.f ?_ | refine ⟨rfl, ?_⟩)
        conv => whnf
        refine Br.mk (fun q2 => ?_) (fun q2 => ?_)
        · repeat ((conv => whnf); first | refine Br.t ?_ | refine Br.f ?_ | refine ⟨rfl, ?_⟩)
          conv => whnf
          refine Br.mk (fun q3 => ?_) (fun q3 => ?_)
          · repeat ((conv => whnf); first | refine Br.t ?_ | refine Br.f ?_ | refine ⟨rfl, ?_⟩)
            conv => whnf
            refine ⟨⟨rfl, rfl, rfl⟩, ?_⟩
            repeat ((conv => whnf); first | refine Br.t ?_ | refine Br.f ?_ | refine ⟨rfl, ?_⟩)
            conv => whnf
            refine fin (target := []) rfl (Nat.zero_le _) (by simp) rfl rfl
          · exact absurd q3 (by simp)
        · exact absurd q2 (by simp)
      · exact absurd (by simpa using q) g
end Go.Proofs.YtdbmfnhbgacldaaDoor.Am

/- The table in its variable: what a row's condition gives for the logic. -/
namespace Go.Proofs.YtdbmfnhbgacldaaDoor.Am
open Go.ChangeShapes Go.WideShapes Go.RowKit
set_option autoImplicit false
set_option maxRecDepth 10000
end Go.Proofs.YtdbmfnhbgacldaaDoor.Am

/- The keys in their variable: what a row's condition gives for the logic. -/
namespace Go.Proofs.YtdbmfnhbgacldaaDoor.Am
open Go.ChangeShapes Go.WideShapes Go.RowKit
set_option autoImplicit false
set_option maxRecDepth 100000
/-- The keys lie in their variable. -/
def KeysOk (w : World) : Prop := ∀ j, j < 64 → w.cell? ⟨1, j, none⟩ = some (.int .u32 (KEYS.getD j 0))
theorem keys_ok {W : World} {rest : List (String × DataW Unit)} (h : laidMet Tryd.prog (("alibi/sha.keys", .agg ((KEYS.map fun (n : Nat) => (n : Int)).map fun z => .lit (.int .u32 z))) :: rest) W) : KeysOk W := by
  have hT := Lib.tabIs_of_head (k := .u32) (zs := KEYS.map fun (n : Nat) => (n : Int)) (show Tryd.prog.globalNamed "alibi/sha.keys" = some 1 by kernel_rfl) rfl Tryd.underlying156 Tryd.underlying28 (by kernel_rfl) (by kernel_rfl) h
  intro j hj
  have := hT.cell (show Tryd.prog.globalNamed "alibi/sha.keys" = some 1 by kernel_rfl) j (by simpa [KEYS_len] using hj)
  rw [this]
  congr 2
  simp [List.getD_eq_getElem?_getD, List.getElem?_map]
  cases h : KEYS[j]? <;> simp
theorem keys_rel {W : World} (h : KeysOk W) : inW W 1 ∧ ∃ xs : Nat → Value, (∀ j v, (KEYS.map u32I)[j]? = some v → W.cell? ⟨1, j, none⟩ = some (xs j)) ∧ ∀ j v, (KEYS.map u32I)[j]? = some v → irel (inW W) W v (xs j) := by
  refine ⟨World.block_lt_of_cell? W _ (h 0 (by decide)), fun j => .int .u32 (KEYS.getD j 0), fun j v hj => ?_, fun j v hj => ?_⟩
  · have hlt := lt_of_get? hj
    exact h j (by simpa [KEYS_len] using hlt)
  · simp only [List.getElem?_map, Option.map_eq_some_iff] at hj
    obtain ⟨n, hn, rfl⟩ := hj
    have e : KEYS.getD j 0 = n := by rw [List.getD_eq_getElem?_getD, hn]; rfl
    show irel _ W (I.int .u32 n) (.int .u32 (KEYS.getD j 0 : Nat))
    rw [e]
    exact .int .u32 n
theorem gok_of_keys {W : World} (h : KeysOk W) : GOk everyD (Gk none KEYS) noMu [] W := by
  intro g cs hg
  unfold Gk at hg
  split at hg
  · cases hg
  · split at hg
    · rename_i h0
      subst h0
      cases hg
      obtain ⟨h1, xs, h2, h3⟩ := keys_rel h
      refine ⟨inW_qd h1, fun j => .int .u32 (KEYS.getD j 0), fun j v hj => ?_, fun j v hj => ?_⟩
      · have hlt := lt_of_get? hj
        exact h j (by simpa [KEYS_len] using hlt)
      · simp only [List.getElem?_map, Option.map_eq_some_iff] at hj
        obtain ⟨n, hn, rfl⟩ := hj
        have e : KEYS.getD j 0 = n := by rw [List.getD_eq_getElem?_getD, hn]; rfl
        show irel _ W (I.int .u32 n) (.int .u32 (KEYS.getD j 0 : Nat))
        rw [e]
        exact .int .u32 n
    · cases hg
end Go.Proofs.YtdbmfnhbgacldaaDoor.Am
