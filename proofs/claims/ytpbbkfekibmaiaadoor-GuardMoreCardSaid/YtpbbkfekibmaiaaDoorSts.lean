/- What package sets' functions come to, in plain words: masks as numbers below 2^32, their lists of ids. No condition but those of each lemma. -/
import Derived.Test.YtpbbkfekibmaiaaDoorQx3
import Derived.Test.YtpbbkfekibmaiaaDoorQx4
import Derived.Test.YtpbbkfekibmaiaaDoorQx6
import Derived.Test.YtpbbkfekibmaiaaDoorBt
namespace Go.Proofs.YtpbbkfekibmaiaaDoor.Sts
open Go.RowKit Go.Proofs.YtpbbkfekibmaiaaDoorW.PrintWords Go.Proofs.YtpbbkfekibmaiaaDoorW.PrintLast Go.Proofs.YtpbbkfekibmaiaaDoorW.PrintMore Go.Proofs.YtpbbkfekibmaiaaDoor.Q Go.Proofs.YtpbbkfekibmaiaaDoor.Pl Go.Proofs.YtpbbkfekibmaiaaDoor.Bt
/-- A list of ids as Go's ints. -/
def ints (l : List Nat) : List Int := l.map fun (i : Nat) => (i : Int)
theorem ints_length (l : List Nat) : (ints l).length = l.length := by simp [ints]
theorem rd_ints (l : List Nat) (i : Nat) (h : i < l.length) : rd (ints l) (i : Int) = (l[i] : Int) := by
  rw [rd_nat _ _ (by rw [ints_length]; exact h)]; simp [ints]
theorem ints_snoc (l : List Nat) (i : Nat) : ints (l ++ [i]) = ints l ++ [(i : Int)] := by simp [ints]
theorem least {m : Nat} (h0 : m ≠ 0) (h : m < 4294967296) : sets_Least.f (m : Int) = some ((Lib.ctz 32 m : Nat) : Int) := by
  unfold sets_Least.f bits_TrailingZeros32.f
  rw [if_neg (by omega), if_pos ⟨by omega, by omega⟩, Int.toNat_natCast]; rfl
theorem least0 : sets_Least.f 0 = some (-1) := by unfold sets_Least.f; rw [if_pos rfl]
theorem has_in {m i : Nat} (hm : m < 4294967296) (h : i < 32) : sets_Has.f (m : Int) (i : Int) = some (m.testBit i) := by
  unfold sets_Has.f
  rw [if_pos (by omega), if_pos (by omega), if_pos (by omega), shr_bit hm h]
theorem has_out {m : Int} {i : Int} (h : i < 0 ∨ 32 ≤ i) : sets_Has.f m i = some false := by
  unfold sets_Has.f
  by_cases h0 : i ≥ 0
  · rw [if_pos h0, if_neg (by omega)]
  · rw [if_neg h0]
theorem all {i : Int} {k : Nat} (h : k = (mx (mn i 32) 0).toNat) : sets_All.f i = some ((2 ^ k - 1 : Nat) : Int) ∧ k ≤ 32 := by
  have hk : k ≤ 32 := by subst h; unfold mx mn; split <;> split <;> omega
  refine ⟨?_, hk⟩
  unfold sets_All.f
  rw [← h]
  have h1 := Nat.two_pow_pos k
  have h2 := pow33 hk
  have e : (2 : Int) ^ k = ((2 ^ k : Nat) : Int) := by simp
  have w : ∀ n : Int, 0 ≤ n → n < 18446744073709551616 → IntKind.u64.wrap n = n := fun n a b => by simp [IntKind.wrap, IntKind.signed, IntKind.bits]; omega
  rw [e, w ((2 ^ k : Nat) : Int) (by omega) (by omega), w (((2 ^ k : Nat) : Int) - 1) (by omega) (by omega)]
  congr 1
  omega
/-! The reference -/
theorem u64w (n : Int) (a : 0 ≤ n) (b : n < 18446744073709551616) : IntKind.u64.wrap n = n := by simp [IntKind.wrap, IntKind.signed, IntKind.bits]; omega
theorem rhas_loop {m i : Nat} (hi : i < 32) (d : Nat) : ∀ (j n : Nat), j + d = i → n = m / 2 ^ j → n < 4294967296 → Ev (fun k => alibiref03_Has.l0 k (i : Int) (n : Int) (j : Int)) (m.testBit i) := by
  induction d with
  | zero =>
    intro j n hd hn hl
    obtain rfl : j = i := by omega
    refine Ev.one (Ev.now _) fun k => ?_
    rw [alibiref03_Has.l0, if_neg (by omega), Int.tmod_eq_emod_of_nonneg (by omega), Nat.testBit_eq_decide_div_mod_eq, ← hn]
    congr 1
    rcases Nat.mod_two_eq_zero_or_one n with h1 | h1
    · rw [h1, show (n : Int) % 2 = 0 by omega]; rfl
    · rw [h1, show (n : Int) % 2 = 1 by omega]; rfl
  | succ d ih =>
    intro j n hd hn hl
    have IH := ih (j + 1) (n / 2) (by omega) (by rw [hn, Nat.div_div_eq_div_mul, ← Nat.pow_succ]) (by omega)
    rw [← w64_succ j i (by omega) (by omega)] at IH
    refine Ev.one IH fun k => ?_
    rw [alibiref03_Has.l0, if_pos (by omega), Int.tdiv_eq_ediv_of_nonneg (by omega), u64w _ (by omega) (by omega)]
    rfl
theorem rhas_in {m i : Nat} (hm : m < 4294967296) (hi : i < 32) : Ev (fun k => alibiref03_Has.f k (m : Int) (i : Int)) (m.testBit i) := by
  refine Ev.congr (fun k => by rw [alibiref03_Has.f, if_neg (by omega), decide_eq_false (by omega)]) (Ev.one (rhas_loop hi i 0 m (by omega) (by simp) hm) fun k => ?_)
  rw [alibiref03_Has.j0, if_neg (by decide), u64w _ (by omega) (by omega)]; rfl
theorem rhas_out {m : Int} {i : Int} (h : i < 0 ∨ 32 ≤ i) : Ev (fun k => alibiref03_Has.f k m i) false := by
  refine Ev.congr (f := fun k => alibiref03_Has.j0 k m i true) (fun k => ?_) (Ev.one (Ev.now _) fun k => by rw [alibiref03_Has.j0, if_pos rfl])
  unfold alibiref03_Has.f
  by_cases h0 : i < 0
  · rw [if_pos h0]
  · rw [if_neg h0, decide_eq_true (by omega)]
theorem pow41 {i : Nat} (h : i ≤ 32) : 2 ^ i ≤ 4294967296 := pow33 h
theorem mask_inner (l : List Nat) (x i : Nat) (hi : i < l.length) (hl : l.length ≤ 100000) (h32 : l[i] < 32) (hx : x < 9223372036854775808) (r : Int) (hnext : Ev (fun k => alibiref03_Mask.l0 k (ints l) ((x + 2 ^ l[i] : Nat) : Int) ((i + 1 : Nat) : Int)) r) (d : Nat) :
    ∀ j : Nat, j + d = l[i] → Ev (fun k => alibiref03_Mask.l1 k (ints l) (x : Int) (i : Int) ((2 ^ j : Nat) : Int) (j : Int)) r := by
  have hlen := ints_length l
  induction d with
  | zero =>
    intro j hj
    obtain rfl : j = l[i] := by omega
    have hp := pow32 h32
    have hq := Nat.two_pow_pos l[i]
    rw [← w64_succ i l.length hi (by omega)] at hnext
    refine Ev.one hnext fun k => ?_
    rw [alibiref03_Mask.l1, if_pos (by omega), if_pos (by omega), rd_ints l i hi, if_neg (by omega), u64w _ (by omega) (by omega)]
    rfl
  | succ d ih =>
    intro j hj
    have IH := ih (j + 1) (by omega)
    have hp := pow32 (i := j) (by omega)
    have hq := Nat.two_pow_pos j
    rw [← w64_succ j 32 (by omega) (by omega), Nat.pow_succ] at IH
    refine Ev.one IH fun k => ?_
    rw [alibiref03_Mask.l1, if_pos (by omega), if_pos (by omega), rd_ints l i hi, if_pos (by omega), u64w _ (by omega) (by omega)]
    rfl
theorem mask_loop (l : List Nat) (hp : l.Pairwise (· < ·)) (hn : ∀ i ∈ l, i < 32) (hl : l.length ≤ 100000) (d : Nat) : ∀ i x : Nat, i + d = l.length → x = pows (l.take i) → Ev (fun k => alibiref03_Mask.l0 k (ints l) (x : Int) (i : Int)) ((pows l : Nat) : Int) := by
  have hlen := ints_length l
  have hlt := pows_lt hp hn
  induction d with
  | zero =>
    intro i x hd hx
    rw [List.take_of_length_le (by omega)] at hx
    subst hx
    exact Ev.one (Ev.now _) fun k => by rw [alibiref03_Mask.l0, if_neg (by omega), Int.emod_eq_of_lt (by omega) (by omega)]
  | succ d ih =>
    intro i x hd hx
    have hi : i < l.length := by omega
    have hxl : x < 4294967296 := by rw [hx]; exact pows_lt (hp.sublist (List.take_sublist i l)) (fun j hj => hn j (List.mem_of_mem_take hj))
    have IH := ih (i + 1) (x + 2 ^ l[i]) (by omega) (by rw [List.take_succ_eq_append_getElem hi, pows_snoc, ← hx])
    refine Ev.one (mask_inner l x i hi hl (hn _ (List.getElem_mem hi)) (by omega) _ IH l[i] 0 (by omega)) fun k => ?_
    rw [alibiref03_Mask.l0, if_pos (by omega)]
    rfl
theorem mask_ev (l : List Nat) (hp : l.Pairwise (· < ·)) (hn : ∀ i ∈ l, i < 32) (hl : l.length ≤ 100000) : Ev (fun k => alibiref03_Mask.f k (ints l)) ((pows l : Nat) : Int) :=
  mask_loop l hp hn hl l.length 0 0 (by omega) rfl
/-- What is in all. -/
def meet (l : List Nat) : Nat := l.foldl (· &&& ·) 4294967295
theorem foldl_and_lt (l : List Nat) : ∀ x, x < 4294967296 → l.foldl (· &&& ·) x < 4294967296 := by
  induction l with
  | nil => exact fun x h => h
  | cons y l ih => exact fun x h => ih _ (and_lt h)
theorem foldl_and_bit (l : List Nat) (i : Nat) : ∀ x, (l.foldl (· &&& ·) x).testBit i = (x.testBit i && l.all fun y => y.testBit i) := by
  induction l with
  | nil => intro x; simp
  | cons y l ih => intro x; rw [List.foldl_cons, ih, Nat.testBit_and, List.all_cons, Bool.and_assoc]
theorem meet_lt (l : List Nat) : meet l < 4294967296 := foldl_and_lt l _ (by decide)
theorem full_bit {i : Nat} (h : i < 32) : Nat.testBit 4294967295 i = true := by
  have := Nat.testBit_two_pow_sub_one (n := 32) (i := i)
  rw [show 2 ^ 32 - 1 = 4294967295 from rfl] at this
  rw [this]; exact decide_eq_true h
theorem meet_bit (l : List Nat) {i : Nat} (h : i < 32) : (meet l).testBit i = l.all fun y => y.testBit i := by
  unfold meet
  rw [foldl_and_bit, full_bit h, Bool.true_and]
theorem meet_loop (l : List Nat) (hm : ∀ x ∈ l, x < 4294967296) (hl : l.length ≤ 100000000) (d : Nat) : ∀ i x : Nat, i + d = l.length → x < 4294967296 → Ev (fun k => sets_Meet.l0 k (x : Int) (ints l) ((ints l).length : Int) (i : Int)) (((l.drop i).foldl (· &&& ·) x : Nat) : Int) := by
  have hlen := ints_length l
  induction d with
  | zero =>
    intro i x hd hx
    rw [List.drop_of_length_le (by omega)]
    exact Ev.one (Ev.now _) fun k => by rw [sets_Meet.l0, if_neg (by omega)]; rfl
  | succ d ih =>
    intro i x hd hx
    have hi : i < l.length := by omega
    have hy := hm _ (List.getElem_mem hi)
    have IH := ih (i + 1) (x &&& l[i]) (by omega) (and_lt hx)
    rw [← w64_succ i l.length hi (by omega)] at IH
    rw [drop_cons l i hi, List.foldl_cons]
    refine Ev.one IH fun k => ?_
    rw [sets_Meet.l0, if_pos (by omega), if_pos (by omega), if_pos (by omega), rd_ints l i hi, and32 hx hy]
theorem meet_ev (l : List Nat) (hm : ∀ x ∈ l, x < 4294967296) (hl : l.length ≤ 100000000) : Ev (fun k => sets_Meet.f k (ints l)) ((meet l : Nat) : Int) :=
  meet_loop l hm hl l.length 0 4294967295 (by omega) (by decide)
end Go.Proofs.YtpbbkfekibmaiaaDoor.Sts
