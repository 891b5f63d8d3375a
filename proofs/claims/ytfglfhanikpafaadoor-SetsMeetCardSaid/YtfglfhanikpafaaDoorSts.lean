/- What package sets' functions come to, in plain words: masks as numbers below 2^32, their lists of ids. No condition but those of each lemma. -/
import Derived.Test.YtfglfhanikpafaaDoorQx7
import Derived.Test.YtfglfhanikpafaaDoorQx6
import Derived.Test.YtfglfhanikpafaaDoorQx5
import Derived.Test.YtfglfhanikpafaaDoorQx4
import Derived.Test.YtfglfhanikpafaaDoorQx3
import Derived.Test.YtfglfhanikpafaaDoorBt
namespace Go.Proofs.YtfglfhanikpafaaDoor.Sts
open Go.RowKit Go.Proofs.YtfglfhanikpafaaDoorW.PrintWords Go.Proofs.YtfglfhanikpafaaDoorW.PrintLast Go.Proofs.YtfglfhanikpafaaDoorW.PrintMore Go.Proofs.YtfglfhanikpafaaDoor.Q Go.Proofs.YtfglfhanikpafaaDoor.Pl Go.Proofs.YtfglfhanikpafaaDoor.Bt
/-- A list of ids as Go's ints. -/
def ints (l : List Nat) : List Int := l.map fun (i : Nat) => (i : Int)
theorem ints_length (l : List Nat) : (ints l).length = l.length := by simp [ints]
theorem rd_ints (l : List Nat) (i : Nat) (h : i < l.length) : rd (ints l) (i : Int) = (l[i] : Int) := by
  rw [rd_nat _ _ (by rw [ints_length]; exact h)]; simp [ints]
theorem ints_snoc (l : List Nat) (i : Nat) : ints (l ++ [i]) = ints l ++ [(i : Int)] := by simp [ints]
theorem least {m : Nat} (h0 : m ≠ 0) (h : m < 4294967296) : sets_Least.f (m : Int) = some ((Lib.ctz 32 m : Nat) : Int) := by
  unfold sets_Least.f bits_TrailingZeros32.f
  rw [if_neg (by omega), if_pos ⟨by omega, by omega⟩, Int.toNat_natCast]; rfl
theorem least0 : sets_Least.f 0 = some (-1) := by unfold sets_Least.f; rw [if_pos rfl]
theorem list_loop (n : Nat) : ∀ (m : Nat) (out : List Int), (ids m).length = n → m < 4294967296 → out.length + n ≤ 100000 →
    Ev (fun k => sets_List.l0 k (m : Int) out) (out ++ ints (ids m)) := by
  induction n with
  | zero =>
    intro m out hn hm _
    have h0 : m = 0 := by
      by_cases h : m = 0
      · exact h
      · rw [ids_cons h hm] at hn; cases hn
    subst h0
    rw [ids_zero]
    exact Ev.one (Ev.now _) fun k => by rw [sets_List.l0, if_pos (show ((0 : Nat) : Int) = 0 from rfl)]; simp [ints]
  | succ n ih =>
    intro m out hn hm ho
    have h0 : m ≠ 0 := by rintro rfl; rw [ids_zero] at hn; cases hn
    have e := ids_cons h0 hm
    rw [e] at hn
    have IH := ih (m &&& (m - 1)) (out ++ [((Lib.ctz 32 m : Nat) : Int)]) (by simpa using hn) (and_lt hm) (by simp; omega)
    refine Ev.one (Ev.to IH ?_) fun k => ?_
    · rw [e]; simp [ints]
    · rw [sets_List.l0, if_neg (by omega), least h0 hm, Option.bind_some, if_pos (by omega), show ((m : Int) - 1) % 4294967296 = ((m - 1 : Nat) : Int) by omega, and32 hm (by omega)]
theorem list_ev {m : Nat} (h : m < 4294967296) : Ev (fun k => sets_List.f k (m : Int)) (ints (ids m)) := by
  have := ids_length m
  exact Ev.to (list_loop _ m [] rfl h (by simp; omega)) (List.nil_append _)
theorem one_in {i : Nat} (h : i < 32) : sets_One.f (i : Int) = some ((2 ^ i : Nat) : Int) := by
  unfold sets_One.f
  rw [if_neg (by omega), if_neg (by omega), if_pos (by omega), shl_one h]
theorem one_out {i : Int} (h : i < 0 ∨ 32 ≤ i) : sets_One.f i = some 0 := by
  unfold sets_One.f
  by_cases h0 : i < 0
  · rw [if_pos h0]
  · rw [if_neg h0, if_pos (by omega)]
theorem has_in {m i : Nat} (hm : m < 4294967296) (h : i < 32) : sets_Has.f (m : Int) (i : Int) = some (m.testBit i) := by
  unfold sets_Has.f
  rw [if_pos (by omega), if_pos (by omega), if_pos (by omega), shr_bit hm h]
theorem has_out {m : Int} {i : Int} (h : i < 0 ∨ 32 ≤ i) : sets_Has.f m i = some false := by
  unfold sets_Has.f
  by_cases h0 : i ≥ 0
  · rw [if_pos h0, if_neg (by omega)]
  · rw [if_neg h0]
theorem within {a b : Nat} (ha : a < 4294967296) (hb : b < 4294967296) : sets_Within.f (a : Int) (b : Int) = some (decide (less a b = 0)) := by
  unfold sets_Within.f
  rw [andNot32 ha hb]
  congr 1
  by_cases h : less a b = 0
  · rw [h]; rfl
  · rw [decide_eq_false h]; simp; omega
theorem all {i : Int} {k : Nat} (h : k = (mx (mn i 32) 0).toNat) : sets_All.f i = some ((2 ^ k - 1 : Nat) : Int) ∧ k ≤ 32 := by
  have hk : k ≤ 32 := by subst h; unfold mx mn; split <;> split <;> omega
  refine ⟨?_, hk⟩
  unfold sets_All.f
  rw [← h]
  have h1 := Nat.two_pow_pos k
  have h2 := pow33 hk
  have e : (2 : Int) ^ k = ((2 ^ k : Nat) : Int) := by simp
  have w : ∀ n : Int, 0 ≤ n → n < 18446744073709551616 → IntKind.u64.wrap n = n := fun n a b => by simp [IntKind.wrap, IntKind.signed, IntKind.bits]; omega
  rw [e, w ((2 ^ k : Nat) : Int) (by omega) (by omega), w (((2 ^ k : Nat) : Int) - 1) (by omega) (by omega)]
  congr 1
  omega
theorem pop_table : ∀ n : Fin 256, Lib.pop8 (n.val : Int) = (((List.range 8).filter fun i => n.val.testBit i).length : Int) := by decide +kernel
theorem pop_nat {n : Nat} (h : n < 256) : Lib.pop8 (n : Int) = (((List.range 8).filter fun i => n.testBit i).length : Int) := pop_table ⟨n, h⟩
theorem count_part (m o : Nat) : (((List.range 8).map fun i => o + i).filter fun i => m.testBit i).length = ((List.range 8).filter fun i => (m / 2 ^ o % 256).testBit i).length := by
  rw [List.filter_map, List.length_map]
  congr 1
  apply List.filter_congr
  intro i hi
  have hi' := List.mem_range.1 hi
  rw [show (256 : Nat) = 2 ^ 8 from rfl, Nat.testBit_mod_two_pow, Nat.testBit_div_two_pow, decide_eq_true hi', Bool.true_and, Nat.add_comm]
  rfl
theorem count {m : Nat} (hm : m < 4294967296) : sets_Count.f (m : Int) = some ((ids m).length : Int) := by
  unfold sets_Count.f bits_OnesCount32.f
  rw [if_pos ⟨by omega, by omega⟩, Option.bind_some]
  have e0 : (m : Int) / 16777216 = ((m / 2 ^ 24 % 256 : Nat) : Int) := by omega
  have e1 : (m : Int) / 65536 % 256 = ((m / 2 ^ 16 % 256 : Nat) : Int) := by omega
  have e2 : (m : Int) / 256 % 256 = ((m / 2 ^ 8 % 256 : Nat) : Int) := by omega
  have e3 : (m : Int) % 256 = ((m / 2 ^ 0 % 256 : Nat) : Int) := by omega
  have er : List.range 32 = ((((List.range 8).map fun i => 0 + i) ++ (List.range 8).map fun i => 8 + i) ++ (List.range 8).map fun i => 16 + i) ++ (List.range 8).map fun i => 24 + i := by decide
  rw [e0, e1, e2, e3, pop_nat (by omega), pop_nat (by omega), pop_nat (by omega), pop_nat (by omega)]
  unfold ids
  rw [er]
  simp only [List.filter_append, List.length_append, count_part]
  congr 1
  omega
/-! The reference -/
theorem u64w (n : Int) (a : 0 ≤ n) (b : n < 18446744073709551616) : IntKind.u64.wrap n = n := by simp [IntKind.wrap, IntKind.signed, IntKind.bits]; omega
theorem rhas_loop {m i : Nat} (hi : i < 32) (d : Nat) : ∀ (j n : Nat), j + d = i → n = m / 2 ^ j → n < 4294967296 → Ev (fun k => alibiref03_Has.l0 k (i : Int) (n : Int) (j : Int)) (m.testBit i) := by
  induction d with
  | zero =>
    intro j n hd hn hl
    obtain rfl : j = i := by omega
    refine Ev.one (Ev.now _) fun k => ?_
    rw [alibiref03_Has.l0, if_neg (by omega), Int.tmod_eq_emod_of_nonneg (by omega), Nat.testBit_eq_decide_div_mod_eq, ← hn]
    congr 1
    rcases Nat.mod_two_eq_zero_or_one n with h1 | h1
    · rw [h1, show (n : Int) % 2 = 0 by omega]; rfl
    · rw [h1, show (n : Int) % 2 = 1 by omega]; rfl
  | succ d ih =>
    intro j n hd hn hl
    have IH := ih (j + 1) (n / 2) (by omega) (by rw [hn, Nat.div_div_eq_div_mul, ← Nat.pow_succ]) (by omega)
    rw [← w64_succ j i (by omega) (by omega)] at IH
    refine Ev.one IH fun k => ?_
    rw [alibiref03_Has.l0, if_pos (by omega), Int.tdiv_eq_ediv_of_nonneg (by omega), u64w _ (by omega) (by omega)]
    rfl
theorem rhas_in {m i : Nat} (hm : m < 4294967296) (hi : i < 32) : Ev (fun k => alibiref03_Has.f k (m : Int) (i : Int)) (m.testBit i) := by
  refine Ev.congr (fun k => by rw [alibiref03_Has.f, if_neg (by omega), decide_eq_false (by omega)]) (Ev.one (rhas_loop hi i 0 m (by omega) (by simp) hm) fun k => ?_)
  rw [alibiref03_Has.j0, if_neg (by decide), u64w _ (by omega) (by omega)]; rfl
theorem rhas_out {m : Int} {i : Int} (h : i < 0 ∨ 32 ≤ i) : Ev (fun k => alibiref03_Has.f k m i) false := by
  refine Ev.congr (f := fun k => alibiref03_Has.j0 k m i true) (fun k => ?_) (Ev.one (Ev.now _) fun k => by rw [alibiref03_Has.j0, if_pos rfl])
  unfold alibiref03_Has.f
  by_cases h0 : i < 0
  · rw [if_pos h0]
  · rw [if_neg h0, decide_eq_true (by omega)]
theorem ids_upto (m i : Nat) : (List.range (i + 1)).filter (fun i => m.testBit i) = (List.range i).filter (fun i => m.testBit i) ++ if m.testBit i = true then [i] else [] := by
  rw [List.range_succ, List.filter_append]
  congr 1
  by_cases h : m.testBit i = true
  · rw [if_pos h]; simp [h]
  · rw [if_neg h]; simp [h]
theorem rlist_loop {m : Nat} (hm : m < 4294967296) (d : Nat) : ∀ (i : Nat) (out : List Int), i + d = 32 → out = ints ((List.range i).filter fun i => m.testBit i) → Ev (fun k => alibiref03_List.l0 k (m : Int) out (i : Int)) (ints (ids m)) := by
  induction d with
  | zero =>
    intro i out hd ho
    obtain rfl : i = 32 := by omega
    subst ho
    exact Ev.one (Ev.now _) fun k => by rw [alibiref03_List.l0, if_neg (by omega)]; rfl
  | succ d ih =>
    intro i out hd ho
    have hi : i < 32 := by omega
    have hlen : out.length ≤ 32 := by
      rw [ho, ints_length]
      have := List.length_filter_le (fun i => m.testBit i) (List.range i)
      rw [List.length_range] at this
      omega
    have e := ids_upto m i
    refine Ev.one (Ev.bind (rhas_in hm hi) ?_) fun k => by rw [alibiref03_List.l0, if_pos (by omega)]
    by_cases h : m.testBit i = true
    · rw [h] at e ⊢
      have IH := ih (i + 1) (out ++ [(i : Int)]) (by omega) (by rw [e, if_pos rfl, ints_snoc, ho])
      rw [← w64_succ i 32 hi (by omega)] at IH
      exact Ev.congr (fun k => by rw [if_pos rfl, if_pos (by omega)]) IH
    · have h' : m.testBit i = false := by simpa using h
      rw [h'] at e ⊢
      have IH := ih (i + 1) out (by omega) (by rw [e, if_neg (by decide), List.append_nil, ho])
      rw [← w64_succ i 32 hi (by omega)] at IH
      exact Ev.congr (fun k => by rw [if_neg (by decide)]) IH
theorem rlist_ev {m : Nat} (hm : m < 4294967296) : Ev (fun k => alibiref03_List.f k (m : Int)) (ints (ids m)) := rlist_loop hm 32 0 [] rfl (by simp [ints])
theorem rwithin_loop {a b : Nat} (ha : a < 4294967296) (hb : b < 4294967296) (d : Nat) : ∀ i : Nat, i + d = 32 → (∀ j, j < i → a.testBit j = true → b.testBit j = true) → Ev (fun k => alibiref03_Within.l0 k (a : Int) (b : Int) (i : Int)) (decide (less a b = 0)) := by
  induction d with
  | zero =>
    intro i hd hb4
    obtain rfl : i = 32 := by omega
    rw [decide_eq_true (less_zero.2 fun j hj => by
      rcases Nat.lt_or_ge j 32 with h | h
      · exact hb4 j h hj
      · rw [tb32 ha h] at hj; cases hj)]
    exact Ev.one (Ev.now _) fun k => by rw [alibiref03_Within.l0, if_neg (by omega)]
  | succ d ih =>
    intro i hd hb4
    have hi : i < 32 := by omega
    refine Ev.one (Ev.bind (rhas_in ha hi) ?_) fun k => by rw [alibiref03_Within.l0, if_pos (by omega)]
    have go : (a.testBit i = true → b.testBit i = true) → Ev (fun k => alibiref03_Within.l0 k (a : Int) (b : Int) (wrap64 ((i : Int) + 1))) (decide (less a b = 0)) := by
      intro h
      have IH := ih (i + 1) (by omega) (fun j hj => by
        by_cases e : j = i
        · subst e; exact h
        · exact hb4 j (by omega))
      rw [← w64_succ i 32 hi (by omega)] at IH
      exact IH
    cases ea : a.testBit i with
    | false => exact Ev.congr (fun k => by rw [if_neg (by decide)]) (go (fun h => by rw [ea] at h; cases h))
    | true =>
      refine Ev.congr (fun k => by rw [if_pos rfl]) (Ev.bind (rhas_in hb hi) ?_)
      cases eb : b.testBit i with
      | true => exact Ev.congr (fun k => by rw [if_pos rfl]) (go (fun _ => eb))
      | false =>
        rw [decide_eq_false fun h => by have := less_zero.1 h i ea; rw [eb] at this; cases this]
        exact Ev.ret fun k => by rw [if_neg (by decide)]
theorem rwithin {a b : Nat} (ha : a < 4294967296) (hb : b < 4294967296) : Ev (fun k => alibiref03_Within.f k (a : Int) (b : Int)) (decide (less a b = 0)) :=
  rwithin_loop ha hb 32 0 rfl (fun j hj => by omega)
theorem pow41 {i : Nat} (h : i ≤ 32) : 2 ^ i ≤ 4294967296 := pow33 h
theorem mask_inner (l : List Nat) (x i : Nat) (hi : i < l.length) (hl : l.length ≤ 100000) (h32 : l[i] < 32) (hx : x < 9223372036854775808) (r : Int) (hnext : Ev (fun k => alibiref03_Mask.l0 k (ints l) ((x + 2 ^ l[i] : Nat) : Int) ((i + 1 : Nat) : Int)) r) (d : Nat) :
    ∀ j : Nat, j + d = l[i] → Ev (fun k => alibiref03_Mask.l1 k (ints l) (x : Int) (i : Int) ((2 ^ j : Nat) : Int) (j : Int)) r := by
  have hlen := ints_length l
  induction d with
  | zero =>
    intro j hj
    obtain rfl : j = l[i] := by omega
    have hp := pow32 h32
    have hq := Nat.two_pow_pos l[i]
    rw [← w64_succ i l.length hi (by omega)] at hnext
    refine Ev.one hnext fun k => ?_
    rw [alibiref03_Mask.l1, if_pos (by omega), if_pos (by omega), rd_ints l i hi, if_neg (by omega), u64w _ (by omega) (by omega)]
    rfl
  | succ d ih =>
    intro j hj
    have IH := ih (j + 1) (by omega)
    have hp := pow32 (i := j) (by omega)
    have hq := Nat.two_pow_pos j
    rw [← w64_succ j 32 (by omega) (by omega), Nat.pow_succ] at IH
    refine Ev.one IH fun k => ?_
    rw [alibiref03_Mask.l1, if_pos (by omega), if_pos (by omega), rd_ints l i hi, if_pos (by omega), u64w _ (by omega) (by omega)]
    rfl
theorem mask_loop (l : List Nat) (hp : l.Pairwise (· < ·)) (hn : ∀ i ∈ l, i < 32) (hl : l.length ≤ 100000) (d : Nat) : ∀ i x : Nat, i + d = l.length → x = pows (l.take i) → Ev (fun k => alibiref03_Mask.l0 k (ints l) (x : Int) (i : Int)) ((pows l : Nat) : Int) := by
  have hlen := ints_length l
  have hlt := pows_lt hp hn
  induction d with
  | zero =>
    intro i x hd hx
    rw [List.take_of_length_le (by omega)] at hx
    subst hx
    exact Ev.one (Ev.now _) fun k => by rw [alibiref03_Mask.l0, if_neg (by omega), Int.emod_eq_of_lt (by omega) (by omega)]
  | succ d ih =>
    intro i x hd hx
    have hi : i < l.length := by omega
    have hxl : x < 4294967296 := by rw [hx]; exact pows_lt (hp.sublist (List.take_sublist i l)) (fun j hj => hn j (List.mem_of_mem_take hj))
    have IH := ih (i + 1) (x + 2 ^ l[i]) (by omega) (by rw [List.take_succ_eq_append_getElem hi, pows_snoc, ← hx])
    refine Ev.one (mask_inner l x i hi hl (hn _ (List.getElem_mem hi)) (by omega) _ IH l[i] 0 (by omega)) fun k => ?_
    rw [alibiref03_Mask.l0, if_pos (by omega)]
    rfl
theorem mask_ev (l : List Nat) (hp : l.Pairwise (· < ·)) (hn : ∀ i ∈ l, i < 32) (hl : l.length ≤ 100000) : Ev (fun k => alibiref03_Mask.f k (ints l)) ((pows l : Nat) : Int) :=
  mask_loop l hp hn hl l.length 0 0 (by omega) rfl
/-- What is in all. -/
def meet (l : List Nat) : Nat := l.foldl (· &&& ·) 4294967295
theorem foldl_and_lt (l : List Nat) : ∀ x, x < 4294967296 → l.foldl (· &&& ·) x < 4294967296 := by
  induction l with
  | nil => exact fun x h => h
  | cons y l ih => exact fun x h => ih _ (and_lt h)
theorem foldl_and_bit (l : List Nat) (i : Nat) : ∀ x, (l.foldl (· &&& ·) x).testBit i = (x.testBit i && l.all fun y => y.testBit i) := by
  induction l with
  | nil => intro x; simp
  | cons y l ih => intro x; rw [List.foldl_cons, ih, Nat.testBit_and, List.all_cons, Bool.and_assoc]
theorem meet_lt (l : List Nat) : meet l < 4294967296 := foldl_and_lt l _ (by decide)
theorem full_bit {i : Nat} (h : i < 32) : Nat.testBit 4294967295 i = true := by
  have := Nat.testBit_two_pow_sub_one (n := 32) (i := i)
  rw [show 2 ^ 32 - 1 = 4294967295 from rfl] at this
  rw [this]; exact decide_eq_true h
theorem meet_bit (l : List Nat) {i : Nat} (h : i < 32) : (meet l).testBit i = l.all fun y => y.testBit i := by
  unfold meet
  rw [foldl_and_bit, full_bit h, Bool.true_and]
theorem meet_loop (l : List Nat) (hm : ∀ x ∈ l, x < 4294967296) (hl : l.length ≤ 100000000) (d : Nat) : ∀ i x : Nat, i + d = l.length → x < 4294967296 → Ev (fun k => sets_Meet.l0 k (x : Int) (ints l) ((ints l).length : Int) (i : Int)) (((l.drop i).foldl (· &&& ·) x : Nat) : Int) := by
  have hlen := ints_length l
  induction d with
  | zero =>
    intro i x hd hx
    rw [List.drop_of_length_le (by omega)]
    exact Ev.one (Ev.now _) fun k => by rw [sets_Meet.l0, if_neg (by omega)]; rfl
  | succ d ih =>
    intro i x hd hx
    have hi : i < l.length := by omega
    have hy := hm _ (List.getElem_mem hi)
    have IH := ih (i + 1) (x &&& l[i]) (by omega) (and_lt hx)
    rw [← w64_succ i l.length hi (by omega)] at IH
    rw [drop_cons l i hi, List.foldl_cons]
    refine Ev.one IH fun k => ?_
    rw [sets_Meet.l0, if_pos (by omega), if_pos (by omega), if_pos (by omega), rd_ints l i hi, and32 hx hy]
theorem meet_ev (l : List Nat) (hm : ∀ x ∈ l, x < 4294967296) (hl : l.length ≤ 100000000) : Ev (fun k => sets_Meet.f k (ints l)) ((meet l : Nat) : Int) :=
  meet_loop l hm hl l.length 0 4294967295 (by omega) (by decide)
/-- What is wrong with a list of ids: 0, 1, 5. -/
def chk (size : Int) : Option Int → List Int → Int
  | _, [] => 0
  | p, x :: r => if x < 0 ∨ x ≥ size ∨ x > 31 then 1 else if (∃ y, p = some y ∧ x ≤ y) then 5 else chk size (some x) r
theorem chk_vals (size : Int) (l : List Int) : ∀ p, chk size p l = 0 ∨ chk size p l = 1 ∨ chk size p l = 5 := by
  induction l with
  | nil => intro p; exact .inl rfl
  | cons x r ih =>
    intro p
    unfold chk
    split
    · exact .inr (.inl rfl)
    · split
      · exact .inr (.inr rfl)
      · exact ih _
theorem chk_ok (size : Int) (l : List Int) : ∀ p, chk size p l = 0 → (∀ x ∈ l, 0 ≤ x ∧ x < size ∧ x ≤ 31) ∧ l.Pairwise (· < ·) ∧ ∀ y, p = some y → ∀ x ∈ l, y < x := by
  induction l with
  | nil => intro p _; exact ⟨fun x hx => (by cases hx), List.Pairwise.nil, fun y _ x hx => (by cases hx)⟩
  | cons x r ih =>
    intro p h
    unfold chk at h
    split at h
    · cases h
    · rename_i h1
      split at h
      · cases h
      · rename_i h2
        obtain ⟨a, b, c⟩ := ih _ h
        have hc := c x rfl
        refine ⟨fun z hz => ?_, List.pairwise_cons.2 ⟨hc, b⟩, fun y hy z hz => ?_⟩
        · rcases List.mem_cons.1 hz with rfl | hz
          · omega
          · exact a z hz
        · have hxy : y < x := by
            apply Int.not_le.1
            exact fun hle => h2 ⟨y, hy, hle⟩
          rcases List.mem_cons.1 hz with rfl | hz
          · exact hxy
          · have := hc z hz; omega
/-- What stands ahead of place i. -/
def prv (l : List Int) (i : Nat) : Option Int := if i = 0 then none else some (l.getD (i - 1) 0)
theorem prv_succ (l : List Int) (i : Nat) (h : i < l.length) : prv l (i + 1) = some l[i] := by simp [prv, List.getD, List.getElem?_eq_getElem h]
theorem rd_prev (l : List Int) (i : Nat) (h : i < l.length) (h0 : i ≠ 0) (hl : l.length ≤ 1000000) : wrap64 ((i : Int) - 1) = ((i - 1 : Nat) : Int) ∧ prv l i = some (rd l ((i - 1 : Nat) : Int)) := by
  refine ⟨by unfold wrap64; omega, ?_⟩
  rw [rd_nat l (i - 1) (by omega)]
  simp [prv, h0, List.getD, List.getElem?_eq_getElem (show i - 1 < l.length by omega)]
theorem mn32 (x size : Int) : x ≥ mn size 32 ↔ x ≥ size ∨ x > 31 := by unfold mn; split <;> omega
/-- sets.Of goes past a good place. -/
theorem of_step (l : List Int) (size : Int) (i m : Nat) (hi : i < l.length) (hl : l.length ≤ 1000000) (hm : m < 4294967296) (h1 : ¬ (l[i] < 0 ∨ l[i] ≥ size ∨ l[i] > 31)) (h2 : ¬ ∃ y, prv l i = some y ∧ l[i] ≤ y) (r : Int × Int)
    (h : Ev (fun k => sets_Of.l0 k l size ((m ||| 2 ^ l[i].toNat : Nat) : Int) l (l.length : Int) ((i + 1 : Nat) : Int)) r) : Ev (fun k => sets_Of.l0 k l size (m : Int) l (l.length : Int) (i : Int)) r := by
  have hr := rd_nat l i hi
  have hc : ((l[i].toNat : Nat) : Int) = l[i] := by omega
  have ht : l[i].toNat < 32 := by omega
  have ho := one_in ht
  rw [hc] at ho
  rw [← w64_succ i l.length hi (by omega)] at h
  have hor := or32 hm (pow32 ht)
  refine Ev.one (f := fun k => sets_Of.j1 k l size (m : Int) (i : Int) l[i] l (l.length : Int) (i : Int) false) (Ev.one h fun k => ?_) fun k => ?_
  · rw [sets_Of.j1, if_neg (by decide)]
    by_cases h0 : i = 0
    · subst h0
      rw [if_neg (by omega), ho, Option.bind_some, hor]
    · obtain ⟨e1, e2⟩ := rd_prev l i hi h0 hl
      rw [if_pos (by omega), e1, if_pos (by omega), if_pos (by omega), if_neg (fun hle => h2 ⟨_, e2, hle⟩), ho, Option.bind_some, hor]
  · rw [sets_Of.l0, if_pos (by omega), if_pos (by omega), if_pos (by omega), hr, if_neg (by omega), decide_eq_false (fun hge => h1 (.inr ((mn32 _ _).1 hge)))]
theorem of_ok (l : List Int) (size : Int) (hl : l.length ≤ 1000000) (hc : chk size none l = 0) (d : Nat) : ∀ i m : Nat, i + d = l.length → m = pows ((l.take i).map Int.toNat) → chk size (prv l i) (l.drop i) = 0 →
    Ev (fun k => sets_Of.l0 k l size (m : Int) l (l.length : Int) (i : Int)) (((pows (l.map Int.toNat) : Nat) : Int), 0) := by
  obtain ⟨ha, hp, _⟩ := chk_ok size l none hc
  induction d with
  | zero =>
    intro i m hd hm _
    rw [List.take_of_length_le (by omega)] at hm
    subst hm
    exact Ev.one (Ev.now _) fun k => by rw [sets_Of.l0, if_neg (by omega)]
  | succ d ih =>
    intro i m hd hm hk
    have hi : i < l.length := by omega
    rw [drop_cons l i hi] at hk
    unfold chk at hk
    split at hk
    · cases hk
    · rename_i h1
      split at hk
      · cases hk
      · rename_i h2
        have hpn : ((l.take i).map Int.toNat).Pairwise (· < ·) := by
          refine List.pairwise_map.2 (List.Pairwise.imp_of_mem (R := (· < ·)) ?_ (hp.sublist (List.take_sublist i l)))
          intro a b hA hB hab
          have := ha a (List.mem_of_mem_take hA)
          omega
        have h32 : ∀ j ∈ (l.take i).map Int.toNat, j < l[i].toNat := by
          intro j hj
          obtain ⟨a, hA, rfl⟩ := List.mem_map.1 hj
          have h3 := ha a (List.mem_of_mem_take hA)
          have : a < l[i] := by
            obtain ⟨n, hn, rfl⟩ := List.mem_take_iff_getElem.1 hA
            exact List.pairwise_iff_getElem.1 hp n i (by omega) hi (by omega)
          omega
        have hlt := (pows_rising _ _ hpn h32).1
        have ht : l[i].toNat < 32 := by omega
        have hm32 : m < 4294967296 := by rw [hm]; exact Nat.lt_trans hlt (pow32 ht)
        refine of_step l size i m hi hl hm32 h1 h2 _ (ih (i + 1) _ (by omega) ?_ (by rw [prv_succ l i hi]; exact hk))
        rw [List.take_succ_eq_append_getElem hi, List.map_append, List.map_cons, List.map_nil, pows_snoc, ← Nat.or_two_pow_eq_add_of_lt hlt, hm]
theorem of_bad (l : List Int) (size : Int) (hl : l.length ≤ 1000000) (c : Int) (hc0 : c ≠ 0) (d : Nat) : ∀ i m : Nat, i + d = l.length → m < 4294967296 → chk size (prv l i) (l.drop i) = c →
    Ev (fun k => sets_Of.l0 k l size (m : Int) l (l.length : Int) (i : Int)) (0, c) := by
  induction d with
  | zero =>
    intro i m hd hm hk
    rw [List.drop_of_length_le (by omega)] at hk
    exact absurd hk.symm hc0
  | succ d ih =>
    intro i m hd hm hk
    have hi : i < l.length := by omega
    have hr := rd_nat l i hi
    rw [drop_cons l i hi] at hk
    unfold chk at hk
    split at hk
    · rename_i h1
      subst hk
      refine Ev.one (f := fun k => sets_Of.j1 k l size (m : Int) (i : Int) l[i] l (l.length : Int) (i : Int) true) (Ev.one (Ev.now _) fun k => by rw [sets_Of.j1, if_pos rfl]) fun k => ?_
      rw [sets_Of.l0, if_pos (by omega), if_pos (by omega), if_pos (by omega), hr]
      by_cases h0 : l[i] < 0
      · rw [if_pos h0]
      · rw [if_neg h0, decide_eq_true ((mn32 _ _).2 (h1.resolve_left h0))]
    · rename_i h1
      split at hk
      · rename_i h2
        subst hk
        obtain ⟨y, hy, hle⟩ := h2
        have h0 : i ≠ 0 := by rintro rfl; simp [prv] at hy
        obtain ⟨e1, e2⟩ := rd_prev l i hi h0 hl
        obtain rfl := Option.some.inj (e2.symm.trans hy)
        refine Ev.one (f := fun k => sets_Of.j1 k l size (m : Int) (i : Int) l[i] l (l.length : Int) (i : Int) false) (Ev.one (Ev.now _) fun k => ?_) fun k => ?_
        · rw [sets_Of.j1, if_neg (by decide), if_pos (by omega), e1, if_pos (by omega), if_pos (by omega), if_pos hle]
        · rw [sets_Of.l0, if_pos (by omega), if_pos (by omega), if_pos (by omega), hr, if_neg (by omega), decide_eq_false (fun hge => h1 (.inr ((mn32 _ _).1 hge)))]
      · rename_i h2
        have ht : l[i].toNat < 32 := by omega
        exact of_step l size i m hi hl hm h1 h2 _ (ih (i + 1) _ (by omega) (or_lt hm (pow32 ht)) (by rw [prv_succ l i hi]; exact hk))
theorem of_ev_ok (l : List Int) (size : Int) (hl : l.length ≤ 1000000) (hc : chk size none l = 0) : Ev (fun k => sets_Of.f k l size) (((pows (l.map Int.toNat) : Nat) : Int), 0) :=
  of_ok l size hl hc l.length 0 0 (by omega) rfl (by simpa [prv] using hc)
theorem of_ev_bad (l : List Int) (size : Int) (hl : l.length ≤ 1000000) (hc : chk size none l ≠ 0) : Ev (fun k => sets_Of.f k l size) (0, chk size none l) :=
  of_bad l size hl _ hc l.length 0 0 (by omega) (by decide) (by simp [prv])
theorem awake : Ev (fun k => alibilaw03_awake.f k) true := by
  have h1 := of_ev_bad [2, 1] 9 (by simp) (by simp [chk])
  have h2 := list_ev (m := 13) (by decide)
  rw [show chk 9 none [2, 1] = 5 by simp [chk]] at h1
  rw [show ids 13 = [0, 2, 3] by decide] at h2
  refine Ev.bind h1 (Ev.bind h2 (Ev.ret fun k => ?_))
  decide +kernel
theorem rof_step (l : List Int) (size : Int) (i : Nat) (hi : i < l.length) (hl : l.length ≤ 1000000) (h1 : ¬ (l[i] < 0 ∨ l[i] ≥ size ∨ l[i] > 31)) (h2 : ¬ ∃ y, prv l i = some y ∧ l[i] ≤ y) (r : Int × Int)
    (h : Ev (fun k => alibiref03_Of.l0 k l size ((i + 1 : Nat) : Int)) r) : Ev (fun k => alibiref03_Of.l0 k l size (i : Int)) r := by
  have hr := rd_nat l i hi
  rw [← w64_succ i l.length hi (by omega)] at h
  refine Ev.one (f := fun k => alibiref03_Of.j1 k l size (i : Int) false) (Ev.one h fun k => ?_) fun k => ?_
  · rw [alibiref03_Of.j1, if_neg (by decide)]
    by_cases h0 : i = 0
    · subst h0
      rw [if_neg (by omega)]
    · obtain ⟨e1, e2⟩ := rd_prev l i hi h0 hl
      rw [if_pos (by omega), if_pos (by omega), if_pos (by omega), e1, if_pos (by omega), if_pos (by omega), hr, if_neg (fun hle => h2 ⟨_, e2, hle⟩)]
  · rw [alibiref03_Of.l0, if_pos (by omega), if_pos (by omega), hr, if_neg (by omega), if_neg (by omega), decide_eq_false (by omega)]
theorem rof_ok (l : List Int) (size : Int) (hl : l.length ≤ 100000) (hc : chk size none l = 0) (d : Nat) : ∀ i : Nat, i + d = l.length → chk size (prv l i) (l.drop i) = 0 →
    Ev (fun k => alibiref03_Of.l0 k l size (i : Int)) (((pows (l.map Int.toNat) : Nat) : Int), 0) := by
  obtain ⟨ha, hp, _⟩ := chk_ok size l none hc
  induction d with
  | zero =>
    intro i hd _
    have hm := mask_ev (l.map Int.toNat) (List.pairwise_map.2 (List.Pairwise.imp_of_mem (R := (· < ·)) (fun {a b} hA hB hab => by have := ha a hA; omega) hp)) (fun j hj => by obtain ⟨a, hA, rfl⟩ := List.mem_map.1 hj; have := ha a hA; omega) (by simpa using hl)
    have e : ints (l.map Int.toNat) = l := by
      unfold ints
      rw [List.map_map]
      refine (List.map_congr_left (g := id) fun x hx => ?_).trans (List.map_id _)
      have := ha x hx
      simp only [Function.comp, id]
      omega
    rw [e] at hm
    exact Ev.one (Ev.bind hm (Ev.now _)) fun k => by rw [alibiref03_Of.l0, if_neg (by omega)]
  | succ d ih =>
    intro i hd hk
    have hi : i < l.length := by omega
    rw [drop_cons l i hi] at hk
    unfold chk at hk
    split at hk
    · cases hk
    · rename_i h1
      split at hk
      · cases hk
      · rename_i h2
        exact rof_step l size i hi (by omega) h1 h2 _ (ih (i + 1) (by omega) (by rw [prv_succ l i hi]; exact hk))
theorem rof_bad (l : List Int) (size : Int) (hl : l.length ≤ 1000000) (c : Int) (hc0 : c ≠ 0) (d : Nat) : ∀ i : Nat, i + d = l.length → chk size (prv l i) (l.drop i) = c →
    Ev (fun k => alibiref03_Of.l0 k l size (i : Int)) (0, c) := by
  induction d with
  | zero =>
    intro i hd hk
    rw [List.drop_of_length_le (by omega)] at hk
    exact absurd hk.symm hc0
  | succ d ih =>
    intro i hd hk
    have hi : i < l.length := by omega
    have hr := rd_nat l i hi
    rw [drop_cons l i hi] at hk
    unfold chk at hk
    split at hk
    · rename_i h1
      subst hk
      refine Ev.one (f := fun k => alibiref03_Of.j1 k l size (i : Int) true) (Ev.one (Ev.now _) fun k => by rw [alibiref03_Of.j1, if_pos rfl]) fun k => ?_
      rw [alibiref03_Of.l0, if_pos (by omega), if_pos (by omega), hr]
      by_cases h0 : l[i] < 0
      · rw [if_pos h0]
      · rw [if_neg h0]
        by_cases h3 : l[i] ≥ size
        · rw [if_pos h3]
        · rw [if_neg h3, decide_eq_true (by omega)]
    · rename_i h1
      split at hk
      · rename_i h2
        subst hk
        obtain ⟨y, hy, hle⟩ := h2
        have h0 : i ≠ 0 := by rintro rfl; simp [prv] at hy
        obtain ⟨e1, e2⟩ := rd_prev l i hi h0 hl
        obtain rfl := Option.some.inj (e2.symm.trans hy)
        refine Ev.one (f := fun k => alibiref03_Of.j1 k l size (i : Int) false) (Ev.one (Ev.now _) fun k => ?_) fun k => ?_
        · rw [alibiref03_Of.j1, if_neg (by decide), if_pos (by omega), if_pos (by omega), if_pos (by omega), e1, if_pos (by omega), if_pos (by omega), hr, if_pos hle]
        · rw [alibiref03_Of.l0, if_pos (by omega), if_pos (by omega), hr, if_neg (by omega), if_neg (by omega), decide_eq_false (by omega)]
      · rename_i h2
        exact rof_step l size i hi hl h1 h2 _ (ih (i + 1) (by omega) (by rw [prv_succ l i hi]; exact hk))
end Go.Proofs.YtfglfhanikpafaaDoor.Sts
