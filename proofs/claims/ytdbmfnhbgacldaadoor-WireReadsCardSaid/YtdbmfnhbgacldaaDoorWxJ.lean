/- Contracts: the law that what is written is read as it was. -/
import Derived.Test.YtdbmfnhbgacldaaDoorWxG
namespace Go.Proofs.YtdbmfnhbgacldaaDoor.Am
set_option autoImplicit false
set_option linter.unusedVariables false
set_option linter.unusedSimpArgs false
set_option maxRecDepth 10000
set_option pp.maxSteps 20000
set_option pp.proofs false
theorem new33r (zs : List Nat) (h : zs.length ≤ 1000000) : CallW Tryd.prog G0 23 [.ref 0 1 0 zs.length] [.row 1 1 false (lift (zs.map by8))] (fun r st' => r = .ptr 2 0 0 0 ∧ st' = [.row 1 1 false (lift (zs.map by8)), .dead, rdB ⟨zs, 0, 0, 0⟩]) := by
  refine call_of_bodyF 3 (Nat.le_succ_of_le (Nat.le_succ 1)) Tryd.func23 rfl (fun a w => Tryd.call23 a w) (W.weak (wpx_ok (own := ownAll) _ _ _ ?_))
  repeat ((conv => whnf); first | refine Br.t ?_ | refine Br.f ?_ | refine ⟨rfl, ?_⟩)
  conv => whnf
  have etk : ((lift (zs.map by8)).drop 0).take zs.length = lift (zs.map by8) := by rw [List.drop_zero, List.take_of_length_le (by simp [lift])]
  rw [etk]
  refine ⟨apR rfl rfl 1 rfl (by simp; omega) (len_mx (by simp; omega)), ?_⟩
  repeat ((conv => whnf); first | refine Br.t ?_ | refine Br.f ?_ | refine ⟨rfl, ?_⟩)
  conv => whnf
  refine ⟨_, Le.data 1 2 1 (zs.map by8) (sl := _) (s := ⟨mkS 8 [(2, .ptr 2 0 0 0)], [.row 1 1 false (lift (zs.map by8)), .dead, rdB ⟨zs, 0, 0, 0⟩]⟩) rfl ?_ ?_, ?_⟩
  · simp [leS, mkS, V.dat]
  · simp [Ob.dat, rdB, V.dat.datAll, V.dat]
    exact (List.take_of_length_le (by simp [lift])).symm
  · conv => whnf
    refine fin (target := [.row 1 1 false (lift (zs.map by8)), .dead, rdB ⟨zs, 0, 0, 0⟩]) rfl (Nat.le_refl _) ?_ rfl rfl
    intro o ho
    simp only [List.mem_cons, List.not_mem_nil, or_false] at ho
    rcases ho with rfl | rfl | rfl
    · intro cs hcs
      simp only [lift, List.mem_map] at hcs
      obtain ⟨c, ⟨b, _, rfl⟩, rfl⟩ := hcs
      rfl
    · trivial
    · intro cs hcs
      simp only [List.mem_singleton] at hcs
      subst hcs
      rfl
theorem u16_i64 (n : Int) : IntKind.i64.wrap (IntKind.u16.wrap n) = (((n % 65536).toNat : Nat) : Int) := by
  have e : IntKind.u16.wrap n = n % 65536 := by simp [IntKind.wrap, IntKind.signed, IntKind.bits]
  rw [e, i64_id (by omega) (by omega)]; omega
def itC (x : Item) : List Nat := if x.1 % 4 = 0 then putN (x.2.1 % 65536).toNat else if x.1 % 4 = 1 then x.2.2.1 else if x.1 % 4 = 2 then putN x.2.2.1.length ++ x.2.2.1 else setN x.2.2.2
theorem itC_len {x : Item} (h : x.2.2.1.length ≤ 600) : (itC x).length ≤ 605 := by
  unfold itC
  have h1 := putN_len 4 (x.2.1 % 65536).toNat (by omega)
  have h2 := putN_len 4 x.2.2.1.length (by omega)
  have h3 := setN_len (m := x.2.2.2)
  split
  · omega
  · split
    · omega
    · split
      · rw [List.length_append]; omega
      · omega
theorem itemsC_len : ∀ (l : List Item), (∀ x ∈ l, x.2.2.1.length ≤ 600) → (l.flatMap itC).length ≤ 605 * l.length
  | [], _ => by simp
  | x :: l, h => by
    have h1 := itC_len (h x (by simp))
    have h2 := itemsC_len l (fun y hy => h y (by simp [hy]))
    rw [List.flatMap_cons, List.length_append, List.length_cons]
    omega
theorem putN_byte : ∀ (n : Nat), ∀ b ∈ putN n, b < 256 := by
  intro n
  induction n using Nat.strongRecOn with
  | ind n ih =>
    intro b hb
    rw [putN] at hb
    by_cases hn : n < 128
    · rw [dif_pos hn] at hb; simp at hb; omega
    · rw [dif_neg hn] at hb
      simp only [List.mem_cons] at hb
      rcases hb with rfl | hb
      · omega
      · exact ih _ (by omega) b hb
theorem itC_byte {x : Item} (h : okIt x) : ∀ b ∈ itC x, b < 256 := by
  intro b hb
  unfold itC at hb
  split at hb
  · exact putN_byte _ b hb
  · split at hb
    · exact h.2.2.1 b hb
    · split at hb
      · simp only [List.mem_append] at hb
        rcases hb with hb | hb
        · exact putN_byte _ b hb
        · exact h.2.2.1 b hb
      · simp only [setN, List.mem_append, List.mem_flatMap] at hb
        rcases hb with hb | ⟨n, _, hb⟩
        · exact putN_byte _ b hb
        · exact putN_byte _ b hb
theorem setR_put : ∀ (l2 l1 : List Nat) (s : Rd) (rest : List Nat), s.why = 0 → s.bs.drop s.p = l2.flatMap putN ++ rest → (l1 ++ l2).Pairwise (· < ·) → (∀ i ∈ l1 ++ l2, i < 32) →
    setR l2.length 31 l1 s = (pows (l1 ++ l2), { s with p := s.p + (l2.flatMap putN).length })
  | [], l1, s, rest, h0, hd, hp, hm => by simp [setR]
  | x :: l2, l1, s, rest, h0, hd, hp, hm => by
    rw [List.flatMap_cons, List.append_assoc] at hd
    have hx : x < 32 := hm x (by simp)
    have e1 := num_put (mx := 31) h0 hd (by omega) (by omega)
    rw [List.length_cons, setR, e1]
    simp only
    rw [if_neg (by omega)]
    have hl : ¬ (x : Int) ≤ lastI l1 := by
      intro hle
      rw [List.pairwise_append] at hp
      unfold lastI at hle
      cases hg : l1.getLast? with
      | none => rw [hg] at hle; simp only at hle; omega
      | some y =>
        rw [hg] at hle
        simp only at hle
        have hy := List.mem_of_getLast? hg
        have := hp.2.2 y hy x (by simp)
        omega
    rw [if_neg hl]
    have hd2 := drop_add hd
    rw [setR_put l2 (l1 ++ [x]) { s with p := s.p + (putN x).length } rest h0 hd2 (by rw [List.append_assoc]; exact hp) (by rw [List.append_assoc]; exact hm)]
    rw [List.append_assoc, List.flatMap_cons, List.length_append]
    simp [Nat.add_assoc]
theorem limI32 : limI 32 = 32 := by decide
theorem set_put {s : Rd} {m : Nat} {rest : List Nat} (hm : m < 4294967296) (h0 : s.why = 0) (hd : s.bs.drop s.p = setN m ++ rest) : s.set 32 = (m, { s with p := s.p + (setN m).length }) := by
  have hl := ids_length m
  rw [setN, List.append_assoc] at hd
  have e1 := num_put (mx := limI 32) h0 hd (by omega) (by rw [limI32]; omega)
  have hd2 := drop_add hd
  unfold Rd.set
  rw [e1]
  simp only
  rw [limI32]
  have e2 := setR_put (ids m) [] { s with p := s.p + (putN (ids m).length).length } rest h0 hd2 (by simpa using ids_rising m) (by simpa using ids_32 m)
  rw [show (32 : Int) - 1 = 31 from rfl, e2, List.nil_append, pows_ids hm, setN, List.length_append]
  simp [Nat.add_assoc]
theorem block_put {s : Rd} {b rest : List Nat} (hb : b.length ≤ 600) (h0 : s.why = 0) (hd : s.bs.drop s.p = (putN b.length ++ b) ++ rest) : s.block 600 = (b, { s with p := s.p + (putN b.length ++ b).length }) := by
  rw [List.append_assoc] at hd
  have e1 := num_put (mx := 600) h0 hd (by omega) (by omega)
  have hd2 := drop_add hd
  unfold Rd.block
  rw [e1]
  simp only
  rw [raw_put (s := { s with p := s.p + (putN b.length).length }) h0 hd2, List.length_append]
  simp [Nat.add_assoc]
end Go.Proofs.YtdbmfnhbgacldaaDoor.Am
