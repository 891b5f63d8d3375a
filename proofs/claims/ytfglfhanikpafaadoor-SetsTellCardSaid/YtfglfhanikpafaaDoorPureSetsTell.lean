/- The pure statement of SetsTell: what is told of sets is told id by id. No condition. -/
import Derived.Test.YtfglfhanikpafaaDoorQRdSetsTell
import Derived.Test.YtfglfhanikpafaaDoorSts
namespace Go.Proofs.YtfglfhanikpafaaDoor.Pure
open Go.RowKit Go.Proofs.YtfglfhanikpafaaDoorW.PrintWords Go.Proofs.YtfglfhanikpafaaDoorW.PrintLast Go.Proofs.YtfglfhanikpafaaDoorW.PrintMore Go.Proofs.YtfglfhanikpafaaDoor.Q Go.Proofs.YtfglfhanikpafaaDoor.Rd Go.Proofs.YtfglfhanikpafaaDoor.Pl Go.Proofs.YtfglfhanikpafaaDoor.Bt Go.Proofs.YtfglfhanikpafaaDoor.Sts Go.Proofs.YtfglfhanikpafaaDoor.Q.OfSetsTell

theorem same_loop (l : List Int) (hl : l.length ≤ 1000000) (d : Nat) : ∀ (i : Nat), i + d = l.length → Ev (fun k => alibilaw03_same.l0 k l l (i : Int)) true := by
  induction d with
  | zero =>
    intro i hd
    exact Ev.one (Ev.now true) fun k => by rw [alibilaw03_same.l0, if_neg (by omega)]
  | succ d ih =>
    intro i hd
    have hi : i < l.length := by omega
    have IH := ih (i + 1) (by omega)
    rw [← w64_succ i l.length hi (by omega)] at IH
    refine Ev.one IH fun k => ?_
    rw [alibilaw03_same.l0, if_pos (by omega), if_pos (by omega), if_pos (by omega), if_pos rfl]
theorem same_self (l : List Int) (hl : l.length ≤ 1000000) : Ev (fun k => alibilaw03_same.f k l l) true :=
  Ev.congr (fun k => by rw [alibilaw03_same.f, if_pos rfl]; rfl) (same_loop l hl l.length 0 (by omega))
theorem leastN (a : Nat) (ha : a < 4294967296) : sets_Least.f (a : Int) = some (if a = 0 then -1 else rd (ints (ids a)) 0) := by
  by_cases h : a = 0
  · subst h; rw [if_pos rfl]; exact least0
  · rw [if_neg h, least h ha, ids_cons h ha]
    simp [ints, rd]
theorem j4 {a b : Nat} (ha : a < 4294967296) (hb : b < 4294967296) (id : Int) (n : Nat) (one : Int) (hn : n = (mx (mn id 32) 0).toNat) (h1 : sets_One.f id = some one) :
    Ev (fun k => alibilaw03_SetsTell.j4 k (a : Int) (b : Int) id (ints (ids a)) (if a = 0 then -1 else rd (ints (ids a)) 0) one (ints (List.range n))) true := by
  have hl := ids_length a
  obtain ⟨eall, hn32⟩ := all hn
  have hhas : ∃ x, sets_Has.f (a : Int) id = some x ∧ Ev (fun k => alibiref03_Has.f k (a : Int) id) x := by
    by_cases h : 0 ≤ id ∧ id < 32
    · obtain ⟨i, rfl⟩ := Int.eq_ofNat_of_zero_le h.1
      exact ⟨_, has_in ha (by omega), rhas_in ha (by omega)⟩
    · exact ⟨_, has_out (by omega), rhas_out (by omega)⟩
  obtain ⟨x, hx1, hx2⟩ := hhas
  have hmask := mask_ev (List.range n) List.pairwise_lt_range (fun i hi => by have := List.mem_range.1 hi; omega) (by simp; omega)
  rw [pows_range] at hmask
  refine Ev.one (f := fun k => (alibiref03_Has.f k (a : Int) id).bind fun t187 => (if (x == t187) = true then ((alibiref03_Within.f k (a : Int) (b : Int)).bind fun t189 => (if (decide (less a b = 0) == t189) = true then ((sets_List.f k (a : Int)).bind fun t192 => ((alibilaw03_same.f k t192 (ints (ids a))).bind fun t195 => (if t195 = true then ((alibiref03_Mask.f k (ints (List.range n))).bind fun t198 => (some (((2 ^ n - 1 : Nat) : Int) == t198))) else (some false)))) else (some false))) else (some false))) ?_ fun k => ?_
  · have hsame := same_self (ints (ids a)) (by rw [ints_length]; omega)
    refine Ev.bind hx2 (Ev.congr (fun k => by rw [if_pos (by simp)]) (Ev.bind (rwithin ha hb) (Ev.congr (fun k => by rw [if_pos (by simp)]) (Ev.bind (list_ev ha) (Ev.bind hsame ?_)))))
    refine Ev.congr (fun k => by rw [if_pos rfl]) (Ev.bind hmask (Ev.ret fun k => ?_))
    rw [beq_self_eq_true]
  · rw [alibilaw03_SetsTell.j4, hx1, Option.bind_some, within ha hb, count ha, leastN a ha, h1, eall]
    simp only [Option.bind_some, ints_length, if_true]
theorem l0_loop {a b : Nat} (ha : a < 4294967296) (hb : b < 4294967296) (id : Int) (n : Nat) (one : Int) (hn : n = (mx (mn id 32) 0).toNat) (h1 : sets_One.f id = some one) (d : Nat) :
    ∀ i : Nat, i + d = n → Ev (fun k => alibilaw03_SetsTell.l0 k (a : Int) (b : Int) id (ints (ids a)) (if a = 0 then -1 else rd (ints (ids a)) 0) one (ints (List.range i)) (i : Int)) true := by
  have hn32 := (all hn).2
  induction d with
  | zero =>
    intro i hd
    obtain rfl : i = n := by omega
    refine Ev.one (j4 ha hb id i one hn h1) fun k => ?_
    rw [alibilaw03_SetsTell.l0]
    by_cases h : (i : Int) < 32
    · rw [if_pos h, if_neg (by unfold mx mn at hn; split at hn <;> split at hn <;> omega)]
    · rw [if_neg h]
  | succ d ih =>
    intro i hd
    have IH := ih (i + 1) (by omega)
    rw [← w64_succ i 32 (by omega) (by omega), List.range_succ, ints_snoc] at IH
    refine Ev.one IH fun k => ?_
    rw [alibilaw03_SetsTell.l0, if_pos (by omega), if_pos (by unfold mx mn at hn; split at hn <;> split at hn <;> omega), if_pos (by rw [ints_length, List.length_range]; omega)]
theorem SetsTell : Aim := by
  intro a0 a1 id h0 h1 h2
  have b0 := bounds_u32 h0
  have b1 := bounds_u32 h1
  obtain ⟨a, rfl⟩ := Int.eq_ofNat_of_zero_le b0.1
  obtain ⟨b, rfl⟩ := Int.eq_ofNat_of_zero_le b1.1
  have ha : a < 4294967296 := by omega
  have hb : b < 4294967296 := by omega
  have hl := ids_length a
  have main : ∀ one, sets_One.f id = some one → Ev (fun k => alibilaw03_SetsTell.j2 k (a : Int) (b : Int) id (ints (ids a)) (if a = 0 then -1 else rd (ints (ids a)) 0) one) true := by
    intro one ho
    exact Ev.one (l0_loop ha hb id _ one rfl ho _ 0 (by rw [Nat.zero_add])) fun k => by rw [alibilaw03_SetsTell.j2]; rfl
  have j0 : Ev (fun k => alibilaw03_SetsTell.j0 k (a : Int) (b : Int) id (ints (ids a)) (if a = 0 then -1 else rd (ints (ids a)) 0)) true := by
    by_cases h : 0 ≤ id ∧ id < 32
    · obtain ⟨i, rfl⟩ := Int.eq_ofNat_of_zero_le h.1
      have hi : i < 32 := by omega
      have hm := mask_ev [i] (by simp) (by simpa using hi) (by simp)
      refine Ev.one (f := fun k => alibilaw03_SetsTell.j1 k (a : Int) (b : Int) (i : Int) (ints (ids a)) (if a = 0 then -1 else rd (ints (ids a)) 0) 0 true) (Ev.one (Ev.bind hm ?_) fun k => by rw [alibilaw03_SetsTell.j1, if_pos rfl]; rfl) fun k => by rw [alibilaw03_SetsTell.j0, if_pos h.1, decide_eq_true h.2]
      have := main _ (one_in hi)
      simpa [pows] using this
    · refine Ev.one (f := fun k => alibilaw03_SetsTell.j1 k (a : Int) (b : Int) id (ints (ids a)) (if a = 0 then -1 else rd (ints (ids a)) 0) 0 false) (Ev.one (main 0 (one_out (by omega))) fun k => by rw [alibilaw03_SetsTell.j1, if_neg (by decide)]) fun k => ?_
      rw [alibilaw03_SetsTell.j0]
      by_cases h0 : id ≥ 0
      · rw [if_pos h0, decide_eq_false (by omega)]
      · rw [if_neg h0]
  refine Ev.rounds (Ev.bind awake (Ev.congr (fun k => by rw [if_pos rfl]) (Ev.bind (rlist_ev ha) (Ev.congr (fun k => ?_) j0))))
  by_cases h : a = 0
  · subst h
    rw [ids_zero, if_neg (by decide)]; rfl
  · rw [ids_cons h ha, if_pos (by simp [ints]), if_pos (by simp [ints]), if_neg h]
end Go.Proofs.YtfglfhanikpafaaDoor.Pure
