/- The document's table of calls: what comes to what, by rounds of three. -/
import Derived.Test.YtiikndppckjmhaaThA
namespace Go.Proofs.Ytiikndppckjmhaa.Am
set_option autoImplicit false
set_option linter.unusedVariables false
set_option linter.unusedSimpArgs false
def cell (m : List (List Nat)) (a b : Nat) : Nat := (m.getD a []).getD b 0
def rowL (L : List Nd) (row : List Nat) : List Nat := L.foldl (fun r x => if x.1 = 7 then r.set x.2.1.toNat 1 else r) row
def rows0 (p : Pg) : List (List Nat) := p.fs.map fun L => rowL L (List.replicate p.fs.length 0)
def put1 (m : List (List Nat)) (a b : Nat) : List (List Nat) := m.set a ((m.getD a []).set b 1)
def stepB (k a : Nat) (m : List (List Nat)) (b : Nat) : List (List Nat) := if cell m a k = 1 ∧ cell m k b = 1 then put1 m a b else m
def stepA (n k : Nat) (m : List (List Nat)) (a : Nat) : List (List Nat) := (List.range n).foldl (stepB k a) m
def stepK (n : Nat) (m : List (List Nat)) (k : Nat) : List (List Nat) := (List.range n).foldl (stepA n k) m
def mat (p : Pg) : List (List Nat) := (List.range p.fs.length).foldl (stepK p.fs.length) (rows0 p)
theorem fold_succ {α : Type} (f : α → Nat → α) (x : α) (j : Nat) : (List.range (j + 1)).foldl f x = f ((List.range j).foldl f x) j := by
  rw [List.range_succ, List.foldl_append]; rfl
def on (m : List (List Nat)) (a b : Nat) : Prop := cell m a b = 1
def Sq (n : Nat) (m : List (List Nat)) : Prop := m.length = n ∧ ∀ a, a < n → (m.getD a []).length = n
theorem getD_set_eq {α : Type} (l : List α) (i j : Nat) (x d : α) (h : i < l.length) : (l.set i x).getD j d = if i = j then x else l.getD j d := by
  rw [List.getD_eq_getElem?_getD, List.getD_eq_getElem?_getD, List.getElem?_set]
  by_cases e : i = j
  · subst e; simp [h]
  · simp [e]
theorem Sq.put {n : Nat} {m : List (List Nat)} (h : Sq n m) {a b : Nat} (ha : a < n) : Sq n (put1 m a b) := by
  refine ⟨by unfold put1; rw [List.length_set, h.1], fun c hc => ?_⟩
  unfold put1
  rw [getD_set_eq _ _ _ _ _ (by rw [h.1]; exact ha)]
  split
  · rw [List.length_set]; exact h.2 a ha
  · exact h.2 c hc
theorem on_put {n : Nat} {m : List (List Nat)} (h : Sq n m) {a b c d : Nat} (ha : a < n) (hb : b < n) : on (put1 m a b) c d ↔ (c = a ∧ d = b) ∨ on m c d := by
  unfold on put1 cell
  rw [getD_set_eq _ _ _ _ _ (by rw [h.1]; exact ha)]
  by_cases e : a = c
  · subst e
    rw [if_pos rfl, getD_set_eq _ _ _ _ _ (by rw [h.2 a ha]; exact hb)]
    by_cases e2 : b = d
    · subst e2; simp
    · rw [if_neg e2]
      constructor
      · exact .inr
      · rintro (⟨_, h⟩ | h)
        · exact absurd h.symm e2
        · exact h
  · rw [if_neg e]
    constructor
    · exact .inr
    · rintro (⟨h, _⟩ | h)
      · exact absurd h.symm e
      · exact h
/-- steps along E whose inner places are below K -/
inductive Via (E : Nat → Nat → Prop) (K : Nat) : Nat → Nat → Prop
  | one {a b : Nat} : E a b → Via E K a b
  | step {a c b : Nat} : E a c → c < K → Via E K c b → Via E K a b
theorem Via.split {E : Nat → Nat → Prop} {K a b : Nat} (h : Via E (K + 1) a b) : Via E K a b ∨ (Via E K a K ∧ Via E K K b) := by
  induction h with
  | one h => exact .inl (.one h)
  | @step a c b h hc _ ih =>
    by_cases e : c = K
    · subst e
      rcases ih with ih | ih
      · exact .inr ⟨.one h, ih⟩
      · exact .inr ⟨.one h, ih.2⟩
    · rcases ih with ih | ih
      · exact .inl (.step h (by omega) ih)
      · exact .inr ⟨.step h (by omega) ih.1, ih.2⟩
theorem Conn.via {E : Nat → Nat → Prop} {n : Nat} (hE : ∀ a b, E a b → b < n) {a b : Nat} (h : Conn E a b) : Via E n a b := by
  induction h with
  | one h => exact .one h
  | step h _ ih => exact .step h (hE _ _ h) ih
/-- what a round of k keeps: its start m0 -/
structure Inv (fs : List (List Nd)) (m0 m : List (List Nat)) : Prop where
  sq : Sq fs.length m
  sound : ∀ a b, a < fs.length → b < fs.length → on m a b → Conn (E fs) a b
  mono : ∀ a b, on m0 a b → on m a b
theorem stepB_fold (fs : List (List Nd)) (m0 m1 : List (List Nat)) (k a : Nat) (hk : k < fs.length) (ha : a < fs.length) (h1 : Inv fs m0 m1) : ∀ j, j ≤ fs.length →
    Inv fs m0 ((List.range j).foldl (stepB k a) m1) ∧ (∀ c e, on m1 c e → on ((List.range j).foldl (stepB k a) m1) c e) ∧ (∀ e, e < j → on m0 a k → on m0 k e → on ((List.range j).foldl (stepB k a) m1) a e)
  | 0, _ => ⟨h1, fun _ _ h => h, fun e h => by omega⟩
  | j + 1, hj => by
    obtain ⟨hI, hm, hd⟩ := stepB_fold fs m0 m1 k a hk ha h1 j (by omega)
    rw [fold_succ]
    generalize (List.range j).foldl (stepB k a) m1 = m at hI hm hd
    unfold stepB
    split
    · rename_i hc
      refine ⟨⟨hI.sq.put ha, fun c e hc1 he h => ?_, fun c e h => (on_put hI.sq ha (by omega)).2 (.inr (hI.mono c e h))⟩, fun c e h => (on_put hI.sq ha (by omega)).2 (.inr (hm c e h)), fun e he x y => ?_⟩
      · rcases (on_put hI.sq ha (by omega)).1 h with ⟨rfl, rfl⟩ | h
        · exact (hI.sound _ _ ha hk hc.1).trans (hI.sound _ _ hk (by omega) hc.2)
        · exact hI.sound c e hc1 he h
      · by_cases e' : e = j
        · subst e'; exact (on_put hI.sq ha (by omega)).2 (.inl ⟨rfl, rfl⟩)
        · exact (on_put hI.sq ha (by omega)).2 (.inr (hd e (by omega) x y))
    · rename_i hc
      refine ⟨hI, hm, fun e he x y => ?_⟩
      by_cases e' : e = j
      · subst e'; exact absurd ⟨hI.mono _ _ x, hI.mono _ _ y⟩ hc
      · exact hd e (by omega) x y
theorem stepA_fold (fs : List (List Nd)) (m0 : List (List Nat)) (k : Nat) (hk : k < fs.length) (h0 : Inv fs m0 m0) : ∀ j, j ≤ fs.length →
    Inv fs m0 ((List.range j).foldl (stepA fs.length k) m0) ∧ (∀ c e, c < j → e < fs.length → on m0 c k → on m0 k e → on ((List.range j).foldl (stepA fs.length k) m0) c e)
  | 0, _ => ⟨h0, fun c e h => by omega⟩
  | j + 1, hj => by
    obtain ⟨hI, hd⟩ := stepA_fold fs m0 k hk h0 j (by omega)
    rw [fold_succ]
    generalize (List.range j).foldl (stepA fs.length k) m0 = m at hI hd
    unfold stepA
    obtain ⟨g1, g2, g3⟩ := stepB_fold fs m0 m k j hk (by omega) hI fs.length (Nat.le_refl _)
    refine ⟨g1, fun c e hc he x y => ?_⟩
    by_cases e' : c = j
    · subst e'; exact g3 e he x y
    · exact g2 _ _ (hd c e (by omega) he x y)
theorem stepK_fold (fs : List (List Nd)) (m0 : List (List Nat)) (h0 : Inv fs [] m0) (hv : ∀ a b, a < fs.length → b < fs.length → E fs a b → on m0 a b) : ∀ j, j ≤ fs.length →
    Inv fs [] ((List.range j).foldl (stepK fs.length) m0) ∧ (∀ a b, a < fs.length → b < fs.length → Via (E fs) j a b → on ((List.range j).foldl (stepK fs.length) m0) a b)
  | 0, _ => ⟨h0, fun a b ha hb h => by
    cases h with
    | one h => exact hv a b ha hb h
    | step _ h _ => omega⟩
  | j + 1, hj => by
    obtain ⟨hI, hd⟩ := stepK_fold fs m0 h0 hv j (by omega)
    rw [fold_succ]
    generalize (List.range j).foldl (stepK fs.length) m0 = m at hI hd
    unfold stepK
    obtain ⟨g1, g2⟩ := stepA_fold fs m j (by omega) ⟨hI.sq, hI.sound, fun _ _ h => h⟩ fs.length (Nat.le_refl _)
    refine ⟨⟨g1.sq, g1.sound, fun a b h => by simp [on, cell] at h⟩, fun a b ha hb h => ?_⟩
    rcases h.split with h | ⟨x, y⟩
    · exact g1.mono _ _ (hd a b ha hb h)
    · exact g2 a b ha hb (hd a j ha (by omega) x) (hd j b (by omega) hb y)
theorem rowL_len : ∀ (L : List Nd) (row : List Nat), (rowL L row).length = row.length
  | [], row => rfl
  | x :: L, row => by
    rw [rowL, List.foldl_cons]
    have := rowL_len L (if x.1 = 7 then row.set x.2.1.toNat 1 else row)
    rw [rowL] at this
    rw [this]
    split
    · rw [List.length_set]
    · rfl
theorem rowL_on : ∀ (L : List Nd) (row : List Nat), (∀ x ∈ L, x.1 = 7 → 0 ≤ x.2.1 ∧ x.2.1 < row.length) → ∀ b, (rowL L row).getD b 0 = 1 ↔ row.getD b 0 = 1 ∨ ∃ x ∈ L, x.1 = 7 ∧ x.2.1 = (b : Int)
  | [], row, _, b => by simp [rowL]
  | x :: L, row, h, b => by
    rw [rowL, List.foldl_cons]
    have ih := rowL_on L (if x.1 = 7 then row.set x.2.1.toNat 1 else row) (fun y hy h7 => by
      have := h y (List.mem_cons_of_mem _ hy) h7
      split
      · rw [List.length_set]; exact this
      · exact this) b
    rw [rowL] at ih
    rw [ih]
    clear ih
    by_cases h7 : x.1 = 7
    · have hx := h x List.mem_cons_self h7
      rw [if_pos h7, getD_set_eq _ _ _ _ _ (by omega)]
      by_cases e : x.2.1.toNat = b
      · rw [if_pos e]
        have eb : x.2.1 = (b : Int) := by omega
        exact ⟨fun _ => .inr ⟨x, List.mem_cons_self, h7, eb⟩, fun _ => .inl rfl⟩
      · rw [if_neg e]
        constructor
        · rintro (h1 | ⟨y, h1, h2⟩)
          · exact .inl h1
          · exact .inr ⟨y, List.mem_cons_of_mem _ h1, h2⟩
        · rintro (h1 | ⟨y, h1, h2, h3⟩)
          · exact .inl h1
          · rcases List.mem_cons.1 h1 with rfl | h1
            · omega
            · exact .inr ⟨y, h1, h2, h3⟩
    · rw [if_neg h7]
      constructor
      · rintro (h1 | ⟨y, h1, h2⟩)
        · exact .inl h1
        · exact .inr ⟨y, List.mem_cons_of_mem _ h1, h2⟩
      · rintro (h1 | ⟨y, h1, h2, h3⟩)
        · exact .inl h1
        · rcases List.mem_cons.1 h1 with rfl | h1
          · exact absurd h2 h7
          · exact .inr ⟨y, h1, h2, h3⟩
theorem rows0_get (p : Pg) {a : Nat} (ha : a < p.fs.length) : (rows0 p).getD a [] = rowL (p.fs.getD a []) (List.replicate p.fs.length 0) := by
  simp [rows0, List.getD_eq_getElem?_getD, ha]
theorem rows0_on {p : Pg} (hc : Calls0 p) {a : Nat} (ha : a < p.fs.length) (b : Nat) : on (rows0 p) a b ↔ E p.fs a b := by
  unfold on cell
  rw [rows0_get p ha, rowL_on _ _ (fun x hx h7 => by have := hc _ (fs_mem ha) x hx h7; simpa using this)]
  constructor
  · rintro (h | h)
    · rw [List.getD_eq_getElem?_getD, List.getElem?_replicate] at h
      split at h <;> simp at h
    · exact h
  · exact .inr
theorem rows0_sq (p : Pg) : Sq p.fs.length (rows0 p) := ⟨by simp [rows0], fun a ha => by rw [rows0_get p ha, rowL_len]; simp⟩
/-- the table tells what comes to what -/
theorem mat_on {p : Pg} (hc : Calls0 p) : Sq p.fs.length (mat p) ∧ ∀ a b, a < p.fs.length → b < p.fs.length → (on (mat p) a b ↔ Conn (E p.fs) a b) := by
  obtain ⟨h1, h2⟩ := stepK_fold p.fs (rows0 p) ⟨rows0_sq p, fun a b ha hb h => .one ((rows0_on hc ha b).1 h), fun a b h => by simp [on, cell] at h⟩ (fun a b ha hb h => (rows0_on hc ha b).2 h) p.fs.length (Nat.le_refl _)
  exact ⟨h1.sq, fun a b ha hb => ⟨h1.sound a b ha hb, fun h => h2 a b ha hb (h.via fun _ _ e => (E_lt hc e).2)⟩⟩
end Go.Proofs.Ytiikndppckjmhaa.Am
