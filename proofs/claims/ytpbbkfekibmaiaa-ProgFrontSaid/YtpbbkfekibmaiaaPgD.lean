/- The reference's table of calls: what comes to what, by Warshall's rounds. No condition but those of each lemma. -/
import Derived.Test.YtpbbkfekibmaiaaQx7
import Derived.Test.YtpbbkfekibmaiaaPgB
namespace Go.Proofs.Ytpbbkfekibmaiaa.Pg
open Go.RowKit Go.Proofs.YtpbbkfekibmaiaaW.PrintWords Go.Proofs.YtpbbkfekibmaiaaW.PrintLast Go.Proofs.YtpbbkfekibmaiaaW.PrintMore Go.Proofs.Ytpbbkfekibmaiaa.Q Go.Proofs.Ytpbbkfekibmaiaa.Pl
theorem rdM (xs : List (List Int)) (i : Nat) : rd_L5 xs (i : Int) = xs.getD i [] := by unfold rd_L5; rw [Int.toNat_natCast]
theorem rdI (xs : List Int) (i : Nat) : rd xs (i : Int) = xs.getD i 0 := by unfold rd; rw [Int.toNat_natCast]
/-- Cell (a, b) is 1. -/
def on (m : List (List Int)) (a b : Nat) : Prop := (m.getD a []).getD b 0 = 1
def Sq (n : Nat) (m : List (List Int)) : Prop := m.length = n ∧ ∀ a, a < n → (m.getD a []).length = n
theorem getD_set_eq {α : Type} (l : List α) (i j : Nat) (x d : α) (h : i < l.length) : (l.set i x).getD j d = if i = j then x else l.getD j d := by
  rw [List.getD_eq_getElem?_getD, List.getD_eq_getElem?_getD, List.getElem?_set]
  by_cases e : i = j
  · subst e; simp [h]
  · simp [e]
def put (m : List (List Int)) (a b : Nat) : List (List Int) := m.set a ((m.getD a []).set b 1)
theorem Sq.put {n : Nat} {m : List (List Int)} (h : Sq n m) {a b : Nat} (ha : a < n) : Sq n (put m a b) := by
  refine ⟨by unfold Pg.put; rw [List.length_set, h.1], fun c hc => ?_⟩
  unfold Pg.put
  rw [getD_set_eq _ _ _ _ _ (by rw [h.1]; exact ha)]
  split
  · rw [List.length_set]; exact h.2 a ha
  · exact h.2 c hc
theorem on_put {n : Nat} {m : List (List Int)} (h : Sq n m) {a b c d : Nat} (ha : a < n) (hb : b < n) : on (put m a b) c d ↔ (c = a ∧ d = b) ∨ on m c d := by
  unfold on put
  rw [getD_set_eq _ _ _ _ _ (by rw [h.1]; exact ha)]
  by_cases e : a = c
  · subst e
    rw [if_pos rfl, getD_set_eq _ _ _ _ _ (by rw [h.2 a ha]; exact hb)]
    by_cases e2 : b = d
    · subst e2; simp
    · rw [if_neg e2]
      constructor
      · exact .inr
      · rintro (⟨_, h⟩ | h)
        · exact absurd h.symm e2
        · exact h
  · rw [if_neg e]
    constructor
    · exact .inr
    · rintro (⟨h, _⟩ | h)
      · exact absurd h.symm e
      · exact h
/-- Steps along E whose inner places are below K. -/
inductive Via (E : Nat → Nat → Prop) (K : Nat) : Nat → Nat → Prop
  | one {a b : Nat} : E a b → Via E K a b
  | step {a c b : Nat} : E a c → c < K → Via E K c b → Via E K a b
theorem Via.split {E : Nat → Nat → Prop} {K a b : Nat} (h : Via E (K + 1) a b) : Via E K a b ∨ (Via E K a K ∧ Via E K K b) := by
  induction h with
  | one h => exact .inl (.one h)
  | @step a c b h hc _ ih =>
    by_cases e : c = K
    · subst e
      rcases ih with ih | ih
      · exact .inr ⟨.one h, ih⟩
      · exact .inr ⟨.one h, ih.2⟩
    · rcases ih with ih | ih
      · exact .inl (.step h (by omega) ih)
      · exact .inr ⟨.step h (by omega) ih.1, ih.2⟩
theorem Conn.via {E : Nat → Nat → Prop} {n : Nat} (hE : ∀ a b, E a b → b < n) {a b : Nat} (h : Conn E a b) : Via E n a b := by
  induction h with
  | one h => exact .one h
  | step h _ ih => exact .step h (hE _ _ h) ih
/-- What a round of k keeps: its start m0. -/
structure Inv (fs : List (List Nd)) (m0 m : List (List Int)) : Prop where
  sq : Sq fs.length m
  sound : ∀ a b, a < fs.length → b < fs.length → on m a b → Conn (E fs) a b
  mono : ∀ a b, on m0 a b → on m a b
theorem l4_loop (fs : List (List Nd)) (hn : fs.length ≤ 100000) (m0 : List (List Int)) (k a : Nat) (hk : k < fs.length) (ha : a < fs.length) (d : Nat) : ∀ (b : Nat) (m : List (List Int)), b + d = fs.length → Inv fs m0 m →
    ∃ m', Inv fs m0 m' ∧ (∀ c e, on m c e → on m' c e) ∧ (∀ e, b ≤ e → e < fs.length → on m0 a k → on m0 k e → on m' a e) ∧
      (∀ r, Ev (fun n => alibiref05_Calls.l3 n (fs.length : Int) m' (k : Int) ((a + 1 : Nat) : Int)) r → Ev (fun n => alibiref05_Calls.l4 n (fs.length : Int) m (k : Int) (a : Int) (b : Int)) r) := by
  induction d with
  | zero =>
    intro b m hd hI
    refine ⟨m, hI, fun _ _ h => h, fun e h1 h2 => by omega, fun r h => ?_⟩
    rw [← w64_succ a fs.length ha (by omega)] at h
    exact Ev.one h fun n => by rw [alibiref05_Calls.l4, if_neg (by omega)]
  | succ d ih =>
    intro b m hd hI
    have hb : b < fs.length := by omega
    have hl := hI.sq.1
    have hla := hI.sq.2 a ha
    have hlk := hI.sq.2 k hk
    by_cases h1 : on m a k
    · by_cases h2 : on m k b
      · have hI' : Inv fs m0 (put m a b) := by
          refine ⟨hI.sq.put ha, fun c e hc he h => ?_, fun c e h => (on_put hI.sq ha hb).2 (.inr (hI.mono c e h))⟩
          rcases (on_put hI.sq ha hb).1 h with ⟨rfl, rfl⟩ | h
          · exact (hI.sound _ _ ha hk h1).trans (hI.sound _ _ hk hb h2)
          · exact hI.sound c e hc he h
        obtain ⟨m', h3, h4, h5, h6⟩ := ih (b + 1) _ (by omega) hI'
        refine ⟨m', h3, fun c e h => h4 c e ((on_put hI.sq ha hb).2 (.inr h)), fun e he1 he2 x y => ?_, fun r h => ?_⟩
        · by_cases e' : e = b
          · subst e'; exact h4 _ _ ((on_put hI.sq ha hb).2 (.inl ⟨rfl, rfl⟩))
          · exact h5 e (by omega) he2 x y
        · have hh := h6 r h
          rw [← w64_succ b fs.length hb (by omega)] at hh
          refine Ev.one hh fun n => ?_
          unfold on at h1 h2
          rw [alibiref05_Calls.l4, if_pos (by omega), if_pos (by omega), if_pos (by omega), if_pos (by omega), rdM, if_pos (by omega), rdI, if_pos h1, if_pos (by omega), if_pos (by omega), rdM, if_pos (by omega), rdI, if_pos h2, if_pos (by omega), Int.toNat_natCast, Int.toNat_natCast]
          rfl
      · obtain ⟨m', h3, h4, h5, h6⟩ := ih (b + 1) m (by omega) hI
        refine ⟨m', h3, h4, fun e he1 he2 x y => ?_, fun r h => ?_⟩
        · by_cases e' : e = b
          · subst e'; exact absurd (hI.mono _ _ y) h2
          · exact h5 e (by omega) he2 x y
        · have hh := h6 r h
          rw [← w64_succ b fs.length hb (by omega)] at hh
          refine Ev.one hh fun n => ?_
          unfold on at h1 h2
          rw [alibiref05_Calls.l4, if_pos (by omega), if_pos (by omega), if_pos (by omega), if_pos (by omega), rdM, if_pos (by omega), rdI, if_pos h1, if_pos (by omega), if_pos (by omega), rdM, if_pos (by omega), rdI, if_neg h2]
    · obtain ⟨m', h3, h4, h5, h6⟩ := ih (b + 1) m (by omega) hI
      refine ⟨m', h3, h4, fun e he1 he2 x y => absurd (hI.mono _ _ x) h1, fun r h => ?_⟩
      have hh := h6 r h
      rw [← w64_succ b fs.length hb (by omega)] at hh
      refine Ev.one hh fun n => ?_
      unfold on at h1
      rw [alibiref05_Calls.l4, if_pos (by omega), if_pos (by omega), if_pos (by omega), if_pos (by omega), rdM, if_pos (by omega), rdI, if_neg h1]
theorem l3_loop (fs : List (List Nd)) (hn : fs.length ≤ 100000) (m0 : List (List Int)) (k : Nat) (hk : k < fs.length) (d : Nat) : ∀ (a : Nat) (m : List (List Int)), a + d = fs.length → Inv fs m0 m →
    ∃ m', Inv fs m0 m' ∧ (∀ c e, on m c e → on m' c e) ∧ (∀ c e, a ≤ c → c < fs.length → e < fs.length → on m0 c k → on m0 k e → on m' c e) ∧
      (∀ r, Ev (fun n => alibiref05_Calls.l2 n (fs.length : Int) m' ((k + 1 : Nat) : Int)) r → Ev (fun n => alibiref05_Calls.l3 n (fs.length : Int) m (k : Int) (a : Int)) r) := by
  induction d with
  | zero =>
    intro a m hd hI
    refine ⟨m, hI, fun _ _ h => h, fun c e h1 h2 => by omega, fun r h => ?_⟩
    rw [← w64_succ k fs.length hk (by omega)] at h
    exact Ev.one h fun n => by rw [alibiref05_Calls.l3, if_neg (by omega)]
  | succ d ih =>
    intro a m hd hI
    have ha : a < fs.length := by omega
    obtain ⟨m1, h1, h2, h3, h4⟩ := l4_loop fs hn m0 k a hk ha fs.length 0 m (by omega) hI
    obtain ⟨m2, k1, k2, k3, k4⟩ := ih (a + 1) m1 (by omega) h1
    refine ⟨m2, k1, fun c e h => k2 c e (h2 c e h), fun c e hc1 hc2 he x y => ?_, fun r h => ?_⟩
    · by_cases e' : c = a
      · subst e'; exact k2 _ _ (h3 e (by omega) he x y)
      · exact k3 c e (by omega) hc2 he x y
    · exact Ev.one (h4 r (k4 r h)) fun n => by rw [alibiref05_Calls.l3, if_pos (by omega)]; rfl
theorem l2_loop (fs : List (List Nd)) (hn : fs.length ≤ 100000) (d : Nat) : ∀ (k : Nat) (m : List (List Int)), k + d = fs.length → Inv fs [] m → (∀ a b, a < fs.length → b < fs.length → Via (E fs) k a b → on m a b) →
    ∃ m', Inv fs [] m' ∧ (∀ a b, a < fs.length → b < fs.length → Via (E fs) fs.length a b → on m' a b) ∧ Ev (fun n => alibiref05_Calls.l2 n (fs.length : Int) m (k : Int)) m' := by
  induction d with
  | zero =>
    intro k m hd hI hv
    obtain rfl : k = fs.length := by omega
    exact ⟨m, hI, hv, Ev.one (Ev.now _) fun n => by rw [alibiref05_Calls.l2, if_neg (by omega)]⟩
  | succ d ih =>
    intro k m hd hI hv
    have hk : k < fs.length := by omega
    obtain ⟨m1, h1, h2, h3, h4⟩ := l3_loop fs hn m k hk fs.length 0 m (by omega) ⟨hI.sq, hI.sound, fun _ _ h => h⟩
    obtain ⟨m2, k1, k2, k3⟩ := ih (k + 1) m1 (by omega) ⟨h1.sq, h1.sound, fun a b h => (by simp [on] at h)⟩ (fun a b ha hb h => by
      rcases h.split with h | ⟨x, y⟩
      · exact h2 _ _ (hv a b ha hb h)
      · exact h3 a b (by omega) ha hb (hv a k ha hk x) (hv k b hk hb y))
    exact ⟨m2, k1, k2, Ev.one (h4 m2 k3) fun n => by rw [alibiref05_Calls.l2, if_pos (by omega)]; rfl⟩
theorem getD_app {α : Type} (l : List α) (x d : α) (j : Nat) : (l ++ [x]).getD j d = if j < l.length then l.getD j d else if j = l.length then x else d := by
  rw [List.getD_eq_getElem?_getD, List.getD_eq_getElem?_getD]
  by_cases h : j < l.length
  · rw [if_pos h, List.getElem?_append_left h]
  · rw [if_neg h]
    by_cases e : j = l.length
    · subst e; simp
    · rw [if_neg e, List.getElem?_eq_none (by simp; omega)]; rfl
/-- One function's own row. -/
theorem l1_loop (g l s : Int) (fs : List (List Nd)) (hc : Calls0 fs) (hn : fs.length ≤ 100000) (hw : ∀ f ∈ fs, f.length ≤ 100000) (f : Nat) (hf : f < fs.length) (m : List (List Int)) (hm : m.length = f) (d : Nat) :
    ∀ (i : Nat) (row : List Int), i + d = fs[f].length → row.length = fs.length → (∀ b, row.getD b 0 = 1 ↔ ∃ nd ∈ fs[f].take i, nd.f0 = 7 ∧ nd.f1 = (b : Int)) →
    ∃ row', row'.length = fs.length ∧ (∀ b, row'.getD b 0 = 1 ↔ E fs f b) ∧
      ∀ r, Ev (fun n => alibiref05_Calls.l0 n (fs.length : Int) (m ++ [row']) ((f + 1 : Nat) : Int) g l s fs) r → Ev (fun n => alibiref05_Calls.l1 n (fs.length : Int) m (f : Int) row (i : Int) g l s fs) r := by
  obtain ⟨hgd, hmem⟩ := getD_mem hf
  have hlen := hw _ hmem
  induction d with
  | zero =>
    intro i row hd hr hb
    rw [List.take_of_length_le (by omega)] at hb
    refine ⟨row, hr, fun b => by rw [hb, E, hgd], fun r h => ?_⟩
    rw [← w64_succ f fs.length hf (by omega)] at h
    refine Ev.one h fun n => ?_
    rw [alibiref05_Calls.l1, if_pos (by omega), if_pos (by omega), rdF fs f hf, if_neg (by omega), if_pos (by omega)]
  | succ d ih =>
    intro i row hd hr hb
    have hi : i < fs[f].length := by omega
    have htk := List.take_succ_eq_append_getElem hi
    have hrn := rdN fs[f] i hi
    by_cases h7 : fs[f][i].f0 = 7
    · obtain ⟨ha0, ha1⟩ := hc _ hmem _ (List.getElem_mem hi) h7
      obtain ⟨a, ha⟩ := Int.eq_ofNat_of_zero_le ha0
      obtain ⟨row', k1, k2, k3⟩ := ih (i + 1) (row.set a 1) (by omega) (by rw [List.length_set]; exact hr) (fun b => by
        rw [getD_set_eq _ _ _ _ _ (by omega), htk]
        simp only [List.mem_append, List.mem_singleton]
        by_cases e : a = b
        · subst e
          rw [if_pos rfl]
          exact ⟨fun _ => ⟨_, .inr rfl, h7, ha⟩, fun _ => rfl⟩
        · rw [if_neg e, hb]
          constructor
          · rintro ⟨nd, h, x⟩; exact ⟨nd, .inl h, x⟩
          · rintro ⟨nd, h | rfl, x, y⟩
            · exact ⟨nd, h, x, y⟩
            · rw [ha] at y; omega)
      refine ⟨row', k1, k2, fun r h => ?_⟩
      have hh := k3 r h
      rw [← w64_succ i fs[f].length hi (by omega)] at hh
      refine Ev.one hh fun n => ?_
      rw [alibiref05_Calls.l1, if_pos (by omega), if_pos (by omega), rdF fs f hf, if_pos (by omega), if_pos (by omega), hrn, if_pos h7, ha, if_pos (by omega), if_pos (by omega), Int.toNat_natCast]
    · obtain ⟨row', k1, k2, k3⟩ := ih (i + 1) row (by omega) hr (fun b => by
        rw [hb, htk]
        simp only [List.mem_append, List.mem_singleton]
        constructor
        · rintro ⟨nd, h, x⟩; exact ⟨nd, .inl h, x⟩
        · rintro ⟨nd, h | rfl, x, y⟩
          · exact ⟨nd, h, x, y⟩
          · exact absurd x h7)
      refine ⟨row', k1, k2, fun r h => ?_⟩
      have hh := k3 r h
      rw [← w64_succ i fs[f].length hi (by omega)] at hh
      refine Ev.one hh fun n => ?_
      rw [alibiref05_Calls.l1, if_pos (by omega), if_pos (by omega), rdF fs f hf, if_pos (by omega), if_pos (by omega), hrn, if_neg h7]
theorem l0_loop (g l s : Int) (fs : List (List Nd)) (hc : Calls0 fs) (hn : fs.length ≤ 100000) (hw : ∀ f ∈ fs, f.length ≤ 100000) (d : Nat) : ∀ (f : Nat) (m : List (List Int)), f + d = fs.length → m.length = f → (∀ a, a < f → (m.getD a []).length = fs.length ∧ ∀ b, (m.getD a []).getD b 0 = 1 ↔ E fs a b) →
    ∃ m', Sq fs.length m' ∧ (∀ a b, a < fs.length → b < fs.length → (on m' a b ↔ Conn (E fs) a b)) ∧ Ev (fun n => alibiref05_Calls.l0 n (fs.length : Int) m (f : Int) g l s fs) m' := by
  induction d with
  | zero =>
    intro f m hd hm hrow
    obtain rfl : f = fs.length := by omega
    obtain ⟨m', h1, h2, h3⟩ := l2_loop fs hn fs.length 0 m (by omega) ⟨⟨hm, fun a ha => (hrow a ha).1⟩, fun a b ha _ h => .one (((hrow a ha).2 b).1 h), fun a b h => (by simp [on] at h)⟩ (fun a b ha hb h => by
      cases h with
      | one h => exact ((hrow a ha).2 b).2 h
      | step _ h _ => omega)
    exact ⟨m', h1.sq, fun a b ha hb => ⟨h1.sound a b ha hb, fun h => h2 a b ha hb (h.via fun x y e => E_lt hc e)⟩, Ev.one h3 fun n => by rw [alibiref05_Calls.l0, if_neg (by omega)]; rfl⟩
  | succ d ih =>
    intro f m hd hm hrow
    have hf : f < fs.length := by omega
    obtain ⟨row, k1, k2, k3⟩ := l1_loop g l s fs hc hn hw f hf m hm fs[f].length 0 (List.replicate fs.length 0) (by omega) (by simp) (fun b => by
      rw [List.getD_eq_getElem?_getD, List.getElem?_replicate]
      constructor
      · intro h; split at h <;> simp at h
      · rintro ⟨nd, h, _⟩; simp at h)
    obtain ⟨m', h1, h2, h3⟩ := ih (f + 1) (m ++ [row]) (by omega) (by simp [hm]) (fun a ha => by
      rw [getD_app]
      by_cases e : a < m.length
      · rw [if_pos e]; exact hrow a (by omega)
      · rw [if_neg e, if_pos (by omega)]
        obtain rfl : a = f := by omega
        exact ⟨k1, k2⟩)
    refine ⟨m', h1, h2, Ev.one (k3 m' h3) fun n => ?_⟩
    rw [alibiref05_Calls.l0, if_pos (by omega), if_pos (by omega), if_pos (by omega), Int.toNat_natCast]
    rfl
theorem calls_ev (g l s : Int) (fs : List (List Nd)) (hc : Calls0 fs) (hn : fs.length ≤ 100000) (hw : ∀ f ∈ fs, f.length ≤ 100000) :
    ∃ m, Sq fs.length m ∧ (∀ a b, a < fs.length → b < fs.length → (on m a b ↔ Conn (E fs) a b)) ∧ Ev (fun n => alibiref05_Calls.f n g l s fs) m :=
  l0_loop g l s fs hc hn hw fs.length 0 [] (by omega) rfl (fun a ha => by omega)
end Go.Proofs.Ytpbbkfekibmaiaa.Pg
