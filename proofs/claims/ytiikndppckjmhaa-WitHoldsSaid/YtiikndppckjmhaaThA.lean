/- The search along calls: what it tells; calls that go round nowhere. -/
import Derived.Test.YtiikndppckjmhaaPrD
namespace Go.Proofs.Ytiikndppckjmhaa.Am
set_option autoImplicit false
set_option linter.unusedVariables false
set_option linter.unusedSimpArgs false
/-- steps along E, one at least -/
inductive Conn (E : Nat → Nat → Prop) : Nat → Nat → Prop
  | one {a b : Nat} : E a b → Conn E a b
  | step {a b c : Nat} : E a b → Conn E b c → Conn E a c
theorem Conn.trans {E : Nat → Nat → Prop} {a b c : Nat} (h : Conn E a b) (k : Conn E b c) : Conn E a c := by
  induction h with
  | one h => exact .step h k
  | step h _ ih => exact .step h (ih k)
theorem Conn.closed {E : Nat → Nat → Prop} {S : Nat → Prop} (hS : ∀ a b, S a → E a b → S b) {a b : Nat} (h : Conn E a b) : S a → S b := by
  induction h with
  | one h => exact fun ha => hS _ _ ha h
  | step h _ ih => exact fun ha => ih (hS _ _ ha h)
/-- function a has a call of function b -/
def E (fs : List (List Nd)) (a b : Nat) : Prop := ∃ n ∈ fs.getD a [], n.1 = 7 ∧ n.2.1 = (b : Int)
theorem fs_mem {fs : List (List Nd)} {a : Nat} (h : a < fs.length) : fs.getD a [] ∈ fs := by
  rw [List.getD_eq_getElem?_getD, List.getElem?_eq_getElem h]; exact List.getElem_mem h
theorem fs_out {fs : List (List Nd)} {a : Nat} (h : fs.length ≤ a) : fs.getD a [] = [] := by
  rw [List.getD_eq_getElem?_getD, List.getElem?_eq_none h]; rfl
theorem E_lt {p : Pg} (h : Calls0 p) {a b : Nat} (he : E p.fs a b) : a < p.fs.length ∧ b < p.fs.length := by
  obtain ⟨n, hm, h7, h1⟩ := he
  by_cases ha : a < p.fs.length
  · have := h _ (fs_mem ha) n hm h7
    exact ⟨ha, by omega⟩
  · rw [fs_out (by omega)] at hm; cases hm
def sn (s : List Bool) (i : Nat) : Bool := s.getD i false
theorem sn_set (s : List Bool) (i j : Nat) (h : i < s.length) : sn (s.set i true) j = (decide (i = j) || sn s j) := by
  unfold sn
  rw [List.getD_eq_getElem?_getD, List.getD_eq_getElem?_getD, List.getElem?_set]
  by_cases e : i = j
  · subst e; simp [h]
  · simp [e]
theorem unseen_le : ∀ (s t : List Bool), s.length = t.length → (∀ i, sn s i = true → sn t i = true) → t.count false ≤ s.count false
  | [], [], _, _ => Nat.le_refl _
  | x :: s, y :: t, hl, h => by
    have ih := unseen_le s t (by simpa using hl) (fun i hi => by have := h (i + 1); simpa [sn] using this (by simpa [sn] using hi))
    have h0 := h 0
    simp only [sn, List.getD_cons_zero] at h0
    rw [List.count_cons, List.count_cons]
    cases x <;> cases y <;> simp_all <;> omega
theorem sn_some {s : List Bool} {i : Nat} (hi : i < s.length) (h : sn s i = false) : s[i]? = some false := by
  unfold sn at h
  rw [List.getD_eq_getElem?_getD, List.getElem?_eq_getElem hi] at h
  rw [List.getElem?_eq_getElem hi]
  simpa using h
/-- what a search that found nothing leaves -/
def Lft (fs : List (List Nd)) (tg : Nat) (s t : List Bool) : Prop := ∀ v, sn t v = true → sn s v = false → v ≠ tg ∧ ∀ u, E fs v u → sn t u = true
structure Fnd (fs : List (List Nd)) (tg : Nat) (seen : List Bool) (fr : Nat) (r : Bool × List Bool) : Prop where
  len : r.2.length = fs.length
  mono : ∀ i, sn seen i = true → sn r.2 i = true
  hit : r.1 = true → fr = tg ∨ Conn (E fs) fr tg
  miss : r.1 = false → sn r.2 fr = true ∧ Lft fs tg seen r.2
theorem go_fnd (fs : List (List Nd)) (tg k : Nat) (ih : ∀ (fr : Nat) (seen : List Bool), fr < fs.length → seen.length = fs.length → seen.count false < k → Fnd fs tg seen fr (dfs fs tg k fr seen))
    (base : List Bool) (hb : base.length = fs.length) (hbk : base.count false < k) (fr : Nat) :
    ∀ (L : List Nd) (t : List Bool), (∀ n ∈ L, n.1 = 7 → n.2.1.toNat < fs.length ∧ E fs fr n.2.1.toNat) → t.length = fs.length → (∀ j, sn base j = true → sn t j = true) → Lft fs tg base t →
      (goL (dfs fs tg k) L t).2.length = fs.length ∧ (∀ j, sn t j = true → sn (goL (dfs fs tg k) L t).2 j = true) ∧ ((goL (dfs fs tg k) L t).1 = true → Conn (E fs) fr tg) ∧
      ((goL (dfs fs tg k) L t).1 = false → Lft fs tg base (goL (dfs fs tg k) L t).2 ∧ ∀ n ∈ L, n.1 = 7 → sn (goL (dfs fs tg k) L t).2 n.2.1.toNat = true)
  | [], t, _, ht, _, hL => ⟨ht, fun _ h => h, fun h => (by cases h), fun _ => ⟨hL, fun n h => (by cases h)⟩⟩
  | n :: L, t, hE, ht, hm, hL => by
    have hE' : ∀ n ∈ L, n.1 = 7 → n.2.1.toNat < fs.length ∧ E fs fr n.2.1.toNat := fun m h => hE m (List.mem_cons_of_mem _ h)
    rw [goL]
    by_cases h7 : n.1 = 7
    · rw [if_pos h7]
      obtain ⟨ha, hEa⟩ := hE n List.mem_cons_self h7
      have hcnt := unseen_le base t (by omega) hm
      obtain ⟨f1, f2, f3, f4⟩ := ih n.2.1.toNat t ha ht (by omega)
      split
      · rename_i hr
        refine ⟨f1, f2, fun _ => ?_, fun h => (by cases h)⟩
        rcases f3 hr with h | h
        · rw [← h]; exact .one hEa
        · exact .step hEa h
      · rename_i hr
        obtain ⟨hs1, hL1⟩ := f4 (by simpa using hr)
        have hLt' : Lft fs tg base (dfs fs tg k n.2.1.toNat t).2 := fun v hv hnv => by
          cases hx : sn t v
          · exact hL1 v hv hx
          · obtain ⟨p, q⟩ := hL v hx hnv
            exact ⟨p, fun u hu => f2 u (q u hu)⟩
        obtain ⟨g1, g2, g3, g4⟩ := go_fnd fs tg k ih base hb hbk fr L _ hE' f1 (fun j h => f2 j (hm j h)) hLt'
        refine ⟨g1, fun j h => g2 j (f2 j h), g3, fun h => ?_⟩
        obtain ⟨x, y⟩ := g4 h
        refine ⟨x, fun m hmm h7m => ?_⟩
        rcases List.mem_cons.1 hmm with rfl | hmm
        · exact g2 _ hs1
        · exact y m hmm h7m
    · rw [if_neg h7]
      obtain ⟨g1, g2, g3, g4⟩ := go_fnd fs tg k ih base hb hbk fr L t hE' ht hm hL
      refine ⟨g1, g2, g3, fun h => ?_⟩
      obtain ⟨x, y⟩ := g4 h
      refine ⟨x, fun m hmm h7m => ?_⟩
      rcases List.mem_cons.1 hmm with rfl | hmm
      · exact absurd h7m h7
      · exact y m hmm h7m
theorem dfs_fnd {p : Pg} (hc : Calls0 p) (tg : Nat) : ∀ (k fr : Nat) (seen : List Bool), fr < p.fs.length → seen.length = p.fs.length → seen.count false < k → Fnd p.fs tg seen fr (dfs p.fs tg k fr seen)
  | 0, fr, seen, _, _, h => by omega
  | k + 1, fr, seen, hfr, hl, hk => by
    simp only [dfs]
    by_cases e : fr = tg
    · rw [if_pos e]
      exact ⟨hl, fun _ h => h, fun _ => .inl e, fun h => (by cases h)⟩
    · rw [if_neg e]
      cases hs : seen.getD fr false with
      | true =>
        rw [if_pos rfl]
        exact ⟨hl, fun _ h => h, fun h => (by cases h), fun _ => ⟨hs, fun v h1 h2 => (by simp only at h1; rw [h1] at h2; cases h2)⟩⟩
      | false =>
        rw [if_neg (by simp)]
        have hset := count_set seen fr (sn_some (by omega) hs)
        have hseen : ∀ i, sn seen i = true → sn (seen.set fr true) i = true := fun i hi => by rw [sn_set _ _ _ (by omega), hi, Bool.or_true]
        have hfrs : sn (seen.set fr true) fr = true := by rw [sn_set _ _ _ (by omega)]; simp
        obtain ⟨g1, g2, g3, g4⟩ := go_fnd p.fs tg k (dfs_fnd hc tg k) (seen.set fr true) (by rw [List.length_set]; exact hl) (by omega) fr (p.fs.getD fr []) (seen.set fr true)
          (fun n hn h7 => by
            have := hc _ (fs_mem hfr) n hn h7
            exact ⟨by omega, n, hn, h7, by omega⟩) (by rw [List.length_set]; exact hl) (fun _ h => h) (fun v h1 h2 => (by rw [h1] at h2; cases h2))
        refine ⟨g1, fun i hi => g2 i (hseen i hi), fun hr => .inr (g3 hr), fun hr => ⟨g2 _ hfrs, fun v hv hnv => ?_⟩⟩
        obtain ⟨hL, hA⟩ := g4 hr
        by_cases ev : v = fr
        · subst ev
          refine ⟨e, fun u hu => ?_⟩
          obtain ⟨nd, hnd, h7, hu1⟩ := hu
          have := hA nd hnd h7
          rw [hu1, Int.toNat_natCast] at this
          exact this
        · refine hL v hv ?_
          rw [sn_set _ _ _ (by omega), hnv, decide_eq_false (fun h => ev h.symm)]; rfl
/-- the search from nothing seen tells whether 'tg' is come to -/
theorem reach {p : Pg} (hc : Calls0 p) (tg fr : Nat) (hfr : fr < p.fs.length) :
    (dfs p.fs tg (p.fs.length + 1) fr (List.replicate p.fs.length false)).1 = true ↔ fr = tg ∨ Conn (E p.fs) fr tg := by
  obtain ⟨h0, _, h1, h2⟩ := dfs_fnd hc tg (p.fs.length + 1) fr (List.replicate p.fs.length false) hfr (by simp) (by simp)
  refine ⟨h1, fun h => ?_⟩
  cases hr : (dfs p.fs tg (p.fs.length + 1) fr (List.replicate p.fs.length false)).1 with
  | true => rfl
  | false =>
    obtain ⟨hs, hL⟩ := h2 hr
    have hno : ∀ i, sn (List.replicate p.fs.length false) i = false := fun i => by
      unfold sn
      rw [List.getD_eq_getElem?_getD, List.getElem?_replicate]
      split <;> rfl
    have hin : sn (dfs p.fs tg (p.fs.length + 1) fr (List.replicate p.fs.length false)).2 tg = true := by
      rcases h with rfl | h
      · exact hs
      · exact h.closed (S := fun v => sn (dfs p.fs tg (p.fs.length + 1) fr (List.replicate p.fs.length false)).2 v = true) (fun a b ha hab => (hL a ha (hno a)).2 b hab) hs
    exact absurd rfl (hL tg hin (hno tg)).1
theorem rndN_none {p : Pg} {f : Nat} : ∀ {i : Nat} {l : List Nd}, rndN p f i l = none → ∀ n ∈ l, n.1 = 7 → ¬ (dfs p.fs f (p.fs.length + 1) n.2.1.toNat (List.replicate p.fs.length false)).1 = true
  | i, [], _ => by simp
  | i, n :: r, h => by
    rw [rndN] at h
    split at h
    · cases h
    · rename_i h1
      intro m hm h7 hd
      rcases List.mem_cons.1 hm with rfl | hm
      · exact h1 ⟨h7, hd⟩
      · exact rndN_none h m hm h7 hd
theorem rndF_none {p : Pg} : ∀ {f : Nat} {l : List (List Nd)}, rndF p f l = none → ∀ j, j < l.length → ∀ n ∈ l.getD j [], n.1 = 7 → ¬ (dfs p.fs (f + j) (p.fs.length + 1) n.2.1.toNat (List.replicate p.fs.length false)).1 = true
  | f, [], _ => by simp
  | f, L :: r, h => by
    rw [rndF] at h
    split at h
    · cases h
    · rename_i h1
      intro j hj n hn
      cases j with
      | zero => exact rndN_none h1 n hn
      | succ j =>
        have := rndF_none h j (by simpa using hj) n (by simpa using hn)
        rwa [Nat.add_assoc, Nat.add_comm 1] at this
/-- calls go round nowhere -/
theorem acyc {p : Pg} (hc : Calls0 p) (h : rndF p 0 p.fs = none) (f : Nat) : ¬ Conn (E p.fs) f f := by
  intro hf
  have key : ∀ b, E p.fs f b → ¬ (b = f ∨ Conn (E p.fs) b f) := by
    intro b hb
    obtain ⟨h1, h2⟩ := E_lt hc hb
    obtain ⟨n, hn, h7, he⟩ := hb
    have := rndF_none h f h1 n hn h7
    rw [Nat.zero_add, he, Int.toNat_natCast] at this
    exact fun hx => this ((reach hc f b h2).2 hx)
  cases hf with
  | one h => exact key _ h (.inl rfl)
  | step h k => exact key _ h (.inr k)
theorem countP_lt {α : Type} {p q : α → Bool} : ∀ {l : List α}, (∀ x ∈ l, p x = true → q x = true) → (∃ x ∈ l, q x = true ∧ p x = false) → l.countP p < l.countP q
  | [], _, h => by obtain ⟨x, h, _⟩ := h; cases h
  | y :: l, hm, h => by
    obtain ⟨x, hx, h1, h2⟩ := h
    have hle : l.countP p ≤ l.countP q := List.countP_mono_left fun x hx => hm x (List.mem_cons_of_mem _ hx)
    rw [List.countP_cons, List.countP_cons]
    rcases List.mem_cons.1 hx with rfl | hx
    · rw [h1, h2]; simp; omega
    · have := countP_lt (l := l) (fun x hx => hm x (List.mem_cons_of_mem _ hx)) ⟨x, hx, h1, h2⟩
      have h3 := hm y List.mem_cons_self
      cases hp : p y <;> cases hq : q y <;> simp <;> first | omega | (rw [hp, hq] at h3; simp at h3)
open Classical in
/-- where calls go round nowhere, some function of any has no call of one of these -/
theorem sink {fs : List (List Nd)} (hl : ∀ a b, E fs a b → b < fs.length) (ha : ∀ f, ¬ Conn (E fs) f f) (S : Nat → Prop) : ∀ (m f : Nat), S f → (List.range fs.length).countP (fun g => decide (Conn (E fs) f g)) = m → ∃ f, S f ∧ ∀ g, E fs f g → ¬ S g := by
  intro m
  induction m using Nat.strongRecOn with
  | ind m ih =>
    intro f hf hm
    by_cases h : ∃ g, E fs f g ∧ S g
    · obtain ⟨g, h1, h2⟩ := h
      refine ih _ ?_ g h2 rfl
      rw [← hm]
      refine countP_lt (fun x _ hx => ?_) ⟨g, by simpa using hl _ _ h1, by simpa using Conn.one h1, by simpa using ha g⟩
      simp only [decide_eq_true_eq] at hx ⊢
      exact .step h1 hx
    · exact ⟨f, hf, fun g h1 h2 => h ⟨g, h1, h2⟩⟩
/-! Functions taken out one by one. -/
def freeB (out : List Bool) (f : Nat) (L : List Nd) : Bool := !sn out f && L.all fun x => decide (x.1 ≠ 7) || sn out x.2.1.toNat
def pass : Nat → List (List Nd) → List Bool × Nat → List Bool × Nat
  | _, [], s => s
  | f, L :: r, s => pass (f + 1) r (if freeB s.1 f L then (s.1.set f true, s.2 + 1) else s)
def passes (fs : List (List Nd)) : Nat → List Bool × Nat → List Bool × Nat
  | 0, s => s
  | k + 1, s => passes fs k (pass 0 fs s)
/-- out is as long as 16, n of these are out, and none beyond those that there are -/
structure OutOk (fs : List (List Nd)) (s : List Bool × Nat) : Prop where
  len : s.1.length = 16
  cnt : s.1.count true = s.2
  beyond : ∀ j, fs.length ≤ j → sn s.1 j = false
theorem count_set_true : ∀ (l : List Bool) (i : Nat), l[i]? = some false → (l.set i true).count true = l.count true + 1
  | [], i, h => by simp at h
  | b :: l, 0, h => by simp at h; subst h; simp
  | b :: l, i + 1, h => by
    have := count_set_true l i (by simpa using h)
    simp only [List.set_cons_succ, List.count_cons]
    omega
theorem count_le : ∀ (l : List Bool) (n : Nat), (∀ j, n ≤ j → sn l j = false) → l.count true ≤ n
  | [], n, _ => by simp
  | b :: l, 0, h => by
    have h0 := h 0 (Nat.le_refl _)
    simp only [sn, List.getD_cons_zero] at h0
    subst h0
    have := count_le l 0 (fun j hj => by simpa [sn] using h (j + 1) (by omega))
    rw [List.count_cons]; simpa using this
  | b :: l, n + 1, h => by
    have := count_le l n (fun j hj => by simpa [sn] using h (j + 1) (by omega))
    rw [List.count_cons]; split <;> omega
theorem count_full : ∀ (l : List Bool) (n : Nat), n ≤ l.length → l.count true < n → ∃ j, j < n ∧ sn l j = false
  | l, 0, _, h => by omega
  | [], n + 1, h, _ => by simp at h
  | b :: l, n + 1, hl, h => by
    cases b with
    | false => exact ⟨0, by omega, rfl⟩
    | true =>
      rw [List.count_cons] at h
      obtain ⟨j, h1, h2⟩ := count_full l n (by simpa using hl) (by simp at h; omega)
      exact ⟨j + 1, by omega, by simpa [sn] using h2⟩
theorem step_ok {fs : List (List Nd)} (h16 : fs.length ≤ 16) {s : List Bool × Nat} (h : OutOk fs s) {f : Nat} (hf : f < fs.length) (L : List Nd) : OutOk fs (if freeB s.1 f L then (s.1.set f true, s.2 + 1) else s) := by
  obtain ⟨h1, h2, h3⟩ := h
  split
  · rename_i hfr
    unfold freeB at hfr
    simp only [Bool.and_eq_true, Bool.not_eq_true'] at hfr
    refine ⟨by simpa using h1, ?_, fun j hj => ?_⟩
    · rw [count_set_true _ _ (sn_some (by omega) hfr.1), h2]
    · rw [sn_set _ _ _ (by omega), h3 j hj, decide_eq_false (by omega)]; rfl
  · exact ⟨h1, h2, h3⟩
theorem pass_ok {fs : List (List Nd)} (h16 : fs.length ≤ 16) : ∀ (l : List (List Nd)) (f : Nat) (s : List Bool × Nat), f + l.length = fs.length → OutOk fs s → OutOk fs (pass f l s) ∧ s.2 ≤ (pass f l s).2
  | [], f, s, _, h => ⟨h, Nat.le_refl _⟩
  | L :: r, f, s, hl, h => by
    simp only [List.length_cons] at hl
    rw [pass]
    obtain ⟨g1, g2⟩ := pass_ok h16 r (f + 1) _ (by omega) (step_ok h16 h (show f < fs.length by omega) L)
    refine ⟨g1, Nat.le_trans ?_ g2⟩
    split
    · exact Nat.le_succ _
    · exact Nat.le_refl _
theorem pass_hit {fs : List (List Nd)} (h16 : fs.length ≤ 16) : ∀ (l : List (List Nd)) (f i : Nat) (s : List Bool × Nat), f + l.length = fs.length → OutOk fs s → i < l.length → sn s.1 (f + i) = false → (∀ n ∈ l.getD i [], n.1 = 7 → sn s.1 n.2.1.toNat = true) → s.2 < (pass f l s).2
  | [], f, i, s, _, _, h, _, _ => by simp at h
  | L :: r, f, i, s, hl, hs, hi, h1, h2 => by
    simp only [List.length_cons] at hl
    rw [pass]
    have hok := step_ok h16 hs (show f < fs.length by omega) L
    cases i with
    | zero =>
      have hfr : freeB s.1 f L = true := by
        unfold freeB
        rw [Nat.add_zero] at h1
        rw [h1, Bool.not_false, Bool.true_and, List.all_eq_true]
        intro n hn
        by_cases h7 : n.1 = 7
        · rw [h2 n (by simpa using hn) h7, Bool.or_true]
        · simp [h7]
      have := (pass_ok h16 r (f + 1) _ (by omega) hok).2
      rw [if_pos hfr] at this ⊢
      exact this
    | succ i =>
      have e : f + (i + 1) = f + 1 + i := by omega
      rw [e] at h1
      have hlen := hs.len
      have key := pass_hit h16 r (f + 1) i _ (by omega) hok (by simpa using hi) (by
        split
        · rw [sn_set _ _ _ (by omega), h1, decide_eq_false (by omega)]; rfl
        · exact h1) (fun n hn h7 => by
        have := h2 n (by simpa using hn) h7
        split
        · rw [sn_set _ _ _ (by omega), this, Bool.or_true]
        · exact this)
      refine Nat.lt_of_le_of_lt ?_ key
      split
      · exact Nat.le_succ _
      · exact Nat.le_refl _
theorem pass_more {p : Pg} (hc : Calls0 p) (h16 : p.fs.length ≤ 16) (ha : ∀ f, ¬ Conn (E p.fs) f f) {s : List Bool × Nat} (h : OutOk p.fs s) (hn : s.2 < p.fs.length) : s.2 < (pass 0 p.fs s).2 := by
  obtain ⟨j, h1, h2⟩ := count_full s.1 p.fs.length (by rw [h.len]; exact h16) (by rw [h.cnt]; exact hn)
  obtain ⟨f, ⟨hf1, hf2⟩, hf3⟩ := sink (fun a b hab => (E_lt hc hab).2) ha (fun f => f < p.fs.length ∧ sn s.1 f = false) _ j ⟨h1, h2⟩ rfl
  refine pass_hit h16 p.fs 0 f s (by simp) h hf1 (by simpa using hf2) (fun n hn h7 => ?_)
  have hcn := hc _ (fs_mem hf1) n hn h7
  have hE : E p.fs f n.2.1.toNat := ⟨n, hn, h7, by omega⟩
  cases hx : sn s.1 n.2.1.toNat with
  | true => rfl
  | false => exact absurd ⟨(E_lt hc hE).2, hx⟩ (hf3 _ hE)
theorem passes_le {p : Pg} (hc : Calls0 p) (h16 : p.fs.length ≤ 16) (ha : ∀ f, ¬ Conn (E p.fs) f f) : ∀ (k : Nat) (s : List Bool × Nat), OutOk p.fs s → (passes p.fs k s).2 ≤ p.fs.length ∧ (s.2 + k ≤ (passes p.fs k s).2 ∨ (passes p.fs k s).2 = p.fs.length)
  | 0, s, h => by
    have := count_le s.1 _ h.beyond
    rw [h.cnt] at this
    exact ⟨this, .inl (Nat.le_refl _)⟩
  | k + 1, s, h => by
    obtain ⟨g1, g2⟩ := pass_ok h16 p.fs 0 s (by simp) h
    obtain ⟨i1, i2⟩ := passes_le hc h16 ha k _ g1
    rw [passes]
    refine ⟨i1, ?_⟩
    by_cases hn : s.2 < p.fs.length
    · have := pass_more hc h16 ha h hn
      rcases i2 with i2 | i2
      · exact .inl (by omega)
      · exact .inr i2
    · rcases i2 with i2 | i2
      · exact .inr (by omega)
      · exact .inr i2
/-- all are taken out -/
theorem all_out {p : Pg} (hc : Calls0 p) (h16 : p.fs.length ≤ 16) (h : rndF p 0 p.fs = none) : (passes p.fs p.fs.length (List.replicate 16 false, 0)).2 = p.fs.length := by
  have h0 : OutOk p.fs (List.replicate 16 false, 0) := ⟨by simp, by simp, fun j _ => by
    unfold sn
    rw [List.getD_eq_getElem?_getD, List.getElem?_replicate]
    split <;> rfl⟩
  obtain ⟨h1, h2⟩ := passes_le hc h16 (acyc hc h) p.fs.length _ h0
  rcases h2 with h2 | h2
  · simp only at h2; omega
  · exact h2
end Go.Proofs.Ytiikndppckjmhaa.Am
