/- Programs: which functions come tg which by calls; package prog's search goes by that. No condition but those of each lemma. -/
import Derived.Test.YtpbbkfekibmaiaaPgA
namespace Go.Proofs.Ytpbbkfekibmaiaa.Pg
open Go.RowKit Go.Proofs.YtpbbkfekibmaiaaW.PrintWords Go.Proofs.YtpbbkfekibmaiaaW.PrintLast Go.Proofs.YtpbbkfekibmaiaaW.PrintMore Go.Proofs.Ytpbbkfekibmaiaa.Q Go.Proofs.Ytpbbkfekibmaiaa.Pl
/-- Steps along E, one at least. -/
inductive Conn (E : Nat → Nat → Prop) : Nat → Nat → Prop
  | one {a b : Nat} : E a b → Conn E a b
  | step {a b c : Nat} : E a b → Conn E b c → Conn E a c
theorem Conn.trans {E : Nat → Nat → Prop} {a b c : Nat} (h : Conn E a b) (k : Conn E b c) : Conn E a c := by
  induction h with
  | one h => exact .step h k
  | step h _ ih => exact .step h (ih k)
/-- A set that E doesn't leave. -/
theorem Conn.closed {E : Nat → Nat → Prop} {S : Nat → Prop} (hS : ∀ a b, S a → E a b → S b) {a b : Nat} (h : Conn E a b) : S a → S b := by
  induction h with
  | one h => exact fun ha => hS _ _ ha h
  | step h _ ih => exact fun ha => ih (hS _ _ ha h)
/-- Function a has a call of function b. -/
def E (fs : List (List Nd)) (a b : Nat) : Prop := ∃ nd ∈ fs.getD a [], nd.f0 = 7 ∧ nd.f1 = (b : Int)
/-- All calls are of functions that there are. -/
def Calls0 (fs : List (List Nd)) : Prop := ∀ l ∈ fs, ∀ nd ∈ l, nd.f0 = 7 → 0 ≤ nd.f1 ∧ nd.f1 < (fs.length : Int)
theorem getD_mem {fs : List (List Nd)} {a : Nat} (h : a < fs.length) : fs.getD a [] = fs[a] ∧ fs[a] ∈ fs := ⟨by simp [List.getD, List.getElem?_eq_getElem h], List.getElem_mem h⟩
theorem E_lt {fs : List (List Nd)} (h : Calls0 fs) {a b : Nat} (he : E fs a b) : b < fs.length := by
  obtain ⟨nd, hm, h7, h1⟩ := he
  by_cases ha : a < fs.length
  · rw [(getD_mem ha).1] at hm
    have := h _ (getD_mem ha).2 nd hm h7
    omega
  · have : fs.getD a [] = [] := by simp [List.getD, List.getElem?_eq_none (Nat.le_of_not_lt ha)]
    rw [this] at hm; cases hm
def sn (s : List Bool) (i : Nat) : Bool := s.getD i false
theorem sn_set (s : List Bool) (i j : Nat) (h : i < s.length) : sn (s.set i true) j = (decide (i = j) || sn s j) := by
  unfold sn
  rw [List.getD_eq_getElem?_getD, List.getD_eq_getElem?_getD, List.getElem?_set]
  by_cases e : i = j
  · subst e; simp [h]
  · simp [e]
theorem unseen_le : ∀ (s t : List Bool), s.length = t.length → (∀ i, sn s i = true → sn t i = true) → t.count false ≤ s.count false
  | [], [], _, _ => Nat.le_refl _
  | x :: s, y :: t, hl, h => by
    have ih := unseen_le s t (by simpa using hl) (fun i hi => by have := h (i + 1); simpa [sn] using this (by simpa [sn] using hi))
    have h0 := h 0
    simp only [sn, List.getD_cons_zero] at h0
    rw [List.count_cons, List.count_cons]
    cases x <;> cases y <;> simp_all <;> omega
theorem unseen_set : ∀ (s : List Bool) (i : Nat), i < s.length → sn s i = false → (s.set i true).count false + 1 = s.count false
  | x :: s, 0, _, h => by
    simp only [sn, List.getD_cons_zero] at h
    subst h
    simp
  | x :: s, i + 1, hl, h => by
    have ih := unseen_set s i (by simpa using hl) (by simpa [sn] using h)
    rw [List.set_cons_succ, List.count_cons, List.count_cons]
    omega
theorem rd_sn (s : List Bool) (i : Nat) : rdOf false s (i : Int) = sn s i := by unfold rdOf sn; rw [Int.toNat_natCast]
/-- What a search that found nothing leaves. -/
def Left (fs : List (List Nd)) (tg : Nat) (s t : List Bool) : Prop := ∀ v, sn t v = true → sn s v = false → v ≠ tg ∧ ∀ u, E fs v u → sn t u = true
/-- What a search comes to. -/
def Found (g l s0 : Int) (fs : List (List Nd)) (tg : Nat) (seen : List Bool) (fr : Nat) : Prop :=
  ∃ (r : Bool) (t : List Bool), Ev (fun k => prog_reaches.f k g l s0 fs (fr : Int) (tg : Int) seen) (r, t) ∧ t.length = fs.length ∧ (∀ i, sn seen i = true → sn t i = true) ∧
      (r = true → fr = tg ∨ Conn (E fs) fr tg) ∧ (r = false → sn t fr = true ∧ Left fs tg seen t)
def FoundL (g l s0 : Int) (fs : List (List Nd)) (tg : Nat) (base : List Bool) (fr : Nat) (L : List Nd) (t : List Bool) (i : Nat) : Prop :=
  ∃ (r : Bool) (t' : List Bool), Ev (fun k => prog_reaches.l0 k (tg : Int) t L (L.length : Int) (i : Int) g l s0 fs) (r, t') ∧ t'.length = fs.length ∧ (∀ j, sn t j = true → sn t' j = true) ∧
            (r = true → Conn (E fs) fr tg) ∧ (r = false → Left fs tg base t' ∧ ∀ nd ∈ L, nd.f0 = 7 → sn t' nd.f1.toNat = true)
theorem l0_end (g l s0 : Int) (fs : List (List Nd)) (tg : Int) (L : List Nd) (t : List Bool) (i : Nat) (h : L.length ≤ i) : Ev (fun k => prog_reaches.l0 k tg t L (L.length : Int) (i : Int) g l s0 fs) (false, t) :=
  Ev.one (Ev.now _) fun k => by rw [prog_reaches.l0, if_neg (by omega)]
theorem l0_skip (g l s0 : Int) (fs : List (List Nd)) (tg : Int) (L : List Nd) (t : List Bool) (i : Nat) (hi : i < L.length) (hL : L.length ≤ 100000) (h7 : L[i].f0 ≠ 7) (r : Bool × List Bool) (h : Ev (fun k => prog_reaches.l0 k tg t L (L.length : Int) ((i + 1 : Nat) : Int) g l s0 fs) r) :
    Ev (fun k => prog_reaches.l0 k tg t L (L.length : Int) (i : Int) g l s0 fs) r := by
  rw [← w64_succ i L.length hi (by omega)] at h
  exact Ev.one h fun k => by rw [prog_reaches.l0, if_pos (by omega), if_pos (by omega), if_pos (by omega), rdN L i hi, if_neg h7]
theorem l0_hit (g l s0 : Int) (fs : List (List Nd)) (tg : Int) (L : List Nd) (t t1 : List Bool) (i : Nat) (hi : i < L.length) (h7 : L[i].f0 = 7) (hf : Ev (fun k => prog_reaches.f k g l s0 fs L[i].f1 tg t) (true, t1)) :
    Ev (fun k => prog_reaches.l0 k tg t L (L.length : Int) (i : Int) g l s0 fs) (true, t1) := by
  refine Ev.one (Ev.bind hf ?_) (fun k => by rw [prog_reaches.l0, if_pos (by omega), if_pos (by omega), if_pos (by omega), rdN L i hi, if_pos h7])
  exact Ev.ret fun k => by rw [if_pos rfl]
theorem l0_miss (g l s0 : Int) (fs : List (List Nd)) (tg : Int) (L : List Nd) (t t1 : List Bool) (i : Nat) (hi : i < L.length) (hL : L.length ≤ 100000) (h7 : L[i].f0 = 7) (hf : Ev (fun k => prog_reaches.f k g l s0 fs L[i].f1 tg t) (false, t1)) (r : Bool × List Bool)
    (h : Ev (fun k => prog_reaches.l0 k tg t1 L (L.length : Int) ((i + 1 : Nat) : Int) g l s0 fs) r) : Ev (fun k => prog_reaches.l0 k tg t L (L.length : Int) (i : Int) g l s0 fs) r := by
  rw [← w64_succ i L.length hi (by omega)] at h
  refine Ev.one (Ev.bind hf ?_) (fun k => by rw [prog_reaches.l0, if_pos (by omega), if_pos (by omega), if_pos (by omega), rdN L i hi, if_pos h7])
  exact Ev.congr (fun k => by rw [if_neg Bool.false_ne_true]) h
theorem dfs_loop (g l s0 : Int) (fs : List (List Nd)) (hc : Calls0 fs) (tg : Nat) (N : Nat) (ih : ∀ (seen : List Bool) (fr : Nat), fr < fs.length → seen.length = fs.length → seen.count false ≤ N → Found g l s0 fs tg seen fr)
    (base : List Bool) (hb : base.length = fs.length) (hbN : base.count false ≤ N) (fr : Nat) (L : List Nd) (hL : fs.getD fr [] = L) (hLm : L ∈ fs) (hlen : L.length ≤ 100000) (d : Nat) :
    ∀ (i : Nat) (t : List Bool), i + d = L.length → t.length = fs.length → (∀ j, sn base j = true → sn t j = true) → Left fs tg base t → (∀ nd ∈ L.take i, nd.f0 = 7 → sn t nd.f1.toNat = true) → FoundL g l s0 fs tg base fr L t i := by
  induction d with
  | zero =>
    intro i t hd ht hm hLt hA
    rw [List.take_of_length_le (by omega)] at hA
    exact ⟨false, t, l0_end g l s0 fs tg L t i (by omega), ht, fun _ h => h, fun h => (by cases h), fun _ => ⟨hLt, hA⟩⟩
  | succ d ihd =>
    intro i t hd ht hm hLt hA
    have hi : i < L.length := by omega
    have htk := List.take_succ_eq_append_getElem hi
    by_cases h7 : L[i].f0 = 7
    · obtain ⟨ha0, ha1⟩ := hc _ hLm _ (List.getElem_mem hi) h7
      obtain ⟨a, ha⟩ := Int.eq_ofNat_of_zero_le ha0
      have hE : E fs fr a := ⟨L[i], by rw [hL]; exact List.getElem_mem hi, h7, ha⟩
      have hcnt := unseen_le base t (by omega) hm
      obtain ⟨r, t1, hev, ht1, hm1, hr1, hr2⟩ := ih t a (by omega) ht (by omega)
      rw [← ha] at hev
      cases r with
      | true =>
        refine ⟨true, t1, l0_hit g l s0 fs tg L t t1 i hi h7 hev, ht1, hm1, fun _ => ?_, fun h => (by cases h)⟩
        rcases hr1 rfl with rfl | h
        · exact .one hE
        · exact .step hE h
      | false =>
        obtain ⟨hs1, hL1⟩ := hr2 rfl
        have hLt' : Left fs tg base t1 := fun v hv hnv => by
          cases hx : sn t v
          · exact hL1 v hv hx
          · obtain ⟨p, q⟩ := hLt v hx hnv
            exact ⟨p, fun u hu => hm1 u (q u hu)⟩
        obtain ⟨r', t2, hev2, ht2, hm2, h1, h2⟩ := ihd (i + 1) t1 (by omega) ht1 (fun j h => hm1 j (hm j h)) hLt' (fun nd hnd h7j => by
          rw [htk] at hnd
          rcases List.mem_append.1 hnd with hnd | hnd
          · exact hm1 _ (hA nd hnd h7j)
          · rw [List.mem_singleton] at hnd; subst hnd; rw [ha, Int.toNat_natCast]; exact hs1)
        exact ⟨r', t2, l0_miss g l s0 fs tg L t t1 i hi hlen h7 hev _ hev2, ht2, fun j h => hm2 j (hm1 j h), h1, h2⟩
    · obtain ⟨r', t2, hev2, ht2, hm2, h1, h2⟩ := ihd (i + 1) t (by omega) ht hm hLt (fun nd hnd h7j => by
        rw [htk] at hnd
        rcases List.mem_append.1 hnd with hnd | hnd
        · exact hA nd hnd h7j
        · rw [List.mem_singleton] at hnd; subst hnd; exact absurd h7j h7)
      exact ⟨r', t2, l0_skip g l s0 fs tg L t i hi hlen h7 _ hev2, ht2, hm2, h1, h2⟩
theorem f_same (g l s0 : Int) (fs : List (List Nd)) (fr : Int) (seen : List Bool) : Ev (fun k => prog_reaches.f k g l s0 fs fr fr seen) (true, seen) := Ev.one (Ev.now _) fun k => by rw [prog_reaches.f, if_pos rfl]
theorem f_seen (g l s0 : Int) (fs : List (List Nd)) (fr tg : Nat) (seen : List Bool) (hne : fr ≠ tg) (h : fr < seen.length) (hs : sn seen fr = true) : Ev (fun k => prog_reaches.f k g l s0 fs (fr : Int) (tg : Int) seen) (false, seen) :=
  Ev.one (Ev.now _) fun k => by rw [prog_reaches.f, if_neg (by omega), if_pos (by omega), if_pos (by omega), rd_sn, if_pos hs]
theorem f_go (g l s0 : Int) (fs : List (List Nd)) (fr tg : Nat) (seen : List Bool) (hne : fr ≠ tg) (h : fr < seen.length) (hf : fr < fs.length) (hs : sn seen fr = false) (r : Bool × List Bool) (hl : Ev (fun k => prog_reaches.l0 k (tg : Int) (seen.set fr true) fs[fr] (fs[fr].length : Int) ((0 : Nat) : Int) g l s0 fs) r) :
    Ev (fun k => prog_reaches.f k g l s0 fs (fr : Int) (tg : Int) seen) r :=
  Ev.one hl fun k => by rw [prog_reaches.f, if_neg (by omega), if_pos (by omega), if_pos (by omega), rd_sn, if_neg (by rw [hs]; decide), if_pos (by omega), rdF fs fr hf, Int.toNat_natCast]; rfl
theorem dfs (g l s0 : Int) (fs : List (List Nd)) (hc : Calls0 fs) (hw : ∀ f ∈ fs, f.length ≤ 100000) (tg : Nat) (N : Nat) : ∀ (seen : List Bool) (fr : Nat), fr < fs.length → seen.length = fs.length → seen.count false ≤ N → Found g l s0 fs tg seen fr := by
  induction N with
  | zero =>
    intro seen fr hfr hl hN
    by_cases e : fr = tg
    · subst e
      exact ⟨true, seen, f_same g l s0 fs fr seen, hl, fun _ h => h, fun _ => .inl rfl, fun h => (by cases h)⟩
    · have hs : sn seen fr = true := by
        cases hx : sn seen fr
        · have := unseen_set seen fr (by omega) hx; omega
        · rfl
      exact ⟨false, seen, f_seen g l s0 fs fr tg seen e (by omega) hs, hl, fun _ h => h, fun h => (by cases h), fun _ => ⟨hs, fun v h1 h2 => (by rw [h1] at h2; cases h2)⟩⟩
  | succ N ih =>
    intro seen fr hfr hl hN
    by_cases e : fr = tg
    · subst e
      exact ⟨true, seen, f_same g l s0 fs fr seen, hl, fun _ h => h, fun _ => .inl rfl, fun h => (by cases h)⟩
    cases hs : sn seen fr with
    | true => exact ⟨false, seen, f_seen g l s0 fs fr tg seen e (by omega) hs, hl, fun _ h => h, fun h => (by cases h), fun _ => ⟨hs, fun v h1 h2 => (by rw [h1] at h2; cases h2)⟩⟩
    | false =>
      have hset := unseen_set seen fr (by omega) hs
      obtain ⟨hgd, hmem⟩ := getD_mem hfr
      have hseen : ∀ i, sn seen i = true → sn (seen.set fr true) i = true := fun i hi => by rw [sn_set _ _ _ (by omega), hi, Bool.or_true]
      have hfrs : sn (seen.set fr true) fr = true := by rw [sn_set _ _ _ (by omega)]; simp
      obtain ⟨r, t', hev, ht', hm', h1, h2⟩ := dfs_loop g l s0 fs hc tg N ih (seen.set fr true) (by rw [List.length_set]; exact hl) (by omega) fr fs[fr] hgd hmem (hw _ hmem) fs[fr].length 0 (seen.set fr true) (by omega) (by rw [List.length_set]; exact hl) (fun _ h => h) (fun v h1 h2 => (by rw [h1] at h2; cases h2)) (fun nd h => (by simp at h))
      refine ⟨r, t', f_go g l s0 fs fr tg seen e (by omega) hfr hs _ hev, ht', fun i hi => hm' i (hseen i hi), fun hr => .inr (h1 hr), fun hr => ⟨hm' _ hfrs, fun v hv hnv => ?_⟩⟩
      obtain ⟨hL, hA⟩ := h2 hr
      by_cases ev : v = fr
      · subst ev
        refine ⟨e, fun u hu => ?_⟩
        obtain ⟨nd, hnd, h7, hu1⟩ := hu
        rw [hgd] at hnd
        have := hA nd hnd h7
        rw [hu1, Int.toNat_natCast] at this
        exact this
      · refine hL v hv ?_
        rw [sn_set _ _ _ (by omega), hnv, decide_eq_false (fun h => ev h.symm)]; rfl
/-- The search from nothing seen tells whether 'tg' is come to. -/
theorem reaches_ev (g l s0 : Int) (fs : List (List Nd)) (hc : Calls0 fs) (hw : ∀ f ∈ fs, f.length ≤ 100000) (tg : Nat) (fr : Nat) (hfr : fr < fs.length) :
    ∃ (r : Bool) (t : List Bool), Ev (fun k => prog_reaches.f k g l s0 fs (fr : Int) (tg : Int) (List.replicate fs.length false)) (r, t) ∧ (r = true ↔ fr = tg ∨ Conn (E fs) fr tg) := by
  obtain ⟨r, t, hev, ht, _, h1, h2⟩ := dfs g l s0 fs hc hw tg _ (List.replicate fs.length false) fr hfr (by simp) (Nat.le_refl _)
  refine ⟨r, t, hev, h1, fun h => ?_⟩
  cases r with
  | true => rfl
  | false =>
    obtain ⟨hs, hL⟩ := h2 rfl
    have hno : ∀ i, sn (List.replicate fs.length false) i = false := fun i => by
      unfold sn
      rw [List.getD_eq_getElem?_getD, List.getElem?_replicate]
      split <;> rfl
    have hin : sn t tg = true := by
      rcases h with rfl | h
      · exact hs
      · exact h.closed (S := fun v => sn t v = true) (fun a b ha hab => (hL a ha (hno a)).2 b hab) hs
    exact absurd rfl (hL tg hin (hno tg)).1
end Go.Proofs.Ytpbbkfekibmaiaa.Pg
