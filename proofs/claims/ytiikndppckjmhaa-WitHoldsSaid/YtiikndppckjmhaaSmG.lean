/- Plain laws: what steps keep of a config. -/
import Derived.Test.YtiikndppckjmhaaSmF
namespace Go.Proofs.Ytiikndppckjmhaa.Am
set_option autoImplicit false
set_option linter.unusedVariables false
set_option linter.unusedSimpArgs false
theorem nodup_le : ∀ (n : Nat) (l : List Nat), l.Nodup → (∀ x ∈ l, x < n) → l.length ≤ n
  | 0, [], _, _ => Nat.le_refl _
  | 0, x :: l, _, h => absurd (h x List.mem_cons_self) (by omega)
  | n + 1, l, hd, h => by
    by_cases hm : n ∈ l
    · have h1 := nodup_le n (l.erase n) (hd.erase n) (fun x hx => by
        have h2 := h x (List.mem_of_mem_erase hx)
        have h3 : x ≠ n := fun e => by subst e; exact (List.Nodup.not_mem_erase hd) hx
        omega)
      rw [List.length_erase_of_mem hm] at h1
      omega
    · have := nodup_le n l hd (fun x hx => by
        have h2 := h x hx
        have h3 : x ≠ n := fun e => by subst e; exact hm hx
        omega)
      omega
def Chn (fs : List (List Nd)) (l : List (Nat × Nat)) : Prop := ∀ (i : Nat) (a b : Nat × Nat), l[i]? = some a → l[i + 1]? = some b → E fs a.1 b.1
theorem Chn.conn {fs : List (List Nd)} {l : List (Nat × Nat)} (h : Chn fs l) : ∀ (d i : Nat) (a b : Nat × Nat), l[i]? = some a → l[i + d + 1]? = some b → Conn (E fs) a.1 b.1
  | 0, i, a, b, ha, hb => .one (h i a b ha hb)
  | d + 1, i, a, b, ha, hb => by
    have hl := lt_some hb
    obtain ⟨x, hx⟩ : ∃ x, l[i + 1]? = some x := ⟨_, List.getElem?_eq_getElem (by omega)⟩
    exact .step (h i a x ha hx) (h.conn d (i + 1) x b hx (by rw [show i + 1 + d + 1 = i + (d + 1) + 1 by omega]; exact hb))
theorem Chn.len {p : Pg} (hp : PgOk p) {l : List (Nat × Nat)} (h : Chn p.fs l) (hf : ∀ f ∈ l, f.1 < p.fs.length) : l.length ≤ p.fs.length := by
  have hn : (l.map Prod.fst).Nodup := by
    rw [List.nodup_iff_pairwise_ne, List.pairwise_iff_getElem]
    intro i j hi hj hij he
    simp only [List.length_map] at hi hj
    simp only [List.getElem_map] at he
    have := h.conn (j - i - 1) i l[i] l[j] (List.getElem?_eq_getElem hi) (by rw [show i + (j - i - 1) + 1 = j by omega]; exact List.getElem?_eq_getElem hj)
    rw [he] at this
    exact acyc hp.calls hp.r _ this
  have := nodup_le p.fs.length (l.map Prod.fst) hn (fun x hx => by
    simp only [List.mem_map] at hx
    obtain ⟨f, hfm, rfl⟩ := hx
    exact hf f hfm)
  simpa using this
theorem goTo_get {l : List (Nat × Nat)} {k i : Nat} {a : Nat × Nat} (h : (goTo l k)[i]? = some a) : ∃ b, l[i]? = some b ∧ b.1 = a.1 := by
  unfold goTo at h
  rw [List.getElem?_set] at h
  by_cases hi : l.length - 1 = i
  · rw [if_pos hi] at h
    split at h
    · rename_i hlt
      cases h
      obtain ⟨f, h1, h2, h3⟩ := last_get l (by omega)
      refine ⟨f, by rw [← hi]; exact h2, ?_⟩
      unfold lastF
      rw [h1]; rfl
    · cases h
  · rw [if_neg hi] at h
    exact ⟨a, h, rfl⟩
theorem goTo_chn {fs : List (List Nd)} {l : List (Nat × Nat)} {k : Nat} (h : Chn fs l) : Chn fs (goTo l k) := by
  intro i a b ha hb
  obtain ⟨a', ha', e1⟩ := goTo_get ha
  obtain ⟨b', hb', e2⟩ := goTo_get hb
  rw [← e1, ← e2]
  exact h i a' b' ha' hb'
theorem goTo_fr {fs : List (List Nd)} {l : List (Nat × Nat)} {k : Nat} (h : ∀ f ∈ l, ∃ L, fs[f.1]? = some L ∧ f.2 < L.length) {f : Nat × Nat} {L : List Nd} (hf : l.getLast? = some f) (hL : fs[f.1]? = some L) (hk : k < L.length) : ∀ f ∈ goTo l k, ∃ L, fs[f.1]? = some L ∧ f.2 < L.length := by
  intro g hg
  unfold goTo at hg
  rcases List.mem_or_eq_of_mem_set hg with h1 | rfl
  · exact h g h1
  · unfold lastF
    rw [hf]
    exact ⟨L, hL, hk⟩
theorem OkTh.mono {p : Pg} {n m : Nat} {t : Th} (h : OkTh p n t) (hm : n ≤ m) : OkTh p m t := ⟨h.h, h.fr, h.sl, fun x hx => Nat.le_trans (h.slv x hx) hm, h.ch⟩
theorem OkTh.goTo {p : Pg} {n : Nat} {t : Th} (h : OkTh p n t) {k : Nat} {f : Nat × Nat} {L : List Nd} (hf : t.stk.getLast? = some f) (hL : p.fs[f.1]? = some L) (hk : k < L.length) : OkTh p n ⟨goTo t.stk k, t.sl⟩ :=
  ⟨by show (Am.goTo t.stk k).length ≤ _; rw [goTo_len]; exact h.h, goTo_fr h.fr hf hL hk, h.sl, h.slv, goTo_chn h.ch⟩
theorem OkC.set {p : Pg} {c : Cfg} (h : OkC p c) (t : Nat) {th : Th} (ht : OkTh p c.ths.length th) {own : List Nat} (ho : own.length = 16) (hv : ∀ x ∈ own, x ≤ 8) : OkC p ⟨c.ths.set t th, own⟩ := by
  refine ⟨by simpa using h.n, fun x hx => ?_, ho, hv⟩
  show OkTh p (c.ths.set t th).length x
  rw [List.length_set]
  rcases List.mem_or_eq_of_mem_set hx with h1 | rfl
  · exact h.th x h1
  · exact ht
theorem mem_set_le {l : List Nat} {k x m : Nat} (h : ∀ y ∈ l, y ≤ m) (hx : x ≤ m) : ∀ y ∈ l.set k x, y ≤ m := by
  intro y hy
  rcases List.mem_or_eq_of_mem_set hy with h1 | rfl
  · exact h y h1
  · exact hx
theorem th0_ok {p : Pg} (hp : PgOk p) {a n : Nat} (ha : a < p.fs.length) : OkTh p n (th0 a) := by
  have hn := hp.n
  refine ⟨by show 1 ≤ _; omega, fun f hf => ?_, rfl, fun x hx => ?_, fun i x y hx hy => ?_⟩
  · simp only [th0, List.mem_singleton] at hf
    subst hf
    refine ⟨p.fs[a], List.getElem?_eq_getElem ha, ?_⟩
    exact (hp.f _ (List.getElem_mem ha)).1
  · simp [th0] at hx; omega
  · simp [th0] at hy
theorem stepC_ok {p : Pg} (hp : PgOk p) {c : Cfg} (hc : OkC p c) (who : Int) (way : Bool) : OkC p (stepC p c who way) := by
  unfold stepC
  split
  · rename_i he
    have hlive : lives c who = true := by
      unfold enab at he
      simp only [Bool.and_eq_true] at he
      exact he.1
    obtain ⟨t, th, f, L, rfl, hth, hs0, hf1, hL, hy, hLm, hym, hmay⟩ := nd_in hp hc hlive
    have okt := hc.th th (List.mem_of_getElem? hth)
    have htl := lt_some hth
    rw [thAt_nat, hth]
    simp only [Int.toNat_natCast]
    obtain ⟨y, hyy⟩ : ∃ y, y = ndAt p c (t : Int) := ⟨_, rfl⟩
    rw [← hyy] at hmay hy hym ⊢
    have hL0 := (hp.f L hLm).1
    have hown := hc.own
    have hownv := hc.ownv
    unfold doC
    split
    · refine hc.set t (th := ⟨th.stk.dropLast, th.sl⟩) ⟨?_, fun g hg => okt.fr g (List.dropLast_subset _ hg), okt.sl, okt.slv, fun i a b ha hb => ?_⟩ hown hownv
      · have := okt.h; simp; omega
      · rw [List.getElem?_dropLast] at ha hb
        split at ha
        · split at hb
          · exact okt.ch i a b ha hb
          · cases hb
        · cases ha
    · rename_i h9
      have hnx : (if y.1 = 8 ∧ way = true then y.2.2.2 else y.2.2.1).toNat < L.length := by
        split
        · rename_i h8
          have := may_alt (by omega) hmay h8.1
          omega
        · have := may_next (by omega) hmay
          omega
      obtain ⟨k, hk⟩ : ∃ k, k = (if y.1 = 8 ∧ way = true then y.2.2.2 else y.2.2.1).toNat := ⟨_, rfl⟩
      rw [← hk] at hnx ⊢
      have okg := okt.goTo hf1 hL hnx
      have hn := hc.n
      simp only
      split
      · exact hc.set t okg (by simpa using hown) (mem_set_le hownv (by omega))
      · split
        · refine hc.set t okg ?_ ?_
          · split
            · simpa using hown
            · exact hown
          · split
            · exact mem_set_le hownv (by omega)
            · exact hownv
        · split
          · rename_i h5
            obtain ⟨⟨s1, s2⟩, s3, s4⟩ := may_spawn hp hmay h5
            have h8 : c.ths.length < 8 := by
              unfold enab at he
              rw [← hyy] at he
              simp only [Bool.and_eq_true] at he
              have := he.2
              rw [if_neg (by omega), if_neg (by omega), if_pos h5] at this
              simpa using this
            refine ⟨by simp; omega, fun x hx => ?_, hown, hownv⟩
            show OkTh p (c.ths.set t _ ++ [th0 y.2.1.toNat]).length x
            rw [List.length_append, List.length_set]
            simp only [List.mem_append, List.mem_singleton] at hx
            rcases hx with hx | rfl
            · rcases List.mem_or_eq_of_mem_set hx with h1 | rfl
              · exact (hc.th x h1).mono (by simp)
              · have := okg.mono (m := c.ths.length + 1) (by omega)
                exact ⟨this.h, this.fr, by simpa using this.sl, mem_set_le this.slv (by simp), this.ch⟩
            · exact th0_ok hp (by omega)
          · split
            · rename_i h7
              obtain ⟨a0, a1⟩ := may_call hmay h7
              have hE : E p.fs f.1 y.2.1.toNat := ⟨y, by rw [List.getD_eq_getElem?_getD, hL]; exact hym, h7, by omega⟩
              have hch : Chn p.fs (goTo th.stk k ++ [(y.2.1.toNat, 0)]) := by
                intro i a b ha hb
                have hgl : (goTo th.stk k).length = th.stk.length := goTo_len _ _
                rcases Nat.lt_or_ge (i + 1) (goTo th.stk k).length with h1 | h1
                · rw [List.getElem?_append_left (by omega)] at ha
                  rw [List.getElem?_append_left h1] at hb
                  exact okg.ch i a b ha hb
                · have hi : i + 1 = (goTo th.stk k).length := by
                    have := lt_some hb; simp at this; omega
                  rw [List.getElem?_append_left (by omega)] at ha
                  rw [List.getElem?_append_right h1, hi, Nat.sub_self] at hb
                  simp at hb
                  subst hb
                  obtain ⟨a', ha', e1⟩ := goTo_get ha
                  obtain ⟨f', g1, g2, g3⟩ := last_get th.stk hs0
                  rw [hf1] at g1; cases g1
                  rw [show th.stk.length - 1 = i by omega, ha'] at g2
                  cases g2
                  rw [← e1]; exact hE
              have hfr : ∀ g ∈ goTo th.stk k ++ [(y.2.1.toNat, 0)], ∃ L, p.fs[g.1]? = some L ∧ g.2 < L.length := by
                intro g hg
                simp only [List.mem_append, List.mem_singleton] at hg
                rcases hg with hg | rfl
                · exact okg.fr g hg
                · refine ⟨p.fs[y.2.1.toNat]'(by omega), List.getElem?_eq_getElem (by omega), ?_⟩
                  exact (hp.f _ (List.getElem_mem _)).1
              refine hc.set t (th := ⟨goTo th.stk k ++ [(y.2.1.toNat, 0)], th.sl⟩) ⟨hch.len hp (fun g hg => ?_), hfr, okt.sl, okt.slv, hch⟩ hown hownv
              obtain ⟨L', h1, _⟩ := hfr g hg
              exact lt_some h1
            · exact hc.set t okg hown hownv
  · exact hc
theorem cfg0_ok {p : Pg} (hp : PgOk p) : OkC p cfg0 := by
  refine ⟨by decide, fun t ht => ?_, rfl, fun x hx => ?_⟩
  · simp only [cfg0, List.mem_singleton] at ht
    subst ht
    exact th0_ok hp hp.n.1
  · simp [cfg0] at hx; omega
end Go.Proofs.Ytiikndppckjmhaa.Am
