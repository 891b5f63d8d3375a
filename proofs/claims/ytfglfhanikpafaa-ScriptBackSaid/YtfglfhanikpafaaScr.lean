/- What script.Put and script.Get come to, in plain words: the lists of codes and of picks. No condition but those of each lemma. -/
import Derived.Test.YtfglfhanikpafaaQx3
import Derived.Test.YtfglfhanikpafaaPl
namespace Go.Proofs.Ytfglfhanikpafaa.Scr
open Go.RowKit Go.Proofs.YtfglfhanikpafaaW.PrintWords Go.Proofs.YtfglfhanikpafaaW.PrintLast Go.Proofs.Ytfglfhanikpafaa.Q Go.Proofs.Ytfglfhanikpafaa.Pl
def okP (x : S29) : Prop := 0 ≤ x.f0 ∧ x.f0 < 8
def enc (x : S29) : Int := if x.f1 = true then x.f0 + 8 else x.f0
theorem rdT (xs : List S29) (i : Nat) (h : i < xs.length) : rd_T29 xs (i : Int) = xs[i] := getD_nat xs i z29 h
theorem enc_range {x : S29} (h : okP x) : 0 ≤ enc x ∧ enc x < 16 := by
  unfold okP at h; unfold enc; split <;> omega
theorem put_loop (l : List S29) (hl : l.length ≤ 1000000) (ok : ∀ x ∈ l, okP x) (d : Nat) : ∀ (i : Nat) (out : List Int), i + d = l.length → out.length = i →
    Ev (fun k => script_Put.l0 k out l (l.length : Int) (i : Int)) (out ++ (l.drop i).map enc, 0) := by
  induction d with
  | zero =>
    intro i out hd ho
    refine Ev.one (Ev.ret fun k => ?_) (fun k => script_Put.l0.eq_2 _ _ _ _ _)
    rw [if_neg (by omega), List.drop_of_length_le (by omega), List.map_nil, List.append_nil]
  | succ d ih =>
    intro i out hd ho
    have hi : i < l.length := by omega
    obtain ⟨h0, h8⟩ := ok l[i] (List.getElem_mem hi)
    have hr := rdT l i hi
    have e : out ++ (l.drop i).map enc = (out ++ [enc l[i]]) ++ (l.drop (i + 1)).map enc := by rw [drop_cons l i hi, List.map_cons, List.append_assoc]; rfl
    rw [e]
    have hw := w64_succ i l.length hi (by omega)
    have IH := ih (i + 1) (out ++ [enc l[i]]) (by omega) (by simp [ho])
    rw [← hw] at IH
    refine Ev.one (f := fun k => script_Put.j1 k out l (l.length : Int) (i : Int) false l[i].f0 l[i].f1) ?_ (fun k => ?_)
    · refine Ev.one IH (fun k => ?_)
      rw [script_Put.j1, if_neg (by decide)]
      cases hf : l[i].f1 with
      | true =>
        rw [if_pos rfl, if_pos (by omega), show (l[i].f0 + 8) % 256 = enc l[i] by unfold enc; rw [if_pos hf]; omega]
      | false =>
        rw [if_neg (by decide), if_pos (by omega), show l[i].f0 % 256 = enc l[i] by unfold enc; rw [if_neg (by simp [hf])]; omega]
    · rw [script_Put.l0, if_pos (by omega), if_pos (by omega), if_pos (by omega), hr, if_neg (by omega), decide_eq_false (by omega)]
theorem put_bad_loop (l : List S29) (hl : l.length ≤ 1000000) (d : Nat) : ∀ (i : Nat) (out : List Int), i + d = l.length → out.length ≤ i → (∃ x ∈ l.drop i, ¬ okP x) →
    Ev (fun k => script_Put.l0 k out l (l.length : Int) (i : Int)) ([], 1) := by
  induction d with
  | zero =>
    rintro i out hd ho ⟨x, hx, _⟩
    rw [List.drop_of_length_le (by omega)] at hx
    cases hx
  | succ d ih =>
    rintro i out hd ho hb
    have hi : i < l.length := by omega
    have hr := rdT l i hi
    have hw := w64_succ i l.length hi (by omega)
    rw [drop_cons l i hi] at hb
    by_cases hok : okP l[i]
    · have hb' : ∃ x ∈ l.drop (i + 1), ¬ okP x := by
        obtain ⟨x, hx, hn⟩ := hb
        rcases List.mem_cons.1 hx with rfl | hx
        · exact absurd hok hn
        · exact ⟨x, hx, hn⟩
      obtain ⟨h0, h8⟩ := hok
      refine Ev.one (f := fun k => script_Put.j1 k out l (l.length : Int) (i : Int) false l[i].f0 l[i].f1) ?_ (fun k => ?_)
      · cases hf : l[i].f1 with
        | true =>
          have IH := ih (i + 1) (out ++ [(l[i].f0 + 8) % 256]) (by omega) (by simp; omega) hb'
          rw [← hw] at IH
          refine Ev.one IH (fun k => ?_)
          rw [script_Put.j1, if_neg (by decide), if_pos rfl, if_pos (by omega)]
        | false =>
          have IH := ih (i + 1) (out ++ [l[i].f0 % 256]) (by omega) (by simp; omega) hb'
          rw [← hw] at IH
          refine Ev.one IH (fun k => ?_)
          rw [script_Put.j1, if_neg (by decide), if_neg (by decide), if_pos (by omega)]
      · rw [script_Put.l0, if_pos (by omega), if_pos (by omega), if_pos (by omega), hr, if_neg (by omega), decide_eq_false (by omega)]
    · refine Ev.one (f := fun k => script_Put.j1 k out l (l.length : Int) (i : Int) true l[i].f0 l[i].f1) ?_ (fun k => ?_)
      · exact Ev.one (Ev.now _) (fun k => by rw [script_Put.j1, if_pos rfl])
      · rw [script_Put.l0, if_pos (by omega), if_pos (by omega), if_pos (by omega), hr]
        by_cases hn : l[i].f0 < 0
        · rw [if_pos hn]
        · rw [if_neg hn, decide_eq_true (by unfold okP at hok; omega)]
open Classical in
/-- What Put answers. -/
noncomputable def putS (l : List S29) : List Int × Int := if l.length > 4096 then ([], 4) else if ∀ x ∈ l, okP x then (l.map enc, 0) else ([], 1)
theorem put_ev (l : List S29) : Ev (fun k => script_Put.f k l) (putS l) := by
  unfold putS
  by_cases h : l.length > 4096
  · rw [if_pos h]
    exact Ev.ret fun k => by rw [script_Put.f, if_pos (by omega)]
  · rw [if_neg h]
    by_cases ok : ∀ x ∈ l, okP x
    · rw [if_pos ok]
      refine Ev.congr (fun k => by rw [script_Put.f, if_neg (by omega)]; rfl) (Ev.to (put_loop l (by omega) ok l.length 0 [] (by omega) rfl) ?_)
      simp
    · rw [if_neg ok]
      refine Ev.congr (fun k => by rw [script_Put.f, if_neg (by omega)]; rfl) (put_bad_loop l (by omega) l.length 0 [] (by omega) (by simp) ?_)
      simpa using ok
def okB (x : Int) : Prop := 0 ≤ x ∧ x < 16
def dec (x : Int) : S29 := ⟨x % 8, decide (x ≥ 8)⟩
theorem dec_enc {x : S29} (h : okP x) : dec (enc x) = x := by
  obtain ⟨a, b⟩ := x
  simp only [okP] at h
  unfold dec enc
  cases b
  · simp only [Bool.false_eq_true, if_false, S29.mk.injEq, decide_eq_false_iff_not]
    omega
  · simp only [if_true, S29.mk.injEq, decide_eq_true_eq]
    omega
theorem enc_dec {x : Int} (h : okB x) : enc (dec x) = x := by
  unfold okB at h
  unfold dec enc
  by_cases h8 : x ≥ 8
  · simp only [decide_eq_true h8, if_true]; omega
  · simp only [decide_eq_false h8, Bool.false_eq_true, if_false]; omega
theorem okP_dec (x : Int) : okP (dec x) := by unfold okP dec; simp only; omega
theorem get_loop (l : List Int) (hl : l.length ≤ 1000000) (ok : ∀ x ∈ l, okB x) (d : Nat) : ∀ (i : Nat) (out : List S29), i + d = l.length → out.length = i →
    Ev (fun k => script_Get.l0 k out l (l.length : Int) (i : Int)) (out ++ (l.drop i).map dec, 0, 0) := by
  induction d with
  | zero =>
    intro i out hd ho
    refine Ev.one (Ev.ret fun k => ?_) (fun k => script_Get.l0.eq_2 _ _ _ _ _)
    rw [if_neg (by omega), List.drop_of_length_le (by omega), List.map_nil, List.append_nil]
  | succ d ih =>
    intro i out hd ho
    have hi : i < l.length := by omega
    have hk := ok l[i] (List.getElem_mem hi)
    obtain ⟨h0, h8⟩ := hk
    have hr := rd_nat l i hi
    have e : out ++ (l.drop i).map dec = (out ++ [dec l[i]]) ++ (l.drop (i + 1)).map dec := by rw [drop_cons l i hi, List.map_cons, List.append_assoc]; rfl
    rw [e]
    have hw := w64_succ i l.length hi (by omega)
    have IH := ih (i + 1) (out ++ [dec l[i]]) (by omega) (by simp [ho])
    rw [← hw] at IH
    refine Ev.one IH (fun k => ?_)
    rw [script_Get.l0, if_pos (by omega), if_pos (by omega), if_pos (by omega), hr, if_neg (by omega), if_pos (by omega)]
    rw [show wrap64 (Int.tmod l[i] 8) = l[i] % 8 by rw [Int.tmod_eq_emod_of_nonneg h0]; exact w64 (by omega) (by omega)]
    rfl
theorem get_bad_loop (l : List Int) (hl : l.length ≤ 1000000) (hn : ∀ x ∈ l, 0 ≤ x) (d : Nat) : ∀ (i : Nat) (out : List S29), i + d = l.length → out.length ≤ i → (∃ x ∈ l.drop i, ¬ okB x) →
    ∃ j : Nat, ∃ hj : j < l.length, ¬ okB l[j] ∧ i ≤ j ∧ (∀ m, ∀ hm : m < l.length, i ≤ m → m < j → okB l[m]) ∧ Ev (fun k => script_Get.l0 k out l (l.length : Int) (i : Int)) ([], (j : Int), 3) := by
  induction d with
  | zero =>
    rintro i out hd ho ⟨x, hx, _⟩
    rw [List.drop_of_length_le (by omega)] at hx
    cases hx
  | succ d ih =>
    rintro i out hd ho hb
    have hi : i < l.length := by omega
    have hr := rd_nat l i hi
    have hw := w64_succ i l.length hi (by omega)
    have hp := hn l[i] (List.getElem_mem hi)
    rw [drop_cons l i hi] at hb
    by_cases hok : okB l[i]
    · have hb' : ∃ x ∈ l.drop (i + 1), ¬ okB x := by
        obtain ⟨x, hx, hn⟩ := hb
        rcases List.mem_cons.1 hx with rfl | hx
        · exact absurd hok hn
        · exact ⟨x, hx, hn⟩
      have hok' := hok
      obtain ⟨h0, h8⟩ := hok
      obtain ⟨j, hj, hnj, hij, hbe, IH⟩ := ih (i + 1) (out ++ [(⟨wrap64 (Int.tmod l[i] 8), decide (l[i] ≥ 8)⟩ : S29)]) (by omega) (by simp; omega) hb'
      rw [← hw] at IH
      refine ⟨j, hj, hnj, by omega, fun m hm h1 h2 => ?_, ?_⟩
      · by_cases hmi : m = i
        · subst hmi; exact hok'
        · exact hbe m hm (by omega) h2
      · refine Ev.one IH (fun k => ?_)
        rw [script_Get.l0, if_pos (by omega), if_pos (by omega), if_pos (by omega), hr, if_neg (by omega), if_pos (by omega)]
    · refine ⟨i, hi, hok, by omega, fun m hm h1 h2 => by omega, Ev.one (Ev.now _) fun k => ?_⟩
      rw [script_Get.l0, if_pos (by omega), if_pos (by omega), if_pos (by omega), hr, if_pos (by unfold okB at hok; omega)]
theorem get_long (l : List Int) (h : l.length > 4096) : Ev (fun k => script_Get.f k l) ([], 0, 4) := Ev.ret fun k => by rw [script_Get.f, if_pos (by omega)]
theorem get_ok (l : List Int) (h : l.length ≤ 4096) (ok : ∀ x ∈ l, okB x) : Ev (fun k => script_Get.f k l) (l.map dec, 0, 0) := by
  refine Ev.congr (fun k => by rw [script_Get.f, if_neg (by omega)]; rfl) (Ev.to (get_loop l (by omega) ok l.length 0 [] (by omega) rfl) ?_)
  simp
theorem get_bad (l : List Int) (h : l.length ≤ 4096) (hn : ∀ x ∈ l, 0 ≤ x) (hb : ∃ x ∈ l, ¬ okB x) :
    ∃ j : Nat, ∃ hj : j < l.length, ¬ okB l[j] ∧ (∀ m, ∀ hm : m < l.length, m < j → okB l[m]) ∧ Ev (fun k => script_Get.f k l) ([], (j : Int), 3) := by
  obtain ⟨j, hj, h1, _, h2, h3⟩ := get_bad_loop l (by omega) hn l.length 0 [] (by omega) (by simp) (by simpa using hb)
  exact ⟨j, hj, h1, fun m hm hmj => h2 m hm (by omega) hmj, Ev.congr (fun k => by rw [script_Get.f, if_neg (by omega)]; rfl) h3⟩
theorem awake : Ev (fun k => alibilaw11_awake.f k) true := by
  have h1 := get_ok [9] (by simp) (by simp [okB])
  have h2 := put_ev [⟨1, true⟩]
  rw [show putS [⟨1, true⟩] = ([9], 0) by
    unfold putS; rw [if_neg (by simp), if_pos (by simp [okP])]; simp [enc]] at h2
  refine Ev.bind h1 (Ev.bind h2 (Ev.ret fun k => ?_))
  decide +kernel
end Go.Proofs.Ytfglfhanikpafaa.Scr
