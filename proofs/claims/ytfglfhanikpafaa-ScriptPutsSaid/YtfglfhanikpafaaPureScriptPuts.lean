/- The pure statement of ScriptPuts: the loop of the law comes to what script.Put comes to. No condition. -/
import Derived.Test.YtfglfhanikpafaaQRdScriptPuts
import Derived.Test.YtfglfhanikpafaaScr
namespace Go.Proofs.Ytfglfhanikpafaa.Pure
open Go.RowKit Go.Proofs.YtfglfhanikpafaaW.PrintWords Go.Proofs.YtfglfhanikpafaaW.PrintLast Go.Proofs.Ytfglfhanikpafaa.Q Go.Proofs.Ytfglfhanikpafaa.Rd Go.Proofs.Ytfglfhanikpafaa.Pl Go.Proofs.Ytfglfhanikpafaa.Scr Go.Proofs.Ytfglfhanikpafaa.Q.OfScriptPuts
theorem puts_ok (l : List S29) (hl : l.length ≤ 1000000) (out : List Int) (e : Int) (he : e = 0) (ok : ∀ x ∈ l, okP x) (d : Nat) : ∀ (i : Nat) (w : List Int), i + d = l.length → w.length = i → out = w ++ (l.drop i).map enc →
    Ev (fun k => alibilaw11_ScriptPuts.l0 k l out e w (i : Int)) true := by
  induction d with
  | zero =>
    intro i w hd hw ho
    rw [List.drop_of_length_le (by omega), List.map_nil, List.append_nil] at ho
    subst ho
    exact Ev.one (Ev.now _) fun k => by rw [alibilaw11_ScriptPuts.l0, if_neg (by omega), if_pos he, beq_self_eq_true]
  | succ d ih =>
    intro i w hd hw ho
    have hi : i < l.length := by omega
    obtain ⟨h0, h8⟩ := ok l[i] (List.getElem_mem hi)
    have hr := rdT l i hi
    rw [drop_cons l i hi, List.map_cons, ← List.singleton_append, ← List.append_assoc] at ho
    have IH := ih (i + 1) (w ++ [enc l[i]]) (by omega) (by simp [hw]) ho
    rw [← w64_succ i l.length hi (by omega)] at IH
    refine Ev.one (f := fun k => alibilaw11_ScriptPuts.j2 k l out e w (i : Int) false) (Ev.one IH fun k => ?_) (fun k => ?_)
    · rw [alibilaw11_ScriptPuts.j2, if_neg (by decide), if_pos (by omega), if_pos (by omega), hr]
      cases hf : l[i].f1 with
      | true => rw [if_pos rfl, if_pos (by omega), w64 (by omega) (by omega), show (l[i].f0 + 8) % 256 = enc l[i] by unfold enc; rw [if_pos hf]; omega]
      | false => rw [if_neg (by decide), if_pos (by omega), show l[i].f0 % 256 = enc l[i] by unfold enc; rw [if_neg (by simp [hf])]; omega]
    · rw [alibilaw11_ScriptPuts.l0, if_pos (by omega), if_pos (by omega), hr, if_neg (by omega), decide_eq_false (by omega)]
theorem puts_bad (l : List S29) (hl : l.length ≤ 1000000) (d : Nat) : ∀ (i : Nat) (w : List Int), i + d = l.length → w.length ≤ i → (∃ x ∈ l.drop i, ¬ okP x) →
    Ev (fun k => alibilaw11_ScriptPuts.l0 k l [] 1 w (i : Int)) true := by
  induction d with
  | zero =>
    rintro i w hd hw ⟨x, hx, _⟩
    rw [List.drop_of_length_le (by omega)] at hx
    cases hx
  | succ d ih =>
    rintro i w hd hw hb
    have hi : i < l.length := by omega
    have hr := rdT l i hi
    have hs := w64_succ i l.length hi (by omega)
    rw [drop_cons l i hi] at hb
    by_cases hok : okP l[i]
    · have hb' : ∃ x ∈ l.drop (i + 1), ¬ okP x := by
        obtain ⟨x, hx, hn⟩ := hb
        rcases List.mem_cons.1 hx with rfl | hx
        · exact absurd hok hn
        · exact ⟨x, hx, hn⟩
      obtain ⟨h0, h8⟩ := hok
      refine Ev.one (f := fun k => alibilaw11_ScriptPuts.j2 k l [] 1 w (i : Int) false) ?_ (fun k => ?_)
      · cases hf : l[i].f1 with
        | true =>
          have IH := ih (i + 1) (w ++ [(wrap64 (l[i].f0 + 8)) % 256]) (by omega) (by simp; omega) hb'
          rw [← hs] at IH
          refine Ev.one IH fun k => ?_
          rw [alibilaw11_ScriptPuts.j2, if_neg (by decide), if_pos (by omega), if_pos (by omega), hr, hf, if_pos rfl, if_pos (by omega)]
        | false =>
          have IH := ih (i + 1) (w ++ [l[i].f0 % 256]) (by omega) (by simp; omega) hb'
          rw [← hs] at IH
          refine Ev.one IH fun k => ?_
          rw [alibilaw11_ScriptPuts.j2, if_neg (by decide), if_pos (by omega), if_pos (by omega), hr, hf, if_neg (by decide), if_pos (by omega)]
      · rw [alibilaw11_ScriptPuts.l0, if_pos (by omega), if_pos (by omega), hr, if_neg (by omega), decide_eq_false (by omega)]
    · refine Ev.one (f := fun k => alibilaw11_ScriptPuts.j2 k l [] 1 w (i : Int) true) (Ev.one (Ev.now _) fun k => by rw [alibilaw11_ScriptPuts.j2, if_pos rfl, if_pos rfl]; rfl) (fun k => ?_)
      rw [alibilaw11_ScriptPuts.l0, if_pos (by omega), if_pos (by omega), hr]
      by_cases hn : l[i].f0 < 0
      · rw [if_pos hn]
      · rw [if_neg hn, decide_eq_true (by unfold okP at hok; omega)]
theorem ScriptPuts : Aim := by
  intro l _
  refine Ev.rounds (Ev.bind awake ?_)
  show Ev (fun k => if true = true then alibilaw11_ScriptPuts.j0 k l (decide ((l.length : Int) > 5000)) else alibilaw11_ScriptPuts.j0 k l true) true
  by_cases h : (l.length : Int) > 5000
  · exact Ev.one (f := fun k => (alibilaw11_awake.f k).bind fun t => some t) (Ev.bind awake (Ev.now true)) fun k => by rw [if_pos rfl, alibilaw11_ScriptPuts.j0, decide_eq_true h, if_pos rfl]
  · have hp := put_ev l
    refine Ev.one (Ev.bind hp ?_) (fun k => by rw [if_pos rfl, alibilaw11_ScriptPuts.j0, decide_eq_false h, if_neg (by decide)])
    unfold putS
    by_cases h4 : l.length > 4096
    · exact Ev.ret fun k => by rw [if_pos h4, if_pos (by omega), if_pos rfl]; rfl
    · rw [if_neg h4]
      refine Ev.congr (fun k => by rw [if_neg (by omega)]) ?_
      by_cases ok : ∀ x ∈ l, okP x
      · rw [if_pos ok]
        exact puts_ok l (by omega) (l.map enc) 0 rfl ok l.length 0 [] (by omega) rfl (by simp)
      · rw [if_neg ok]
        exact puts_bad l (by omega) l.length 0 [] (by omega) (by simp) (by simpa using ok)
end Go.Proofs.Ytfglfhanikpafaa.Pure
