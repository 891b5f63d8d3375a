/- The pure statement of ScriptGets: the loops of the law come to what script.Get and script.Put come to. No condition. -/
import Derived.Test.YtfglfhanikpafaaQRdScriptGets
import Derived.Test.YtfglfhanikpafaaScr
namespace Go.Proofs.Ytfglfhanikpafaa.Pure
open Go.RowKit Go.Proofs.YtfglfhanikpafaaW.PrintWords Go.Proofs.YtfglfhanikpafaaW.PrintLast Go.Proofs.Ytfglfhanikpafaa.Q Go.Proofs.Ytfglfhanikpafaa.Rd Go.Proofs.Ytfglfhanikpafaa.Pl Go.Proofs.Ytfglfhanikpafaa.Scr Go.Proofs.Ytfglfhanikpafaa.Q.OfScriptGets
theorem gets_l1 (l : List Int) (hl : l.length ≤ 4096) (ok : ∀ x ∈ l, okB x) (d : Nat) : ∀ (i : Nat), i + d = l.length →
    Ev (fun k => alibilaw11_ScriptGets.l1 k l (l.map dec) (i : Int)) true := by
  induction d with
  | zero =>
    intro i hd
    have hp := put_ev (l.map dec)
    have he : putS (l.map dec) = (l, 0) := by
      unfold putS
      rw [if_neg (by simp; omega), if_pos (by simp only [List.mem_map]; rintro x ⟨y, _, rfl⟩; exact okP_dec y), List.map_map]
      congr 1
      exact (List.map_congr_left (g := id) (fun x hx => enc_dec (ok x hx))).trans (List.map_id _)
    rw [he] at hp
    refine Ev.one (Ev.bind hp (Ev.ret fun k => ?_)) fun k => by rw [alibilaw11_ScriptGets.l1, if_neg (by omega)]
    rw [if_pos rfl, beq_self_eq_true]
  | succ d ih =>
    intro i hd
    have hi : i < l.length := by omega
    have hi' : i < (l.map dec).length := by simpa using hi
    obtain ⟨h0, h8⟩ := ok l[i] (List.getElem_mem hi)
    have IH := ih (i + 1) (by omega)
    rw [← w64_succ i l.length hi (by omega)] at IH
    refine Ev.one IH fun k => ?_
    rw [alibilaw11_ScriptGets.l1, if_pos (by omega), if_pos (by omega), if_pos (by omega), rdT _ i hi', rd_nat l i hi, List.getElem_map, w64 (by omega) (by omega), Int.tmod_eq_emod_of_nonneg h0, if_pos (by rfl)]
    rw [if_neg]
    simp only [dec, bne_iff_ne, ne_eq, Decidable.not_not, decide_eq_decide]
    omega
theorem gets_ok (l : List Int) (hl : l.length ≤ 4096) (ok : ∀ x ∈ l, okB x) (d : Nat) : ∀ (i : Nat), i + d = l.length →
    Ev (fun k => alibilaw11_ScriptGets.l0 k l (l.map dec) (i : Int) 0 0) true := by
  induction d with
  | zero =>
    intro i hd
    refine Ev.one (f := fun k => alibilaw11_ScriptGets.j2 k l (l.map dec) false) ?_ fun k => by rw [alibilaw11_ScriptGets.l0, if_neg (by omega), if_neg (by decide)]; simp
    exact Ev.one (gets_l1 l hl ok l.length 0 (by omega)) fun k => by rw [alibilaw11_ScriptGets.j2, if_neg (by decide)]; rfl
  | succ d ih =>
    intro i hd
    have hi : i < l.length := by omega
    obtain ⟨h0, h8⟩ := ok l[i] (List.getElem_mem hi)
    have IH := ih (i + 1) (by omega)
    rw [← w64_succ i l.length hi (by omega)] at IH
    refine Ev.one IH fun k => ?_
    rw [alibilaw11_ScriptGets.l0, if_pos (by omega), if_pos (by omega), rd_nat l i hi, if_neg (by omega)]
theorem gets_bad (l : List Int) (hl : l.length ≤ 4096) (hn : ∀ x ∈ l, 0 ≤ x) (j : Nat) (hj : j < l.length) (hb : ¬ okB l[j]) (hbe : ∀ m, ∀ hm : m < l.length, m < j → okB l[m]) (d : Nat) : ∀ (i : Nat), i + d = j →
    Ev (fun k => alibilaw11_ScriptGets.l0 k l [] (i : Int) (j : Int) 3) true := by
  induction d with
  | zero =>
    intro i hd
    obtain rfl : i = j := by omega
    have hp := hn l[i] (List.getElem_mem hj)
    refine Ev.one (Ev.now true) fun k => ?_
    rw [alibilaw11_ScriptGets.l0, if_pos (by omega), if_pos (by omega), rd_nat l i hj, if_pos (by unfold okB at hb; omega), if_pos (by simp)]
    rfl
  | succ d ih =>
    intro i hd
    have hi : i < l.length := by omega
    obtain ⟨h0, h8⟩ := hbe i hi (by omega)
    have IH := ih (i + 1) (by omega)
    rw [← w64_succ i l.length hi (by omega)] at IH
    refine Ev.one IH fun k => ?_
    rw [alibilaw11_ScriptGets.l0, if_pos (by omega), if_pos (by omega), rd_nat l i hi, if_neg (by omega)]
theorem ScriptGets : Aim := by
  rintro l ⟨_, hw⟩
  have hn : ∀ x ∈ l, 0 ≤ x := fun x hx => (bounds_u8 (hw x hx)).1
  refine Ev.rounds (Ev.bind awake ?_)
  show Ev (fun k => if true = true then alibilaw11_ScriptGets.j0 k l (decide ((l.length : Int) > 5000)) else alibilaw11_ScriptGets.j0 k l true) true
  by_cases h : (l.length : Int) > 5000
  · exact Ev.one (f := fun k => (alibilaw11_awake.f k).bind fun t => some t) (Ev.bind awake (Ev.now true)) fun k => by rw [if_pos rfl, alibilaw11_ScriptGets.j0, decide_eq_true h, if_pos rfl]
  · by_cases h4 : l.length > 4096
    · refine Ev.one (Ev.bind (get_long l h4) ?_) (fun k => by rw [if_pos rfl, alibilaw11_ScriptGets.j0, decide_eq_false h, if_neg (by decide)])
      exact Ev.ret fun k => by rw [if_pos (by omega), if_pos (by decide)]; rfl
    · by_cases ok : ∀ x ∈ l, okB x
      · refine Ev.one (Ev.bind (get_ok l (by omega) ok) ?_) (fun k => by rw [if_pos rfl, alibilaw11_ScriptGets.j0, decide_eq_false h, if_neg (by decide)])
        exact Ev.congr (fun k => by rw [if_neg (by omega)]; rfl) (gets_ok l (by omega) ok l.length 0 (by omega))
      · obtain ⟨j, hj, h1, h2, h3⟩ := get_bad l (by omega) hn (by simpa using ok)
        refine Ev.one (Ev.bind h3 ?_) (fun k => by rw [if_pos rfl, alibilaw11_ScriptGets.j0, decide_eq_false h, if_neg (by decide)])
        exact Ev.congr (fun k => by rw [if_neg (by omega)]; rfl) (gets_bad l (by omega) hn j hj h1 h2 j 0 (by omega))
end Go.Proofs.Ytfglfhanikpafaa.Pure
