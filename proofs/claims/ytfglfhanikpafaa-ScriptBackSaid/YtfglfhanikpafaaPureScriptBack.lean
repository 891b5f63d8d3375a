/- The pure statement of ScriptBack: what script.Put writes, script.Get reads as it was. No condition. -/
import Derived.Test.YtfglfhanikpafaaQRdScriptBack
import Derived.Test.YtfglfhanikpafaaScr
namespace Go.Proofs.Ytfglfhanikpafaa.Pure
open Go.RowKit Go.Proofs.YtfglfhanikpafaaW.PrintWords Go.Proofs.YtfglfhanikpafaaW.PrintLast Go.Proofs.Ytfglfhanikpafaa.Q Go.Proofs.Ytfglfhanikpafaa.Rd Go.Proofs.Ytfglfhanikpafaa.Pl Go.Proofs.Ytfglfhanikpafaa.Scr Go.Proofs.Ytfglfhanikpafaa.Q.OfScriptBack
theorem same_loop (l : List S29) (hl : l.length ≤ 1000000) (d : Nat) : ∀ (i : Nat), i + d = l.length → Ev (fun k => alibiref11_Same.l0 k l l (i : Int)) true := by
  induction d with
  | zero =>
    intro i hd
    exact Ev.one (Ev.now true) fun k => by rw [alibiref11_Same.l0, if_neg (by omega)]
  | succ d ih =>
    intro i hd
    have hi : i < l.length := by omega
    have IH := ih (i + 1) (by omega)
    rw [← w64_succ i l.length hi (by omega)] at IH
    refine Ev.one IH fun k => ?_
    rw [alibiref11_Same.l0, if_pos (by omega), if_pos (by omega), if_pos (by omega), if_neg (by simp)]
theorem same_self (l : List S29) (hl : l.length ≤ 1000000) : Ev (fun k => alibiref11_Same.f k l l) true :=
  Ev.congr (fun k => by rw [alibiref11_Same.f, if_pos rfl]; rfl) (same_loop l hl l.length 0 (by omega))
theorem ScriptBack : Aim := by
  rintro l _
  refine Ev.rounds (Ev.bind awake ?_)
  show Ev (fun k => if true = true then alibilaw11_ScriptBack.j0 k l (decide ((l.length : Int) > 5000)) else alibilaw11_ScriptBack.j0 k l true) true
  by_cases h : (l.length : Int) > 5000
  · exact Ev.one (f := fun k => (alibilaw11_awake.f k).bind fun t => some t) (Ev.bind awake (Ev.now true)) fun k => by rw [if_pos rfl, alibilaw11_ScriptBack.j0, decide_eq_true h, if_pos rfl]
  · refine Ev.one (Ev.bind (put_ev l) ?_) (fun k => by rw [if_pos rfl, alibilaw11_ScriptBack.j0, decide_eq_false h, if_neg (by decide)])
    unfold putS
    by_cases h4 : l.length > 4096
    · exact Ev.ret fun k => by rw [if_pos h4, if_neg (by decide)]; rfl
    · rw [if_neg h4]
      by_cases ok : ∀ x ∈ l, okP x
      · rw [if_pos ok]
        refine Ev.congr (fun k => by rw [if_pos rfl]) ?_
        have hg := get_ok (l.map enc) (by simp; omega) (by simp only [List.mem_map]; rintro y ⟨x, hx, rfl⟩; exact enc_range (ok x hx))
        have he : (l.map enc).map dec = l := by
          rw [List.map_map]
          exact (List.map_congr_left (g := id) (fun x hx => dec_enc (ok x hx))).trans (List.map_id _)
        rw [he] at hg
        refine Ev.bind hg (Ev.congr (fun k => by rw [if_pos (by rfl)]) (Ev.bind (same_self l (by omega)) (Ev.ret fun k => ?_)))
        rw [if_pos rfl]; simp
      · rw [if_neg ok]
        exact Ev.ret fun k => by rw [if_neg (by decide)]; rfl
end Go.Proofs.Ytfglfhanikpafaa.Pure
