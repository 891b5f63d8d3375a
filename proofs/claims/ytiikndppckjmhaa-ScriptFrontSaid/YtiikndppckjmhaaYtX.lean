/- Texts AzH YsD of this session, one behind the other. -/
import Derived.Test.YtiikndppckjmhaaAzX
import Derived.Test.YtiikndppckjmhaaYsX
/- Cuts: codes told in parts, so that a state may say less between them. -/
namespace Go.Proofs.Ytiikndppckjmhaa.Am
set_option autoImplicit false
set_option linter.unusedVariables false
set_option linter.unusedSimpArgs false
section
variable {P : Program} {G : Gl} {own : Tmp → Bool}
theorem W.seq {n : Nat} {x y : Code} {Q : Exit → S → Prop} {s : S} (h : W P G n x (fun e s' => match e with | .normal => W P G n y Q s' | e => Q e s') s) : W P G n (.seq x y) Q s := by
  refine ⟨fun D μ a w hn hg hr => ?_⟩
  refine wp_seq (wp_mono (h.out D μ a w hn hg hr) fun e a' w' hp => ?_)
  obtain ⟨s', μ', h1, h2, h3, h4⟩ := hp
  cases e with
  | normal => exact wp_mono (h1.out D μ' a' w' h4.1 (hg.keep h3) h2) fun e a'' w'' hp => Post.trans h3 h4 hp
  | _ => exact ⟨s', μ', h1, h2, h3, h4⟩
/-- is this a region behind which the telling is cut? -/
def cutAt (ks : List Nat) : Code → Bool
  | .region i _ _ => ks.contains i
  | _ => false
def wpk (P : Program) (G : Gl) (own : Tmp → Bool) (n : Nat) (ks : List Nat) : Code → (Exit → S → Prop) → S → Prop
  | .seq a b, Q, s => match cutAt ks a with
    | true => wpx P G own n a (fun e s' => match e with | .normal => W P G n b Q s' | e => Q e s') s
    | false => wpx P G own n a (fun e s' => match e with | .normal => wpk P G own n ks b Q s' | e => Q e s') s
  | c, Q, s => wpx P G own n c Q s
theorem wpk_ok {n : Nat} (ks : List Nat) : ∀ (c : Code) (Q : Exit → S → Prop) (s : S), wpk P G own n ks c Q s → W P G n c Q s := by
  intro c
  induction c with
  | seq x y ihx ihy =>
    intro Q s h
    unfold wpk at h
    split at h
    · exact W.seq (wpx_ok x _ s h)
    · exact W.seq ((wpx_ok x _ s h).mono fun e s' hq => by
        cases e with
        | normal => exact ihy _ s' hq
        | _ => exact hq)
  | _ => intro Q s h; exact wpx_ok _ Q s h
end
section
variable {P : Program} {G : Gl} {own : Tmp → Bool} {ro : Option Nat} {cx : Cx} {Y : Yt} {n : Nat}
theorem Z.seq {x y : Code} {Q : Exit → S → Option Code → Prop} {s : S} {p : Option Code} (h : Z P G ro cx n x (fun e s' p' => match e with | .normal => Z P G ro cx n y Q s' p' | e => Q e s' p') s p) : Z P G ro cx n (.seq x y) Q s p := by
  refine ⟨fun D μ a w B hX hB hn hr hJ => wpIn_seq (wpIn_mono (h.out D μ a w B hX hB hn hr hJ) fun e a' w' hp => ?_)⟩
  obtain ⟨s', μ', p', D', h1, h2, h3, h4, h5, h6⟩ := hp
  cases e with
  | normal => exact wpIn_mono (h2.out D' μ' a' w' B (fun g hg hd => hX g hg (h1.1 g hd)) (Nat.le_trans hB h5.size) h6.1 h3 h4) fun e a'' w'' hp => PostZ.trans h1 h5 h6 hp
  | _ => exact ⟨s', μ', p', D', h1, h2, h3, h4, h5, h6⟩
def zxk (P : Program) (G : Gl) (own : Tmp → Bool) (Y : Yt) (ro : Option Nat) (cx : Cx) (n : Nat) (ks : List Nat) : Code → (Exit → S → Option Code → Prop) → S → Option Code → Prop
  | .seq a b, Q, s, p => match cutAt ks a with
    | true => zx P G own Y ro cx n a (fun e s' p' => match e with | .normal => Z P G ro cx n b Q s' p' | e => Q e s' p') s p
    | false => zx P G own Y ro cx n a (fun e s' p' => match e with | .normal => zxk P G own Y ro cx n ks b Q s' p' | e => Q e s' p') s p
  | c, Q, s, p => zx P G own Y ro cx n c Q s p
theorem zxk_ok (hcx : cx.Good) (hY : YOK P ro cx Y) (hG : ∀ g, G g = none) (hm : cx.m ≤ n) (ks : List Nat) : ∀ (c : Code) (Q : Exit → S → Option Code → Prop) (s : S) (p : Option Code), zxk P G own Y ro cx n ks c Q s p → Z P G ro cx n c Q s p := by
  intro c
  induction c with
  | seq x y ihx ihy =>
    intro Q s p h
    unfold zxk at h
    split at h
    · exact Z.seq (zx_ok hcx hY hG hm x _ s p h)
    · exact Z.seq ((zx_ok hcx hY hG hm x _ s p h).mono fun e s' p' hq => by
        cases e with
        | normal => exact ihy _ s' p' hq
        | _ => exact hq)
  | _ => intro Q s p h; exact zx_ok hcx hY hG hm _ Q s p h
end
end Go.Proofs.Ytiikndppckjmhaa.Am

/- Contracts: what a script comes to is on the way of each longer one. -/
namespace Go.Proofs.Ytiikndppckjmhaa.Am
set_option autoImplicit false
set_option linter.unusedVariables false
set_option linter.unusedSimpArgs false
set_option maxRecDepth 10000
set_option pp.maxSteps 3000
set_option pp.proofs false
theorem lB_i (l : List (Int × Bool)) : (.sl (l.map encP) : I) = .sl (l.map encP) := rfl
def foB (p : Pg) (l all : List (Int × Bool)) (c : Cfg) (g : Bool) : List Ob := [pgB p, lB l, cfgB c, boolB g, pgB p, lB all]
theorem foB_cl (p : Pg) (l all : List (Int × Bool)) (c : Cfg) (g : Bool) (m : Nat) : ∀ o ∈ foB p l all c g, o.cl m := by
  intro o ho
  simp only [foB, List.mem_cons, List.not_mem_nil, or_false] at ho
  rcases ho with rfl | rfl | rfl | rfl | rfl | rfl
  · exact pgB_cl p m
  · exact lB_cl l m
  · exact cfgB_cl _ m
  · intro cs hcs; simp only [List.mem_singleton] at hcs; subst hcs; rfl
  · exact pgB_cl p m
  · exact lB_cl all m
theorem front1 (p : Pg) (hp : PgOk p) (l all : List (Int × Bool)) (hl : l.length ≤ 1000) (c d : Cfg) (hc : OkC p c) (g : Bool) (i : Nat) (hd : i = l.length → d = c) :
    CallW Try.prog G0 59 [.i (.int .i64 i), cfgV d, .ptr 3 0 0 0, .ptr 1 0 0 0, .ptr 2 0 0 0] (foB p l all c g) (fun r st' => r = .i (.bool true) ∧ st' = foB p l all c (g || decide (i = l.length))) := by
  refine call_of_bodyF 6 (Nat.le_refl _) Try.func59 rfl (fun a w => Try.call59 a w) (wpx_ok (own := own0) _ _ _ ?_)
  cases g with
  | true =>
    repeat ((conv => whnf); first | refine Br.t ?_ | refine Br.f ?_ | refine ⟨rfl, ?_⟩)
    conv => whnf
    refine fin (target := foB p l all c true) rfl (by simp) (foB_cl _ _ _ _ _ _) rfl rfl
  | false =>
    repeat ((conv => whnf); first | refine Br.t ?_ | refine Br.f ?_ | refine ⟨rfl, ?_⟩)
    conv => whnf
    by_cases h : i = l.length
    · have hd := hd h
      subst hd
      subst h
      refine Br.mk (fun _ => ?_) (fun k => absurd k (by simp))
      repeat ((conv => whnf); first | refine Br.t ?_ | refine Br.f ?_ | refine ⟨rfl, ?_⟩)
      conv => whnf
      refine CallW.mono ((same_refl p hp _ hc).pure _ rfl rfl) ?_
      rintro r st' ⟨rfl, rfl⟩
      repeat ((conv => whnf); first | refine Br.t ?_ | refine Br.f ?_ | refine ⟨rfl, ?_⟩)
      conv => whnf
      rw [decide_eq_true rfl]
      refine fin (target := foB p l all d true) rfl (by simp) (foB_cl _ _ _ _ _ _) rfl rfl
    · refine Br.mk (fun k => absurd k (by simp; omega)) (fun _ => ?_)
      repeat ((conv => whnf); first | refine Br.t ?_ | refine Br.f ?_ | refine ⟨rfl, ?_⟩)
      conv => whnf
      rw [decide_eq_false h]
      refine fin (target := foB p l all c false) rfl (by simp) (foB_cl _ _ _ _ _ _) rfl rfl
def foY : V := .fn (.func 59) [] [.ptr 3 0 0 0, .ptr 1 0 0 0, .ptr 2 0 0 0]
set_option maxHeartbeats 4000000 in
theorem front_along (p : Pg) (hp0 : okPg p) (h0 : (chk p).2.2 = 0) (l all : List (Int × Bool)) (hl : l.length ≤ 1000) (hal : all.length ≤ 1000) (hla : ∃ m, all = l ++ m) :
    CallW Try.prog G0 91 [foY, .ptr 4 0 0 0, .ptr 5 0 0 0] (foB p l all (runC p cfg0 l) false) (fun r st' => r = .tup [] ∧ st' = foB p l all (runC p cfg0 l) true) := by
  refine call_of_bodyF 6 (Nat.le_refl _) Try.func91 rfl (fun a w => Try.call91 a w) (wpx_ok (own := own0) _ _ _ ?_)
  have hp := chk_zero h0
  have es : startC p = cfg0 := by unfold startC; rw [if_pos h0]
  have c0 := start_ok p hp0
  rw [es, h0] at c0
  have hcl : OkC p (runC p cfg0 l) := runC_ok hp l (cfg0_ok hp)
  have htk : all.take l.length = l := by obtain ⟨m, rfl⟩ := hla; simp
  have hlen : l.length ≤ all.length := by obtain ⟨m, rfl⟩ := hla; simp
  obtain ⟨c, hc⟩ : ∃ c, c = runC p cfg0 l := ⟨_, rfl⟩
  have hce : ∀ i, i = l.length → runC p cfg0 (all.take i) = c := fun i hi => by rw [hi, htk, hc]
  rw [← hc] at hcl ⊢
  have f0 := front1 p hp l all hl c cfg0 hcl false 0 (fun h => hce 0 h)
  rw [show (false || decide (0 = l.length)) = decide (l.length ≤ 0) by rw [Bool.false_or]; exact decide_eq_decide.2 (by omega)] at f0
  repeat ((conv => whnf); first | refine Br.t ?_ | refine Br.f ?_ | refine ⟨rfl, ?_⟩)
  conv => whnf
  refine CallW.mono (c0.pure _ rfl rfl) ?_
  rintro r st' ⟨rfl, rfl⟩
  repeat ((conv => whnf); first | refine Br.t ?_ | refine Br.f ?_ | refine ⟨rfl, ?_⟩)
  conv => whnf
  refine CallW.mono (f0.tail [cfgB cfg0] rfl (foB_cl _ _ _ _ _ _) (foB_cl _ _ _ _ _ _) rfl rfl) ?_
  rintro r st' ⟨rfl, rfl⟩
  repeat ((conv => whnf); first | refine Br.t ?_ | refine Br.f ?_ | refine ⟨rfl, ?_⟩)
  conv => whnf
  refine loop_ok (α := Nat) (fun i => ⟨alS all foY 4 5 6 i, foB p l all c (decide (l.length ≤ i)) ++ [cfgB (runC p cfg0 (all.take i))]⟩) (fun i => i ≤ all.length) (fun i => all.length - i) 0 (Nat.zero_le _) ?_ (fun i hi => wpx_ok (own := own0) _ _ _ ?_)
  · exact Le.slotsE (by simp [leS, alS, mkS]) rfl
  have hci : OkC p (runC p cfg0 (all.take i)) := runC_ok hp _ (cfg0_ok hp)
  repeat ((conv => whnf); first | refine Br.t ?_ | refine Br.f ?_ | refine ⟨rfl, ?_⟩)
  conv => whnf
  refine Br.mk (fun g => ?_) (fun g => ?_)
  · have g : i < all.length := by simp at g; omega
    obtain ⟨x, hx⟩ : ∃ x, all[i]? = some x := ⟨_, List.getElem?_eq_getElem g⟩
    have ex : (all.map encP).getD (i : Int).toNat [] = encP x := by rw [Int.toNat_natCast]; simp [List.getD_eq_getElem?_getD, hx]
    have cs := semstep p hp _ hci x.1 x.2
    have en : runC p cfg0 (all.take (i + 1)) = stepC p (runC p cfg0 (all.take i)) x.1 x.2 := run_snoc p cfg0 all i x hx
    have ei : IntKind.i64.wrap ((i : Int) + 1) = ((i + 1 : Nat) : Int) := i64_id (by omega) (by omega)
    rw [← en] at cs
    have hc1 : OkC p (runC p cfg0 (all.take (i + 1))) := runC_ok hp _ (cfg0_ok hp)
    have hcd : i + 1 = l.length → runC p cfg0 (all.take (i + 1)) = c := fun h => hce _ h
    obtain ⟨d, hdd⟩ : ∃ d, d = runC p cfg0 (all.take (i + 1)) := ⟨_, rfl⟩
    have f1 := front1 p hp l all hl c d hcl (decide (l.length ≤ i)) (i + 1) (fun h => by rw [hdd]; exact hce _ h)
    rw [← hdd] at cs
    rw [← ei, show (decide (l.length ≤ i) || decide (i + 1 = l.length)) = decide (l.length ≤ i + 1) by rw [Bool.eq_iff_iff]; simp; omega] at f1
    repeat ((conv => whnf); first | refine Br.t ?_ | refine Br.f ?_ | refine ⟨rfl, ?_⟩)
    conv => whnf
    rw [ex]
    refine ⟨⟨by omega, by simp; omega, rfl⟩, ?_⟩
    repeat ((conv => whnf); first | refine Br.t ?_ | refine Br.f ?_ | refine ⟨rfl, ?_⟩)
    conv => whnf
    refine CallW.mono (cs.pure _ rfl rfl) ?_
    rintro r st' ⟨rfl, rfl⟩
    repeat ((conv => whnf); first | refine Br.t ?_ | refine Br.f ?_ | refine ⟨rfl, ?_⟩)
    conv => whnf
    refine CallW.mono (f1.tail [cfgB d, .row 0 2 false [(encP x).map .i]] rfl (foB_cl _ _ _ _ _ _) (foB_cl _ _ _ _ _ _) rfl rfl) ?_
    rintro r st' ⟨rfl, rfl⟩
    repeat ((conv => whnf); first | refine Br.t ?_ | refine Br.f ?_ | refine ⟨rfl, ?_⟩)
    conv => whnf
    refine ⟨i + 1, g, by omega, ?_⟩
    rw [← hdd]
    exact Le.back (fun _ => 0) (by intro id hid; rfl) (Nat.le_succ 6) rfl (by intro o ho; rcases List.mem_append.1 ho with h | h; exact foB_cl _ _ _ _ _ _ _ h; simp only [List.mem_singleton] at h; subst h; exact cfgB_cl _ _) (by simp [leS, alS, mkS, V.up, V.up.upAll, foY]; exact ei) rfl
  · have g : i = all.length := by simp at g; omega
    subst g
    repeat ((conv => whnf); first | refine Br.t ?_ | refine Br.f ?_ | refine ⟨rfl, ?_⟩)
    conv => whnf
    have e1 : decide (l.length ≤ all.length) = true := decide_eq_true hlen
    rw [e1]
    refine fin (target := foB p l all c true) rfl (by simp) (foB_cl _ _ _ _ _ _) rfl rfl
theorem meets_more {p : Pg} {l m : List (Int × Bool)} {a : Nat} (h : meets p l = some a) : meets p (l ++ m) = some a := by
  unfold meets at h
  rw [List.find?_range_eq_some] at h
  obtain ⟨h1, h2, h3⟩ := h
  have e : ∀ j, j ≤ l.length → metAt p (l ++ m) j = metAt p l j := fun j hj => by unfold metAt; rw [List.take_append_of_le_length hj]
  have h2' : a ≤ l.length := by simp at h2; omega
  refine meets_some (by simp; omega) (by rw [e a h2']; exact h1) (fun j hj => ?_)
  rw [e j (by omega)]
  simpa using h3 j hj
theorem meets_later {p : Pg} {l m : List (Int × Bool)} {b : Nat} (h : meets p l = none) (hb : meets p (l ++ m) = some b) : l.length < b := by
  unfold meets at h hb
  rw [List.find?_range_eq_none] at h
  rw [List.find?_range_eq_some] at hb
  obtain ⟨h1, h2, h3⟩ := hb
  apply Nat.lt_of_not_le
  intro hbl
  have := h b (by omega)
  unfold metAt at this h1
  rw [List.take_append_of_le_length hbl] at h1
  simp [h1] at this
theorem encP_len (l : List (Int × Bool)) : ∀ cs ∈ l.map encP, cs.length = 2 := by
  intro cs h
  simp only [List.mem_map] at h
  obtain ⟨x, _, rfl⟩ := h
  rfl
set_option maxHeartbeats 4000000 in
theorem scriptfront (p : Pg) (hp0 : okPg p) (l : List (Int × Bool)) (hl : okL l) (m : List (Int × Bool)) (hm : okL m) : CallW Try.prog G0 16 [pgV p, .i (.sl (l.map encP)), .i (.sl (m.map encP))] [] (fun r st' => r = .i (.bool true) ∧ st' = []) := by
  refine call_of_bodyF 0 (Nat.le_refl _) Try.func16 rfl (fun a w => Try.call16 a w) (wpk_ok (own := fun t => t == 45) [6] _ _ _ ?_)
  unfold okL at hl hm
  repeat ((conv => whnf); first | refine Br.t ?_ | refine Br.f ?_ | refine ⟨rfl, ?_⟩)
  conv => whnf
  refine CallW.mono (scriptawake.pure _ rfl rfl) ?_
  rintro r st' ⟨rfl, rfl⟩
  repeat ((conv => whnf); first | refine Br.t ?_ | refine Br.f ?_ | refine ⟨rfl, ?_⟩)
  conv => whnf
  refine CallW.mono ((small16 p hp0).pure _ rfl rfl) ?_
  rintro r st' ⟨rfl, rfl⟩
  repeat ((conv => whnf); first | refine Br.t ?_ | refine Br.f ?_ | refine ⟨rfl, ?_⟩)
  conv => whnf
  refine Br.mk (fun z => ?_) (fun z => ?_)
  · repeat ((conv => whnf); first | refine Br.t ?_ | refine Br.f ?_ | refine ⟨rfl, ?_⟩)
    conv => whnf
    refine CallW.mono (scriptawake.pure _ rfl rfl) ?_
    rintro r st' ⟨rfl, rfl⟩
    repeat ((conv => whnf); first | refine Br.t ?_ | refine Br.f ?_ | refine ⟨rfl, ?_⟩)
    conv => whnf
    refine fin (target := []) rfl (Nat.zero_le _) (by simp) rfl rfl
  repeat ((conv => whnf); first | refine Br.t ?_ | refine Br.f ?_ | refine ⟨rfl, ?_⟩)
  conv => whnf
  refine Br.mk (fun z2 => ?_) (fun z2 => ?_)
  · repeat ((conv => whnf); first | refine Br.t ?_ | refine Br.f ?_ | refine ⟨rfl, ?_⟩)
    conv => whnf
    refine CallW.mono (scriptawake.pure _ rfl rfl) ?_
    rintro r st' ⟨rfl, rfl⟩
    repeat ((conv => whnf); first | refine Br.t ?_ | refine Br.f ?_ | refine ⟨rfl, ?_⟩)
    conv => whnf
    refine fin (target := []) rfl (Nat.zero_le _) (by simp) rfl rfl
  have hll : l.length ≤ 120 := by simp at z2; omega
  repeat ((conv => whnf); first | refine Br.t ?_ | refine Br.f ?_ | refine ⟨rfl, ?_⟩)
  conv => whnf
  refine Br.mk (fun z3 => ?_) (fun z3 => ?_)
  · repeat ((conv => whnf); first | refine Br.t ?_ | refine Br.f ?_ | refine ⟨rfl, ?_⟩)
    conv => whnf
    refine CallW.mono (scriptawake.pure _ rfl rfl) ?_
    rintro r st' ⟨rfl, rfl⟩
    repeat ((conv => whnf); first | refine Br.t ?_ | refine Br.f ?_ | refine ⟨rfl, ?_⟩)
    conv => whnf
    refine fin (target := []) rfl (Nat.zero_le _) (by simp) rfl rfl
  have hmm : m.length ≤ 120 := by simp at z3; omega
  have cr := run_ok p hp0 l (by omega)
  by_cases h0 : (chk p).2.2 = 0
  · have hp := chk_zero h0
    rw [if_pos h0, h0] at cr
    have cm := meets_ok p hp0 h0 l (by omega)
    have ca := meets_ok p hp0 h0 (l ++ m) (by simp; omega)
    have al := along_in p (l ++ m) [pgB p, lB l, cfgB (runC p cfg0 l), boolB false]
    have fa := front_along p hp0 h0 l (l ++ m) (by omega) (by simp; omega) ⟨m, rfl⟩
    obtain ⟨c, hc⟩ : ∃ c, c = runC p cfg0 l := ⟨_, rfl⟩
    rw [← hc] at cr al fa
    repeat ((conv => whnf); first | refine Br.t ?_ | refine Br.f ?_ | refine ⟨rfl, ?_⟩)
    conv => whnf
    refine CallW.mono (cr.pure _ rfl rfl) ?_
    rintro r st' ⟨rfl, rfl⟩
    repeat ((conv => whnf); first | refine Br.t ?_ | refine Br.f ?_ | refine ⟨rfl, ?_⟩)
    conv => whnf
    refine ⟨apG (es := l.map encP) (encP_len l) 16 rfl rfl (by simp [lift]; omega) (len_mx (by simp; omega)), ?_⟩
    repeat ((conv => whnf); first | refine Br.t ?_ | refine Br.f ?_ | refine ⟨rfl, ?_⟩)
    conv => whnf
    refine ⟨apG (es := m.map encP) (encP_len m) 16 rfl (by simp [lift]) (by simp [lift]; omega) (len_mx (by simp [lift]; omega)), ?_⟩
    repeat ((conv => whnf); first | refine Br.t ?_ | refine Br.f ?_ | refine ⟨rfl, ?_⟩)
    conv => whnf
    have ea : lift ((l ++ m).map encP) = lift (l.map encP) ++ lift (m.map encP) := by rw [List.map_append, lift_app]
    have el : 0 + (lift (l.map encP)).length + (lift (m.map encP)).length = ((l ++ m).map encP).length := by simp [lift]
    refine W.le (s' := ⟨mkS 88 [(3, .ptr 0 0 0 0), (4, .ptr 1 0 0 0), (6, .i (.bool false)), (7, .ptr 2 0 0 0), (9, .i (.sl ((l ++ m).map encP)))], [pgB p, lB l, cfgB c]⟩)
      ((Le.slotsE (sl' := mkS 88 [(3, .ptr 0 0 0 0), (4, .ptr 1 0 0 0), (6, .i (.bool false)), (7, .ptr 2 0 0 0), (9, .ref 3 3 0 ((l ++ m).map encP).length)]) (st' := [pgB p, lB l, cfgB c, .row 3 2 false (lift ((l ++ m).map encP))]) (by rw [el]; simp [leS, mkS]) (by rw [ea]; rfl)).trans
      ((Le.data 3 3 2 ((l ++ m).map encP) (s := ⟨mkS 88 [(3, .ptr 0 0 0 0), (4, .ptr 1 0 0 0), (6, .i (.bool false)), (7, .ptr 2 0 0 0), (9, .i (.sl ((l ++ m).map encP)))], [pgB p, lB l, cfgB c] ++ [.dead]⟩) rfl (by simp [leS, mkS, V.dat]; exact List.take_of_length_le (by simp)) rfl).trans (Le.short (Nat.zero_le _) rfl ?_))) (wpx_ok (own := own0) _ _ _ ?_)
    · intro o ho
      simp only [List.mem_cons, List.not_mem_nil, or_false] at ho
      rcases ho with rfl | rfl | rfl
      · exact pgB_cl p _
      · exact lB_cl l _
      · exact cfgB_cl _ _
    repeat ((conv => whnf); first | refine Br.t ?_ | refine Br.f ?_ | refine ⟨rfl, ?_⟩)
    conv => whnf
    refine CallW.mono al ?_
    rintro r st' ⟨rfl, rfl⟩
    repeat ((conv => whnf); first | refine Br.t ?_ | refine Br.f ?_ | refine ⟨rfl, ?_⟩)
    conv => whnf
    refine CallW.mono fa ?_
    rintro r st' ⟨rfl, rfl⟩
    cases hm1 : meets p l with
    | some a =>
      have hm2 : meets p (l ++ m) = some a := meets_more hm1
      rw [hm1] at cm
      rw [hm2] at ca
      repeat ((conv => whnf); first | refine Br.t ?_ | refine Br.f ?_ | refine ⟨rfl, ?_⟩)
      conv => whnf
      refine CallW.mono (cm.pure _ rfl rfl) ?_
      rintro r st' ⟨rfl, rfl⟩
      repeat ((conv => whnf); first | refine Br.t ?_ | refine Br.f ?_ | refine ⟨rfl, ?_⟩)
      conv => whnf
      refine CallW.mono (ca.pure _ rfl rfl) ?_
      rintro r st' ⟨rfl, rfl⟩
      repeat ((conv => whnf); first | refine Br.t ?_ | refine Br.f ?_ | refine ⟨rfl, ?_⟩)
      conv => whnf
      refine fin (target := []) rfl (Nat.zero_le _) (by simp) (by simp [meN]) rfl
    | none =>
      rw [hm1] at cm
      cases hm2 : meets p (l ++ m) with
      | none =>
        rw [hm2] at ca
        repeat ((conv => whnf); first | refine Br.t ?_ | refine Br.f ?_ | refine ⟨rfl, ?_⟩)
        conv => whnf
        refine CallW.mono (cm.pure _ rfl rfl) ?_
        rintro r st' ⟨rfl, rfl⟩
        repeat ((conv => whnf); first | refine Br.t ?_ | refine Br.f ?_ | refine ⟨rfl, ?_⟩)
        conv => whnf
        refine CallW.mono (ca.pure _ rfl rfl) ?_
        rintro r st' ⟨rfl, rfl⟩
        repeat ((conv => whnf); first | refine Br.t ?_ | refine Br.f ?_ | refine ⟨rfl, ?_⟩)
        conv => whnf
        refine fin (target := []) rfl (Nat.zero_le _) (by simp) rfl rfl
      | some b =>
        have hlt := meets_later hm1 hm2
        have hlt2 : decide ((b : Int) > ((l.map encP).length : Nat)) = true := by simp; omega
        rw [hm2] at ca
        repeat ((conv => whnf); first | refine Br.t ?_ | refine Br.f ?_ | refine ⟨rfl, ?_⟩)
        conv => whnf
        refine CallW.mono (cm.pure _ rfl rfl) ?_
        rintro r st' ⟨rfl, rfl⟩
        repeat ((conv => whnf); first | refine Br.t ?_ | refine Br.f ?_ | refine ⟨rfl, ?_⟩)
        conv => whnf
        refine CallW.mono (ca.pure _ rfl rfl) ?_
        rintro r st' ⟨rfl, rfl⟩
        repeat ((conv => whnf); first | refine Br.t ?_ | refine Br.f ?_ | refine ⟨rfl, ?_⟩)
        conv => whnf
        refine fin (target := []) rfl (Nat.zero_le _) (by simp) (by simp [meN]; omega) rfl
  · have hz : ((chk p).2.2 != 0) = true := by simpa using h0
    rw [if_neg h0] at cr
    repeat ((conv => whnf); first | refine Br.t ?_ | refine Br.f ?_ | refine ⟨rfl, ?_⟩)
    conv => whnf
    refine CallW.mono (cr.pure _ rfl rfl) ?_
    rintro r st' ⟨rfl, rfl⟩
    repeat ((conv => whnf); first | refine Br.t ?_ | refine Br.f ?_ | refine ⟨rfl, ?_⟩)
    conv => whnf
    refine Br.mk (fun _ => ?_) (fun k => absurd h0 (by simpa using k))
    repeat ((conv => whnf); first | refine Br.t ?_ | refine Br.f ?_ | refine ⟨rfl, ?_⟩)
    conv => whnf
    refine fin (target := []) rfl (Nat.zero_le _) (by simp) rfl rfl
end Go.Proofs.Ytiikndppckjmhaa.Am
