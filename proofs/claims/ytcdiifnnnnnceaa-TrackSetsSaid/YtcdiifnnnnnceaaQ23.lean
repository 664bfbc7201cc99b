import Derived.Test.YtcdiifnnnnnceaaQ22

/-
  Versions: own, as data; Coalesce.
-/

namespace Go.PW

theorem hOver_spec2 {H : HMap} {A A' : AMap} {S : St} (hw : Wf H A) (hb : ∀ id, H id ≠ none → S.H id = H id) (hA : ∀ κ, A κ ≠ none → A' κ ≠ none ∧ A' κ = S.A κ) : ∀ id, H id = none ∨ ∃ cs ds, H id = some cs ∧ S.H id = some ds ∧ cs.length = ds.length ∧
    ∀ (k : Nat) (c d : CV), cs[k]? = some c → ds[k]? = some d → CV.wk H S.A A' c d := fun t => by
  cases hH : H t with
  | none => exact .inl rfl
  | some cs =>
    refine .inr ⟨cs, cs, rfl, by rw [hb t (by rw [hH]; simp), hH], rfl, fun k c d h1 h2 => ?_⟩
    rw [h1] at h2
    cases h2
    exact .inr (.inl ⟨rfl, ok_mono (fun i hi => hi) (fun κ hκ => hA κ hκ) (hw t cs c hH (List.mem_of_getElem? h1))⟩)

/-- The end: data; all variables as they were. -/
theorem RetE_down {P : Program} {fn : Func} {H : HMap} {A : AMap} {S : St} {t : Nat} {κ : Tok} {els : List (List D)} (hw : Wf H A) (hb : ∀ id, H id ≠ none → S.H id = H id) (hA : ∀ κ', A κ' ≠ none → S.A κ' = A κ')
    (hr : fn.results.toList = [.tmp t]) (h : S.ρ t = .c (.own κ els)) : RetE P fn H A (.c (.d (.sl els))) H A S := by
  refine ⟨S.ρ t, by rw [hr]; rfl, ?_⟩
  refine ⟨fun _ => ?_, fun id => hOver_spec2 (S := ⟨fun _ => S.ρ t, S.H, S.A⟩) hw hb (fun κ' hk => ⟨hk, (hA κ' hk).symm⟩) id, fun κ' => ?_, fun id h => h, fun κ' h => h⟩
  · show PV.wk H S.A A (.c (.d (.sl els))) (S.ρ t)
    rw [h, wkP_down]
    exact True.intro
  · show A κ' = none ∨ A κ' = S.A κ' ∨ _
    cases hA0 : A κ' with
    | none => exact .inl rfl
    | some y => exact .inr (.inl (by rw [hA κ' (by rw [hA0]; simp), hA0]))
/-- The end: data; one array has changed. -/
theorem RetE_chg {P : Program} {fn : Func} {H : HMap} {A : AMap} {S : St} {t : Nat} {κ : Tok} {ar : Arr} {x : D} (hw : Wf H A) (hb : ∀ id, H id ≠ none → S.H id = H id) (hA : ∀ κ', κ' ≠ κ → A κ' ≠ none → S.A κ' = A κ') (hk : S.A κ = some ar)
    (hr : fn.results.toList = [.tmp t]) (h : S.ρ t = .c (.d x)) : RetE P fn H A (.c (.d x)) H (upd A κ (some ar)) S := by
  have hA' : ∀ κ', A κ' ≠ none → upd A κ (some ar) κ' ≠ none ∧ upd A κ (some ar) κ' = S.A κ' := fun κ' hk' => by
    by_cases e : κ' = κ
    · subst e; rw [upd_same, hk]; simp
    · rw [upd_other _ _ e, hA κ' e hk']; exact ⟨hk', rfl⟩
  refine ⟨S.ρ t, by rw [hr]; rfl, ?_⟩
  refine ⟨fun _ => ?_, fun id => hOver_spec2 (S := ⟨fun _ => S.ρ t, S.H, S.A⟩) hw hb hA' id, fun κ' => ?_, fun id h => h, fun κ' h => (hA' κ' h).1⟩
  · show PV.wk H S.A (upd A κ (some ar)) (.c (.d x)) (S.ρ t)
    rw [h, wkP_d]
    exact True.intro
  · show upd A κ (some ar) κ' = none ∨ upd A κ (some ar) κ' = S.A κ' ∨ _
    by_cases e : κ' = κ
    · subst e; rw [upd_same, hk]; exact .inr (.inl rfl)
    · rw [upd_other _ _ e]
      cases hA0 : A κ' with
      | none => exact .inl rfl
      | some y => exact .inr (.inl (by rw [hA κ' e (by rw [hA0]; simp), hA0]))
end Go.PW
namespace Go.Proofs
open Go.PW

set_option maxRecDepth 8000 in
set_option maxHeartbeats 8000000 in
theorem Try.kOwnD (l : List Ver) (q : Ver → Bool) (hn : l.length ≤ 1048576) (hr : ∀ v ∈ l, v.p.row.length ≤ 1048576) {H : HMap} {A : AMap} (hw : Wf H A) {f : FuncId} {caps : List (Nat × Nat)} (ht : TestOK Try.prog f caps 2000 H A l q) :
    EffOK Try.prog 46 1000 H A [pD (encVers l), .c (.fn f caps)] (pD (encVers (l.filter q))) H A := by
  obtain ⟨hcaps, ht⟩ := ht
  refine eff_ok (E := envOf Try.prog [] 1000 [] []) (envOf_ok Try.mixed) Try.func46 rfl Try.call46 (by kernel_rfl) (by exact Nat.le_of_ble_eq_true rfl) (fun hab => ?_)
  have h7 : H 1007 = none := (hab _ (by decide)).1
  have a20 : A (1020, 0) = none := (hab 1020 (by decide)).2 0
  have a26 : A (1026, 0) = none := (hab 1026 (by decide)).2 0
  repeat' (first
    | with_reducible refine VC_seq fun K hK => ?_
    | with_reducible refine W_region ?_
    | with_reducible refine VC_block ?_
    | with_reducible refine VC_scope ?_
    | with_reducible refine VC_if ?_
    | with_reducible refine VC_skip ?_
    | with_reducible refine VC_exit ?_
    | with_reducible refine VC_ret ?_
    | (with_reducible refine G_not (fun h => ?_) (fun h => ?_) <;> (try simp only [h]))
    | (with_reducible refine G_cases (fun h => ?_) (fun h => ?_) <;> (try simp only [h]))
    | (with_reducible refine hK _ ?_; clear hK K)
    | (clear hK K; with_reducible refine hK _ ?_; clear hK K)
    | (clear hK K; clear hK K; with_reducible refine hK _ ?_; clear hK K)
    | (clear hK K; clear hK K; clear hK K; with_reducible refine hK _ ?_; clear hK K)
    | (with_reducible refine todo ?_; simp +decide only [go_sem]))
  refine VC_range l.length (fun _ => True) (fun i => over1 [(1, .c (.fn f caps)), (5, .c (.own (1026, 0) (((l.take i).filter q).map Ver.enc))), (8, pD (encVers l)), (9, pD (.lit (.int .i64 l.length))), (10, pD (.lit (.int .i64 i)))] [] H A (1026, 0) (.co 5 ((l.take i).filter q).length)) True.intro ?_ ?_
  · refine Weak_over1 hw kp_refl kpA_refl a26 (by show keepA1 _ (A (1026, 0)); rw [a26]; rfl) ?_ ?_ <;> simp +decide only [go_sem, List.filter_nil]
    exact ⟨wkP_fn hcaps, wkP_new a26 (upd_same _ _ _)⟩
  · intro i hi hI
    rcases Nat.lt_or_ge i l.length with hlt | hge
    · have hg := List.getElem?_eq_getElem hlt
      have hd := int_lt_true hlt
      have hwi := int_next hlt (show l.length ≤ 4294967296 by omega)
      generalize l[i] = x at hg
      have hm := List.mem_of_getElem? hg
      have hx := hr x hm
      have hnx := filter_next (q := q) hg
      have hl : ((l.take i).filter q).length ≤ i := Nat.le_trans (List.length_filter_le _ _) (by rw [List.length_take]; omega)
      have kt := ht (upd (upd H 1007 (some [.d (.lit (.int .i64 0)), .d (.lit (.int .i64 0)), .d (.lit (.int .i64 0)), .d (.lit (.int .i64 0)), .full []])) 1007 (some [.d (.lit (.int .i64 x.sl)), .d (.lit (.int .i64 x.sh)), .d (.lit (.int .i64 x.p.lo)), .d (.lit (.int .i64 x.p.hi)), .d (encRow x.p.row)])) (upd A (1026, 0) (some (.co 5 ((l.take i).filter q).length)))
        (Wf_upd (Wf_upd (Wf_tok hw) rfl) rfl) (kp_upd h7 (kp_upd h7 kp_refl)) (kpA_upd a26 kpA_refl) x hm
      have hab2 := Above_updA (κ := (1026, 0)) (ar := .co 5 ((l.take i).filter q).length) (Above_updH (cs := [.d (.lit (.int .i64 x.sl)), .d (.lit (.int .i64 x.sh)), .d (.lit (.int .i64 x.p.lo)), .d (.lit (.int .i64 x.p.hi)), .d (encRow x.p.row)]) (id := 1007) (Above_updH (cs := [.d (.lit (.int .i64 0)), .d (.lit (.int .i64 0)), .d (.lit (.int .i64 0)), .d (.lit (.int .i64 0)), .full []]) (id := 1007) (Above_mono (m := 2000) hab (by decide)) (by decide)) (by decide)) (by decide)
      cases hq : q x with
      | true =>
        rw [hq] at kt hnx
        simp only [if_true] at hnx
        repeat' (first
          | with_reducible refine VC_seq fun K hK => ?_
          | with_reducible refine W_region ?_
          | with_reducible refine VC_block ?_
          | with_reducible refine VC_scope ?_
          | with_reducible refine VC_if ?_
          | with_reducible refine VC_skip ?_
          | with_reducible refine VC_exit ?_
          | with_reducible refine VC_ret ?_
          | (with_reducible refine G_not (fun h => ?_) (fun h => ?_) <;> (try simp only [h]))
          | (with_reducible refine G_cases (fun h => ?_) (fun h => ?_) <;> (try simp only [h]))
          | refine C_eff kt rfl hab2 ?_
          | (refine W_full Try.appVals rfl rfl szNil (szRow _) (by simp; omega) (by simp +decide only [go_sem, a20]) ?_)
          | (refine W_own Try.appVers rfl (szVers _) (szOne rfl) (by simp; omega) (by simp +decide only [go_sem]) ?_)
          | (with_reducible refine hK _ ?_; clear hK K)
          | (clear hK K; with_reducible refine hK _ ?_; clear hK K)
          | (clear hK K; clear hK K; with_reducible refine hK _ ?_; clear hK K)
          | (clear hK K; clear hK K; clear hK K; with_reducible refine hK _ ?_; clear hK K)
          | (with_reducible refine todo ?_; simp +decide only [go_sem, hg, hd, hwi, h7]))
        refine Next_of hlt True.intro (Weak_over1 hw (kp_upd h7 (kp_upd h7 (kp_upd h7 kp_nil))) (kpA_upd a26 (kpA_upd a20 (kpA_upd a26 kpA_refl))) a26 ?_ ?_ ?_) <;> simp +decide only [go_sem, hnx]
        exact ⟨wkP_fn hcaps, wkP_own (by simp [upd]) (by simp [upd])⟩
      | false =>
        rw [hq] at kt hnx
        simp only [Bool.false_eq_true, if_false, List.append_nil] at hnx
        repeat' (first
          | with_reducible refine VC_seq fun K hK => ?_
          | with_reducible refine W_region ?_
          | with_reducible refine VC_block ?_
          | with_reducible refine VC_scope ?_
          | with_reducible refine VC_if ?_
          | with_reducible refine VC_skip ?_
          | with_reducible refine VC_exit ?_
          | with_reducible refine VC_ret ?_
          | (with_reducible refine G_not (fun h => ?_) (fun h => ?_) <;> (try simp only [h]))
          | (with_reducible refine G_cases (fun h => ?_) (fun h => ?_) <;> (try simp only [h]))
          | refine C_eff kt rfl hab2 ?_
          | (with_reducible refine hK _ ?_; clear hK K)
          | (clear hK K; with_reducible refine hK _ ?_; clear hK K)
          | (clear hK K; clear hK K; with_reducible refine hK _ ?_; clear hK K)
          | (clear hK K; clear hK K; clear hK K; with_reducible refine hK _ ?_; clear hK K)
          | (with_reducible refine todo ?_; simp +decide only [go_sem, hg, hd, hwi, h7]))
        refine Next_of hlt True.intro (Weak_over1 hw (kp_upd h7 (kp_upd h7 kp_nil)) (kpA_upd a26 kpA_refl) a26 ?_ ?_ ?_) <;> simp +decide only [go_sem, hnx]
        exact ⟨wkP_fn hcaps, wkP_own (by simp [upd]) rfl⟩
    · have hd := int_lt_false hge
      rw [List.take_of_length_le hge]
      repeat' (first
        | with_reducible refine VC_seq fun K hK => ?_
        | with_reducible refine W_region ?_
        | with_reducible refine VC_block ?_
        | with_reducible refine VC_scope ?_
        | with_reducible refine VC_if ?_
        | with_reducible refine VC_skip ?_
        | with_reducible refine VC_exit ?_
        | with_reducible refine VC_ret ?_
        | (with_reducible refine G_not (fun h => ?_) (fun h => ?_) <;> (try simp only [h]))
        | (with_reducible refine G_cases (fun h => ?_) (fun h => ?_) <;> (try simp only [h]))
        | (with_reducible refine hK _ ?_; clear hK K)
        | (clear hK K; with_reducible refine hK _ ?_; clear hK K)
        | (clear hK K; clear hK K; with_reducible refine hK _ ?_; clear hK K)
        | (clear hK K; clear hK K; clear hK K; with_reducible refine hK _ ?_; clear hK K)
        | (with_reducible refine todo ?_; simp +decide only [go_sem, hd]))
      exact RetE_down hw kp_refl (kpA_upd a26 kpA_refl) rfl rfl

/-- Whether one joins another: it begins when the other one ends, and is of the same piece. -/
def joins (v w : Ver) : Bool := (w.sh == v.sl) && samePiece w.p v.p
/-- Joined to the first that it joins. -/
def join : List Ver → Ver → Option (List Ver)
  | [], _ => none
  | w :: r, v => if joins v w = true then some ({ w with sh := v.sh } :: r) else (join r v).map (w :: ·)
theorem join_found : ∀ {l : List Ver} {v w : Ver} {i : Nat}, l[i]? = some w → (l.take i).all (fun w => !joins v w) = true → joins v w = true → join l v = some (l.set i { w with sh := v.sh })
  | [], _, _, _, h, _, _ => by simp at h
  | a :: l, v, w, 0, h, _, hj => by
    simp at h
    subst h
    rw [join, if_pos hj]
    rfl
  | a :: l, v, w, i + 1, h, ha, hj => by
    simp only [List.take_succ_cons, List.all_cons, Bool.and_eq_true, Bool.not_eq_true'] at ha
    have ih := join_found (l := l) (v := v) (w := w) (i := i) (by simpa using h) ha.2 hj
    rw [join, if_neg (by rw [ha.1]; simp), ih]
    rfl
theorem join_none : ∀ {l : List Ver} {v : Ver}, l.all (fun w => !joins v w) = true → join l v = none
  | [], _, _ => rfl
  | a :: l, v, ha => by
    simp only [List.all_cons, Bool.and_eq_true, Bool.not_eq_true'] at ha
    rw [join, if_neg (by rw [ha.1]; simp), join_none ha.2]
    rfl
def joined (out : List Ver) (v : Ver) : List Ver := (join out v).getD out

set_option maxRecDepth 8000 in
set_option maxHeartbeats 2000000 in
theorem Try.kJoin0 (v : Ver) {H : HMap} {A : AMap} (hw : Wf H A) {id : Nat} (hid : H id = some [.full []]) :
    EffOK Try.prog 54 1000 H A [pA v.enc, .c (.ptr id 0)] (pD (.lit (.bool false))) H A := by
  refine eff_ok (E := envOf Try.prog [] 1000 [] []) (envOf_ok Try.mixed) Try.func54 rfl Try.call54 (by kernel_rfl) (by exact Nat.le_of_ble_eq_true rfl) (fun hab => ?_)
  have hi : id < 1000 := Nat.lt_of_not_le fun h => by rw [(hab id h).1] at hid; cases hid
  have h2 : H 1002 = none := (hab _ (by decide)).1
  have n2 : (id = 1002) = False := eq_false (by omega)
  repeat' (first
    | with_reducible refine VC_seq fun K hK => ?_
    | with_reducible refine W_region ?_
    | with_reducible refine VC_block ?_
    | with_reducible refine VC_scope ?_
    | with_reducible refine VC_if ?_
    | with_reducible refine VC_skip ?_
    | with_reducible refine VC_exit ?_
    | with_reducible refine VC_ret ?_
    | (with_reducible refine G_not (fun h => ?_) (fun h => ?_) <;> (try simp only [h]))
    | (with_reducible refine G_cases (fun h => ?_) (fun h => ?_) <;> (try simp only [h]))
    | (with_reducible refine hK _ ?_; clear hK K)
    | (clear hK K; with_reducible refine hK _ ?_; clear hK K)
    | (clear hK K; clear hK K; with_reducible refine hK _ ?_; clear hK K)
    | (clear hK K; clear hK K; clear hK K; with_reducible refine hK _ ?_; clear hK K)
    | (with_reducible refine todo ?_; simp +decide only [go_sem, hid, h2, n2]))
  refine VC_range 0 (fun _ => True) (fun _ => over [(7, pD (.lit (.int .i64 0))), (8, pD (.lit (.int .i64 0)))] [] H A) True.intro ?_ ?_
  · refine Weak_over hw (kp_upd h2 kp_refl) rfl ?_ ?_ <;> simp +decide only [go_sem]
  · intro i hi0 hI
    repeat' (first
      | with_reducible refine VC_seq fun K hK => ?_
      | with_reducible refine W_region ?_
      | with_reducible refine VC_block ?_
      | with_reducible refine VC_scope ?_
      | with_reducible refine VC_if ?_
      | with_reducible refine VC_skip ?_
      | with_reducible refine VC_exit ?_
      | with_reducible refine VC_ret ?_
      | (with_reducible refine G_not (fun h => ?_) (fun h => ?_) <;> (try simp only [h]))
      | (with_reducible refine G_cases (fun h => ?_) (fun h => ?_) <;> (try simp only [h]))
      | (with_reducible refine hK _ ?_; clear hK K)
      | (clear hK K; with_reducible refine hK _ ?_; clear hK K)
      | (clear hK K; clear hK K; with_reducible refine hK _ ?_; clear hK K)
      | (clear hK K; clear hK K; clear hK K; with_reducible refine hK _ ?_; clear hK K)
      | (with_reducible refine todo ?_; simp +decide only [go_sem]))
    exact RetE_same hw kp_refl rfl rfl rfl

theorem set_encV {out : List Ver} {i : Nat} {w : Ver} : (out.set i w).map Ver.enc = (out.map Ver.enc).set i w.enc := List.map_set

set_option maxRecDepth 8000 in
set_option maxHeartbeats 8000000 in
theorem Try.kJoin (out : List Ver) (v : Ver) (hn : out.length ≤ 1048576) (hr : ∀ w ∈ out, w.p.row.length ≤ 1048576) {H : HMap} {A : AMap} (hw : Wf H A) {id : Nat} {κ : Tok} (hid : H id = some [.mt κ 5 out.length]) (hκ : A κ = some (.mu 5 (out.map Ver.enc))) :
    EffOK Try.prog 54 1000 H A [pA v.enc, .c (.ptr id 0)] (pD (.lit (.bool (join out v).isSome))) H (upd A κ (some (.mu 5 ((joined out v).map Ver.enc)))) := by
  refine eff_ok (E := envOf Try.prog [] 1000 [] []) (envOf_ok Try.mixed) Try.func54 rfl Try.call54 (by kernel_rfl) (by exact Nat.le_of_ble_eq_true rfl) (fun hab => ?_)
  have hi : id < 1000 := Nat.lt_of_not_le fun h => by rw [(hab id h).1] at hid; cases hid
  have h2 : H 1002 = none := (hab _ (by decide)).1
  have h5 : H 1005 = none := (hab _ (by decide)).1
  have n2 : (id = 1002) = False := eq_false (by omega)
  have n5 : (id = 1005) = False := eq_false (by omega)
  have hne : A κ ≠ none := by rw [hκ]; simp
  repeat' (first
    | with_reducible refine VC_seq fun K hK => ?_
    | with_reducible refine W_region ?_
    | with_reducible refine VC_block ?_
    | with_reducible refine VC_scope ?_
    | with_reducible refine VC_if ?_
    | with_reducible refine VC_skip ?_
    | with_reducible refine VC_exit ?_
    | with_reducible refine VC_ret ?_
    | (with_reducible refine G_not (fun h => ?_) (fun h => ?_) <;> (try simp only [h]))
    | (with_reducible refine G_cases (fun h => ?_) (fun h => ?_) <;> (try simp only [h]))
    | (with_reducible refine hK _ ?_; clear hK K)
    | (clear hK K; with_reducible refine hK _ ?_; clear hK K)
    | (clear hK K; clear hK K; with_reducible refine hK _ ?_; clear hK K)
    | (clear hK K; clear hK K; clear hK K; with_reducible refine hK _ ?_; clear hK K)
    | (with_reducible refine todo ?_; simp +decide only [go_sem, hid, h2, n2]))
  refine VC_range out.length (fun i => (out.take i).all (fun w => !joins v w) = true) (fun i => over [(1, .c (.ptr id 0)), (2, .c (.ptr 1002 0)), (6, .c (.mt κ 5 out.length)), (7, pD (.lit (.int .i64 out.length))), (8, pD (.lit (.int .i64 i)))]
    [(1002, [.d (.lit (.int .i64 v.sl)), .d (.lit (.int .i64 v.sh)), .d (.lit (.int .i64 v.p.lo)), .d (.lit (.int .i64 v.p.hi)), .d (encRow v.p.row)])] H A) rfl ?_ ?_
  · refine Weak_over hw (kp_upd h2 kp_refl) rfl ?_ ?_ <;> simp +decide only [go_sem]
    exact ⟨wkP_ptr (hOver_old (by rw [hid]; simp)), wkP_ptr (by simp [hOver]), wkP_mt hne rfl⟩
  · intro i hil hI
    rcases Nat.lt_or_ge i out.length with hlt | hge
    · have hg := List.getElem?_eq_getElem hlt
      have hd := int_lt_true hlt
      have hwi := int_next hlt (show out.length ≤ 4294967296 by omega)
      have hltT : (i < out.length) = True := eq_true hlt
      generalize out[i] = w at hg
      have hwr := hr w (List.mem_of_getElem? hg)
      have ka := Try.kAlike w.p v.p hwr
      have hj : joins v w = ((w.sh == v.sl) && samePiece w.p v.p) := rfl
      have hfound : joins v w = true → join out v = some (out.set i { w with sh := v.sh }) := join_found hg hI
      cases e1 : (w.sh == v.sl) with
      | false =>
        rw [e1] at hj
        repeat' (first
          | with_reducible refine VC_seq fun K hK => ?_
          | with_reducible refine W_region ?_
          | with_reducible refine VC_block ?_
          | with_reducible refine VC_scope ?_
          | with_reducible refine VC_if ?_
          | with_reducible refine VC_skip ?_
          | with_reducible refine VC_exit ?_
          | with_reducible refine VC_ret ?_
          | (with_reducible refine G_not (fun h => ?_) (fun h => ?_) <;> (try simp only [h]))
          | (with_reducible refine G_cases (fun h => ?_) (fun h => ?_) <;> (try simp only [h]))
          | (with_reducible refine hK _ ?_; clear hK K)
          | (clear hK K; with_reducible refine hK _ ?_; clear hK K)
          | (clear hK K; clear hK K; with_reducible refine hK _ ?_; clear hK K)
          | (clear hK K; clear hK K; clear hK K; with_reducible refine hK _ ?_; clear hK K)
          | (with_reducible refine todo ?_; simp +decide only [go_sem, hg, hd, hwi, h2, h5, iE_mt, hltT, hκ, e1]))
        refine Next_of hlt (all_take hI hg (by rw [hj]; rfl)) (Weak_over hw (kp_upd h5 (kp_upd h5 (kp_cons h2 kp_nil))) rfl ?_ ?_) <;> simp +decide only [go_sem]
        exact ⟨wkP_ptr (hOver_old (by rw [hid]; simp)), wkP_ptr (by simp [hOver]), wkP_mt hne rfl⟩
      | true =>
        rw [e1] at hj
        cases e2 : samePiece w.p v.p with
        | false =>
          rw [e2] at hj ka
          repeat' (first
            | with_reducible refine VC_seq fun K hK => ?_
            | with_reducible refine W_region ?_
            | with_reducible refine VC_block ?_
            | with_reducible refine VC_scope ?_
            | with_reducible refine VC_if ?_
            | with_reducible refine VC_skip ?_
            | with_reducible refine VC_exit ?_
            | with_reducible refine VC_ret ?_
            | (with_reducible refine G_not (fun h => ?_) (fun h => ?_) <;> (try simp only [h]))
            | (with_reducible refine G_cases (fun h => ?_) (fun h => ?_) <;> (try simp only [h]))
            | refine C_pure ka rfl rfl (fun k => (hab _ (by decide)).2 k) ?_
            | (with_reducible refine hK _ ?_; clear hK K)
            | (clear hK K; with_reducible refine hK _ ?_; clear hK K)
            | (clear hK K; clear hK K; with_reducible refine hK _ ?_; clear hK K)
            | (clear hK K; clear hK K; clear hK K; with_reducible refine hK _ ?_; clear hK K)
            | (with_reducible refine todo ?_; simp +decide only [go_sem, hg, hd, hwi, h2, h5, iE_mt, hltT, hκ, e1]))
          refine Next_of hlt (all_take hI hg (by rw [hj]; rfl)) (Weak_over hw (kp_upd h5 (kp_upd h5 (kp_cons h2 kp_nil))) rfl ?_ ?_) <;> simp +decide only [go_sem]
          exact ⟨wkP_ptr (hOver_old (by rw [hid]; simp)), wkP_ptr (by simp [hOver]), wkP_mt hne rfl⟩
        | true =>
          rw [e2] at hj ka
          have hf := hfound hj
          have hjd : joined out v = out.set i { w with sh := v.sh } := by unfold joined; rw [hf]; rfl
          rw [hf, hjd, set_encV]
          repeat' (first
            | with_reducible refine VC_seq fun K hK => ?_
            | with_reducible refine W_region ?_
            | with_reducible refine VC_block ?_
            | with_reducible refine VC_scope ?_
            | with_reducible refine VC_if ?_
            | with_reducible refine VC_skip ?_
            | with_reducible refine VC_exit ?_
            | with_reducible refine VC_ret ?_
            | (with_reducible refine G_not (fun h => ?_) (fun h => ?_) <;> (try simp only [h]))
            | (with_reducible refine G_cases (fun h => ?_) (fun h => ?_) <;> (try simp only [h]))
            | refine C_pure ka rfl rfl (fun k => (hab _ (by decide)).2 k) ?_
            | (with_reducible refine hK _ ?_; clear hK K)
            | (clear hK K; with_reducible refine hK _ ?_; clear hK K)
            | (clear hK K; clear hK K; with_reducible refine hK _ ?_; clear hK K)
            | (clear hK K; clear hK K; clear hK K; with_reducible refine hK _ ?_; clear hK K)
            | (with_reducible refine todo ?_; simp +decide only [go_sem, hg, hd, h2, h5, n2, n5, iE_mt, hltT, hκ, e1, hid]))
          exact RetE_chg hw (kp_upd h5 (kp_upd h5 (kp_cons h2 kp_nil))) (fun κ' hk _ => upd_other _ _ hk) (upd_same _ _ _) rfl rfl
    · have hd := int_lt_false hge
      rw [List.take_of_length_le hge] at hI
      have hf := join_none hI
      have hjd : joined out v = out := by unfold joined; rw [hf]; rfl
      repeat' (first
        | with_reducible refine VC_seq fun K hK => ?_
        | with_reducible refine W_region ?_
        | with_reducible refine VC_block ?_
        | with_reducible refine VC_scope ?_
        | with_reducible refine VC_if ?_
        | with_reducible refine VC_skip ?_
        | with_reducible refine VC_exit ?_
        | with_reducible refine VC_ret ?_
        | (with_reducible refine G_not (fun h => ?_) (fun h => ?_) <;> (try simp only [h]))
        | (with_reducible refine G_cases (fun h => ?_) (fun h => ?_) <;> (try simp only [h]))
        | (with_reducible refine hK _ ?_; clear hK K)
        | (clear hK K; with_reducible refine hK _ ?_; clear hK K)
        | (clear hK K; clear hK K; with_reducible refine hK _ ?_; clear hK K)
        | (clear hK K; clear hK K; clear hK K; with_reducible refine hK _ ?_; clear hK K)
        | (with_reducible refine todo ?_; simp +decide only [go_sem, hd]))
      rw [hf, hjd, upd_eq hκ]
      exact RetE_same hw (kp_cons h2 kp_nil) rfl rfl rfl

def joinStep (out : List Ver) (v : Ver) : List Ver := if (join out v).isSome = true then joined out v else out ++ [v]
def vCo (l : List Ver) : List Ver := l.foldl joinStep []
def vCoalesce (l : List Ver) : List Ver := if vRight l = true then vCo l else l
theorem join_length : ∀ {l : List Ver} {v : Ver} {m : List Ver}, join l v = some m → m.length = l.length ∧ ∀ w ∈ m, ∃ u ∈ l, w.p = u.p
  | [], _, _, h => by cases h
  | w :: r, v, m, h => by
    rw [join] at h
    split at h
    · cases h
      refine ⟨rfl, fun x hx => ?_⟩
      rcases List.mem_cons.1 hx with rfl | hx
      · exact ⟨w, by simp, rfl⟩
      · exact ⟨x, by simp [hx], rfl⟩
    · obtain ⟨n, hn, rfl⟩ := Option.map_eq_some_iff.1 h
      obtain ⟨h1, h2⟩ := join_length hn
      refine ⟨by simp [h1], fun x hx => ?_⟩
      rcases List.mem_cons.1 hx with rfl | hx
      · exact ⟨x, by simp, rfl⟩
      · obtain ⟨u, hu, e⟩ := h2 x hx
        exact ⟨u, by simp [hu], e⟩
theorem joined_length (out : List Ver) (v : Ver) : (joined out v).length = out.length ∧ ∀ w ∈ joined out v, ∃ u ∈ out, w.p = u.p := by
  unfold joined
  cases h : join out v with
  | none => exact ⟨rfl, fun w hw => ⟨w, hw, rfl⟩⟩
  | some m => exact join_length h
theorem joinStep_ok {out : List Ver} {v : Ver} {N : Nat} (h : ∀ w ∈ out, w.p.row.length ≤ N) (hv : v.p.row.length ≤ N) : (joinStep out v).length ≤ out.length + 1 ∧ (joinStep out v ≠ []) ∧ ∀ w ∈ joinStep out v, w.p.row.length ≤ N := by
  unfold joinStep
  cases hj : join out v with
  | some m =>
    have hm := joined_length out v
    simp only [Option.isSome_some, if_true]
    refine ⟨by omega, fun e => ?_, fun w hw => ?_⟩
    · rw [e] at hm
      have : out = [] := List.eq_nil_of_length_eq_zero hm.1.symm
      rw [this] at hj
      cases hj
    · obtain ⟨u, hu, e⟩ := hm.2 w hw
      rw [e]; exact h u hu
  | none =>
    simp only [Option.isSome_none, Bool.false_eq_true, if_false]
    refine ⟨by simp, by simp, fun w hw => ?_⟩
    rcases List.mem_append.1 hw with hw | hw
    · exact h w hw
    · rw [List.mem_singleton.1 hw]; exact hv
theorem vCo_ok {N : Nat} : ∀ (l out : List Ver), (∀ w ∈ l, w.p.row.length ≤ N) → (∀ w ∈ out, w.p.row.length ≤ N) → (l.foldl joinStep out).length ≤ out.length + l.length ∧ ∀ w ∈ l.foldl joinStep out, w.p.row.length ≤ N
  | [], out, _, h => ⟨by simp, h⟩
  | v :: r, out, h, h' => by
    obtain ⟨k1, _, k3⟩ := joinStep_ok h' (h v (by simp))
    obtain ⟨m1, m2⟩ := vCo_ok r (joinStep out v) (fun w hw => h w (by simp [hw])) k3
    exact ⟨by rw [List.foldl_cons, List.length_cons]; omega, by rw [List.foldl_cons]; exact m2⟩

def outV : List Ver → CV
  | [] => .full []
  | x :: r => .mt (27, 0) 5 (x :: r).length
def outVA : List Ver → List (Tok × Arr)
  | [] => []
  | x :: r => [((27, 0), .mu 5 ((x :: r).map Ver.enc))]
theorem outV_of {out : List Ver} (h : out ≠ []) : outV out = .mt (27, 0) 5 out.length := by cases out with | nil => exact absurd rfl h | cons => rfl
theorem outVA_of {out : List Ver} (h : out ≠ []) : outVA out = [((27, 0), .mu 5 (out.map Ver.enc))] := by cases out with | nil => exact absurd rfl h | cons => rfl

set_option maxRecDepth 8000 in
set_option maxHeartbeats 16000000 in
theorem Try.kCoalesceV (l : List Ver) (hn : l.length ≤ 131072) (hr : ∀ v ∈ l, v.p.row.length ≤ 1048576) : PureOK Try.prog 23 [pD (encVers l)] (.one (.d (encVers (vCoalesce l)))) := by
  refine pure_ok (E := envOf Try.prog [46] 0 [27] []) (envOf_ok Try.mixed) Try.func23 rfl Try.call23 (by kernel_rfl) (by rfl) (by exact Nat.le_of_ble_eq_true rfl) ?_
  have kr := Try.kRightV l (by omega) hr
  have ko := Try.kOwnD l (fun _ => true) (by omega) hr (H := noH) (A := noA) Wf_noH (Try.kAll l)
  rw [show (l.filter fun _ => true) = l by simp] at ko
  have e : vCoalesce l = if vRight l = true then vCo l else l := rfl
  cases hR : vRight l with
  | false =>
    rw [hR] at kr e
    repeat' (first
      | with_reducible refine VC_seq fun K hK => ?_
      | with_reducible refine W_region ?_
      | with_reducible refine VC_block ?_
      | with_reducible refine VC_scope ?_
      | with_reducible refine VC_if ?_
      | with_reducible refine VC_skip ?_
      | with_reducible refine VC_exit ?_
      | with_reducible refine VC_ret ?_
      | (with_reducible refine G_not (fun h => ?_) (fun h => ?_) <;> (try simp only [h]))
      | (with_reducible refine G_cases (fun h => ?_) (fun h => ?_) <;> (try simp only [h]))
      | refine C_pure kr rfl rfl (fun _ => rfl) ?_
      | refine C_call rfl ko rfl (Above_none _) ?_
      | (with_reducible refine hK _ ?_; clear hK K)
      | (clear hK K; with_reducible refine hK _ ?_; clear hK K)
      | (clear hK K; clear hK K; with_reducible refine hK _ ?_; clear hK K)
      | (clear hK K; clear hK K; clear hK K; with_reducible refine hK _ ?_; clear hK K)
      | (with_reducible refine todo ?_; simp +decide only [go_sem]))
    rw [e]
    exact Ret_d rfl rfl
  | true =>
    rw [hR] at kr e
    repeat' (first
      | with_reducible refine VC_seq fun K hK => ?_
      | with_reducible refine W_region ?_
      | with_reducible refine VC_block ?_
      | with_reducible refine VC_scope ?_
      | with_reducible refine VC_if ?_
      | with_reducible refine VC_skip ?_
      | with_reducible refine VC_exit ?_
      | with_reducible refine VC_ret ?_
      | (with_reducible refine G_not (fun h => ?_) (fun h => ?_) <;> (try simp only [h]))
      | (with_reducible refine G_cases (fun h => ?_) (fun h => ?_) <;> (try simp only [h]))
      | refine C_pure kr rfl rfl (fun _ => rfl) ?_
      | refine C_call rfl ko rfl (Above_none _) ?_
      | (with_reducible refine hK _ ?_; clear hK K)
      | (clear hK K; with_reducible refine hK _ ?_; clear hK K)
      | (clear hK K; clear hK K; with_reducible refine hK _ ?_; clear hK K)
      | (clear hK K; clear hK K; clear hK K; with_reducible refine hK _ ?_; clear hK K)
      | (with_reducible refine todo ?_; simp +decide only [go_sem]))
    refine VC_range l.length (fun _ => True) (fun i => frame [(3, .c (.ptr 3 0)), (4, .c (.fn 54 [(3, 0)])), (14, pD (encVers l)), (15, pD (.lit (.int .i64 l.length))), (16, pD (.lit (.int .i64 i)))] [(3, [outV (vCo (l.take i))])] (outVA (vCo (l.take i)))) True.intro ?_ ?_
    · refine Weak_frame ?_ ?_ ?_ <;> simp +decide only [go_sem, vCo, List.foldl_nil, outV, outVA]
      exact ⟨wkP_ptr (by simp [hOf]), wkP_fn1 (by simp [hOf])⟩
    · intro i hi hI
      rcases Nat.lt_or_ge i l.length with hlt | hge
      · have hg := List.getElem?_eq_getElem hlt
        have hd := int_lt_true hlt
        have hwi := int_next hlt (show l.length ≤ 4294967296 by omega)
        generalize l[i] = x at hg
        have hx := hr x (List.mem_of_getElem? hg)
        have hnx : vCo (l.take (i + 1)) = joinStep (vCo (l.take i)) x := foldl_next hg
        obtain ⟨hl, hro⟩ := vCo_ok (N := 1048576) (l.take i) [] (fun w hw => hr w (List.mem_of_mem_take hw)) (fun w hw => by cases hw)
        have hl : (vCo (l.take i)).length ≤ i := by rw [List.length_take] at hl; unfold vCo; simp at hl; omega
        have hro : ∀ w ∈ vCo (l.take i), w.p.row.length ≤ 1048576 := hro
        generalize vCo (l.take i) = out at hl hro hnx ⊢
        have hne' : vCo (l.take (i + 1)) ≠ [] := by rw [hnx]; exact (joinStep_ok hro hx).2.1
        have hC := outV_of hne'
        have hA := outVA_of hne'
        rw [hnx] at hC hA
        cases out with
        | nil =>
          have hs : joinStep [] x = [x] := rfl
          rw [hs] at hC hA
          rw [show outV [] = .full [] from rfl, show outVA [] = [] from rfl]
          have kj := Try.kJoin0 x (H := upd (upd (hOf [(3, [.full []])]) 6 (some [.d (.lit (.int .i64 0)), .d (.lit (.int .i64 0)), .d (.lit (.int .i64 0)), .d (.lit (.int .i64 0)), .full []])) 6 (some [.d (.lit (.int .i64 x.sl)), .d (.lit (.int .i64 x.sh)), .d (.lit (.int .i64 x.p.lo)), .d (.lit (.int .i64 x.p.hi)), .d (encRow x.p.row)])) (A := aOf []) (Wf_upd (Wf_upd (Wf_hOf rfl) rfl) rfl) (id := 3) (by simp +decide only [go_sem])
          repeat' (first
            | with_reducible refine VC_seq fun K hK => ?_
            | with_reducible refine W_region ?_
            | with_reducible refine VC_block ?_
            | with_reducible refine VC_scope ?_
            | with_reducible refine VC_if ?_
            | with_reducible refine VC_skip ?_
            | with_reducible refine VC_exit ?_
            | with_reducible refine VC_ret ?_
            | (with_reducible refine G_not (fun h => ?_) (fun h => ?_) <;> (try simp only [h]))
            | (with_reducible refine G_cases (fun h => ?_) (fun h => ?_) <;> (try simp only [h]))
            | refine C_eff kj rfl (Above_updH (Above_updH (Above_of rfl rfl) (by decide)) (by decide)) ?_
            | refine W_fullm Try.appVers rfl rfl (szOne rfl) (by simp) rfl ?_
            | (with_reducible refine hK _ ?_; clear hK K)
            | (clear hK K; with_reducible refine hK _ ?_; clear hK K)
            | (clear hK K; clear hK K; with_reducible refine hK _ ?_; clear hK K)
            | (clear hK K; clear hK K; clear hK K; with_reducible refine hK _ ?_; clear hK K)
            | (with_reducible refine todo ?_; simp +decide only [go_sem, hg, hd, hwi]))
          refine Next_of hlt True.intro (Weak_frame ?_ ?_ ?_) <;> simp +decide only [go_sem, hnx, hs, hC, hA]
          · exact ⟨wkP_ptr (by simp [hOf]), wkP_fn1 (by simp [hOf])⟩
          · exact wk_mt (by simp [aOf]) rfl
        | cons z zs =>
          have hne : z :: zs ≠ [] := List.cons_ne_nil z zs
          rw [outV_of hne, outVA_of hne]
          generalize z :: zs = out at *
          have kj := Try.kJoin out x (by omega) hro (H := upd (upd (hOf [(3, [.mt (27, 0) 5 out.length])]) 6 (some [.d (.lit (.int .i64 0)), .d (.lit (.int .i64 0)), .d (.lit (.int .i64 0)), .d (.lit (.int .i64 0)), .full []])) 6 (some [.d (.lit (.int .i64 x.sl)), .d (.lit (.int .i64 x.sh)), .d (.lit (.int .i64 x.p.lo)), .d (.lit (.int .i64 x.p.hi)), .d (encRow x.p.row)])) (A := aOf [((27, 0), .mu 5 (out.map Ver.enc))]) (Wf_upd (Wf_upd Wf_mt rfl) rfl) (id := 3) (κ := (27, 0)) (by simp +decide only [go_sem]) (by simp +decide only [go_sem])
          have hs : joinStep out x = if (join out x).isSome = true then joined out x else out ++ [x] := rfl
          have hjl := (joined_length out x).1
          cases hj : (join out x).isSome with
          | true =>
            rw [hj] at kj hs
            simp only [if_true] at hs
            rw [hs] at hC hA
            rw [hjl] at hC
            repeat' (first
              | with_reducible refine VC_seq fun K hK => ?_
              | with_reducible refine W_region ?_
              | with_reducible refine VC_block ?_
              | with_reducible refine VC_scope ?_
              | with_reducible refine VC_if ?_
              | with_reducible refine VC_skip ?_
              | with_reducible refine VC_exit ?_
              | with_reducible refine VC_ret ?_
              | (with_reducible refine G_not (fun h => ?_) (fun h => ?_) <;> (try simp only [h]))
              | (with_reducible refine G_cases (fun h => ?_) (fun h => ?_) <;> (try simp only [h]))
              | refine C_eff kj rfl (Above_updH (Above_updH (Above_of rfl rfl) (by decide)) (by decide)) ?_
              | (with_reducible refine hK _ ?_; clear hK K)
              | (clear hK K; with_reducible refine hK _ ?_; clear hK K)
              | (clear hK K; clear hK K; with_reducible refine hK _ ?_; clear hK K)
              | (clear hK K; clear hK K; clear hK K; with_reducible refine hK _ ?_; clear hK K)
              | (with_reducible refine todo ?_; simp +decide only [go_sem, hg, hd, hwi]))
            refine Next_of hlt True.intro (Weak_frame ?_ ?_ ?_) <;> simp +decide only [go_sem, hnx, hs, hC, hA]
            · exact ⟨wkP_ptr (by simp [hOf]), wkP_fn1 (by simp [hOf])⟩
            · exact wk_mt (by simp [aOf]) rfl
          | false =>
            rw [hj] at kj hs
            simp only [Bool.false_eq_true, if_false] at hs
            rw [hs] at hC hA
            have hjo : joined out x = out := by
              unfold joined
              cases hjj : join out x with
              | none => rfl
              | some m => rw [hjj] at hj; cases hj
            rw [hjo] at kj
            repeat' (first
              | with_reducible refine VC_seq fun K hK => ?_
              | with_reducible refine W_region ?_
              | with_reducible refine VC_block ?_
              | with_reducible refine VC_scope ?_
              | with_reducible refine VC_if ?_
              | with_reducible refine VC_skip ?_
              | with_reducible refine VC_exit ?_
              | with_reducible refine VC_ret ?_
              | (with_reducible refine G_not (fun h => ?_) (fun h => ?_) <;> (try simp only [h]))
              | (with_reducible refine G_cases (fun h => ?_) (fun h => ?_) <;> (try simp only [h]))
              | refine C_eff kj rfl (Above_updH (Above_updH (Above_of rfl rfl) (by decide)) (by decide)) ?_
              | (refine W_mt Try.appVers (els := out.map Ver.enc) (by simp +decide only [go_sem]) (by simp +decide only [go_sem]) rfl (szOne rfl) (by simp; omega) ?_)
              | (with_reducible refine hK _ ?_; clear hK K)
              | (clear hK K; with_reducible refine hK _ ?_; clear hK K)
              | (clear hK K; clear hK K; with_reducible refine hK _ ?_; clear hK K)
              | (clear hK K; clear hK K; clear hK K; with_reducible refine hK _ ?_; clear hK K)
              | (with_reducible refine todo ?_; simp +decide only [go_sem, hg, hd, hwi]))
            refine Next_of hlt True.intro (Weak_frame ?_ ?_ ?_) <;> simp +decide only [go_sem, hnx, hs, hC, hA]
            · exact ⟨wkP_ptr (by simp [hOf]), wkP_fn1 (by simp [hOf])⟩
            · exact wk_mt (by simp [aOf]) rfl
      · have hd := int_lt_false hge
        rw [List.take_of_length_le hge]
        generalize hc : vCo l = out
        cases out with
        | nil =>
          rw [show outV [] = .full [] from rfl, show outVA [] = [] from rfl]
          repeat' (first
            | with_reducible refine VC_seq fun K hK => ?_
            | with_reducible refine W_region ?_
            | with_reducible refine VC_block ?_
            | with_reducible refine VC_scope ?_
            | with_reducible refine VC_if ?_
            | with_reducible refine VC_skip ?_
            | with_reducible refine VC_exit ?_
            | with_reducible refine VC_ret ?_
            | (with_reducible refine G_not (fun h => ?_) (fun h => ?_) <;> (try simp only [h]))
            | (with_reducible refine G_cases (fun h => ?_) (fun h => ?_) <;> (try simp only [h]))
            | (with_reducible refine hK _ ?_; clear hK K)
            | (clear hK K; with_reducible refine hK _ ?_; clear hK K)
            | (clear hK K; clear hK K; with_reducible refine hK _ ?_; clear hK K)
            | (clear hK K; clear hK K; clear hK K; with_reducible refine hK _ ?_; clear hK K)
            | (with_reducible refine todo ?_; simp +decide only [go_sem, hd]))
          rw [e, hc]
          exact Ret_d rfl rfl
        | cons y r =>
          rw [outV_of (List.cons_ne_nil y r), outVA_of (List.cons_ne_nil y r)]
          repeat' (first
            | with_reducible refine VC_seq fun K hK => ?_
            | with_reducible refine W_region ?_
            | with_reducible refine VC_block ?_
            | with_reducible refine VC_scope ?_
            | with_reducible refine VC_if ?_
            | with_reducible refine VC_skip ?_
            | with_reducible refine VC_exit ?_
            | with_reducible refine VC_ret ?_
            | (with_reducible refine G_not (fun h => ?_) (fun h => ?_) <;> (try simp only [h]))
            | (with_reducible refine G_cases (fun h => ?_) (fun h => ?_) <;> (try simp only [h]))
            | (with_reducible refine hK _ ?_; clear hK K)
            | (clear hK K; with_reducible refine hK _ ?_; clear hK K)
            | (clear hK K; clear hK K; with_reducible refine hK _ ?_; clear hK K)
            | (clear hK K; clear hK K; clear hK K; with_reducible refine hK _ ?_; clear hK K)
            | (with_reducible refine todo ?_; simp +decide only [go_sem, hd]))
          rw [e, hc]
          exact Ret_mt (27, 0) rfl (sz := 5) (by simp +decide only [go_sem]) (by simp +decide only [go_sem])
end Go.Proofs
