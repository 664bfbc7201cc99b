import Derived.Test.YtcdiifnnnnnceaaQ25

/-
  Versions: Set.
-/

namespace Go.PW
/-- Data, or a function over variables that are there. -/
def CV.isDF (ks : List Nat) : CV → Bool
  | .fn _ caps => caps.all fun p => ks.contains p.1
  | c => c.isD
theorem isDF_ok {hk : Nat → Prop} {tk : Tok → Prop} {ks : List Nat} {c : CV} (h : c.isDF ks = true) (hks : ∀ k ∈ ks, hk k) : c.ok hk tk := by
  cases c with
  | fn f caps => exact fun p hp => hks p.1 (List.contains_iff_mem.1 (List.all_eq_true.1 h p hp))
  | _ => first | exact True.intro | cases h
theorem hOf_none {l : List (Nat × List CV)} {k : Nat} (h : k ∈ l.map (·.1)) : hOf l k ≠ none := by
  induction l with
  | nil => cases h
  | cons p r ih =>
    unfold hOf
    split
    · simp
    · rename_i hne
      rcases List.mem_cons.1 h with e | h
      · exact absurd e hne
      · exact ih h
theorem hOf_mem {l : List (Nat × List CV)} {k : Nat} {cs : List CV} (h : hOf l k = some cs) : (k, cs) ∈ l := by
  induction l with
  | nil => cases h
  | cons p r ih =>
    unfold hOf at h
    split at h
    · rename_i e; cases h; subst e; exact List.mem_cons_self
    · exact List.mem_cons_of_mem _ (ih h)
theorem Wf_hOfF {A : AMap} {l : List (Nat × List CV)} (h : l.all (fun p => p.2.all (CV.isDF (l.map (·.1)))) = true) : Wf (hOf l) A := fun _ _ c h1 h2 =>
  isDF_ok (List.all_eq_true.1 (List.all_eq_true.1 h _ (hOf_mem h1)) c h2) (fun _ hk => hOf_none hk)
theorem Wf_updFn {H : HMap} {A : AMap} {u : Nat} {f : FuncId} {caps : List (Nat × Nat)} (h : Wf H A) (hc : ∀ p ∈ caps, H p.1 ≠ none) : Wf (upd H u (some [.fn f caps])) A := fun id ds c hd hc' => by
  have hk : ∀ i, H i ≠ none → upd H u (some [CV.fn f caps]) i ≠ none := fun i hi => by
    rw [upd_apply']; split
    · simp
    · exact hi
  rw [upd_apply'] at hd
  split at hd
  · cases hd
    rw [List.mem_singleton.1 hc']
    exact fun p hp => hk _ (hc p hp)
  · exact ok_mono hk (fun _ h => h) (h id ds c hd hc')
theorem wk_fn1 {H' : HMap} {A A' : AMap} {f : FuncId} {id o : Nat} (h : H' id ≠ none) : CV.wk H' A A' (.fn f [(id, o)]) (.fn f [(id, o)]) := .inr (.inl ⟨rfl, fun p hp => by rw [List.mem_singleton.1 hp]; exact h⟩)
end Go.PW
namespace Go.Proofs
open Go.PW

set_option maxRecDepth 8000 in
set_option maxHeartbeats 4000000 in
theorem Try.kDiffD (ps q : List Piece) (hn : ps.length ≤ 1048576) (hr : ∀ p ∈ ps, p.row.length ≤ 1048576) (hn' : q.length ≤ 1048576) (hr' : ∀ p ∈ q, p.row.length ≤ 1048576) :
    PureOK Try.prog 56 [pD (encPieces ps), pD (encPieces q)] (.tup [.d (encPieces (diff ps q).1), .d (encPieces (diff ps q).2)]) := by
  refine Try.pure (md := []) Try.func56 rfl Try.call56 (by kernel_rfl) (by rfl) (by exact Nat.le_of_ble_eq_true rfl) ?_
  repeat' (first
    | with_reducible refine VC_seq fun K hK => ?_
    | with_reducible refine W_region ?_
    | with_reducible refine VC_block ?_
    | with_reducible refine VC_scope ?_
    | with_reducible refine VC_if ?_
    | with_reducible refine VC_skip ?_
    | with_reducible refine VC_exit ?_
    | with_reducible refine VC_ret ?_
    | (with_reducible refine G_not (fun h => ?_) (fun h => ?_) <;> (try simp only [h]))
    | (with_reducible refine G_cases (fun h => ?_) (fun h => ?_) <;> (try simp only [h]))
    | refine C_pure (Try.kRight ps hn hr) rfl rfl (fun _ => rfl) ?_
    | refine C_pure (Try.kRight q hn' hr') rfl rfl (fun _ => rfl) ?_
    | refine C_pure (Try.kWithout ps q hn hr hn') rfl rfl (fun _ => rfl) ?_
    | refine C_pure (Try.kWithout q ps hn' hr' hn) rfl rfl (fun _ => rfl) ?_
    | (with_reducible refine hK _ ?_; clear hK K)
    | (clear hK K; with_reducible refine hK _ ?_; clear hK K)
    | (clear hK K; clear hK K; with_reducible refine hK _ ?_; clear hK K)
    | (clear hK K; clear hK K; clear hK K; with_reducible refine hK _ ?_; clear hK K)
    | (with_reducible refine todo ?_; simp +decide only [go_sem]))
  · have hD : diff ps q = (without ps q, without q ps) := by unfold diff; simp [*]
    rw [hD]
    exact Ret_two none rfl (.inl rfl) (.inl rfl)
  all_goals
    have hD : diff ps q = ([], []) := by unfold diff; simp [*]
    rw [hD]
    exact Ret_two none rfl (.inl rfl) (.inl rfl)

/-- A version that ends: at this time. -/
def vCut (q : List Piece) (t : Int) (v : Ver) : Ver := if vEnds q v = true then { v with sh := t } else v
def vKept (l : List Ver) (q : List Piece) (t : Int) : List Ver := l.filter (fun v => !vEnds q v || decide (v.sl < t))
def encCut (q : List Piece) (t : Int) (v : Ver) : List D := (vCut q t v).enc
def vComes (t : Int) (c : Piece) : Ver := ⟨t, 1099511627776, c⟩
def vMid (q : List Piece) (t : Int) (kept : List Ver) (cs : List Piece) : List Ver := kept.map (vCut q t) ++ cs.map (vComes t)
theorem vMid_next {q : List Piece} {t : Int} {kept : List Ver} {cs : List Piece} {i : Nat} {c : Piece} (h : cs[i]? = some c) : vMid q t kept (cs.take (i + 1)) = vMid q t kept (cs.take i) ++ [vComes t c] := by
  rw [vMid, vMid, take_next h, List.map_append, List.append_assoc]
  rfl
theorem vMid_length {q : List Piece} {t : Int} {kept : List Ver} {cs : List Piece} : (vMid q t kept cs).length = kept.length + cs.length := by simp [vMid]
def vSetOf (l : List Ver) (t : Int) (p : List Piece) : List Ver :=
  rise (vMid (diff (vAt l 1099511627775) p).1 t (vKept l (diff (vAt l 1099511627775) p).1 t) (diff (vAt l 1099511627775) p).2)
def vSetOK (l : List Ver) (t : Int) (p : List Piece) : Bool := ((vRight l && right p) && !decide (t < vLast l)) && !decide (1099511627776 ≤ t)
def vSet (l : List Ver) (t : Int) (p : List Piece) : List Ver := if vSetOK l t p = true then vSetOf l t p else []

theorem insP_mem (l : List Ver) : ∀ {out : List Piece} {x : Piece}, x ∈ l.foldl insP out → x ∈ out ∨ ∃ v ∈ l, x = v.p := by
  induction l with
  | nil => exact fun h => .inl h
  | cons v r ih =>
    intro out x h
    rcases ih h with h | ⟨w, hw, e⟩
    · rcases mem_insBack.1 h with e | h
      · exact .inr ⟨v, List.mem_cons_self, e⟩
      · exact .inl h
    · exact .inr ⟨w, List.mem_cons_of_mem _ hw, e⟩
theorem vAt_mem {l : List Ver} {t : Int} {x : Piece} (h : x ∈ vAt l t) : ∃ v ∈ l, x = v.p := by
  unfold vAt at h
  split at h
  · rcases insP_mem _ h with h | ⟨v, hv, e⟩
    · cases h
    · exact ⟨v, (List.mem_filter.1 hv).1, e⟩
  · cases h
theorem vAt_length (l : List Ver) (t : Int) : (vAt l t).length ≤ l.length := by
  unfold vAt
  split
  · rw [insP_len]
    have := List.length_filter_le (fun v => Span.has v.sl v.sh t) l
    simp; omega
  · simp
theorem diff_sub (ps q : List Piece) : (diff ps q).1.length ≤ ps.length ∧ (diff ps q).2.length ≤ q.length ∧ (∀ x ∈ (diff ps q).1, x ∈ ps) ∧ ∀ x ∈ (diff ps q).2, x ∈ q := by
  unfold diff
  split
  · exact ⟨without_length _ _, without_length _ _, fun x h => (List.mem_filter.1 h).1, fun x h => (List.mem_filter.1 h).1⟩
  · exact ⟨by simp, by simp, fun x h => by (cases h), fun x h => by (cases h)⟩

theorem part_next {α β : Type} {f : α → β} {l : List α} {i : Nat} {x : α} (h : l[i]? = some x) (g : α → β) : ((l.take i).map f ++ (l.drop i).map g).set i (f x) = (l.take (i + 1)).map f ++ (l.drop (i + 1)).map g := by
  have hi : i < l.length := by
    rcases Nat.lt_or_ge i l.length with h1 | h1
    · exact h1
    · rw [List.getElem?_eq_none h1] at h; cases h
  rw [List.set_append_right _ _ (by rw [List.length_map, List.length_take]; omega), take_next h, List.drop_eq_getElem_cons hi]
  rw [show i - ((l.take i).map f).length = 0 by rw [List.length_map, List.length_take]; omega]
  simp only [List.map_cons, List.set_cons_zero, List.map_append, List.map_nil, List.append_assoc, List.cons_append, List.nil_append]
theorem part_get {α β : Type} {f g : α → β} {l : List α} {i : Nat} {x : α} (h : l[i]? = some x) : ((l.take i).map f ++ (l.drop i).map g)[i]? = some (g x) := by
  have hi : i < l.length := by
    rcases Nat.lt_or_ge i l.length with h1 | h1
    · exact h1
    · rw [List.getElem?_eq_none h1] at h; cases h
  rw [List.getElem?_append_right (by rw [List.length_map, List.length_take]; omega), List.length_map, List.length_take, show i - min i l.length = 0 by omega, List.getElem?_map, List.getElem?_drop, Nat.add_zero, h]
  rfl

theorem set_getq {α : Type} {l : List α} {i : Nat} {x : α} (h : l[i]? = some x) : l.set i x = l := by
  obtain ⟨h1, h2⟩ := List.getElem?_eq_some_iff.1 h
  rw [← h2]
  exact List.set_getElem_self h1

set_option maxRecDepth 8000 in
set_option maxHeartbeats 16000000 in
theorem Try.kSet (l : List Ver) (t : Int) (p : List Piece) (hn : l.length ≤ 131072) (hr : ∀ v ∈ l, v.p.row.length ≤ 1048576) (hn' : p.length ≤ 131072) (hr' : ∀ x ∈ p, x.row.length ≤ 1048576) :
    PureOK Try.prog 25 [pD (encVers l), pD (.lit (.int .i64 t)), pD (encPieces p)] (.tup [.d (encVers (vSet l t p)), .d (.lit (.int .i64 (if vSetOK l t p = true then 0 else 1)))]) := by
  refine pure_ok (E := envOf Try.prog [46, 59] 0 [] []) (envOf_ok Try.mixed) Try.func25 rfl Try.call25 (by kernel_rfl) (by rfl) (by exact Nat.le_of_ble_eq_true rfl) ?_
  have kr := Try.kRightV l (by omega) hr
  have kp := Try.kRight p (by omega) hr'
  have kl := Try.kLast l (by omega) hr
  have e : vSet l t p = if vSetOK l t p = true then vSetOf l t p else [] := rfl
  have e1 : vSetOK l t p = (((vRight l && right p) && !decide (t < vLast l)) && !decide (1099511627776 ≤ t)) := rfl
  cases hR : vRight l with
  | false =>
    rw [hR] at kr e1
    repeat' (first
      | with_reducible refine VC_seq fun K hK => ?_
      | with_reducible refine W_region ?_
      | with_reducible refine VC_block ?_
      | with_reducible refine VC_scope ?_
      | with_reducible refine VC_if ?_
      | with_reducible refine VC_skip ?_
      | with_reducible refine VC_exit ?_
      | with_reducible refine VC_ret ?_
      | (with_reducible refine G_not (fun h => ?_) (fun h => ?_) <;> (try simp only [h]))
      | (with_reducible refine G_cases (fun h => ?_) (fun h => ?_) <;> (try simp only [h]))
      | refine C_pure kr rfl rfl (fun _ => rfl) ?_
      | (with_reducible refine hK _ ?_; clear hK K)
      | (clear hK K; with_reducible refine hK _ ?_; clear hK K)
      | (clear hK K; clear hK K; with_reducible refine hK _ ?_; clear hK K)
      | (clear hK K; clear hK K; clear hK K; with_reducible refine hK _ ?_; clear hK K)
      | (with_reducible refine todo ?_; simp +decide only [go_sem]))
    rw [e, show vSetOK l t p = false from e1]
    exact Ret_two none rfl (.inl rfl) (.inl rfl)
  | true =>
    rw [hR] at kr e1
    cases hP : right p with
    | false =>
      rw [hP] at kp e1
      repeat' (first
        | with_reducible refine VC_seq fun K hK => ?_
        | with_reducible refine W_region ?_
        | with_reducible refine VC_block ?_
        | with_reducible refine VC_scope ?_
        | with_reducible refine VC_if ?_
        | with_reducible refine VC_skip ?_
        | with_reducible refine VC_exit ?_
        | with_reducible refine VC_ret ?_
        | (with_reducible refine G_not (fun h => ?_) (fun h => ?_) <;> (try simp only [h]))
        | (with_reducible refine G_cases (fun h => ?_) (fun h => ?_) <;> (try simp only [h]))
        | refine C_pure kr rfl rfl (fun _ => rfl) ?_
        | refine C_pure kp rfl rfl (fun _ => rfl) ?_
        | (with_reducible refine hK _ ?_; clear hK K)
        | (clear hK K; with_reducible refine hK _ ?_; clear hK K)
        | (clear hK K; clear hK K; with_reducible refine hK _ ?_; clear hK K)
        | (clear hK K; clear hK K; clear hK K; with_reducible refine hK _ ?_; clear hK K)
        | (with_reducible refine todo ?_; simp +decide only [go_sem]))
      rw [e, show vSetOK l t p = false from e1]
      exact Ret_two none rfl (.inl rfl) (.inl rfl)
    | true =>
      rw [hP] at kp e1
      cases hL : decide (t < vLast l) with
      | true =>
        rw [hL] at e1
        repeat' (first
          | with_reducible refine VC_seq fun K hK => ?_
          | with_reducible refine W_region ?_
          | with_reducible refine VC_block ?_
          | with_reducible refine VC_scope ?_
          | with_reducible refine VC_if ?_
          | with_reducible refine VC_skip ?_
          | with_reducible refine VC_exit ?_
          | with_reducible refine VC_ret ?_
          | (with_reducible refine G_not (fun h => ?_) (fun h => ?_) <;> (try simp only [h]))
          | (with_reducible refine G_cases (fun h => ?_) (fun h => ?_) <;> (try simp only [h]))
          | refine C_pure kr rfl rfl (fun _ => rfl) ?_
          | refine C_pure kp rfl rfl (fun _ => rfl) ?_
          | refine C_pure kl rfl rfl (fun _ => rfl) ?_
          | (with_reducible refine hK _ ?_; clear hK K)
          | (clear hK K; with_reducible refine hK _ ?_; clear hK K)
          | (clear hK K; clear hK K; with_reducible refine hK _ ?_; clear hK K)
          | (clear hK K; clear hK K; clear hK K; with_reducible refine hK _ ?_; clear hK K)
          | (with_reducible refine todo ?_; simp +decide only [go_sem, hL]))
        rw [e, show vSetOK l t p = false from e1]
        exact Ret_two none rfl (.inl rfl) (.inl rfl)
      | false =>
        rw [hL] at e1
        cases hM : decide (1099511627776 ≤ t) with
        | true =>
          rw [hM] at e1
          repeat' (first
            | with_reducible refine VC_seq fun K hK => ?_
            | with_reducible refine W_region ?_
            | with_reducible refine VC_block ?_
            | with_reducible refine VC_scope ?_
            | with_reducible refine VC_if ?_
            | with_reducible refine VC_skip ?_
            | with_reducible refine VC_exit ?_
            | with_reducible refine VC_ret ?_
            | (with_reducible refine G_not (fun h => ?_) (fun h => ?_) <;> (try simp only [h]))
            | (with_reducible refine G_cases (fun h => ?_) (fun h => ?_) <;> (try simp only [h]))
            | refine C_pure kr rfl rfl (fun _ => rfl) ?_
            | refine C_pure kp rfl rfl (fun _ => rfl) ?_
            | refine C_pure kl rfl rfl (fun _ => rfl) ?_
            | (with_reducible refine hK _ ?_; clear hK K)
            | (clear hK K; with_reducible refine hK _ ?_; clear hK K)
            | (clear hK K; clear hK K; with_reducible refine hK _ ?_; clear hK K)
            | (clear hK K; clear hK K; clear hK K; with_reducible refine hK _ ?_; clear hK K)
            | (with_reducible refine todo ?_; simp +decide only [go_sem, hL, hM]))
          rw [e, show vSetOK l t p = false from e1]
          exact Ret_two none rfl (.inl rfl) (.inl rfl)
        | false =>
          rw [hM] at e1
          rw [e, show vSetOK l t p = true from e1, if_pos rfl, vSetOf]
          have ka := Try.kAtV l 1099511627775 hn hr
          have hol : ∀ x ∈ vAt l 1099511627775, x.row.length ≤ 1048576 := fun x hx => by obtain ⟨v, hv, e⟩ := vAt_mem hx; rw [e]; exact hr v hv
          have hoL := vAt_length l 1099511627775
          generalize vAt l 1099511627775 = old at *
          have kd := Try.kDiffD old p (by omega) hol (by omega) hr'
          obtain ⟨hg1, hg2, hg3, hg4⟩ := diff_sub old p
          generalize (diff old p).1 = goes at *
          generalize (diff old p).2 = comes at *
          have ko := Try.kOwnV l (fun v => !vEnds goes v || decide (v.sl < t)) (by omega) hr (H := upd (upd (upd (upd (upd noH 4 (some [.d (.lit (.int .i64 t))])) 8 (some [.full []])) 8 (some [.d (encPieces goes)])) 10 (some [.d (.lit .nilFunc)])) 10 (some [.fn 57 [(8, 0)]])) (A := noA) (Wf_updFn (Wf_upd (Wf_upd (Wf_upd (Wf_upd Wf_noH rfl) rfl) rfl) rfl) (fun p hp => by rw [List.mem_singleton.1 hp]; simp [upd])) (κ := (44, 0)) rfl (by decide)
            (Try.kStays l goes t (by omega) hr (idE := 10) (idT := 4) (idG := 8) rfl rfl rfl (by decide) (by decide))
          have hkl : (vKept l goes t).length ≤ l.length := List.length_filter_le _ _
          have hkr : ∀ v ∈ vKept l goes t, v.p.row.length ≤ 1048576 := fun v hv => hr v (List.mem_filter.1 hv).1
          change EffOK _ _ _ _ _ _ (.c (.mt (44, 0) 5 (vKept l goes t).length)) _ (upd noA (44, 0) (some (.mu 5 ((vKept l goes t).map Ver.enc)))) at ko
          generalize vKept l goes t = kept at *
          repeat' (first
            | with_reducible refine VC_seq fun K hK => ?_
            | with_reducible refine W_region ?_
            | with_reducible refine VC_block ?_
            | with_reducible refine VC_scope ?_
            | with_reducible refine VC_if ?_
            | with_reducible refine VC_skip ?_
            | with_reducible refine VC_exit ?_
            | with_reducible refine VC_ret ?_
            | (with_reducible refine G_not (fun h => ?_) (fun h => ?_) <;> (try simp only [h]))
            | (with_reducible refine G_cases (fun h => ?_) (fun h => ?_) <;> (try simp only [h]))
            | refine C_pure kr rfl rfl (fun _ => rfl) ?_
            | refine C_pure kp rfl rfl (fun _ => rfl) ?_
            | refine C_pure kl rfl rfl (fun _ => rfl) ?_
            | refine C_pure ka rfl rfl (fun _ => rfl) ?_
            | refine C_pure kd rfl rfl (fun _ => rfl) ?_
            | refine C_call rfl ko rfl (Above_updH (Above_updH (Above_updH (Above_updH (Above_updH (Above_none _) (by decide)) (by decide)) (by decide)) (by decide)) (by decide)) ?_
            | (with_reducible refine hK _ ?_; clear hK K)
            | (clear hK K; with_reducible refine hK _ ?_; clear hK K)
            | (clear hK K; clear hK K; with_reducible refine hK _ ?_; clear hK K)
            | (clear hK K; clear hK K; clear hK K; with_reducible refine hK _ ?_; clear hK K)
            | (with_reducible refine todo ?_; simp +decide only [go_sem, hL, hM]))
          refine VC_range kept.length (fun _ => True) (fun i => frame [(4, .c (.ptr 4 0)), (9, pD (encPieces comes)), (10, .c (.ptr 10 0)), (11, .c (.mt (44, 0) 5 kept.length)), (45, .c (.mt (44, 0) 5 kept.length)), (46, pD (.lit (.int .i64 kept.length))), (47, pD (.lit (.int .i64 i)))]
            [(4, [.d (.lit (.int .i64 t))]), (8, [.d (encPieces goes)]), (10, [.fn 57 [(8, 0)]])] [((44, 0), .mu 5 ((kept.take i).map (encCut goes t) ++ (kept.drop i).map Ver.enc))]) True.intro ?_ ?_
          · refine Weak_frame ?_ ?_ ?_ <;> simp +decide only [go_sem, List.drop_zero]
            · exact ⟨wkP_ptr (by simp [hOf]), wkP_ptr (by simp [hOf]), wkP_mt (by simp [aOf]) (by simp [aOf, upd])⟩
            · exact wk_fn1 (by simp [hOf])
          · intro i hi hI
            rcases Nat.lt_or_ge i kept.length with hlt | hge
            · have hg := List.getElem?_eq_getElem hlt
              have hd := int_lt_true hlt
              have hwi := int_next hlt (show kept.length ≤ 4294967296 by omega)
              have hltT : (i < kept.length) = True := eq_true hlt
              generalize kept[i] = x at hg
              have hxr := hkr x (List.mem_of_getElem? hg)
              have hga := part_get (f := encCut goes t) (g := Ver.enc) hg
              have hnx := (part_next (f := encCut goes t) hg Ver.enc).symm
              have hal : ((kept.take i).map (encCut goes t) ++ (kept.drop i).map Ver.enc).length = kept.length := by simp; omega
              generalize (kept.take i).map (encCut goes t) ++ (kept.drop i).map Ver.enc = arr at *
              have hl3 : (kept.length = arr.length) = True := eq_true hal.symm
              have ke := Try.kEnds1 goes x (by omega) hxr (H := upd (upd (hOf [(4, [.d (.lit (.int .i64 t))]), (8, [.d (encPieces goes)]), (10, [.fn 57 [(8, 0)]])]) 13 (some [.d (.lit (.int .i64 0)), .d (.lit (.int .i64 0)), .d (.lit (.int .i64 0)), .d (.lit (.int .i64 0)), .full []])) 13 (some [.d (.lit (.int .i64 x.sl)), .d (.lit (.int .i64 x.sh)), .d (.lit (.int .i64 x.p.lo)), .d (.lit (.int .i64 x.p.hi)), .d (encRow x.p.row)])) (A := aOf [((44, 0), .mu 5 arr)])
                (Wf_upd (Wf_upd (Wf_hOfF rfl) rfl) rfl) (id := 8) (by simp +decide only [go_sem])
              cases hE : vEnds goes x with
              | false =>
                rw [hE] at ke
                have hnx2 : encCut goes t x = x.enc := by unfold encCut vCut; rw [hE]; rfl
                have hnx3 : arr.set i x.enc = arr := set_getq hga
                rw [hnx2, hnx3] at hnx
                repeat' (first
                  | with_reducible refine VC_seq fun K hK => ?_
                  | with_reducible refine W_region ?_
                  | with_reducible refine VC_block ?_
                  | with_reducible refine VC_scope ?_
                  | with_reducible refine VC_if ?_
                  | with_reducible refine VC_skip ?_
                  | with_reducible refine VC_exit ?_
                  | with_reducible refine VC_ret ?_
                  | (with_reducible refine G_not (fun h => ?_) (fun h => ?_) <;> (try simp only [h]))
                  | (with_reducible refine G_cases (fun h => ?_) (fun h => ?_) <;> (try simp only [h]))
                  | refine C_eff ke rfl (Above_updH (Above_updH (Above_of rfl rfl) (by decide)) (by decide)) ?_
                  | (with_reducible refine hK _ ?_; clear hK K)
                  | (clear hK K; with_reducible refine hK _ ?_; clear hK K)
                  | (clear hK K; clear hK K; with_reducible refine hK _ ?_; clear hK K)
                  | (clear hK K; clear hK K; clear hK K; with_reducible refine hK _ ?_; clear hK K)
                  | (with_reducible refine todo ?_; simp +decide only [go_sem, hga, hd, hwi, iE_mt, hltT, hl3]))
                refine Next_of hlt True.intro (Weak_frame ?_ ?_ ?_) <;> simp +decide only [go_sem, hnx]
                · exact ⟨wkP_ptr (by simp [hOf]), wkP_ptr (by simp [hOf]), wkP_mt (by simp [aOf]) (by simp [aOf])⟩
                · exact wk_fn1 (by simp [hOf])
              | true =>
                rw [hE] at ke
                have hnx2 : encCut goes t x = [.lit (.int .i64 x.sl), .lit (.int .i64 t), .lit (.int .i64 x.p.lo), .lit (.int .i64 x.p.hi), encRow x.p.row] := by unfold encCut vCut; rw [hE]; rfl
                rw [hnx2] at hnx
                repeat' (first
                  | with_reducible refine VC_seq fun K hK => ?_
                  | with_reducible refine W_region ?_
                  | with_reducible refine VC_block ?_
                  | with_reducible refine VC_scope ?_
                  | with_reducible refine VC_if ?_
                  | with_reducible refine VC_skip ?_
                  | with_reducible refine VC_exit ?_
                  | with_reducible refine VC_ret ?_
                  | (with_reducible refine G_not (fun h => ?_) (fun h => ?_) <;> (try simp only [h]))
                  | (with_reducible refine G_cases (fun h => ?_) (fun h => ?_) <;> (try simp only [h]))
                  | refine C_eff ke rfl (Above_updH (Above_updH (Above_of rfl rfl) (by decide)) (by decide)) ?_
                  | (with_reducible refine hK _ ?_; clear hK K)
                  | (clear hK K; with_reducible refine hK _ ?_; clear hK K)
                  | (clear hK K; clear hK K; with_reducible refine hK _ ?_; clear hK K)
                  | (clear hK K; clear hK K; clear hK K; with_reducible refine hK _ ?_; clear hK K)
                  | (with_reducible refine todo ?_; simp +decide only [go_sem, hga, hd, hwi, iE_mt, hltT, hl3]))
                refine Next_of hlt True.intro (Weak_frame ?_ ?_ ?_) <;> simp +decide only [go_sem, hnx]
                · exact ⟨wkP_ptr (by simp [hOf]), wkP_ptr (by simp [hOf]), wkP_mt (by simp [aOf]) (by simp [aOf, upd])⟩
                · exact wk_fn1 (by simp [hOf])
            · have hd := int_lt_false hge
              rw [List.take_of_length_le hge, List.drop_of_length_le hge]
              repeat' (first
                | with_reducible refine VC_seq fun K hK => ?_
                | with_reducible refine W_region ?_
                | with_reducible refine VC_block ?_
                | with_reducible refine VC_scope ?_
                | with_reducible refine VC_if ?_
                | with_reducible refine VC_skip ?_
                | with_reducible refine VC_exit ?_
                | with_reducible refine VC_ret ?_
                | (with_reducible refine G_not (fun h => ?_) (fun h => ?_) <;> (try simp only [h]))
                | (with_reducible refine G_cases (fun h => ?_) (fun h => ?_) <;> (try simp only [h]))
                | (with_reducible refine hK _ ?_; clear hK K)
                | (clear hK K; with_reducible refine hK _ ?_; clear hK K)
                | (clear hK K; clear hK K; with_reducible refine hK _ ?_; clear hK K)
                | (clear hK K; clear hK K; clear hK K; with_reducible refine hK _ ?_; clear hK K)
                | (with_reducible refine todo ?_; simp +decide only [go_sem, hd]))
              have hm0 : kept.map (encCut goes t) = (vMid goes t kept (comes.take 0)).map Ver.enc := by simp [vMid, encCut]
              have hml : kept.length = (vMid goes t kept (comes.take 0)).length := by rw [vMid_length]; simp
              refine VC_range comes.length (fun _ => True) (fun i => frame [(4, .c (.ptr 4 0)), (11, .c (.mt (44, 0) 5 (vMid goes t kept (comes.take i)).length)), (62, pD (encPieces comes)), (63, pD (.lit (.int .i64 comes.length))), (64, pD (.lit (.int .i64 i)))]
                [(4, [.d (.lit (.int .i64 t))])] [((44, 0), .mu 5 ((vMid goes t kept (comes.take i)).map Ver.enc))]) True.intro ?_ ?_
              · rw [← hm0, ← hml]
                refine Weak_frame ?_ ?_ ?_ <;> simp +decide only [go_sem]
                exact ⟨wkP_ptr (by simp [hOf]), wkP_mt (by simp [aOf]) (by simp [aOf])⟩
              · intro j hj hJ
                rcases Nat.lt_or_ge j comes.length with hjt | hjge
                · have hgj := List.getElem?_eq_getElem hjt
                  have hdj := int_lt_true hjt
                  have hwj := int_next hjt (show comes.length ≤ 4294967296 by omega)
                  generalize comes[j] = c at hgj
                  have hnx : vMid goes t kept (comes.take (j + 1)) = vMid goes t kept (comes.take j) ++ [⟨t, 1099511627776, c⟩] := vMid_next hgj
                  have hol : (vMid goes t kept (comes.take j)).length ≤ 262144 := by rw [vMid_length, List.length_take]; omega
                  generalize vMid goes t kept (comes.take j) = out at *
                  repeat' (first
                    | with_reducible refine VC_seq fun K hK => ?_
                    | with_reducible refine W_region ?_
                    | with_reducible refine VC_block ?_
                    | with_reducible refine VC_scope ?_
                    | with_reducible refine VC_if ?_
                    | with_reducible refine VC_skip ?_
                    | with_reducible refine VC_exit ?_
                    | with_reducible refine VC_ret ?_
                    | (with_reducible refine G_not (fun h => ?_) (fun h => ?_) <;> (try simp only [h]))
                    | (with_reducible refine G_cases (fun h => ?_) (fun h => ?_) <;> (try simp only [h]))
                    | (refine W_mt Try.appVers (els := out.map Ver.enc) (by simp +decide only [go_sem]) (by simp +decide only [go_sem]) rfl (szOne rfl) (by simp; omega) ?_)
                    | (with_reducible refine hK _ ?_; clear hK K)
                    | (clear hK K; with_reducible refine hK _ ?_; clear hK K)
                    | (clear hK K; clear hK K; with_reducible refine hK _ ?_; clear hK K)
                    | (clear hK K; clear hK K; clear hK K; with_reducible refine hK _ ?_; clear hK K)
                    | (with_reducible refine todo ?_; simp +decide only [go_sem, hgj, hdj, hwj]))
                  refine Next_of hjt True.intro (Weak_frame ?_ ?_ ?_) <;> simp +decide only [go_sem, hnx]
                  exact ⟨wkP_ptr (by simp [hOf]), wkP_mt (by simp [aOf]) (by simp [aOf, upd])⟩
                · have hdj := int_lt_false hjge
                  rw [List.take_of_length_le hjge]
                  have hol : (vMid goes t kept comes).length ≤ 262144 := by rw [vMid_length]; omega
                  generalize vMid goes t kept comes = out at *
                  have kri := Try.kRise out (by omega) (H := hOf [(4, [.d (.lit (.int .i64 t))])]) (A := aOf [((44, 0), .mu 5 (out.map Ver.enc))]) (Wf_hOf rfl) (κ := (44, 0)) rfl
                  repeat' (first
                    | with_reducible refine VC_seq fun K hK => ?_
                    | with_reducible refine W_region ?_
                    | with_reducible refine VC_block ?_
                    | with_reducible refine VC_scope ?_
                    | with_reducible refine VC_if ?_
                    | with_reducible refine VC_skip ?_
                    | with_reducible refine VC_exit ?_
                    | with_reducible refine VC_ret ?_
                    | (with_reducible refine G_not (fun h => ?_) (fun h => ?_) <;> (try simp only [h]))
                    | (with_reducible refine G_cases (fun h => ?_) (fun h => ?_) <;> (try simp only [h]))
                    | refine C_call rfl kri rfl (Above_of rfl rfl) ?_
                    | (with_reducible refine hK _ ?_; clear hK K)
                    | (clear hK K; with_reducible refine hK _ ?_; clear hK K)
                    | (clear hK K; clear hK K; with_reducible refine hK _ ?_; clear hK K)
                    | (clear hK K; clear hK K; clear hK K; with_reducible refine hK _ ?_; clear hK K)
                    | (with_reducible refine todo ?_; simp +decide only [go_sem, hdj]))
                  have hrl : ((rise out).map Ver.enc).length = out.length := by rw [List.length_map, rise, rise_length]; simp
                  exact Ret_two (some (44, 0)) rfl (.inr ⟨(44, 0), 5, _, rfl, rfl, by rw [hrl]; rfl, rfl⟩) (.inl rfl)
end Go.Proofs
