import Derived.Test.YtcdiifnnnnnceaaQ32

/-
  The document's versions: put, Set.
-/

namespace Go.Proofs
open Go.PW

/-- Behind all that it does not stand ahead of. -/
def rPut1 (l : List Ver) (v : Ver) : List Ver := l.takeWhile (fun w => !ahead' v w) ++ v :: l.dropWhile (fun w => !ahead' v w)
theorem rPut1_perm (l : List Ver) (v : Ver) : (rPut1 l v).Perm (v :: l) := by
  unfold rPut1
  refine List.perm_middle.trans (List.Perm.cons v ?_)
  rw [List.takeWhile_append_dropWhile]
theorem rPut1_length (l : List Ver) (v : Ver) : (rPut1 l v).length = l.length + 1 := (rPut1_perm l v).length_eq
theorem rPut1_sorted : ∀ {l : List Ver} {v : Ver}, l.Pairwise Le → (rPut1 l v).Pairwise Le
  | [], v, _ => by simp [rPut1]
  | w :: r, v, h => by
    obtain ⟨h1, h2⟩ := List.pairwise_cons.1 h
    cases ha : ahead' v w with
    | true =>
      have e : rPut1 (w :: r) v = v :: w :: r := by simp [rPut1, ha]
      rw [e]
      have hvw : Le v w := by
        have := ahead_iff.1 ha
        unfold Le at this ⊢
        omega
      refine List.pairwise_cons.2 ⟨fun y hy => ?_, h⟩
      rcases List.mem_cons.1 hy with rfl | hy
      · exact hvw
      · exact hvw.trans (h1 y hy)
    | false =>
      have e : rPut1 (w :: r) v = w :: rPut1 r v := by simp [rPut1, ha]
      rw [e]
      refine List.pairwise_cons.2 ⟨fun y hy => ?_, rPut1_sorted h2⟩
      rcases List.mem_cons.1 ((rPut1_perm r v).mem_iff.1 hy) with rfl | hy
      · exact not_ahead.1 ha
      · exact h1 y hy
def rPuts (t : Int) (out : List Ver) (cs : List Piece) : List Ver := cs.foldl (fun out c => rPut1 out (vComes t c)) out
theorem rPuts_spec {t : Int} : ∀ (cs : List Piece) (out : List Ver), out.Pairwise Le → (rPuts t out cs).Perm (out ++ cs.map (vComes t)) ∧ (rPuts t out cs).Pairwise Le
  | [], out, h => by rw [List.map_nil, List.append_nil]; exact ⟨List.Perm.refl _, h⟩
  | c :: cs, out, h => by
    obtain ⟨k1, k2⟩ := rPuts_spec cs (rPut1 out (vComes t c)) (rPut1_sorted h)
    refine ⟨k1.trans ?_, k2⟩
    rw [List.map_cons]
    exact ((rPut1_perm out (vComes t c)).append_right _).trans List.perm_middle.symm
theorem rPuts_eq {l : List Ver} {t : Int} {p : List Piece} (h : Sets l t p) : rPuts t ((vKept l (gone l p) t).map (vCut (gone l p) t)) (come l p) = vSetOf l t p := by
  have hr := vRight_iff.1 h.hl
  have hs : ((vKept l (gone l p) t).map (vCut (gone l p) t)).Pairwise Le := by
    refine List.pairwise_map.2 ?_
    have hl : l.Pairwise Le := hr.2.imp fun h => h.2
    refine (hl.sublist List.filter_sublist).imp fun {v w} k => ?_
    unfold Le at k ⊢
    rw [vCut_keep.1, vCut_keep.1, vCut_keep.2, vCut_keep.2]
    exact k
  obtain ⟨k1, k2⟩ := rPuts_spec (t := t) (come l p) _ hs
  have hm := mid_ok h
  refine vRight_ext ?_ (vSetOf_right h) fun x => ?_
  · rw [vRight_iff]
    refine ⟨fun v hv => hm.1 v (k1.mem_iff.1 hv), ?_⟩
    have ha : (rPuts t ((vKept l (gone l p) t).map (vCut (gone l p) t)) (come l p)).Pairwise Apart2 := (k1.pairwise_iff (fun h => h.symm)).2 hm.2
    exact ha.and k2
  · rw [k1.mem_iff, vSetOf_eq h, rise_mem]
    exact Iff.rfl
theorem rPuts_length {t : Int} : ∀ (cs : List Piece) (out : List Ver), (rPuts t out cs).length = out.length + cs.length
  | [], out => by simp [rPuts]
  | c :: cs, out => by
    have := rPuts_length (t := t) cs (rPut1 out (vComes t c))
    rw [rPut1_length] at this
    rw [show rPuts t out (c :: cs) = rPuts t (rPut1 out (vComes t c)) cs from rfl, this, List.length_cons]
    omega
theorem rPuts_next {t : Int} {out : List Ver} {cs : List Piece} {i : Nat} {c : Piece} (h : cs[i]? = some c) : rPuts t out (cs.take (i + 1)) = rPut1 (rPuts t out (cs.take i)) (vComes t c) := by
  rw [take_next h, rPuts, List.foldl_append]; rfl

/-- What is kept, as the document says it: a version that began at this very time is left away. -/
def rKept (l : List Ver) (q : List Piece) (t : Int) : List Ver := (l.map (vCut q t)).filter (fun v => decide (v.sl < v.sh))
theorem rKept_eq {l : List Ver} {q : List Piece} {t : Int} (h : ∀ v ∈ l, v.sl < v.sh) : rKept l q t = (vKept l q t).map (vCut q t) := by
  unfold rKept vKept
  rw [List.filter_map]
  congr 1
  refine List.filter_congr fun v hv => ?_
  have := h v hv
  simp only [Function.comp]
  unfold vCut
  cases vEnds q v with
  | true => simp
  | false => simp [this]
theorem rKept_next {l : List Ver} {q : List Piece} {t : Int} {i : Nat} {v : Ver} (h : l[i]? = some v) : rKept (l.take (i + 1)) q t = rKept (l.take i) q t ++ if (vCut q t v).sl < (vCut q t v).sh then [vCut q t v] else [] := by
  unfold rKept
  rw [take_next h, List.map_append, List.filter_append, List.map_singleton]
  congr 1
  simp only [List.filter_cons, List.filter_nil, decide_eq_true_eq]
theorem rKept_length (l : List Ver) (q : List Piece) (t : Int) : (rKept l q t).length ≤ l.length := by
  unfold rKept
  exact Nat.le_trans (List.length_filter_le _ _) (by simp)

set_option maxRecDepth 8000 in
set_option maxHeartbeats 8000000 in
theorem Try.rPutV (l : List Ver) (v : Ver) (hn : l.length ≤ 1048576) : PureOK Try.prog 61 [pD (encVers l), pA v.enc] (.one (.d (encVers (rPut1 l v)))) := by
  refine Try.pure (md := []) Try.func61 rfl Try.call61 (by kernel_rfl) (by rfl) (by exact Nat.le_of_ble_eq_true rfl) ?_
  repeat' (first
    | with_reducible refine VC_seq fun K hK => ?_
    | with_reducible refine W_region ?_
    | with_reducible refine VC_block ?_
    | with_reducible refine VC_scope ?_
    | with_reducible refine VC_if ?_
    | with_reducible refine VC_skip ?_
    | with_reducible refine VC_exit ?_
    | with_reducible refine VC_ret ?_
    | (with_reducible refine G_not (fun h => ?_) (fun h => ?_) <;> (try simp only [h]))
    | (with_reducible refine G_cases (fun h => ?_) (fun h => ?_) <;> (try simp only [h]))
    | (with_reducible refine hK _ ?_; clear hK K)
    | (clear hK K; with_reducible refine hK _ ?_; clear hK K)
    | (clear hK K; clear hK K; with_reducible refine hK _ ?_; clear hK K)
    | (clear hK K; clear hK K; clear hK K; with_reducible refine hK _ ?_; clear hK K)
    | (with_reducible refine todo ?_; simp +decide only [go_sem]))
  refine VC_range l.length (fun i => (l.take i).all (fun w => !ahead' v w) = true) (fun i => frame [(0, pD (encVers l)), (3, .c (.ptr 3 0)), (5, .c (.own (26, 0) ((l.take i).map Ver.enc))), (6, pD (.lit (.int .i64 i)))]
    [(3, [.d (.lit (.int .i64 v.sl)), .d (.lit (.int .i64 v.sh)), .d (.lit (.int .i64 v.p.lo)), .d (.lit (.int .i64 v.p.hi)), .d (encRow v.p.row)])] [((26, 0), .co 5 (l.take i).length)]) rfl ?_ ?_
  · refine Weak_frame ?_ ?_ ?_ <;> simp +decide only [go_sem]
    exact ⟨wkP_ptr (by simp [hOf]), wkP_new rfl rfl⟩
  · intro i hi hI
    have htl : (l.take i).length = i := by rw [List.length_take]; omega
    have hq2 : List.take (l.length - i) ((l.drop i).map Ver.enc) = (l.drop i).map Ver.enc := List.take_of_length_le (by simp)
    have hend : (∀ y, l[i]? = some y → (!ahead' v y) = false) → rPut1 l v = l.take i ++ [v] ++ l.drop i := fun h => by
      obtain ⟨e1, e2⟩ := while_stop hI h
      rw [rPut1, e1, e2]
      simp
    rcases Nat.lt_or_ge i l.length with hlt | hge
    · have hg := List.getElem?_eq_getElem hlt
      have hd := int_lt_true hlt
      have hwi := int_next hlt (show l.length ≤ 4294967296 by omega)
      generalize l[i] = x at hg
      have ka := Try.rAheadV v x
      have hnx := take_next hg
      cases hA : ahead' v x with
      | false =>
        rw [hA] at ka
        repeat' (first
          | with_reducible refine VC_seq fun K hK => ?_
          | with_reducible refine W_region ?_
          | with_reducible refine VC_block ?_
          | with_reducible refine VC_scope ?_
          | with_reducible refine VC_if ?_
          | with_reducible refine VC_skip ?_
          | with_reducible refine VC_exit ?_
          | with_reducible refine VC_ret ?_
          | (with_reducible refine G_not (fun h => ?_) (fun h => ?_) <;> (try simp only [h]))
          | (with_reducible refine G_cases (fun h => ?_) (fun h => ?_) <;> (try simp only [h]))
          | refine C_pure ka rfl rfl (fun _ => rfl) ?_
          | (refine W_own Try.appRefV rfl (szVers _) (szOne rfl) (by simp; omega) (by simp [aOf]) ?_)
          | (with_reducible refine hK _ ?_; clear hK K)
          | (clear hK K; with_reducible refine hK _ ?_; clear hK K)
          | (clear hK K; clear hK K; with_reducible refine hK _ ?_; clear hK K)
          | (clear hK K; clear hK K; clear hK K; with_reducible refine hK _ ?_; clear hK K)
          | (with_reducible refine todo ?_; simp +decide only [go_sem, hg, hd, hwi]))
        refine Next_of hlt (all_take hI hg (by rw [hA]; rfl)) (Weak_frame ?_ ?_ ?_) <;> simp +decide only [go_sem, hnx]
        exact ⟨wkP_ptr (by simp [hOf]), wkP_own (by simp [aOf]) (by simp [aOf, upd])⟩
      | true =>
        rw [hA] at ka
        repeat' (first
          | with_reducible refine VC_seq fun K hK => ?_
          | with_reducible refine W_region ?_
          | with_reducible refine VC_block ?_
          | with_reducible refine VC_scope ?_
          | with_reducible refine VC_if ?_
          | with_reducible refine VC_skip ?_
          | with_reducible refine VC_exit ?_
          | with_reducible refine VC_ret ?_
          | (with_reducible refine G_not (fun h => ?_) (fun h => ?_) <;> (try simp only [h]))
          | (with_reducible refine G_cases (fun h => ?_) (fun h => ?_) <;> (try simp only [h]))
          | refine C_pure ka rfl rfl (fun _ => rfl) ?_
          | (refine W_own Try.appRefV rfl (szVers _) (szOne rfl) (by simp; omega) (by simp [aOf]) ?_)
          | (refine W_own Try.appRefV rfl (szApp (szVers _) (szOne rfl)) (szVers _) (by simp; omega) (by simp +decide only [go_sem]) ?_)
          | refine W_slc Try.appRefV rfl (l := i) (h := l.length) (by simp [optNat, natOf?, intOf?]) (by simp [optNat]) (by omega) (by simp) (szVers _) ?_
          | (with_reducible refine hK _ ?_; clear hK K)
          | (clear hK K; with_reducible refine hK _ ?_; clear hK K)
          | (clear hK K; clear hK K; with_reducible refine hK _ ?_; clear hK K)
          | (clear hK K; clear hK K; clear hK K; with_reducible refine hK _ ?_; clear hK K)
          | (with_reducible refine todo ?_; simp +decide only [go_sem, hg, hd, ← List.map_drop, hq2]))
        rw [hend (fun y hy => by rw [hg] at hy; cases hy; rw [hA]; rfl)]
        refine Ret_d rfl ?_
        simp +decide only [go_sem, List.append_assoc]
    · have hd := int_lt_false hge
      repeat' (first
        | with_reducible refine VC_seq fun K hK => ?_
        | with_reducible refine W_region ?_
        | with_reducible refine VC_block ?_
        | with_reducible refine VC_scope ?_
        | with_reducible refine VC_if ?_
        | with_reducible refine VC_skip ?_
        | with_reducible refine VC_exit ?_
        | with_reducible refine VC_ret ?_
        | (with_reducible refine G_not (fun h => ?_) (fun h => ?_) <;> (try simp only [h]))
        | (with_reducible refine G_cases (fun h => ?_) (fun h => ?_) <;> (try simp only [h]))
        | (refine W_own Try.appRefV rfl (szVers _) (szOne rfl) (by simp; omega) (by simp [aOf]) ?_)
        | (refine W_own Try.appRefV rfl (szApp (szVers _) (szOne rfl)) (szVers _) (by simp; omega) (by simp +decide only [go_sem]) ?_)
        | refine W_slc Try.appRefV rfl (l := i) (h := l.length) (by simp [optNat, natOf?, intOf?]) (by simp [optNat]) (by omega) (by simp) (szVers _) ?_
        | (with_reducible refine hK _ ?_; clear hK K)
        | (clear hK K; with_reducible refine hK _ ?_; clear hK K)
        | (clear hK K; clear hK K; with_reducible refine hK _ ?_; clear hK K)
        | (clear hK K; clear hK K; clear hK K; with_reducible refine hK _ ?_; clear hK K)
        | (with_reducible refine todo ?_; simp +decide only [go_sem, hd, ← List.map_drop, hq2]))
      rw [hend (fun y hy => by rw [List.getElem?_eq_none hge] at hy; cases hy)]
      refine Ret_d rfl ?_
      simp +decide only [go_sem, List.append_assoc]

set_option maxRecDepth 8000 in
set_option maxHeartbeats 16000000 in
theorem Try.rSetV (l : List Ver) (t : Int) (p : List Piece) (hn : l.length ≤ 131072) (hr : ∀ v ∈ l, v.p.row.length ≤ 1048576) (hok : rowsOKV l) (hn' : p.length ≤ 131072) (hr' : ∀ x ∈ p, x.row.length ≤ 1048576) (hok' : rowsOK p) :
    PureOK Try.prog 26 [pD (encVers l), pD (.lit (.int .i64 t)), pD (encPieces p)] (.tup [.d (encVers (vSet l t p)), .d (.lit (.int .i64 (if vSetOK l t p = true then 0 else 1)))]) := by
  refine Try.pure (md := []) Try.func26 rfl Try.call26 (by kernel_rfl) (by rfl) (by exact Nat.le_of_ble_eq_true rfl) ?_
  have kr := Try.rRightV l (by omega) hr hok
  have kp := Try.rRight p (by omega) hr' hok'
  have kl := Try.rLastV l (by omega) hr hok
  have e : vSet l t p = if vSetOK l t p = true then vSetOf l t p else [] := rfl
  have e1 : vSetOK l t p = (((vRight l && right p) && !decide (t < vLast l)) && !decide (1099511627776 ≤ t)) := rfl
  cases hR : vRight l with
  | false =>
    rw [hR] at kr e1
    repeat' (first
      | with_reducible refine VC_seq fun K hK => ?_
      | with_reducible refine W_region ?_
      | with_reducible refine VC_block ?_
      | with_reducible refine VC_scope ?_
      | with_reducible refine VC_if ?_
      | with_reducible refine VC_skip ?_
      | with_reducible refine VC_exit ?_
      | with_reducible refine VC_ret ?_
      | (with_reducible refine G_not (fun h => ?_) (fun h => ?_) <;> (try simp only [h]))
      | (with_reducible refine G_cases (fun h => ?_) (fun h => ?_) <;> (try simp only [h]))
      | refine C_pure kr rfl rfl (fun _ => rfl) ?_
      | (with_reducible refine hK _ ?_; clear hK K)
      | (clear hK K; with_reducible refine hK _ ?_; clear hK K)
      | (clear hK K; clear hK K; with_reducible refine hK _ ?_; clear hK K)
      | (clear hK K; clear hK K; clear hK K; with_reducible refine hK _ ?_; clear hK K)
      | (with_reducible refine todo ?_; simp +decide only [go_sem]))
    rw [e, show vSetOK l t p = false from e1]
    exact Ret_two none rfl (.inl rfl) (.inl rfl)
  | true =>
    rw [hR] at kr e1
    cases hP : right p with
    | false =>
      rw [hP] at kp e1
      repeat' (first
        | with_reducible refine VC_seq fun K hK => ?_
        | with_reducible refine W_region ?_
        | with_reducible refine VC_block ?_
        | with_reducible refine VC_scope ?_
        | with_reducible refine VC_if ?_
        | with_reducible refine VC_skip ?_
        | with_reducible refine VC_exit ?_
        | with_reducible refine VC_ret ?_
        | (with_reducible refine G_not (fun h => ?_) (fun h => ?_) <;> (try simp only [h]))
        | (with_reducible refine G_cases (fun h => ?_) (fun h => ?_) <;> (try simp only [h]))
        | refine C_pure kr rfl rfl (fun _ => rfl) ?_
        | refine C_pure kp rfl rfl (fun _ => rfl) ?_
        | (with_reducible refine hK _ ?_; clear hK K)
        | (clear hK K; with_reducible refine hK _ ?_; clear hK K)
        | (clear hK K; clear hK K; with_reducible refine hK _ ?_; clear hK K)
        | (clear hK K; clear hK K; clear hK K; with_reducible refine hK _ ?_; clear hK K)
        | (with_reducible refine todo ?_; simp +decide only [go_sem]))
      rw [e, show vSetOK l t p = false from e1]
      exact Ret_two none rfl (.inl rfl) (.inl rfl)
    | true =>
      rw [hP] at kp e1
      cases hL : decide (t < vLast l) with
      | true =>
        rw [hL] at e1
        repeat' (first
          | with_reducible refine VC_seq fun K hK => ?_
          | with_reducible refine W_region ?_
          | with_reducible refine VC_block ?_
          | with_reducible refine VC_scope ?_
          | with_reducible refine VC_if ?_
          | with_reducible refine VC_skip ?_
          | with_reducible refine VC_exit ?_
          | with_reducible refine VC_ret ?_
          | (with_reducible refine G_not (fun h => ?_) (fun h => ?_) <;> (try simp only [h]))
          | (with_reducible refine G_cases (fun h => ?_) (fun h => ?_) <;> (try simp only [h]))
          | refine C_pure kr rfl rfl (fun _ => rfl) ?_
          | refine C_pure kp rfl rfl (fun _ => rfl) ?_
          | refine C_pure kl rfl rfl (fun _ => rfl) ?_
          | (with_reducible refine hK _ ?_; clear hK K)
          | (clear hK K; with_reducible refine hK _ ?_; clear hK K)
          | (clear hK K; clear hK K; with_reducible refine hK _ ?_; clear hK K)
          | (clear hK K; clear hK K; clear hK K; with_reducible refine hK _ ?_; clear hK K)
          | (with_reducible refine todo ?_; simp +decide only [go_sem, hL]))
        rw [e, show vSetOK l t p = false from e1]
        exact Ret_two none rfl (.inl rfl) (.inl rfl)
      | false =>
        rw [hL] at e1
        cases hM : decide (1099511627776 ≤ t) with
        | true =>
          rw [hM] at e1
          repeat' (first
            | with_reducible refine VC_seq fun K hK => ?_
            | with_reducible refine W_region ?_
            | with_reducible refine VC_block ?_
            | with_reducible refine VC_scope ?_
            | with_reducible refine VC_if ?_
            | with_reducible refine VC_skip ?_
            | with_reducible refine VC_exit ?_
            | with_reducible refine VC_ret ?_
            | (with_reducible refine G_not (fun h => ?_) (fun h => ?_) <;> (try simp only [h]))
            | (with_reducible refine G_cases (fun h => ?_) (fun h => ?_) <;> (try simp only [h]))
            | refine C_pure kr rfl rfl (fun _ => rfl) ?_
            | refine C_pure kp rfl rfl (fun _ => rfl) ?_
            | refine C_pure kl rfl rfl (fun _ => rfl) ?_
            | (with_reducible refine hK _ ?_; clear hK K)
            | (clear hK K; with_reducible refine hK _ ?_; clear hK K)
            | (clear hK K; clear hK K; with_reducible refine hK _ ?_; clear hK K)
            | (clear hK K; clear hK K; clear hK K; with_reducible refine hK _ ?_; clear hK K)
            | (with_reducible refine todo ?_; simp +decide only [go_sem, hL, hM]))
          rw [e, show vSetOK l t p = false from e1]
          exact Ret_two none rfl (.inl rfl) (.inl rfl)
        | false =>
          rw [hM] at e1
          have e1 : vSetOK l t p = true := e1
          have hS := sets_iff.1 e1
          have hps := rPuts_eq hS
          rw [e, e1, if_pos rfl, if_pos rfl, ← hps]
          have hpos : ∀ v ∈ l, v.sl < v.sh := fun v hv => ((vRight_iff.1 hR).1 v hv).1.2.1
          rw [← rKept_eq hpos]
          have ka := Try.rAtV l 1099511627775 hn hr hok
          have hol : ∀ x ∈ vAt l 1099511627775, x.row.length ≤ 1048576 := fun x hx => by obtain ⟨v, hv, e⟩ := vAt_mem hx; rw [e]; exact hr v hv
          have hoo := rowsOK_at hok 1099511627775
          have hoL := vAt_length l 1099511627775
          have hdf := diff_eq (vAt_right l 1099511627775) hS.hp
          have hcl : (come l p).length ≤ p.length := without_length _ _
          have hgl : (gone l p).length ≤ l.length := Nat.le_trans (without_length _ _) hoL
          have hgr : ∀ x ∈ gone l p, x.row.length ≤ 1048576 := fun x hx => hol x (without_mem.1 hx).1
          have kd := Try.rDiff (vAt l 1099511627775) p (by omega) hol hoo (by omega) hr' hok'
          rw [hdf] at kd
          change PureOK _ _ _ (.tup [.d (encPieces (gone l p)), .d (encPieces (come l p))]) at kd
          generalize vAt l 1099511627775 = old at *
          generalize gone l p = goes at *
          generalize come l p = comes at *
          repeat' (first
            | with_reducible refine VC_seq fun K hK => ?_
            | with_reducible refine W_region ?_
            | with_reducible refine VC_block ?_
            | with_reducible refine VC_scope ?_
            | with_reducible refine VC_if ?_
            | with_reducible refine VC_skip ?_
            | with_reducible refine VC_exit ?_
            | with_reducible refine VC_ret ?_
            | (with_reducible refine G_not (fun h => ?_) (fun h => ?_) <;> (try simp only [h]))
            | (with_reducible refine G_cases (fun h => ?_) (fun h => ?_) <;> (try simp only [h]))
            | refine C_pure kr rfl rfl (fun _ => rfl) ?_
            | refine C_pure kp rfl rfl (fun _ => rfl) ?_
            | refine C_pure kl rfl rfl (fun _ => rfl) ?_
            | refine C_pure ka rfl rfl (fun _ => rfl) ?_
            | refine C_pure kd rfl rfl (fun _ => rfl) ?_
            | (with_reducible refine hK _ ?_; clear hK K)
            | (clear hK K; with_reducible refine hK _ ?_; clear hK K)
            | (clear hK K; clear hK K; with_reducible refine hK _ ?_; clear hK K)
            | (clear hK K; clear hK K; clear hK K; with_reducible refine hK _ ?_; clear hK K)
            | (with_reducible refine todo ?_; simp +decide only [go_sem, hL, hM]))
          refine VC_range l.length (fun _ => True) (fun i => frame [(0, pD (encVers l)), (1, pD (.lit (.int .i64 t))), (8, .c (.own (72, 0) ((rKept (l.take i) goes t).map Ver.enc))), (9, pD (encPieces goes)), (10, pD (encPieces comes)), (11, pD (.lit (.int .i64 i)))] [] [((72, 0), .co 5 (rKept (l.take i) goes t).length)]) True.intro ?_ ?_
          · have e0 : rKept (l.take 0) goes t = [] := rfl
            rw [e0]
            refine Weak_frame ?_ ?_ ?_ <;> simp +decide only [go_sem]
            exact wkP_new rfl rfl
          · intro i hi hI
            rcases Nat.lt_or_ge i l.length with hlt | hge
            · have hg := List.getElem?_eq_getElem hlt
              have hd := int_lt_true hlt
              have hwi := int_next hlt (show l.length ≤ 4294967296 by omega)
              generalize l[i] = x at hg
              have hnx := rKept_next (q := goes) (t := t) hg
              have hkl := rKept_length (l.take i) goes t
              rw [List.length_take] at hkl
              generalize rKept (l.take i) goes t = out at *
              have kam := Try.rAmongV goes x.p (by omega) hgr
              have hxp := hpos x (List.mem_of_getElem? hg)
              have hve : vEnds goes x = ((x.sh == 1099511627776) && isIn goes x.p) := rfl
              have hcut : vCut goes t x = if vEnds goes x = true then { x with sh := t } else x := rfl
              cases ho : (x.sh == 1099511627776) with
              | false =>
                rw [ho] at hve
                rw [show vCut goes t x = x by rw [hcut, show vEnds goes x = false from hve]; rfl, if_pos hxp] at hnx
                have hsl : (x.sl < x.sh) = True := eq_true hxp
                repeat' (first
                  | with_reducible refine VC_seq fun K hK => ?_
                  | with_reducible refine W_region ?_
                  | with_reducible refine VC_block ?_
                  | with_reducible refine VC_scope ?_
                  | with_reducible refine VC_if ?_
                  | with_reducible refine VC_skip ?_
                  | with_reducible refine VC_exit ?_
                  | with_reducible refine VC_ret ?_
                  | (with_reducible refine G_not (fun h => ?_) (fun h => ?_) <;> (try simp only [h]))
                  | (with_reducible refine G_cases (fun h => ?_) (fun h => ?_) <;> (try simp only [h]))
                  | (refine W_own Try.appRefV rfl (szVers _) (szOne rfl) (by simp; omega) (by simp; rfl) ?_)
                  | (with_reducible refine hK _ ?_; clear hK K)
                  | (clear hK K; with_reducible refine hK _ ?_; clear hK K)
                  | (clear hK K; clear hK K; with_reducible refine hK _ ?_; clear hK K)
                  | (clear hK K; clear hK K; clear hK K; with_reducible refine hK _ ?_; clear hK K)
                  | (with_reducible refine todo ?_; simp +decide only [go_sem, hg, hd, hwi, ho, hsl]))
                refine Next_of hlt True.intro (Weak_frame ?_ ?_ ?_) <;> simp +decide only [go_sem, hnx]
                exact wkP_own (by simp [aOf]) (by simp [aOf, upd])
              | true =>
                rw [ho] at hve
                cases hin : isIn goes x.p with
                | false =>
                  rw [hin] at hve kam
                  rw [show vCut goes t x = x by rw [hcut, show vEnds goes x = false from hve]; rfl, if_pos hxp] at hnx
                  have hsl : (x.sl < x.sh) = True := eq_true hxp
                  repeat' (first
                    | with_reducible refine VC_seq fun K hK => ?_
                    | with_reducible refine W_region ?_
                    | with_reducible refine VC_block ?_
                    | with_reducible refine VC_scope ?_
                    | with_reducible refine VC_if ?_
                    | with_reducible refine VC_skip ?_
                    | with_reducible refine VC_exit ?_
                    | with_reducible refine VC_ret ?_
                    | (with_reducible refine G_not (fun h => ?_) (fun h => ?_) <;> (try simp only [h]))
                    | (with_reducible refine G_cases (fun h => ?_) (fun h => ?_) <;> (try simp only [h]))
                    | refine C_pure kam rfl rfl (fun _ => rfl) ?_
                    | (refine W_own Try.appRefV rfl (szVers _) (szOne rfl) (by simp; omega) (by simp; rfl) ?_)
                    | (with_reducible refine hK _ ?_; clear hK K)
                    | (clear hK K; with_reducible refine hK _ ?_; clear hK K)
                    | (clear hK K; clear hK K; with_reducible refine hK _ ?_; clear hK K)
                    | (clear hK K; clear hK K; clear hK K; with_reducible refine hK _ ?_; clear hK K)
                    | (with_reducible refine todo ?_; simp +decide only [go_sem, hg, hd, hwi, ho, hsl]))
                  refine Next_of hlt True.intro (Weak_frame ?_ ?_ ?_) <;> simp +decide only [go_sem, hnx]
                  exact wkP_own (by simp [aOf]) (by simp [aOf, upd])
                | true =>
                  rw [hin] at hve kam
                  rw [show vCut goes t x = { x with sh := t } by rw [hcut, show vEnds goes x = true from hve]; rfl] at hnx
                  rcases Int.lt_or_le x.sl t with hst | hst
                  · have hsl : (x.sl < t) = True := eq_true hst
                    rw [if_pos hst] at hnx
                    repeat' (first
                      | with_reducible refine VC_seq fun K hK => ?_
                      | with_reducible refine W_region ?_
                      | with_reducible refine VC_block ?_
                      | with_reducible refine VC_scope ?_
                      | with_reducible refine VC_if ?_
                      | with_reducible refine VC_skip ?_
                      | with_reducible refine VC_exit ?_
                      | with_reducible refine VC_ret ?_
                      | (with_reducible refine G_not (fun h => ?_) (fun h => ?_) <;> (try simp only [h]))
                      | (with_reducible refine G_cases (fun h => ?_) (fun h => ?_) <;> (try simp only [h]))
                      | refine C_pure kam rfl rfl (fun _ => rfl) ?_
                      | (refine W_own Try.appRefV rfl (szVers _) (szOne rfl) (by simp; omega) (by simp; rfl) ?_)
                      | (with_reducible refine hK _ ?_; clear hK K)
                      | (clear hK K; with_reducible refine hK _ ?_; clear hK K)
                      | (clear hK K; clear hK K; with_reducible refine hK _ ?_; clear hK K)
                      | (clear hK K; clear hK K; clear hK K; with_reducible refine hK _ ?_; clear hK K)
                      | (with_reducible refine todo ?_; simp +decide only [go_sem, hg, hd, hwi, ho, hsl]))
                    refine Next_of hlt True.intro (Weak_frame ?_ ?_ ?_) <;> simp +decide only [go_sem, hnx]
                    exact wkP_own (by simp [aOf]) (by simp [aOf, upd])
                  · have hsl : (x.sl < t) = False := eq_false (by omega)
                    rw [if_neg (by show ¬ x.sl < t; omega), List.append_nil] at hnx
                    repeat' (first
                      | with_reducible refine VC_seq fun K hK => ?_
                      | with_reducible refine W_region ?_
                      | with_reducible refine VC_block ?_
                      | with_reducible refine VC_scope ?_
                      | with_reducible refine VC_if ?_
                      | with_reducible refine VC_skip ?_
                      | with_reducible refine VC_exit ?_
                      | with_reducible refine VC_ret ?_
                      | (with_reducible refine G_not (fun h => ?_) (fun h => ?_) <;> (try simp only [h]))
                      | (with_reducible refine G_cases (fun h => ?_) (fun h => ?_) <;> (try simp only [h]))
                      | refine C_pure kam rfl rfl (fun _ => rfl) ?_
                      | (with_reducible refine hK _ ?_; clear hK K)
                      | (clear hK K; with_reducible refine hK _ ?_; clear hK K)
                      | (clear hK K; clear hK K; with_reducible refine hK _ ?_; clear hK K)
                      | (clear hK K; clear hK K; clear hK K; with_reducible refine hK _ ?_; clear hK K)
                      | (with_reducible refine todo ?_; simp +decide only [go_sem, hg, hd, hwi, ho, hsl]))
                    refine Next_of hlt True.intro (Weak_frame ?_ ?_ ?_) <;> simp +decide only [go_sem, hnx]
                    exact wkP_own (by simp [aOf]) (by simp [aOf])
            · have hd := int_lt_false hge
              have hkl := rKept_length l goes t
              rw [List.take_of_length_le hge]
              generalize rKept l goes t = kept at *
              repeat' (first
                | with_reducible refine VC_seq fun K hK => ?_
                | with_reducible refine W_region ?_
                | with_reducible refine VC_block ?_
                | with_reducible refine VC_scope ?_
                | with_reducible refine VC_if ?_
                | with_reducible refine VC_skip ?_
                | with_reducible refine VC_exit ?_
                | with_reducible refine VC_ret ?_
                | (with_reducible refine G_not (fun h => ?_) (fun h => ?_) <;> (try simp only [h]))
                | (with_reducible refine G_cases (fun h => ?_) (fun h => ?_) <;> (try simp only [h]))
                | (with_reducible refine hK _ ?_; clear hK K)
                | (clear hK K; with_reducible refine hK _ ?_; clear hK K)
                | (clear hK K; clear hK K; with_reducible refine hK _ ?_; clear hK K)
                | (clear hK K; clear hK K; clear hK K; with_reducible refine hK _ ?_; clear hK K)
                | (with_reducible refine todo ?_; simp +decide only [go_sem, hd]))
              refine VC_range comes.length (fun _ => True) (fun j => frame [(1, pD (.lit (.int .i64 t))), (8, pD (encVers (rPuts t kept (comes.take j)))), (10, pD (encPieces comes)), (13, pD (.lit (.int .i64 j)))] [] []) True.intro ?_ ?_
              · have e0 : rPuts t kept (comes.take 0) = kept := rfl
                rw [e0]
                refine Weak_frame ?_ ?_ ?_ <;> simp +decide only [go_sem]
              · intro j hj hJ
                rcases Nat.lt_or_ge j comes.length with hjt | hjge
                · have hgj := List.getElem?_eq_getElem hjt
                  have hdj := int_lt_true hjt
                  have hwj := int_next hjt (show comes.length ≤ 4294967296 by omega)
                  generalize comes[j] = c at hgj
                  have hnx := rPuts_next (t := t) (out := kept) hgj
                  have hol : (rPuts t kept (comes.take j)).length ≤ 262144 := by rw [rPuts_length, List.length_take]; omega
                  generalize rPuts t kept (comes.take j) = out at *
                  have kpu := Try.rPutV out (vComes t c) (by omega)
                  repeat' (first
                    | with_reducible refine VC_seq fun K hK => ?_
                    | with_reducible refine W_region ?_
                    | with_reducible refine VC_block ?_
                    | with_reducible refine VC_scope ?_
                    | with_reducible refine VC_if ?_
                    | with_reducible refine VC_skip ?_
                    | with_reducible refine VC_exit ?_
                    | with_reducible refine VC_ret ?_
                    | (with_reducible refine G_not (fun h => ?_) (fun h => ?_) <;> (try simp only [h]))
                    | (with_reducible refine G_cases (fun h => ?_) (fun h => ?_) <;> (try simp only [h]))
                    | refine C_pure kpu rfl rfl (fun _ => rfl) ?_
                    | (with_reducible refine hK _ ?_; clear hK K)
                    | (clear hK K; with_reducible refine hK _ ?_; clear hK K)
                    | (clear hK K; clear hK K; with_reducible refine hK _ ?_; clear hK K)
                    | (clear hK K; clear hK K; clear hK K; with_reducible refine hK _ ?_; clear hK K)
                    | (with_reducible refine todo ?_; simp +decide only [go_sem, hgj, hdj, hwj]))
                  refine Next_of hjt True.intro (Weak_frame ?_ ?_ ?_) <;> simp +decide only [go_sem, hnx]
                · have hdj := int_lt_false hjge
                  rw [List.take_of_length_le hjge]
                  repeat' (first
                    | with_reducible refine VC_seq fun K hK => ?_
                    | with_reducible refine W_region ?_
                    | with_reducible refine VC_block ?_
                    | with_reducible refine VC_scope ?_
                    | with_reducible refine VC_if ?_
                    | with_reducible refine VC_skip ?_
                    | with_reducible refine VC_exit ?_
                    | with_reducible refine VC_ret ?_
                    | (with_reducible refine G_not (fun h => ?_) (fun h => ?_) <;> (try simp only [h]))
                    | (with_reducible refine G_cases (fun h => ?_) (fun h => ?_) <;> (try simp only [h]))
                    | (with_reducible refine hK _ ?_; clear hK K)
                    | (clear hK K; with_reducible refine hK _ ?_; clear hK K)
                    | (clear hK K; clear hK K; with_reducible refine hK _ ?_; clear hK K)
                    | (clear hK K; clear hK K; clear hK K; with_reducible refine hK _ ?_; clear hK K)
                    | (with_reducible refine todo ?_; simp +decide only [go_sem, hdj]))
                  exact Ret_two none rfl (.inl rfl) (.inl rfl)
end Go.Proofs
