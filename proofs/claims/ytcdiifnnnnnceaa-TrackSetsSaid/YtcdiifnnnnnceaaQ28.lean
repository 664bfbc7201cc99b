import Derived.Test.YtcdiifnnnnnceaaQ27

/-
  The law's own functions on versions: light, Pieces, Plain, states; the document's ahead.
-/

namespace Go.Proofs
open Go.PW

theorem Try.appRefV : AppT Try.prog 25 83 5 56 := ⟨Try.underlying25, Try.cl83, Try.by83, Try.zo83, by decide, by decide⟩
theorem Try.appRefS : AppT Try.prog 53 102 3 40 := ⟨Try.underlying53, Try.cl102, Try.by102, Try.zo102, by decide, by decide⟩
theorem szSts (l : List TSt) : Szd 3 (l.map TSt.enc) := fun e he => by
  obtain ⟨p, _, rfl⟩ := List.mem_map.1 he
  rfl

set_option maxRecDepth 8000 in
set_option maxHeartbeats 4000000 in
theorem Try.kPieces (ps : List Piece) (hn : ps.length ≤ 1048576) : PureOK Try.prog 15 [pD (encPieces ps)] (.one (.d (encPieces ps))) := by
  refine Try.pure (md := []) Try.func15 rfl Try.call15 (by kernel_rfl) (by rfl) (by exact Nat.le_of_ble_eq_true rfl) ?_
  repeat' (first
    | with_reducible refine VC_seq fun K hK => ?_
    | with_reducible refine W_region ?_
    | with_reducible refine VC_block ?_
    | with_reducible refine VC_scope ?_
    | with_reducible refine VC_if ?_
    | with_reducible refine VC_skip ?_
    | with_reducible refine VC_exit ?_
    | with_reducible refine VC_ret ?_
    | (with_reducible refine G_not (fun h => ?_) (fun h => ?_) <;> (try simp only [h]))
    | (with_reducible refine G_cases (fun h => ?_) (fun h => ?_) <;> (try simp only [h]))
    | (with_reducible refine hK _ ?_; clear hK K)
    | (clear hK K; with_reducible refine hK _ ?_; clear hK K)
    | (clear hK K; clear hK K; with_reducible refine hK _ ?_; clear hK K)
    | (clear hK K; clear hK K; clear hK K; with_reducible refine hK _ ?_; clear hK K)
    | (with_reducible refine todo ?_; simp +decide only [go_sem]))
  refine VC_range ps.length (fun _ => True) (fun i => frame [(0, pD (encPieces ps)), (4, pD (.lit (.int .i64 i))), (3, .c (.own (24, 0) ((ps.take i).map Piece.enc)))] [] [((24, 0), .co 3 (ps.take i).length)]) True.intro ?_ ?_
  · refine Weak_frame ?_ ?_ ?_ <;> simp +decide only [go_sem]
    exact wkP_new rfl rfl
  · intro i hi hI
    rcases Nat.lt_or_ge i ps.length with hlt | hge
    · have hg := List.getElem?_eq_getElem hlt
      have hd := int_lt_true hlt
      have hw := int_next hlt (show ps.length ≤ 4294967296 by omega)
      generalize ps[i] = x at hg
      have htk := take_next hg
      have hl : (ps.take i).length = i := by rw [List.length_take]; omega
      repeat' (first
        | with_reducible refine VC_seq fun K hK => ?_
        | with_reducible refine W_region ?_
        | with_reducible refine VC_block ?_
        | with_reducible refine VC_scope ?_
        | with_reducible refine VC_if ?_
        | with_reducible refine VC_skip ?_
        | with_reducible refine VC_exit ?_
        | with_reducible refine VC_ret ?_
        | (with_reducible refine G_not (fun h => ?_) (fun h => ?_) <;> (try simp only [h]))
        | (with_reducible refine G_cases (fun h => ?_) (fun h => ?_) <;> (try simp only [h]))
        | (refine W_own Try.appRef rfl (szPieces _) (szOne rfl) (by simp; omega) (by simp; rfl) ?_)
        | (with_reducible refine hK _ ?_; clear hK K)
        | (clear hK K; with_reducible refine hK _ ?_; clear hK K)
        | (clear hK K; clear hK K; with_reducible refine hK _ ?_; clear hK K)
        | (clear hK K; clear hK K; clear hK K; with_reducible refine hK _ ?_; clear hK K)
        | (with_reducible refine todo ?_; simp +decide only [go_sem, hg, hd, hw]))
      refine Next_of hlt True.intro (Weak_frame ?_ ?_ ?_) <;> simp +decide only [go_sem, htk]
      exact wkP_own (by simp [aOf]) rfl
    · have hd := int_lt_false hge
      rw [List.take_of_length_le hge]
      repeat' (first
        | with_reducible refine VC_seq fun K hK => ?_
        | with_reducible refine W_region ?_
        | with_reducible refine VC_block ?_
        | with_reducible refine VC_scope ?_
        | with_reducible refine VC_if ?_
        | with_reducible refine VC_skip ?_
        | with_reducible refine VC_exit ?_
        | with_reducible refine VC_ret ?_
        | (with_reducible refine G_not (fun h => ?_) (fun h => ?_) <;> (try simp only [h]))
        | (with_reducible refine G_cases (fun h => ?_) (fun h => ?_) <;> (try simp only [h]))
        | (with_reducible refine hK _ ?_; clear hK K)
        | (clear hK K; with_reducible refine hK _ ?_; clear hK K)
        | (clear hK K; clear hK K; with_reducible refine hK _ ?_; clear hK K)
        | (clear hK K; clear hK K; clear hK K; with_reducible refine hK _ ?_; clear hK K)
        | (with_reducible refine todo ?_; simp +decide only [go_sem, hd]))
      refine Ret_d rfl ?_
      simp +decide only [go_sem]

set_option maxRecDepth 8000 in
set_option maxHeartbeats 4000000 in
theorem Try.kPlainV (l : List Ver) (hn : l.length ≤ 1048576) : PureOK Try.prog 11 [pD (encVers l)] (.one (.d (encVers l))) := by
  refine Try.pure (md := []) Try.func11 rfl Try.call11 (by kernel_rfl) (by rfl) (by exact Nat.le_of_ble_eq_true rfl) ?_
  repeat' (first
    | with_reducible refine VC_seq fun K hK => ?_
    | with_reducible refine W_region ?_
    | with_reducible refine VC_block ?_
    | with_reducible refine VC_scope ?_
    | with_reducible refine VC_if ?_
    | with_reducible refine VC_skip ?_
    | with_reducible refine VC_exit ?_
    | with_reducible refine VC_ret ?_
    | (with_reducible refine G_not (fun h => ?_) (fun h => ?_) <;> (try simp only [h]))
    | (with_reducible refine G_cases (fun h => ?_) (fun h => ?_) <;> (try simp only [h]))
    | (with_reducible refine hK _ ?_; clear hK K)
    | (clear hK K; with_reducible refine hK _ ?_; clear hK K)
    | (clear hK K; clear hK K; with_reducible refine hK _ ?_; clear hK K)
    | (clear hK K; clear hK K; clear hK K; with_reducible refine hK _ ?_; clear hK K)
    | (with_reducible refine todo ?_; simp +decide only [go_sem]))
  refine VC_range l.length (fun _ => True) (fun i => frame [(0, pD (encVers l)), (4, pD (.lit (.int .i64 i))), (3, .c (.own (32, 0) ((l.take i).map Ver.enc)))] [] [((32, 0), .co 5 (l.take i).length)]) True.intro ?_ ?_
  · refine Weak_frame ?_ ?_ ?_ <;> simp +decide only [go_sem]
    exact wkP_new rfl rfl
  · intro i hi hI
    rcases Nat.lt_or_ge i l.length with hlt | hge
    · have hg := List.getElem?_eq_getElem hlt
      have hd := int_lt_true hlt
      have hw := int_next hlt (show l.length ≤ 4294967296 by omega)
      generalize l[i] = x at hg
      have htk := take_next hg
      have hl : (l.take i).length = i := by rw [List.length_take]; omega
      repeat' (first
        | with_reducible refine VC_seq fun K hK => ?_
        | with_reducible refine W_region ?_
        | with_reducible refine VC_block ?_
        | with_reducible refine VC_scope ?_
        | with_reducible refine VC_if ?_
        | with_reducible refine VC_skip ?_
        | with_reducible refine VC_exit ?_
        | with_reducible refine VC_ret ?_
        | (with_reducible refine G_not (fun h => ?_) (fun h => ?_) <;> (try simp only [h]))
        | (with_reducible refine G_cases (fun h => ?_) (fun h => ?_) <;> (try simp only [h]))
        | (refine W_own Try.appRefV rfl (szVers _) (szOne rfl) (by simp; omega) (by simp; rfl) ?_)
        | (with_reducible refine hK _ ?_; clear hK K)
        | (clear hK K; with_reducible refine hK _ ?_; clear hK K)
        | (clear hK K; clear hK K; with_reducible refine hK _ ?_; clear hK K)
        | (clear hK K; clear hK K; clear hK K; with_reducible refine hK _ ?_; clear hK K)
        | (with_reducible refine todo ?_; simp +decide only [go_sem, hg, hd, hw]))
      refine Next_of hlt True.intro (Weak_frame ?_ ?_ ?_) <;> simp +decide only [go_sem, htk]
      exact wkP_own (by simp [aOf]) rfl
    · have hd := int_lt_false hge
      rw [List.take_of_length_le hge]
      repeat' (first
        | with_reducible refine VC_seq fun K hK => ?_
        | with_reducible refine W_region ?_
        | with_reducible refine VC_block ?_
        | with_reducible refine VC_scope ?_
        | with_reducible refine VC_if ?_
        | with_reducible refine VC_skip ?_
        | with_reducible refine VC_exit ?_
        | with_reducible refine VC_ret ?_
        | (with_reducible refine G_not (fun h => ?_) (fun h => ?_) <;> (try simp only [h]))
        | (with_reducible refine G_cases (fun h => ?_) (fun h => ?_) <;> (try simp only [h]))
        | (with_reducible refine hK _ ?_; clear hK K)
        | (clear hK K; with_reducible refine hK _ ?_; clear hK K)
        | (clear hK K; clear hK K; with_reducible refine hK _ ?_; clear hK K)
        | (clear hK K; clear hK K; clear hK K; with_reducible refine hK _ ?_; clear hK K)
        | (with_reducible refine todo ?_; simp +decide only [go_sem, hd]))
      refine Ret_d rfl ?_
      simp +decide only [go_sem]

set_option maxRecDepth 8000 in
set_option maxHeartbeats 4000000 in
theorem Try.kStates (l : List TSt) (hn : l.length ≤ 1048576) (hp : ∀ w ∈ l, w.ps.length ≤ 1048576) : PureOK Try.prog 28 [pD (encSts l)] (.one (.d (encSts l))) := by
  refine Try.pure (md := []) Try.func28 rfl Try.call28 (by kernel_rfl) (by rfl) (by exact Nat.le_of_ble_eq_true rfl) ?_
  repeat' (first
    | with_reducible refine VC_seq fun K hK => ?_
    | with_reducible refine W_region ?_
    | with_reducible refine VC_block ?_
    | with_reducible refine VC_scope ?_
    | with_reducible refine VC_if ?_
    | with_reducible refine VC_skip ?_
    | with_reducible refine VC_exit ?_
    | with_reducible refine VC_ret ?_
    | (with_reducible refine G_not (fun h => ?_) (fun h => ?_) <;> (try simp only [h]))
    | (with_reducible refine G_cases (fun h => ?_) (fun h => ?_) <;> (try simp only [h]))
    | (with_reducible refine hK _ ?_; clear hK K)
    | (clear hK K; with_reducible refine hK _ ?_; clear hK K)
    | (clear hK K; clear hK K; with_reducible refine hK _ ?_; clear hK K)
    | (clear hK K; clear hK K; clear hK K; with_reducible refine hK _ ?_; clear hK K)
    | (with_reducible refine todo ?_; simp +decide only [go_sem]))
  refine VC_range l.length (fun _ => True) (fun i => frame [(0, pD (encSts l)), (4, pD (.lit (.int .i64 i))), (3, .c (.own (25, 0) ((l.take i).map TSt.enc)))] [] [((25, 0), .co 3 (l.take i).length)]) True.intro ?_ ?_
  · refine Weak_frame ?_ ?_ ?_ <;> simp +decide only [go_sem]
    exact wkP_new rfl rfl
  · intro i hi hI
    rcases Nat.lt_or_ge i l.length with hlt | hge
    · have hg := List.getElem?_eq_getElem hlt
      have hd := int_lt_true hlt
      have hw := int_next hlt (show l.length ≤ 4294967296 by omega)
      generalize l[i] = x at hg
      have htk := take_next hg
      have hl : (l.take i).length = i := by rw [List.length_take]; omega
      have kp := Try.kPieces x.ps (hp x (List.mem_of_getElem? hg))
      repeat' (first
        | with_reducible refine VC_seq fun K hK => ?_
        | with_reducible refine W_region ?_
        | with_reducible refine VC_block ?_
        | with_reducible refine VC_scope ?_
        | with_reducible refine VC_if ?_
        | with_reducible refine VC_skip ?_
        | with_reducible refine VC_exit ?_
        | with_reducible refine VC_ret ?_
        | (with_reducible refine G_not (fun h => ?_) (fun h => ?_) <;> (try simp only [h]))
        | (with_reducible refine G_cases (fun h => ?_) (fun h => ?_) <;> (try simp only [h]))
        | refine C_pure kp rfl rfl (fun _ => rfl) ?_
        | (refine W_own Try.appRefS rfl (szSts _) (szOne rfl) (by simp; omega) (by simp; rfl) ?_)
        | (with_reducible refine hK _ ?_; clear hK K)
        | (clear hK K; with_reducible refine hK _ ?_; clear hK K)
        | (clear hK K; clear hK K; with_reducible refine hK _ ?_; clear hK K)
        | (clear hK K; clear hK K; clear hK K; with_reducible refine hK _ ?_; clear hK K)
        | (with_reducible refine todo ?_; simp +decide only [go_sem, hg, hd, hw]))
      refine Next_of hlt True.intro (Weak_frame ?_ ?_ ?_) <;> simp +decide only [go_sem, htk]
      exact wkP_own (by simp [aOf]) rfl
    · have hd := int_lt_false hge
      rw [List.take_of_length_le hge]
      repeat' (first
        | with_reducible refine VC_seq fun K hK => ?_
        | with_reducible refine W_region ?_
        | with_reducible refine VC_block ?_
        | with_reducible refine VC_scope ?_
        | with_reducible refine VC_if ?_
        | with_reducible refine VC_skip ?_
        | with_reducible refine VC_exit ?_
        | with_reducible refine VC_ret ?_
        | (with_reducible refine G_not (fun h => ?_) (fun h => ?_) <;> (try simp only [h]))
        | (with_reducible refine G_cases (fun h => ?_) (fun h => ?_) <;> (try simp only [h]))
        | (with_reducible refine hK _ ?_; clear hK K)
        | (clear hK K; with_reducible refine hK _ ?_; clear hK K)
        | (clear hK K; clear hK K; with_reducible refine hK _ ?_; clear hK K)
        | (clear hK K; clear hK K; clear hK K; with_reducible refine hK _ ?_; clear hK K)
        | (with_reducible refine todo ?_; simp +decide only [go_sem, hd]))
      refine Ret_d rfl ?_
      simp +decide only [go_sem]

def shortV (v : Ver) : Bool := !decide ((20 : Int) < v.p.row.length)
def lightV (l : List Ver) : Bool := !decide ((30 : Int) < l.length) && l.all shortV

set_option maxRecDepth 8000 in
set_option maxHeartbeats 4000000 in
theorem Try.kLightV (l : List Ver) : PureOK Try.prog 9 [pD (encVers l)] (.one (dB (lightV l))) := by
  refine Try.pure (md := []) Try.func9 rfl Try.call9 (by kernel_rfl) (by rfl) (by exact Nat.le_of_ble_eq_true rfl) ?_
  repeat' (first
    | with_reducible refine VC_seq fun K hK => ?_
    | with_reducible refine W_region ?_
    | with_reducible refine VC_block ?_
    | with_reducible refine VC_scope ?_
    | with_reducible refine VC_if ?_
    | with_reducible refine VC_skip ?_
    | with_reducible refine VC_exit ?_
    | with_reducible refine VC_ret ?_
    | (with_reducible refine G_not (fun h => ?_) (fun h => ?_) <;> (try simp only [h]))
    | (with_reducible refine G_cases (fun h => ?_) (fun h => ?_) <;> (try simp only [h]))
    | (with_reducible refine hK _ ?_; clear hK K)
    | (clear hK K; with_reducible refine hK _ ?_; clear hK K)
    | (clear hK K; clear hK K; with_reducible refine hK _ ?_; clear hK K)
    | (clear hK K; clear hK K; clear hK K; with_reducible refine hK _ ?_; clear hK K)
    | (with_reducible refine todo ?_; simp +decide only [go_sem]))
  · refine Ret_d rfl ?_
    simp +decide only [go_sem, lightV, h]
  · have h40 : l.length ≤ 30 := by
      have : ¬ (30 : Int) < l.length := by simpa using h
      omega
    refine VC_range l.length (fun i => (l.take i).all shortV = true) (fun i => frame [(0, pD (encVers l)), (3, pD (.lit (.int .i64 i)))] [] []) rfl ?_ ?_
    · refine Weak_frame ?_ ?_ ?_ <;> simp +decide only [go_sem]
    · intro i hi hI
      rcases Nat.lt_or_ge i l.length with hlt | hge
      · have hg := List.getElem?_eq_getElem hlt
        have hd := int_lt_true hlt
        have hw := int_next hlt (show l.length ≤ 4294967296 by omega)
        generalize l[i] = x at hg
        repeat' (first
          | with_reducible refine VC_seq fun K hK => ?_
          | with_reducible refine W_region ?_
          | with_reducible refine VC_block ?_
          | with_reducible refine VC_scope ?_
          | with_reducible refine VC_if ?_
          | with_reducible refine VC_skip ?_
          | with_reducible refine VC_exit ?_
          | with_reducible refine VC_ret ?_
          | (with_reducible refine G_not (fun h => ?_) (fun h => ?_) <;> (try simp only [h]))
          | (with_reducible refine G_cases (fun h => ?_) (fun h => ?_) <;> (try simp only [h]))
          | (with_reducible refine hK _ ?_; clear hK K)
          | (clear hK K; with_reducible refine hK _ ?_; clear hK K)
          | (clear hK K; clear hK K; with_reducible refine hK _ ?_; clear hK K)
          | (clear hK K; clear hK K; clear hK K; with_reducible refine hK _ ?_; clear hK K)
          | (with_reducible refine todo ?_; simp +decide only [go_sem, hg, hd, hw]))
        · refine Ret_d rfl ?_
          have hf : shortV x = false := by unfold shortV; simpa using h
          simp +decide only [go_sem, lightV, all_not hg hf]
        · have hf : shortV x = true := by unfold shortV; simpa using h
          refine Next_of hlt (all_take hI hg hf) (Weak_frame ?_ ?_ ?_) <;> simp +decide only [go_sem]
      · have hd := int_lt_false hge
        rw [List.take_of_length_le hge] at hI
        repeat' (first
          | with_reducible refine VC_seq fun K hK => ?_
          | with_reducible refine W_region ?_
          | with_reducible refine VC_block ?_
          | with_reducible refine VC_scope ?_
          | with_reducible refine VC_if ?_
          | with_reducible refine VC_skip ?_
          | with_reducible refine VC_exit ?_
          | with_reducible refine VC_ret ?_
          | (with_reducible refine G_not (fun h => ?_) (fun h => ?_) <;> (try simp only [h]))
          | (with_reducible refine G_cases (fun h => ?_) (fun h => ?_) <;> (try simp only [h]))
          | (with_reducible refine hK _ ?_; clear hK K)
          | (clear hK K; with_reducible refine hK _ ?_; clear hK K)
          | (clear hK K; clear hK K; with_reducible refine hK _ ?_; clear hK K)
          | (clear hK K; clear hK K; clear hK K; with_reducible refine hK _ ?_; clear hK K)
          | (with_reducible refine todo ?_; simp +decide only [go_sem, hd]))
        refine Ret_d rfl ?_
        have : decide ((30 : Int) < l.length) = false := by simp; omega
        simp +decide only [go_sem, lightV, hI, this]

set_option maxRecDepth 8000 in
set_option maxHeartbeats 1000000 in
theorem Try.rAheadV (v w : Ver) : PureOK Try.prog 44 [pA v.enc, pA w.enc] (.one (dB (ahead' v w))) := by
  refine Try.pure (md := []) Try.func44 rfl Try.call44 (by kernel_rfl) (by rfl) (by exact Nat.le_of_ble_eq_true rfl) ?_
  cases h : (v.sl == w.sl) with
  | true =>
    have h2 : (v.sl != w.sl) = false := by rw [bne, h]; rfl
    repeat' (first
      | with_reducible refine VC_seq fun K hK => ?_
      | with_reducible refine W_region ?_
      | with_reducible refine VC_block ?_
      | with_reducible refine VC_scope ?_
      | with_reducible refine VC_if ?_
      | with_reducible refine VC_skip ?_
      | with_reducible refine VC_exit ?_
      | with_reducible refine VC_ret ?_
      | (with_reducible refine G_not (fun h => ?_) (fun h => ?_) <;> (try simp only [h]))
      | (with_reducible refine G_cases (fun h => ?_) (fun h => ?_) <;> (try simp only [h]))
      | (with_reducible refine hK _ ?_; clear hK K)
      | (clear hK K; with_reducible refine hK _ ?_; clear hK K)
      | (clear hK K; clear hK K; with_reducible refine hK _ ?_; clear hK K)
      | (clear hK K; clear hK K; clear hK K; with_reducible refine hK _ ?_; clear hK K)
      | (with_reducible refine todo ?_; simp +decide only [go_sem, h2]))
    refine Ret_d rfl ?_
    simp +decide only [go_sem, ahead', h]
  | false =>
    have h2 : (v.sl != w.sl) = true := by rw [bne, h]; rfl
    repeat' (first
      | with_reducible refine VC_seq fun K hK => ?_
      | with_reducible refine W_region ?_
      | with_reducible refine VC_block ?_
      | with_reducible refine VC_scope ?_
      | with_reducible refine VC_if ?_
      | with_reducible refine VC_skip ?_
      | with_reducible refine VC_exit ?_
      | with_reducible refine VC_ret ?_
      | (with_reducible refine G_not (fun h => ?_) (fun h => ?_) <;> (try simp only [h]))
      | (with_reducible refine G_cases (fun h => ?_) (fun h => ?_) <;> (try simp only [h]))
      | (with_reducible refine hK _ ?_; clear hK K)
      | (clear hK K; with_reducible refine hK _ ?_; clear hK K)
      | (clear hK K; clear hK K; with_reducible refine hK _ ?_; clear hK K)
      | (clear hK K; clear hK K; clear hK K; with_reducible refine hK _ ?_; clear hK K)
      | (with_reducible refine todo ?_; simp +decide only [go_sem, h2]))
    refine Ret_d rfl ?_
    simp +decide only [go_sem, ahead', h]
end Go.Proofs

/-
  The document's versions: Right, Last.
-/

namespace Go.Proofs
open Go.PW

/-- Versions' rows of right values. -/
def rowsOKV (l : List Ver) : Prop := ∀ v ∈ l, Row.ok' v.p.row

set_option maxRecDepth 8000 in
set_option maxHeartbeats 16000000 in
theorem Try.rRightV (l : List Ver) (hn : l.length ≤ 1048576) (hr : ∀ v ∈ l, v.p.row.length ≤ 1048576) (hok : rowsOKV l) : PureOK Try.prog 13 [pD (encVers l)] (.one (dB (vRight l))) := by
  refine Try.pure (md := []) Try.func13 rfl Try.call13 (by kernel_rfl) (by rfl) (by exact Nat.le_of_ble_eq_true rfl) ?_
  repeat' (first
    | with_reducible refine VC_seq fun K hK => ?_
    | with_reducible refine W_region ?_
    | with_reducible refine VC_block ?_
    | with_reducible refine VC_scope ?_
    | with_reducible refine VC_if ?_
    | with_reducible refine VC_skip ?_
    | with_reducible refine VC_exit ?_
    | with_reducible refine VC_ret ?_
    | (with_reducible refine G_not (fun h => ?_) (fun h => ?_) <;> (try simp only [h]))
    | (with_reducible refine G_cases (fun h => ?_) (fun h => ?_) <;> (try simp only [h]))
    | (with_reducible refine hK _ ?_; clear hK K)
    | (clear hK K; with_reducible refine hK _ ?_; clear hK K)
    | (clear hK K; clear hK K; with_reducible refine hK _ ?_; clear hK K)
    | (clear hK K; clear hK K; clear hK K; with_reducible refine hK _ ?_; clear hK K)
    | (with_reducible refine todo ?_; simp +decide only [go_sem]))
  refine VC_range l.length (fun i => vRight (l.take i) = true) (fun i => frame [(0, pD (encVers l)), (3, pD (.lit (.int .i64 i)))] [] []) rfl ?_ ?_
  · refine Weak_frame ?_ ?_ ?_ <;> simp +decide only [go_sem]
  · intro i hi hI
    rcases Nat.lt_or_ge i l.length with hlt | hge
    · have hg := List.getElem?_eq_getElem hlt
      have hd := int_lt_true hlt
      have hwi := int_next hlt (show l.length ≤ 4294967296 by omega)
      generalize l[i] = x at hg
      have hx := hr x (List.mem_of_getElem? hg)
      have hxo := hok x (List.mem_of_getElem? hg)
      have ks := Try.rSpanRight x.sl x.sh
      have kp := Try.rRight [x.p] (by simp) (fun p hp => by rw [List.mem_singleton.1 hp]; exact hx) (fun p hp => by rw [List.mem_singleton.1 hp]; exact hxo)
      have hnt := vRight_not hg
      have hnx := vRight_next hg hI
      have hlt1 : (l.take i).length = i := by rw [List.length_take]; omega
      cases hS : Span.right x.sl x.sh with
      | false =>
        rw [hS] at ks
        have hs : vStep (l.take i) x = false := by unfold vStep okV; rw [hS]; rfl
        repeat' (first
          | with_reducible refine VC_seq fun K hK => ?_
          | with_reducible refine W_region ?_
          | with_reducible refine VC_block ?_
          | with_reducible refine VC_scope ?_
          | with_reducible refine VC_if ?_
          | with_reducible refine VC_skip ?_
          | with_reducible refine VC_exit ?_
          | with_reducible refine VC_ret ?_
          | (with_reducible refine G_not (fun h => ?_) (fun h => ?_) <;> (try simp only [h]))
          | (with_reducible refine G_cases (fun h => ?_) (fun h => ?_) <;> (try simp only [h]))
          | refine C_pure ks rfl rfl (fun _ => rfl) ?_
          | (with_reducible refine hK _ ?_; clear hK K)
          | (clear hK K; with_reducible refine hK _ ?_; clear hK K)
          | (clear hK K; clear hK K; with_reducible refine hK _ ?_; clear hK K)
          | (clear hK K; clear hK K; clear hK K; with_reducible refine hK _ ?_; clear hK K)
          | (with_reducible refine todo ?_; simp +decide only [go_sem, hg, hd]))
        rw [hnt hs]
        exact Ret_d rfl rfl
      | true =>
        rw [hS] at ks
        cases hP : right [x.p] with
        | false =>
          rw [hP] at kp
          have hs : vStep (l.take i) x = false := by unfold vStep okV; rw [hS, hP]; rfl
          repeat' (first
            | with_reducible refine VC_seq fun K hK => ?_
            | with_reducible refine W_region ?_
            | with_reducible refine VC_block ?_
            | with_reducible refine VC_scope ?_
            | with_reducible refine VC_if ?_
            | with_reducible refine VC_skip ?_
            | with_reducible refine VC_exit ?_
            | with_reducible refine VC_ret ?_
            | (with_reducible refine G_not (fun h => ?_) (fun h => ?_) <;> (try simp only [h]))
            | (with_reducible refine G_cases (fun h => ?_) (fun h => ?_) <;> (try simp only [h]))
            | refine C_pure ks rfl rfl (fun _ => rfl) ?_
            | refine C_pure kp rfl rfl (fun _ => rfl) ?_
            | (with_reducible refine hK _ ?_; clear hK K)
            | (clear hK K; with_reducible refine hK _ ?_; clear hK K)
            | (clear hK K; clear hK K; with_reducible refine hK _ ?_; clear hK K)
            | (clear hK K; clear hK K; clear hK K; with_reducible refine hK _ ?_; clear hK K)
            | (with_reducible refine todo ?_; simp +decide only [go_sem, hg, hd]))
          rw [hnt hs]
          exact Ret_d rfl rfl
        | true =>
          rw [hP] at kp
          have hpre : okV x = true := by unfold okV; rw [hS, hP]; rfl
          repeat' (first
            | with_reducible refine VC_seq fun K hK => ?_
            | with_reducible refine W_region ?_
            | with_reducible refine VC_block ?_
            | with_reducible refine VC_scope ?_
            | with_reducible refine VC_if ?_
            | with_reducible refine VC_skip ?_
            | with_reducible refine VC_exit ?_
            | with_reducible refine VC_ret ?_
            | (with_reducible refine G_not (fun h => ?_) (fun h => ?_) <;> (try simp only [h]))
            | (with_reducible refine G_cases (fun h => ?_) (fun h => ?_) <;> (try simp only [h]))
            | refine C_pure ks rfl rfl (fun _ => rfl) ?_
            | refine C_pure kp rfl rfl (fun _ => rfl) ?_
            | (with_reducible refine hK _ ?_; clear hK K)
            | (clear hK K; with_reducible refine hK _ ?_; clear hK K)
            | (clear hK K; clear hK K; with_reducible refine hK _ ?_; clear hK K)
            | (clear hK K; clear hK K; clear hK K; with_reducible refine hK _ ?_; clear hK K)
            | (with_reducible refine todo ?_; simp +decide only [go_sem, hg, hd]))
          refine VC_range i (fun k => ((l.take i).take k).all (fun w => !clash x w) = true) (fun k => frame [(0, pD (encVers l)), (3, pD (.lit (.int .i64 i))), (4, pD (.lit (.int .i64 k)))] [] []) rfl ?_ ?_
          · refine Weak_frame ?_ ?_ ?_ <;> simp +decide only [go_sem]
          · intro k hk hJ
            rcases Nat.lt_or_ge k i with hlt2 | hge2
            · have hg3 := List.getElem?_eq_getElem (show k < l.length by omega)
              have hg2 : (l.take i)[k]? = some l[k] := by rw [List.getElem?_take, if_pos hlt2]; exact hg3
              generalize l[k] = w at hg2 hg3
              have hd2 := int_lt_true hlt2
              have hw2 := int_next hlt2 (show i ≤ 4294967296 by omega)
              have k1 := Try.rMeet (x.sl, x.sh) (w.sl, w.sh)
              have k2 := Try.rMeet (x.p.lo, x.p.hi) (w.p.lo, w.p.hi)
              have ec : clash x w = ((meet (x.sl, x.sh) (w.sl, w.sh)).isSome && (meet (x.p.lo, x.p.hi) (w.p.lo, w.p.hi)).isSome) := rfl
              have hclash : clash x w = true → vRight l = false := fun hc => hnt (by
                unfold vStep
                rw [all_not (f := fun w => !clash x w) hg2 (by simp [hc]), Bool.and_false])
              cases h1 : meet (x.sl, x.sh) (w.sl, w.sh) with
              | none =>
                rw [h1] at k1 ec
                cases h2 : meet (x.p.lo, x.p.hi) (w.p.lo, w.p.hi) with
                | none =>
                  rw [h2] at k2
                  repeat' (first
                    | with_reducible refine VC_seq fun K hK => ?_
                    | with_reducible refine W_region ?_
                    | with_reducible refine VC_block ?_
                    | with_reducible refine VC_scope ?_
                    | with_reducible refine VC_if ?_
                    | with_reducible refine VC_skip ?_
                    | with_reducible refine VC_exit ?_
                    | with_reducible refine VC_ret ?_
                    | (with_reducible refine G_not (fun h => ?_) (fun h => ?_) <;> (try simp only [h]))
                    | (with_reducible refine G_cases (fun h => ?_) (fun h => ?_) <;> (try simp only [h]))
                    | refine C_pure k1 rfl rfl (fun _ => rfl) ?_
                    | refine C_pure k2 rfl rfl (fun _ => rfl) ?_
                    | (with_reducible refine hK _ ?_; clear hK K)
                    | (clear hK K; with_reducible refine hK _ ?_; clear hK K)
                    | (clear hK K; clear hK K; with_reducible refine hK _ ?_; clear hK K)
                    | (clear hK K; clear hK K; clear hK K; with_reducible refine hK _ ?_; clear hK K)
                    | (with_reducible refine todo ?_; simp +decide only [go_sem, hg, hg3, hd2, hw2, optSpan]))
                  refine Next_of hlt2 (all_take hJ hg2 (by rw [ec]; rfl)) (Weak_frame ?_ ?_ ?_) <;> simp +decide only [go_sem]
                | some m =>
                  rw [h2] at k2
                  have hme : m.enc = encSpan m.1 m.2 := rfl
                  repeat' (first
                    | with_reducible refine VC_seq fun K hK => ?_
                    | with_reducible refine W_region ?_
                    | with_reducible refine VC_block ?_
                    | with_reducible refine VC_scope ?_
                    | with_reducible refine VC_if ?_
                    | with_reducible refine VC_skip ?_
                    | with_reducible refine VC_exit ?_
                    | with_reducible refine VC_ret ?_
                    | (with_reducible refine G_not (fun h => ?_) (fun h => ?_) <;> (try simp only [h]))
                    | (with_reducible refine G_cases (fun h => ?_) (fun h => ?_) <;> (try simp only [h]))
                    | refine C_pure k1 rfl rfl (fun _ => rfl) ?_
                    | refine C_pure k2 rfl rfl (fun _ => rfl) ?_
                    | (with_reducible refine hK _ ?_; clear hK K)
                    | (clear hK K; with_reducible refine hK _ ?_; clear hK K)
                    | (clear hK K; clear hK K; with_reducible refine hK _ ?_; clear hK K)
                    | (clear hK K; clear hK K; clear hK K; with_reducible refine hK _ ?_; clear hK K)
                    | (with_reducible refine todo ?_; simp +decide only [go_sem, hg, hg3, hd2, hw2, optSpan, hme]))
                  refine Next_of hlt2 (all_take hJ hg2 (by rw [ec]; rfl)) (Weak_frame ?_ ?_ ?_) <;> simp +decide only [go_sem]
              | some n =>
                rw [h1] at k1 ec
                have hne : n.enc = encSpan n.1 n.2 := rfl
                cases h2 : meet (x.p.lo, x.p.hi) (w.p.lo, w.p.hi) with
                | none =>
                  rw [h2] at k2 ec
                  repeat' (first
                    | with_reducible refine VC_seq fun K hK => ?_
                    | with_reducible refine W_region ?_
                    | with_reducible refine VC_block ?_
                    | with_reducible refine VC_scope ?_
                    | with_reducible refine VC_if ?_
                    | with_reducible refine VC_skip ?_
                    | with_reducible refine VC_exit ?_
                    | with_reducible refine VC_ret ?_
                    | (with_reducible refine G_not (fun h => ?_) (fun h => ?_) <;> (try simp only [h]))
                    | (with_reducible refine G_cases (fun h => ?_) (fun h => ?_) <;> (try simp only [h]))
                    | refine C_pure k1 rfl rfl (fun _ => rfl) ?_
                    | refine C_pure k2 rfl rfl (fun _ => rfl) ?_
                    | (with_reducible refine hK _ ?_; clear hK K)
                    | (clear hK K; with_reducible refine hK _ ?_; clear hK K)
                    | (clear hK K; clear hK K; with_reducible refine hK _ ?_; clear hK K)
                    | (clear hK K; clear hK K; clear hK K; with_reducible refine hK _ ?_; clear hK K)
                    | (with_reducible refine todo ?_; simp +decide only [go_sem, hg, hg3, hd2, hw2, optSpan, hne]))
                  refine Next_of hlt2 (all_take hJ hg2 (by rw [ec]; rfl)) (Weak_frame ?_ ?_ ?_) <;> simp +decide only [go_sem]
                | some m =>
                  rw [h2] at k2 ec
                  have hme : m.enc = encSpan m.1 m.2 := rfl
                  repeat' (first
                    | with_reducible refine VC_seq fun K hK => ?_
                    | with_reducible refine W_region ?_
                    | with_reducible refine VC_block ?_
                    | with_reducible refine VC_scope ?_
                    | with_reducible refine VC_if ?_
                    | with_reducible refine VC_skip ?_
                    | with_reducible refine VC_exit ?_
                    | with_reducible refine VC_ret ?_
                    | (with_reducible refine G_not (fun h => ?_) (fun h => ?_) <;> (try simp only [h]))
                    | (with_reducible refine G_cases (fun h => ?_) (fun h => ?_) <;> (try simp only [h]))
                    | refine C_pure k1 rfl rfl (fun _ => rfl) ?_
                    | refine C_pure k2 rfl rfl (fun _ => rfl) ?_
                    | (with_reducible refine hK _ ?_; clear hK K)
                    | (clear hK K; with_reducible refine hK _ ?_; clear hK K)
                    | (clear hK K; clear hK K; with_reducible refine hK _ ?_; clear hK K)
                    | (clear hK K; clear hK K; clear hK K; with_reducible refine hK _ ?_; clear hK K)
                    | (with_reducible refine todo ?_; simp +decide only [go_sem, hg, hg3, hd2, optSpan, hne, hme]))
                  rw [hclash ec]
                  exact Ret_d rfl rfl
            · have hd2 := int_lt_false hge2
              rw [List.take_of_length_le (by omega)] at hJ
              rcases Nat.eq_zero_or_pos i with hi0 | hi0
              · have hgt : ((0 : Int) < (i : Int)) = False := eq_false (by omega)
                have hna : notAhead (l.take i) x = true := by rw [hi0]; rfl
                have hs : vStep (l.take i) x = true := by unfold vStep; rw [hpre, hna, hJ]; rfl
                clear hi0
                repeat' (first
                  | with_reducible refine VC_seq fun K hK => ?_
                  | with_reducible refine W_region ?_
                  | with_reducible refine VC_block ?_
                  | with_reducible refine VC_scope ?_
                  | with_reducible refine VC_if ?_
                  | with_reducible refine VC_skip ?_
                  | with_reducible refine VC_exit ?_
                  | with_reducible refine VC_ret ?_
                  | (with_reducible refine G_not (fun h => ?_) (fun h => ?_) <;> (try simp only [h]))
                  | (with_reducible refine G_cases (fun h => ?_) (fun h => ?_) <;> (try simp only [h]))
                  | (with_reducible refine hK _ ?_; clear hK K)
                  | (clear hK K; with_reducible refine hK _ ?_; clear hK K)
                  | (clear hK K; clear hK K; with_reducible refine hK _ ?_; clear hK K)
                  | (clear hK K; clear hK K; clear hK K; with_reducible refine hK _ ?_; clear hK K)
                  | (with_reducible refine todo ?_; simp +decide only [go_sem, hd2, hgt, hwi]))
                refine Next_of hlt (hnx hs) (Weak_frame ?_ ?_ ?_) <;> simp +decide only [go_sem]
              · have hgt : ((0 : Int) < (i : Int)) = True := eq_true (by omega)
                have hgy := List.getElem?_eq_getElem (show i - 1 < l.length by omega)
                generalize l[i - 1] = y at hgy
                have hw1 : IntKind.i64.wrap ((i : Int) - 1) = ((i - 1 : Nat) : Int) := by rw [Go.IntWalk.i64_in _ (by omega)]; omega
                have hna : notAhead (l.take i) x = !ahead' x y := by
                  unfold notAhead
                  have : (l.take i).getLast? = some y := by rw [List.getLast?_eq_getElem?, hlt1, List.getElem?_take, if_pos (by omega)]; exact hgy
                  rw [this]
                have ka := Try.rAheadV x y
                cases hA : ahead' x y with
                | true =>
                  rw [hA] at ka hna
                  have hs : vStep (l.take i) x = false := by unfold vStep; rw [hna, hpre]; rfl
                  repeat' (first
                    | with_reducible refine VC_seq fun K hK => ?_
                    | with_reducible refine W_region ?_
                    | with_reducible refine VC_block ?_
                    | with_reducible refine VC_scope ?_
                    | with_reducible refine VC_if ?_
                    | with_reducible refine VC_skip ?_
                    | with_reducible refine VC_exit ?_
                    | with_reducible refine VC_ret ?_
                    | (with_reducible refine G_not (fun h => ?_) (fun h => ?_) <;> (try simp only [h]))
                    | (with_reducible refine G_cases (fun h => ?_) (fun h => ?_) <;> (try simp only [h]))
                    | refine C_pure ka rfl rfl (fun _ => rfl) ?_
                    | (with_reducible refine hK _ ?_; clear hK K)
                    | (clear hK K; with_reducible refine hK _ ?_; clear hK K)
                    | (clear hK K; clear hK K; with_reducible refine hK _ ?_; clear hK K)
                    | (clear hK K; clear hK K; clear hK K; with_reducible refine hK _ ?_; clear hK K)
                    | (with_reducible refine todo ?_; simp +decide only [go_sem, hg, hd2, hgt, hw1, hgy]))
                  rw [hnt hs]
                  exact Ret_d rfl rfl
                | false =>
                  rw [hA] at ka hna
                  have hs : vStep (l.take i) x = true := by unfold vStep; rw [hpre, hna, hJ]; rfl
                  repeat' (first
                    | with_reducible refine VC_seq fun K hK => ?_
                    | with_reducible refine W_region ?_
                    | with_reducible refine VC_block ?_
                    | with_reducible refine VC_scope ?_
                    | with_reducible refine VC_if ?_
                    | with_reducible refine VC_skip ?_
                    | with_reducible refine VC_exit ?_
                    | with_reducible refine VC_ret ?_
                    | (with_reducible refine G_not (fun h => ?_) (fun h => ?_) <;> (try simp only [h]))
                    | (with_reducible refine G_cases (fun h => ?_) (fun h => ?_) <;> (try simp only [h]))
                    | refine C_pure ka rfl rfl (fun _ => rfl) ?_
                    | (with_reducible refine hK _ ?_; clear hK K)
                    | (clear hK K; with_reducible refine hK _ ?_; clear hK K)
                    | (clear hK K; clear hK K; with_reducible refine hK _ ?_; clear hK K)
                    | (clear hK K; clear hK K; clear hK K; with_reducible refine hK _ ?_; clear hK K)
                    | (with_reducible refine todo ?_; simp +decide only [go_sem, hg, hd2, hgt, hw1, hgy, hwi]))
                  refine Next_of hlt (hnx hs) (Weak_frame ?_ ?_ ?_) <;> simp +decide only [go_sem]
    · have hd := int_lt_false hge
      rw [List.take_of_length_le hge] at hI
      repeat' (first
        | with_reducible refine VC_seq fun K hK => ?_
        | with_reducible refine W_region ?_
        | with_reducible refine VC_block ?_
        | with_reducible refine VC_scope ?_
        | with_reducible refine VC_if ?_
        | with_reducible refine VC_skip ?_
        | with_reducible refine VC_exit ?_
        | with_reducible refine VC_ret ?_
        | (with_reducible refine G_not (fun h => ?_) (fun h => ?_) <;> (try simp only [h]))
        | (with_reducible refine G_cases (fun h => ?_) (fun h => ?_) <;> (try simp only [h]))
        | (with_reducible refine hK _ ?_; clear hK K)
        | (clear hK K; with_reducible refine hK _ ?_; clear hK K)
        | (clear hK K; clear hK K; with_reducible refine hK _ ?_; clear hK K)
        | (clear hK K; clear hK K; clear hK K; with_reducible refine hK _ ?_; clear hK K)
        | (with_reducible refine todo ?_; simp +decide only [go_sem, hd]))
      rw [hI]
      exact Ret_d rfl rfl
end Go.Proofs
