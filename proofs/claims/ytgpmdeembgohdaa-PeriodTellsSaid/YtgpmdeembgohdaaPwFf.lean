/-
  Spans: Meet, rights, Cut.
-/
import Derived.Test.YtgpmdeembgohdaaPwFe
namespace Go.Proofs
open Go.PW

abbrev Sp := Int × Int
def Sp.enc (s : Sp) : List D := encSpan s.1 s.2
def Sp.right (s : Sp) : Bool := Span.right s.1 s.2
def rights (l : List Sp) : List Sp := l.filter Sp.right
def iMax (a b : Int) : Int := if b > a then b else a
def iMin (a b : Int) : Int := if b < a then b else a
/-- What two spans have in common. -/
def meet (a b : Sp) : Option Sp := if Span.right a.1 a.2 && Span.right b.1 b.2 && Span.right (iMax a.1 b.1) (iMin a.2 b.2) then some (iMax a.1 b.1, iMin a.2 b.2) else none
def optSpan : Option Sp → RV
  | some s => .tup [.agg (Sp.enc s), dB true]
  | none => .tup [.agg (encSpan 0 0), dB false]

theorem szSpans (l : List Sp) : Szd 2 (l.map Sp.enc) := fun e he => by
  obtain ⟨p, _, rfl⟩ := List.mem_map.1 he
  rfl

set_option maxHeartbeats 1000000 in
theorem Try.kRights (l : List Sp) (hn : l.length ≤ 1048576) : PureOK Try.prog 46 [pD (.sl (l.map Sp.enc))] (.one (.own 2 ((rights l).map Sp.enc))) := by
  refine Try.pure (md := []) Try.func46 rfl Try.call46 (by kernel_rfl) (by rfl) (by exact Nat.le_of_ble_eq_true rfl) ?_
  repeat' (first
    | with_reducible refine VC_seq fun K hK => ?_
    | with_reducible refine W_region ?_
    | with_reducible refine VC_block ?_
    | with_reducible refine VC_scope ?_
    | with_reducible refine VC_if ?_
    | with_reducible refine VC_skip ?_
    | with_reducible refine VC_exit ?_
    | with_reducible refine VC_ret ?_
    | (with_reducible refine G_not (fun h => ?_) (fun h => ?_) <;> (try simp only [h]))
    | (with_reducible refine G_cases (fun h => ?_) (fun h => ?_) <;> (try simp only [h]))
    | (with_reducible refine hK _ ?_; clear hK K)
    | (clear hK K; with_reducible refine hK _ ?_; clear hK K)
    | (clear hK K; clear hK K; with_reducible refine hK _ ?_; clear hK K)
    | (clear hK K; clear hK K; clear hK K; with_reducible refine hK _ ?_; clear hK K)
    | (with_reducible refine todo ?_; simp +decide only [go_sem]))
  refine VC_range l.length (fun _ => True) (fun i => frame [(6, pD (.sl (l.map Sp.enc))), (7, pD (.lit (.int .i64 l.length))), (8, pD (.lit (.int .i64 i))), (3, .c (.own (3, 0) ((rights (l.take i)).map Sp.enc)))] [] [((3, 0), .co 2 (rights (l.take i)).length)]) True.intro ?_ ?_
  · refine Weak_frame ?_ ?_ ?_ <;> simp +decide only [go_sem, rights, List.filter_nil]
    exact wkP_new rfl rfl
  · intro i hi hI
    rcases Nat.lt_or_ge i l.length with hlt | hge
    · have hg := List.getElem?_eq_getElem hlt
      have hd := int_lt_true hlt
      have hw := int_next hlt (show l.length ≤ 4294967296 by omega)
      generalize l[i] = x at hg
      have hx : x.enc = encSpan x.1 x.2 := rfl
      have htk := take_next hg
      have hl : (rights (l.take i)).length ≤ i := Nat.le_trans (List.length_filter_le _ _) (by rw [List.length_take]; omega)
      repeat' (first
        | with_reducible refine VC_seq fun K hK => ?_
        | with_reducible refine W_region ?_
        | with_reducible refine VC_block ?_
        | with_reducible refine VC_scope ?_
        | with_reducible refine VC_if ?_
        | with_reducible refine VC_skip ?_
        | with_reducible refine VC_exit ?_
        | with_reducible refine VC_ret ?_
        | (with_reducible refine G_not (fun h => ?_) (fun h => ?_) <;> (try simp only [h]))
        | (with_reducible refine G_cases (fun h => ?_) (fun h => ?_) <;> (try simp only [h]))
        | refine C_pure (Try.spanRight x.1 x.2) rfl rfl (fun _ => rfl) ?_
        | (refine W_own Try.appSpans rfl (szSpans _) (szOne rfl) (by simp; omega) (by simp; rfl) ?_)
        | (with_reducible refine hK _ ?_; clear hK K)
        | (clear hK K; with_reducible refine hK _ ?_; clear hK K)
        | (clear hK K; clear hK K; with_reducible refine hK _ ?_; clear hK K)
        | (clear hK K; clear hK K; clear hK K; with_reducible refine hK _ ?_; clear hK K)
        | (with_reducible refine todo ?_; simp +decide only [go_sem, hg, hd, hw, hx]))
      · have hrt : rights (l.take (i + 1)) = rights (l.take i) ++ [x] := by
          rw [htk, rights, List.filter_append]
          simp [rights, Sp.right, h]
        refine Next_of hlt True.intro (Weak_frame ?_ ?_ ?_) <;> simp +decide only [go_sem, hrt, hx]
        exact wkP_own (by simp [aOf]) rfl
      · have hrt : rights (l.take (i + 1)) = rights (l.take i) := by
          rw [htk, rights, List.filter_append]
          simp [rights, Sp.right, h]
        refine Next_of hlt True.intro (Weak_frame ?_ ?_ ?_) <;> simp +decide only [go_sem, hrt]
        exact wkP_own (by simp [aOf]) rfl
    · have hd := int_lt_false hge
      rw [List.take_of_length_le hge]
      repeat' (first
        | with_reducible refine VC_seq fun K hK => ?_
        | with_reducible refine W_region ?_
        | with_reducible refine VC_block ?_
        | with_reducible refine VC_scope ?_
        | with_reducible refine VC_if ?_
        | with_reducible refine VC_skip ?_
        | with_reducible refine VC_exit ?_
        | with_reducible refine VC_ret ?_
        | (with_reducible refine G_not (fun h => ?_) (fun h => ?_) <;> (try simp only [h]))
        | (with_reducible refine G_cases (fun h => ?_) (fun h => ?_) <;> (try simp only [h]))
        | (with_reducible refine hK _ ?_; clear hK K)
        | (clear hK K; with_reducible refine hK _ ?_; clear hK K)
        | (clear hK K; clear hK K; with_reducible refine hK _ ?_; clear hK K)
        | (clear hK K; clear hK K; clear hK K; with_reducible refine hK _ ?_; clear hK K)
        | (with_reducible refine todo ?_; simp +decide only [go_sem, hd]))
      exact Ret_own (3, 0) rfl rfl (by simp; rfl)

set_option maxHeartbeats 1000000 in
theorem Try.kMeet (a b : Sp) : PureOK Try.prog 45 [pA a.enc, pA b.enc] (optSpan (meet a b)) := by
  refine Try.pure (md := []) Try.func45 rfl Try.call45 (by kernel_rfl) (by rfl) (by exact Nat.le_of_ble_eq_true rfl) ?_
  have ha : a.enc = encSpan a.1 a.2 := rfl
  have hb : b.enc = encSpan b.1 b.2 := rfl
  repeat' (first
    | with_reducible refine VC_seq fun K hK => ?_
    | with_reducible refine W_region ?_
    | with_reducible refine VC_block ?_
    | with_reducible refine VC_scope ?_
    | with_reducible refine VC_if ?_
    | with_reducible refine VC_skip ?_
    | with_reducible refine VC_exit ?_
    | with_reducible refine VC_ret ?_
    | (with_reducible refine G_not (fun h => ?_) (fun h => ?_) <;> (try simp only [h]))
    | (with_reducible refine G_cases (fun h => ?_) (fun h => ?_) <;> (try simp only [h]))
    | refine C_pure (Try.spanRight a.1 a.2) rfl rfl (fun _ => rfl) ?_
    | refine C_pure (Try.spanRight b.1 b.2) rfl rfl (fun _ => rfl) ?_
    | refine C_pure (Try.spanRight (iMax a.1 b.1) (iMin a.2 b.2)) rfl rfl (fun _ => rfl) ?_
    | (with_reducible refine hK _ ?_; clear hK K)
    | (clear hK K; with_reducible refine hK _ ?_; clear hK K)
    | (clear hK K; clear hK K; with_reducible refine hK _ ?_; clear hK K)
    | (clear hK K; clear hK K; clear hK K; with_reducible refine hK _ ?_; clear hK K)
    | (with_reducible refine todo ?_; simp +decide only [go_sem, ha, hb]))
  · have hm : meet a b = some (iMax a.1 b.1, iMin a.2 b.2) := by unfold meet; simp [*]
    rw [hm]
    refine Ret_cell2 rfl ?_ rfl
    simp +decide only [go_sem, Sp.enc]
    rfl
  all_goals
    have hm : meet a b = none := by unfold meet; simp [*]
    rw [hm]
    refine Ret_cell2 rfl ?_ rfl
    simp +decide only [go_sem]

def cut (a b : Sp) : List Sp :=
  match meet a b with
  | some m => rights [(a.1, m.1), (m.2, a.2)]
  | none => rights [a]

set_option maxHeartbeats 1000000 in
theorem Try.kCut (a b : Sp) : PureOK Try.prog 37 [pA a.enc, pA b.enc] (.one (.own 2 ((cut a b).map Sp.enc))) := by
  refine Try.pure (md := []) Try.func37 rfl Try.call37 (by kernel_rfl) (by rfl) (by exact Nat.le_of_ble_eq_true rfl) ?_
  have ha : a.enc = encSpan a.1 a.2 := rfl
  have hb : b.enc = encSpan b.1 b.2 := rfl
  have hM := Try.kMeet a b
  unfold cut
  cases hm : meet a b with
  | none =>
    rw [hm] at hM
    repeat' (first
      | with_reducible refine VC_seq fun K hK => ?_
      | with_reducible refine W_region ?_
      | with_reducible refine VC_block ?_
      | with_reducible refine VC_scope ?_
      | with_reducible refine VC_if ?_
      | with_reducible refine VC_skip ?_
      | with_reducible refine VC_exit ?_
      | with_reducible refine VC_ret ?_
      | (with_reducible refine G_not (fun h => ?_) (fun h => ?_) <;> (try simp only [h]))
      | (with_reducible refine G_cases (fun h => ?_) (fun h => ?_) <;> (try simp only [h]))
      | refine C_pure hM rfl rfl (fun _ => rfl) ?_
      | refine C_pure (Try.kRights [a] (by simp)) rfl rfl (fun _ => rfl) ?_
      | (with_reducible refine hK _ ?_; clear hK K)
      | (clear hK K; with_reducible refine hK _ ?_; clear hK K)
      | (clear hK K; clear hK K; with_reducible refine hK _ ?_; clear hK K)
      | (clear hK K; clear hK K; clear hK K; with_reducible refine hK _ ?_; clear hK K)
      | (with_reducible refine todo ?_; simp +decide only [go_sem, ha, hb, optSpan]))
    refine Ret_own (17, 0) rfl rfl ?_
    simp +decide only [go_sem]
  | some m =>
    rw [hm] at hM
    have hme : m.enc = encSpan m.1 m.2 := rfl
    repeat' (first
      | with_reducible refine VC_seq fun K hK => ?_
      | with_reducible refine W_region ?_
      | with_reducible refine VC_block ?_
      | with_reducible refine VC_scope ?_
      | with_reducible refine VC_if ?_
      | with_reducible refine VC_skip ?_
      | with_reducible refine VC_exit ?_
      | with_reducible refine VC_ret ?_
      | (with_reducible refine G_not (fun h => ?_) (fun h => ?_) <;> (try simp only [h]))
      | (with_reducible refine G_cases (fun h => ?_) (fun h => ?_) <;> (try simp only [h]))
      | refine C_pure hM rfl rfl (fun _ => rfl) ?_
      | refine C_pure (Try.kRights [(a.1, m.1), (m.2, a.2)] (by simp)) rfl rfl (fun _ => rfl) ?_
      | (with_reducible refine hK _ ?_; clear hK K)
      | (clear hK K; with_reducible refine hK _ ?_; clear hK K)
      | (clear hK K; clear hK K; with_reducible refine hK _ ?_; clear hK K)
      | (clear hK K; clear hK K; clear hK K; with_reducible refine hK _ ?_; clear hK K)
      | (with_reducible refine todo ?_; simp +decide only [go_sem, ha, hb, hme, optSpan]))
    refine Ret_own (29, 0) rfl rfl ?_
    simp +decide only [go_sem]
end Go.Proofs
