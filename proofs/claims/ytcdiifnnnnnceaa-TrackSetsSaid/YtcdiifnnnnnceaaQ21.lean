import Derived.Test.YtcdiifnnnnnceaaQ20

/-
  Versions: Right, Last.
-/

namespace Go.Proofs
open Go.PW

def okV (v : Ver) : Bool := Span.right v.sl v.sh && right [v.p]
def notAhead (prev : List Ver) (v : Ver) : Bool := match prev.getLast? with
  | none => true
  | some w => !ahead' v w
def vStep (prev : List Ver) (v : Ver) : Bool := (okV v && notAhead prev v) && prev.all fun w => !clash v w
def vRightFrom : List Ver → List Ver → Bool
  | _, [] => true
  | prev, v :: r => vStep prev v && vRightFrom (prev ++ [v]) r
def vRight (l : List Ver) : Bool := vRightFrom [] l

theorem vRightFrom_append (l m : List Ver) : ∀ p, vRightFrom p (l ++ m) = (vRightFrom p l && vRightFrom (p ++ l) m) := by
  induction l with
  | nil => intro p; simp [vRightFrom]
  | cons v r ih => intro p; simp only [List.cons_append, vRightFrom, ih, Bool.and_assoc, List.append_assoc, List.nil_append]
theorem vRight_next {l : List Ver} {i : Nat} {x : Ver} (h : l[i]? = some x) (hI : vRight (l.take i) = true) (hf : vStep (l.take i) x = true) : vRight (l.take (i + 1)) = true := by
  unfold vRight at hI ⊢
  rw [take_next h, vRightFrom_append, hI, List.nil_append, vRightFrom, hf]
  rfl
theorem vRight_not {l : List Ver} {i : Nat} {x : Ver} (h : l[i]? = some x) (hf : vStep (l.take i) x = false) : vRight l = false := by
  unfold vRight
  rw [split_at h, vRightFrom_append, vRightFrom, List.nil_append, hf]
  simp

theorem all_next {α : Type} {f : α → Bool} {l : List α} {i : Nat} {x : α} (h : (l.take i).all f = true) (hx : l[i]? = some x) (hf : f x = true) : (l.take (i + 1)).all f = true := all_take h hx hf

set_option maxRecDepth 8000 in
set_option maxHeartbeats 8000000 in
theorem Try.kRightV (l : List Ver) (hn : l.length ≤ 1048576) (hr : ∀ v ∈ l, v.p.row.length ≤ 1048576) : PureOK Try.prog 12 [pD (encVers l)] (.one (dB (vRight l))) := by
  refine Try.pure (md := []) Try.func12 rfl Try.call12 (by kernel_rfl) (by rfl) (by exact Nat.le_of_ble_eq_true rfl) ?_
  repeat' (first
    | with_reducible refine VC_seq fun K hK => ?_
    | with_reducible refine W_region ?_
    | with_reducible refine VC_block ?_
    | with_reducible refine VC_scope ?_
    | with_reducible refine VC_if ?_
    | with_reducible refine VC_skip ?_
    | with_reducible refine VC_exit ?_
    | with_reducible refine VC_ret ?_
    | (with_reducible refine G_not (fun h => ?_) (fun h => ?_) <;> (try simp only [h]))
    | (with_reducible refine G_cases (fun h => ?_) (fun h => ?_) <;> (try simp only [h]))
    | (with_reducible refine hK _ ?_; clear hK K)
    | (clear hK K; with_reducible refine hK _ ?_; clear hK K)
    | (clear hK K; clear hK K; with_reducible refine hK _ ?_; clear hK K)
    | (clear hK K; clear hK K; clear hK K; with_reducible refine hK _ ?_; clear hK K)
    | (with_reducible refine todo ?_; simp +decide only [go_sem]))
  refine VC_range l.length (fun i => vRight (l.take i) = true) (fun i => frame [(0, pD (encVers l)), (7, pD (encVers l)), (8, pD (.lit (.int .i64 l.length))), (9, pD (.lit (.int .i64 i)))] [] []) rfl ?_ ?_
  · refine Weak_frame ?_ ?_ ?_ <;> simp +decide only [go_sem]
  · intro i hi hI
    rcases Nat.lt_or_ge i l.length with hlt | hge
    · have hg := List.getElem?_eq_getElem hlt
      have hd := int_lt_true hlt
      have hwi := int_next hlt (show l.length ≤ 4294967296 by omega)
      generalize l[i] = x at hg
      have hx := hr x (List.mem_of_getElem? hg)
      have ks := Try.spanRight x.sl x.sh
      have kp := Try.kRight [x.p] (by simp) (fun p hp => by rw [List.mem_singleton.1 hp]; exact hx)
      have hnt := vRight_not hg
      have hnx := vRight_next hg hI
      have hlt1 : (l.take i).length = i := by rw [List.length_take]; omega
      rcases Nat.eq_zero_or_pos i with hi0 | hi0
      · have hgt : ((0 : Int) < (i : Int)) = False := eq_false (by omega)
        have hna : notAhead (l.take i) x = true := by rw [hi0]; rfl
        clear hi0
        repeat' (first
          | with_reducible refine VC_seq fun K hK => ?_
          | with_reducible refine W_region ?_
          | with_reducible refine VC_block ?_
          | with_reducible refine VC_scope ?_
          | with_reducible refine VC_if ?_
          | with_reducible refine VC_skip ?_
          | with_reducible refine VC_exit ?_
          | with_reducible refine VC_ret ?_
          | (with_reducible refine G_not (fun h => ?_) (fun h => ?_) <;> (try simp only [h]))
          | (with_reducible refine G_cases (fun h => ?_) (fun h => ?_) <;> (try simp only [h]))
          | refine C_pure ks rfl rfl (fun _ => rfl) ?_
          | refine C_pure kp rfl rfl (fun _ => rfl) ?_
          | (refine W_slc Try.appVers rfl (l := 0) (h := i) rfl (by simp [optNat, natOf?, intOf?]) (by omega) (by simp; omega) (szVers _) ?_)
          | (with_reducible refine hK _ ?_; clear hK K)
          | (clear hK K; with_reducible refine hK _ ?_; clear hK K)
          | (clear hK K; clear hK K; with_reducible refine hK _ ?_; clear hK K)
          | (clear hK K; clear hK K; clear hK K; with_reducible refine hK _ ?_; clear hK K)
          | (with_reducible refine todo ?_; simp +decide only [go_sem, hg, hd, hgt, ← List.map_take, Nat.sub_zero]))
        all_goals first
          | (have hs : vStep (l.take i) x = false := by unfold vStep okV; simp [*]
             rw [hnt hs]
             exact Ret_d rfl rfl)
          | skip
        have hpre : (okV x && notAhead (l.take i) x) = true := by unfold okV; simp [*]
        refine VC_range i (fun k => ((l.take i).take k).all (fun w => !clash x w) = true) (fun k => frame [(0, pD (encVers l)), (7, pD (encVers l)), (8, pD (.lit (.int .i64 l.length))), (9, pD (.lit (.int .i64 i))), (4, .c (.ptr 4 0)), (40, pD (encVers (l.take i))), (41, pD (.lit (.int .i64 i))), (42, pD (.lit (.int .i64 k)))] [(4, [.d (.lit (.int .i64 x.sl)), .d (.lit (.int .i64 x.sh)), .d (.lit (.int .i64 x.p.lo)), .d (.lit (.int .i64 x.p.hi)), .d (encRow x.p.row)])] []) rfl ?_ ?_
        · refine Weak_frame ?_ ?_ ?_ <;> simp +decide only [go_sem, hlt1]
          exact wkP_ptr (by simp [hOf])
        · intro k hk hJ
          rcases Nat.lt_or_ge k i with hlt2 | hge2
          · have hg2 : (l.take i)[k]? = some l[k] := by rw [List.getElem?_take, if_pos hlt2]; exact List.getElem?_eq_getElem (by omega)
            generalize l[k] = w at hg2
            have hd2 := int_lt_true hlt2
            have hw2 := int_next hlt2 (show i ≤ 4294967296 by omega)
            have kc := Try.kClash x w
            cases hc : clash x w with
            | true =>
              rw [hc] at kc
              have hs : vStep (l.take i) x = false := by
                unfold vStep
                rw [all_not (f := fun w => !clash x w) hg2 (by simp [hc]), Bool.and_false]
              repeat' (first
                | with_reducible refine VC_seq fun K hK => ?_
                | with_reducible refine W_region ?_
                | with_reducible refine VC_block ?_
                | with_reducible refine VC_scope ?_
                | with_reducible refine VC_if ?_
                | with_reducible refine VC_skip ?_
                | with_reducible refine VC_exit ?_
                | with_reducible refine VC_ret ?_
                | (with_reducible refine G_not (fun h => ?_) (fun h => ?_) <;> (try simp only [h]))
                | (with_reducible refine G_cases (fun h => ?_) (fun h => ?_) <;> (try simp only [h]))
                | refine C_pure kc rfl rfl (fun _ => rfl) ?_
                | (with_reducible refine hK _ ?_; clear hK K)
                | (clear hK K; with_reducible refine hK _ ?_; clear hK K)
                | (clear hK K; clear hK K; with_reducible refine hK _ ?_; clear hK K)
                | (clear hK K; clear hK K; clear hK K; with_reducible refine hK _ ?_; clear hK K)
                | (with_reducible refine todo ?_; simp +decide only [go_sem, hg2, hd2]))
              rw [hnt hs]
              exact Ret_d rfl rfl
            | false =>
              rw [hc] at kc
              repeat' (first
                | with_reducible refine VC_seq fun K hK => ?_
                | with_reducible refine W_region ?_
                | with_reducible refine VC_block ?_
                | with_reducible refine VC_scope ?_
                | with_reducible refine VC_if ?_
                | with_reducible refine VC_skip ?_
                | with_reducible refine VC_exit ?_
                | with_reducible refine VC_ret ?_
                | (with_reducible refine G_not (fun h => ?_) (fun h => ?_) <;> (try simp only [h]))
                | (with_reducible refine G_cases (fun h => ?_) (fun h => ?_) <;> (try simp only [h]))
                | refine C_pure kc rfl rfl (fun _ => rfl) ?_
                | (with_reducible refine hK _ ?_; clear hK K)
                | (clear hK K; with_reducible refine hK _ ?_; clear hK K)
                | (clear hK K; clear hK K; with_reducible refine hK _ ?_; clear hK K)
                | (clear hK K; clear hK K; clear hK K; with_reducible refine hK _ ?_; clear hK K)
                | (with_reducible refine todo ?_; simp +decide only [go_sem, hg2, hd2, hw2]))
              refine Next_of hlt2 (all_take hJ hg2 (by simp [hc])) (Weak_frame ?_ ?_ ?_) <;> simp +decide only [go_sem]
              exact wkP_ptr (by simp [hOf])
          · have hd2 := int_lt_false hge2
            rw [List.take_of_length_le (by omega)] at hJ
            have hs : vStep (l.take i) x = true := by unfold vStep; rw [hpre, hJ]; rfl
            repeat' (first
              | with_reducible refine VC_seq fun K hK => ?_
              | with_reducible refine W_region ?_
              | with_reducible refine VC_block ?_
              | with_reducible refine VC_scope ?_
              | with_reducible refine VC_if ?_
              | with_reducible refine VC_skip ?_
              | with_reducible refine VC_exit ?_
              | with_reducible refine VC_ret ?_
              | (with_reducible refine G_not (fun h => ?_) (fun h => ?_) <;> (try simp only [h]))
              | (with_reducible refine G_cases (fun h => ?_) (fun h => ?_) <;> (try simp only [h]))
              | (with_reducible refine hK _ ?_; clear hK K)
              | (clear hK K; with_reducible refine hK _ ?_; clear hK K)
              | (clear hK K; clear hK K; with_reducible refine hK _ ?_; clear hK K)
              | (clear hK K; clear hK K; clear hK K; with_reducible refine hK _ ?_; clear hK K)
              | (with_reducible refine todo ?_; simp +decide only [go_sem, hd2, hwi]))
            refine Next_of hlt (hnx hs) (Weak_frame ?_ ?_ ?_) <;> simp +decide only [go_sem]
      · have hgt : ((0 : Int) < (i : Int)) = True := eq_true (by omega)
        have hgy := List.getElem?_eq_getElem (show i - 1 < l.length by omega)
        generalize l[i - 1] = y at hgy
        have hw1 : IntKind.i64.wrap ((i : Int) - 1) = ((i - 1 : Nat) : Int) := by rw [Go.IntWalk.i64_in _ (by omega)]; omega
        have hna : notAhead (l.take i) x = !ahead' x y := by
          unfold notAhead
          have : (l.take i).getLast? = some y := by rw [List.getLast?_eq_getElem?, hlt1, List.getElem?_take, if_pos (by omega)]; exact hgy
          rw [this]
        have ka := Try.kAheadV x y
        repeat' (first
          | with_reducible refine VC_seq fun K hK => ?_
          | with_reducible refine W_region ?_
          | with_reducible refine VC_block ?_
          | with_reducible refine VC_scope ?_
          | with_reducible refine VC_if ?_
          | with_reducible refine VC_skip ?_
          | with_reducible refine VC_exit ?_
          | with_reducible refine VC_ret ?_
          | (with_reducible refine G_not (fun h => ?_) (fun h => ?_) <;> (try simp only [h]))
          | (with_reducible refine G_cases (fun h => ?_) (fun h => ?_) <;> (try simp only [h]))
          | refine C_pure ks rfl rfl (fun _ => rfl) ?_
          | refine C_pure kp rfl rfl (fun _ => rfl) ?_
          | refine C_pure ka rfl rfl (fun _ => rfl) ?_
          | (refine W_slc Try.appVers rfl (l := 0) (h := i) rfl (by simp [optNat, natOf?, intOf?]) (by omega) (by simp; omega) (szVers _) ?_)
          | (with_reducible refine hK _ ?_; clear hK K)
          | (clear hK K; with_reducible refine hK _ ?_; clear hK K)
          | (clear hK K; clear hK K; with_reducible refine hK _ ?_; clear hK K)
          | (clear hK K; clear hK K; clear hK K; with_reducible refine hK _ ?_; clear hK K)
          | (with_reducible refine todo ?_; simp +decide only [go_sem, hg, hd, hgt, hw1, hgy, ← List.map_take, Nat.sub_zero]))
        all_goals first
          | (have hs : vStep (l.take i) x = false := by unfold vStep okV; simp [*]
             rw [hnt hs]
             exact Ret_d rfl rfl)
          | skip
        have hpre : (okV x && notAhead (l.take i) x) = true := by unfold okV; simp [*]
        refine VC_range i (fun k => ((l.take i).take k).all (fun w => !clash x w) = true) (fun k => frame [(0, pD (encVers l)), (7, pD (encVers l)), (8, pD (.lit (.int .i64 l.length))), (9, pD (.lit (.int .i64 i))), (4, .c (.ptr 4 0)), (40, pD (encVers (l.take i))), (41, pD (.lit (.int .i64 i))), (42, pD (.lit (.int .i64 k)))] [(4, [.d (.lit (.int .i64 x.sl)), .d (.lit (.int .i64 x.sh)), .d (.lit (.int .i64 x.p.lo)), .d (.lit (.int .i64 x.p.hi)), .d (encRow x.p.row)])] []) rfl ?_ ?_
        · refine Weak_frame ?_ ?_ ?_ <;> simp +decide only [go_sem, hlt1]
          exact wkP_ptr (by simp [hOf])
        · intro k hk hJ
          rcases Nat.lt_or_ge k i with hlt2 | hge2
          · have hg2 : (l.take i)[k]? = some l[k] := by rw [List.getElem?_take, if_pos hlt2]; exact List.getElem?_eq_getElem (by omega)
            generalize l[k] = w at hg2
            have hd2 := int_lt_true hlt2
            have hw2 := int_next hlt2 (show i ≤ 4294967296 by omega)
            have kc := Try.kClash x w
            cases hc : clash x w with
            | true =>
              rw [hc] at kc
              have hs : vStep (l.take i) x = false := by
                unfold vStep
                rw [all_not (f := fun w => !clash x w) hg2 (by simp [hc]), Bool.and_false]
              repeat' (first
                | with_reducible refine VC_seq fun K hK => ?_
                | with_reducible refine W_region ?_
                | with_reducible refine VC_block ?_
                | with_reducible refine VC_scope ?_
                | with_reducible refine VC_if ?_
                | with_reducible refine VC_skip ?_
                | with_reducible refine VC_exit ?_
                | with_reducible refine VC_ret ?_
                | (with_reducible refine G_not (fun h => ?_) (fun h => ?_) <;> (try simp only [h]))
                | (with_reducible refine G_cases (fun h => ?_) (fun h => ?_) <;> (try simp only [h]))
                | refine C_pure kc rfl rfl (fun _ => rfl) ?_
                | (with_reducible refine hK _ ?_; clear hK K)
                | (clear hK K; with_reducible refine hK _ ?_; clear hK K)
                | (clear hK K; clear hK K; with_reducible refine hK _ ?_; clear hK K)
                | (clear hK K; clear hK K; clear hK K; with_reducible refine hK _ ?_; clear hK K)
                | (with_reducible refine todo ?_; simp +decide only [go_sem, hg2, hd2]))
              rw [hnt hs]
              exact Ret_d rfl rfl
            | false =>
              rw [hc] at kc
              repeat' (first
                | with_reducible refine VC_seq fun K hK => ?_
                | with_reducible refine W_region ?_
                | with_reducible refine VC_block ?_
                | with_reducible refine VC_scope ?_
                | with_reducible refine VC_if ?_
                | with_reducible refine VC_skip ?_
                | with_reducible refine VC_exit ?_
                | with_reducible refine VC_ret ?_
                | (with_reducible refine G_not (fun h => ?_) (fun h => ?_) <;> (try simp only [h]))
                | (with_reducible refine G_cases (fun h => ?_) (fun h => ?_) <;> (try simp only [h]))
                | refine C_pure kc rfl rfl (fun _ => rfl) ?_
                | (with_reducible refine hK _ ?_; clear hK K)
                | (clear hK K; with_reducible refine hK _ ?_; clear hK K)
                | (clear hK K; clear hK K; with_reducible refine hK _ ?_; clear hK K)
                | (clear hK K; clear hK K; clear hK K; with_reducible refine hK _ ?_; clear hK K)
                | (with_reducible refine todo ?_; simp +decide only [go_sem, hg2, hd2, hw2]))
              refine Next_of hlt2 (all_take hJ hg2 (by simp [hc])) (Weak_frame ?_ ?_ ?_) <;> simp +decide only [go_sem]
              exact wkP_ptr (by simp [hOf])
          · have hd2 := int_lt_false hge2
            rw [List.take_of_length_le (by omega)] at hJ
            have hs : vStep (l.take i) x = true := by unfold vStep; rw [hpre, hJ]; rfl
            repeat' (first
              | with_reducible refine VC_seq fun K hK => ?_
              | with_reducible refine W_region ?_
              | with_reducible refine VC_block ?_
              | with_reducible refine VC_scope ?_
              | with_reducible refine VC_if ?_
              | with_reducible refine VC_skip ?_
              | with_reducible refine VC_exit ?_
              | with_reducible refine VC_ret ?_
              | (with_reducible refine G_not (fun h => ?_) (fun h => ?_) <;> (try simp only [h]))
              | (with_reducible refine G_cases (fun h => ?_) (fun h => ?_) <;> (try simp only [h]))
              | (with_reducible refine hK _ ?_; clear hK K)
              | (clear hK K; with_reducible refine hK _ ?_; clear hK K)
              | (clear hK K; clear hK K; with_reducible refine hK _ ?_; clear hK K)
              | (clear hK K; clear hK K; clear hK K; with_reducible refine hK _ ?_; clear hK K)
              | (with_reducible refine todo ?_; simp +decide only [go_sem, hd2, hwi]))
            refine Next_of hlt (hnx hs) (Weak_frame ?_ ?_ ?_) <;> simp +decide only [go_sem]
    · have hd := int_lt_false hge
      rw [List.take_of_length_le hge] at hI
      repeat' (first
        | with_reducible refine VC_seq fun K hK => ?_
        | with_reducible refine W_region ?_
        | with_reducible refine VC_block ?_
        | with_reducible refine VC_scope ?_
        | with_reducible refine VC_if ?_
        | with_reducible refine VC_skip ?_
        | with_reducible refine VC_exit ?_
        | with_reducible refine VC_ret ?_
        | (with_reducible refine G_not (fun h => ?_) (fun h => ?_) <;> (try simp only [h]))
        | (with_reducible refine G_cases (fun h => ?_) (fun h => ?_) <;> (try simp only [h]))
        | (with_reducible refine hK _ ?_; clear hK K)
        | (clear hK K; with_reducible refine hK _ ?_; clear hK K)
        | (clear hK K; clear hK K; with_reducible refine hK _ ?_; clear hK K)
        | (clear hK K; clear hK K; clear hK K; with_reducible refine hK _ ?_; clear hK K)
        | (with_reducible refine todo ?_; simp +decide only [go_sem, hd]))
      rw [hI]
      exact Ret_d rfl rfl

def lastStep (t : Int) (v : Ver) : Int := if v.open' = true then iMax t v.sl else iMax (iMax t v.sl) v.sh
def vLast (l : List Ver) : Int := if vRight l = true then l.foldl lastStep 0 else 0
theorem foldl_next {α β : Type} {f : β → α → β} {b : β} {l : List α} {i : Nat} {x : α} (h : l[i]? = some x) : (l.take (i + 1)).foldl f b = f ((l.take i).foldl f b) x := by
  rw [take_next h, List.foldl_append]
  rfl

set_option maxRecDepth 8000 in
set_option maxHeartbeats 8000000 in
theorem Try.kLast (l : List Ver) (hn : l.length ≤ 1048576) (hr : ∀ v ∈ l, v.p.row.length ≤ 1048576) : PureOK Try.prog 18 [pD (encVers l)] (.one (.d (.lit (.int .i64 (vLast l))))) := by
  refine Try.pure (md := []) Try.func18 rfl Try.call18 (by kernel_rfl) (by rfl) (by exact Nat.le_of_ble_eq_true rfl) ?_
  have kr := Try.kRightV l hn hr
  have e : vLast l = if vRight l = true then l.foldl lastStep 0 else 0 := rfl
  cases hR : vRight l with
  | false =>
    rw [hR] at kr e
    repeat' (first
      | with_reducible refine VC_seq fun K hK => ?_
      | with_reducible refine W_region ?_
      | with_reducible refine VC_block ?_
      | with_reducible refine VC_scope ?_
      | with_reducible refine VC_if ?_
      | with_reducible refine VC_skip ?_
      | with_reducible refine VC_exit ?_
      | with_reducible refine VC_ret ?_
      | (with_reducible refine G_not (fun h => ?_) (fun h => ?_) <;> (try simp only [h]))
      | (with_reducible refine G_cases (fun h => ?_) (fun h => ?_) <;> (try simp only [h]))
      | refine C_pure kr rfl rfl (fun _ => rfl) ?_
      | (with_reducible refine hK _ ?_; clear hK K)
      | (clear hK K; with_reducible refine hK _ ?_; clear hK K)
      | (clear hK K; clear hK K; with_reducible refine hK _ ?_; clear hK K)
      | (clear hK K; clear hK K; clear hK K; with_reducible refine hK _ ?_; clear hK K)
      | (with_reducible refine todo ?_; simp +decide only [go_sem]))
    rw [e]
    exact Ret_d rfl rfl
  | true =>
    rw [hR] at kr e
    repeat' (first
      | with_reducible refine VC_seq fun K hK => ?_
      | with_reducible refine W_region ?_
      | with_reducible refine VC_block ?_
      | with_reducible refine VC_scope ?_
      | with_reducible refine VC_if ?_
      | with_reducible refine VC_skip ?_
      | with_reducible refine VC_exit ?_
      | with_reducible refine VC_ret ?_
      | (with_reducible refine G_not (fun h => ?_) (fun h => ?_) <;> (try simp only [h]))
      | (with_reducible refine G_cases (fun h => ?_) (fun h => ?_) <;> (try simp only [h]))
      | refine C_pure kr rfl rfl (fun _ => rfl) ?_
      | (with_reducible refine hK _ ?_; clear hK K)
      | (clear hK K; with_reducible refine hK _ ?_; clear hK K)
      | (clear hK K; clear hK K; with_reducible refine hK _ ?_; clear hK K)
      | (clear hK K; clear hK K; clear hK K; with_reducible refine hK _ ?_; clear hK K)
      | (with_reducible refine todo ?_; simp +decide only [go_sem]))
    refine VC_range l.length (fun _ => True) (fun i => frame [(3, pD (.lit (.int .i64 ((l.take i).foldl lastStep 0)))), (9, pD (encVers l)), (10, pD (.lit (.int .i64 l.length))), (11, pD (.lit (.int .i64 i)))] [] []) True.intro ?_ ?_
    · refine Weak_frame ?_ ?_ ?_ <;> simp +decide only [go_sem, List.foldl_nil]
    · intro i hi hI
      rcases Nat.lt_or_ge i l.length with hlt | hge
      · have hg := List.getElem?_eq_getElem hlt
        have hd := int_lt_true hlt
        have hwi := int_next hlt (show l.length ≤ 4294967296 by omega)
        generalize l[i] = x at hg
        have hnx := foldl_next (f := lastStep) (b := 0) hg
        have ko := Try.kOpen x
        have hs : ∀ t, lastStep t x = if x.open' = true then iMax t x.sl else iMax (iMax t x.sl) x.sh := fun t => rfl
        cases hx : x.open' with
        | true =>
          rw [hx] at ko hs
          repeat' (first
            | with_reducible refine VC_seq fun K hK => ?_
            | with_reducible refine W_region ?_
            | with_reducible refine VC_block ?_
            | with_reducible refine VC_scope ?_
            | with_reducible refine VC_if ?_
            | with_reducible refine VC_skip ?_
            | with_reducible refine VC_exit ?_
            | with_reducible refine VC_ret ?_
            | (with_reducible refine G_not (fun h => ?_) (fun h => ?_) <;> (try simp only [h]))
            | (with_reducible refine G_cases (fun h => ?_) (fun h => ?_) <;> (try simp only [h]))
            | refine C_pure ko rfl rfl (fun _ => rfl) ?_
            | (with_reducible refine hK _ ?_; clear hK K)
            | (clear hK K; with_reducible refine hK _ ?_; clear hK K)
            | (clear hK K; clear hK K; with_reducible refine hK _ ?_; clear hK K)
            | (clear hK K; clear hK K; clear hK K; with_reducible refine hK _ ?_; clear hK K)
            | (with_reducible refine todo ?_; simp +decide only [go_sem, hg, hd, hwi]))
          refine Next_of hlt True.intro (Weak_frame ?_ ?_ ?_) <;> simp +decide only [go_sem, hnx, hs, iMax]
        | false =>
          rw [hx] at ko hs
          repeat' (first
            | with_reducible refine VC_seq fun K hK => ?_
            | with_reducible refine W_region ?_
            | with_reducible refine VC_block ?_
            | with_reducible refine VC_scope ?_
            | with_reducible refine VC_if ?_
            | with_reducible refine VC_skip ?_
            | with_reducible refine VC_exit ?_
            | with_reducible refine VC_ret ?_
            | (with_reducible refine G_not (fun h => ?_) (fun h => ?_) <;> (try simp only [h]))
            | (with_reducible refine G_cases (fun h => ?_) (fun h => ?_) <;> (try simp only [h]))
            | refine C_pure ko rfl rfl (fun _ => rfl) ?_
            | (with_reducible refine hK _ ?_; clear hK K)
            | (clear hK K; with_reducible refine hK _ ?_; clear hK K)
            | (clear hK K; clear hK K; with_reducible refine hK _ ?_; clear hK K)
            | (clear hK K; clear hK K; clear hK K; with_reducible refine hK _ ?_; clear hK K)
            | (with_reducible refine todo ?_; simp +decide only [go_sem, hg, hd, hwi]))
          refine Next_of hlt True.intro (Weak_frame ?_ ?_ ?_) <;> simp +decide only [go_sem, hnx, hs, iMax]
          exact wk_c (.inr (.inl ⟨rfl, True.intro⟩))
      · have hd := int_lt_false hge
        rw [List.take_of_length_le hge]
        repeat' (first
          | with_reducible refine VC_seq fun K hK => ?_
          | with_reducible refine W_region ?_
          | with_reducible refine VC_block ?_
          | with_reducible refine VC_scope ?_
          | with_reducible refine VC_if ?_
          | with_reducible refine VC_skip ?_
          | with_reducible refine VC_exit ?_
          | with_reducible refine VC_ret ?_
          | (with_reducible refine G_not (fun h => ?_) (fun h => ?_) <;> (try simp only [h]))
          | (with_reducible refine G_cases (fun h => ?_) (fun h => ?_) <;> (try simp only [h]))
          | (with_reducible refine hK _ ?_; clear hK K)
          | (clear hK K; with_reducible refine hK _ ?_; clear hK K)
          | (clear hK K; clear hK K; with_reducible refine hK _ ?_; clear hK K)
          | (clear hK K; clear hK K; clear hK K; with_reducible refine hK _ ?_; clear hK K)
          | (with_reducible refine todo ?_; simp +decide only [go_sem, hd]))
        rw [e]
        exact Ret_d rfl rfl
end Go.Proofs

/-
  Versions: tests that functions are handed; Vacuum, At.
-/


namespace Go.Proofs
open Go.PW

theorem C_call {P : Program} {effs : List FuncId} {off : Nat} {md st : List Nat} {n : Nat} {f : FuncId} {H H' : HMap} {A A' : AMap} {args args' : List PV} {v : PV} {KK : PV → HMap → AMap → Prop} (he : effs.contains f = true) (h : EffOK P f (off + 1000) H A args' v H' A') (ha : args.map PV.frz = args')
    (hb : Above (off + 1000) H A) (hK : Todo (KK v H' A')) : callV (envOf P effs off md st) n f H A args KK := S_calle he (by rw [ha]; exact h) hb hK
theorem Wf_noH {A : AMap} : Wf noH A := fun _ _ _ h => by cases h

set_option maxRecDepth 8000 in
set_option maxHeartbeats 2000000 in
theorem Try.kAll (l : List Ver) {H : HMap} {A : AMap} : TestOK Try.prog 52 [] 2000 H A l (fun _ => true) := by
  refine ⟨fun p hp => (by cases hp), fun H' A' hw _ _ v _ => ?_⟩
  refine eff_ok (E := envOf Try.prog [] 2000 [] []) (envOf_ok Try.mixed) Try.func52 rfl Try.call52 (by kernel_rfl) (by exact Nat.le_of_ble_eq_true rfl) (fun hab => ?_)
  have h1 : H' 2001 = none := (hab _ (by decide)).1
  repeat' (first
    | with_reducible refine VC_seq fun K hK => ?_
    | with_reducible refine W_region ?_
    | with_reducible refine VC_block ?_
    | with_reducible refine VC_scope ?_
    | with_reducible refine VC_if ?_
    | with_reducible refine VC_skip ?_
    | with_reducible refine VC_exit ?_
    | with_reducible refine VC_ret ?_
    | (with_reducible refine G_not (fun h => ?_) (fun h => ?_) <;> (try simp only [h]))
    | (with_reducible refine G_cases (fun h => ?_) (fun h => ?_) <;> (try simp only [h]))
    | (with_reducible refine hK _ ?_; clear hK K)
    | (clear hK K; with_reducible refine hK _ ?_; clear hK K)
    | (clear hK K; clear hK K; with_reducible refine hK _ ?_; clear hK K)
    | (clear hK K; clear hK K; clear hK K; with_reducible refine hK _ ?_; clear hK K)
    | (with_reducible refine todo ?_; simp +decide only [go_sem, h1]))
  exact RetE_same hw (kp_upd h1 kp_refl) rfl rfl rfl

set_option maxRecDepth 8000 in
set_option maxHeartbeats 2000000 in
theorem Try.kVacuum1 (l : List Ver) (h : Int) {H : HMap} {A : AMap} {id : Nat} (hid : H id = some [.d (.lit (.int .i64 h))]) (hi : id < 2000) : TestOK Try.prog 53 [(id, 0)] 2000 H A l (fun v => decide (h < v.sh)) := by
  refine ⟨fun p hp => (by rw [List.mem_singleton.1 hp]; show H id ≠ none; rw [hid]; simp), fun H' A' hw hk _ v _ => ?_⟩
  refine eff_ok (E := envOf Try.prog [] 2000 [] []) (envOf_ok Try.mixed) Try.func53 rfl Try.call53 (by kernel_rfl) (by exact Nat.le_of_ble_eq_true rfl) (fun hab => ?_)
  have hid' : H' id = some [.d (.lit (.int .i64 h))] := by rw [hk id (by rw [hid]; simp), hid]
  have h2 : H' 2002 = none := (hab _ (by decide)).1
  have n2 : (id = 2002) = False := eq_false (by omega)
  repeat' (first
    | with_reducible refine VC_seq fun K hK => ?_
    | with_reducible refine W_region ?_
    | with_reducible refine VC_block ?_
    | with_reducible refine VC_scope ?_
    | with_reducible refine VC_if ?_
    | with_reducible refine VC_skip ?_
    | with_reducible refine VC_exit ?_
    | with_reducible refine VC_ret ?_
    | (with_reducible refine G_not (fun h => ?_) (fun h => ?_) <;> (try simp only [h]))
    | (with_reducible refine G_cases (fun h => ?_) (fun h => ?_) <;> (try simp only [h]))
    | (with_reducible refine hK _ ?_; clear hK K)
    | (clear hK K; with_reducible refine hK _ ?_; clear hK K)
    | (clear hK K; clear hK K; with_reducible refine hK _ ?_; clear hK K)
    | (clear hK K; clear hK K; clear hK K; with_reducible refine hK _ ?_; clear hK K)
    | (with_reducible refine todo ?_; simp +decide only [go_sem, h2, hid', n2, capPV]))
  exact RetE_same hw (kp_upd h2 kp_refl) rfl rfl rfl

set_option maxRecDepth 8000 in
set_option maxHeartbeats 2000000 in
theorem Try.kAt1 (l : List Ver) (t : Int) {H : HMap} {A : AMap} {id : Nat} (hid : H id = some [.d (.lit (.int .i64 t))]) (hi : id < 2000) : TestOK Try.prog 47 [(id, 0)] 2000 H A l (fun v => Span.has v.sl v.sh t) := by
  refine ⟨fun p hp => (by rw [List.mem_singleton.1 hp]; show H id ≠ none; rw [hid]; simp), fun H' A' hw hk _ v _ => ?_⟩
  refine eff_ok (E := envOf Try.prog [] 2000 [] []) (envOf_ok Try.mixed) Try.func47 rfl Try.call47 (by kernel_rfl) (by exact Nat.le_of_ble_eq_true rfl) (fun hab => ?_)
  have hid' : H' id = some [.d (.lit (.int .i64 t))] := by rw [hk id (by rw [hid]; simp), hid]
  have h2 : H' 2002 = none := (hab _ (by decide)).1
  have n2 : (id = 2002) = False := eq_false (by omega)
  repeat' (first
    | with_reducible refine VC_seq fun K hK => ?_
    | with_reducible refine W_region ?_
    | with_reducible refine VC_block ?_
    | with_reducible refine VC_scope ?_
    | with_reducible refine VC_if ?_
    | with_reducible refine VC_skip ?_
    | with_reducible refine VC_exit ?_
    | with_reducible refine VC_ret ?_
    | (with_reducible refine G_not (fun h => ?_) (fun h => ?_) <;> (try simp only [h]))
    | (with_reducible refine G_cases (fun h => ?_) (fun h => ?_) <;> (try simp only [h]))
    | refine C_pure (Try.spanHas v.sl v.sh t) rfl rfl (fun k => (hab _ (by decide)).2 k) ?_
    | (with_reducible refine hK _ ?_; clear hK K)
    | (clear hK K; with_reducible refine hK _ ?_; clear hK K)
    | (clear hK K; clear hK K; with_reducible refine hK _ ?_; clear hK K)
    | (clear hK K; clear hK K; clear hK K; with_reducible refine hK _ ?_; clear hK K)
    | (with_reducible refine todo ?_; simp +decide only [go_sem, h2, hid', n2, capPV]))
  exact RetE_same hw (kp_upd h2 kp_refl) rfl rfl rfl

def vacuum (l : List Ver) (h : Int) : List Ver := if vRight l = true then l.filter (fun v => decide (h < v.sh)) else l

set_option maxRecDepth 8000 in
set_option maxHeartbeats 4000000 in
theorem Try.kVacuum (l : List Ver) (h : Int) (hn : l.length ≤ 1048576) (hr : ∀ v ∈ l, v.p.row.length ≤ 1048576) : PureOK Try.prog 21 [pD (encVers l), pD (.lit (.int .i64 h))] (.one (.d (encVers (vacuum l h)))) := by
  refine pure_ok (E := envOf Try.prog [46] 0 [] []) (envOf_ok Try.mixed) Try.func21 rfl Try.call21 (by kernel_rfl) (by rfl) (by exact Nat.le_of_ble_eq_true rfl) ?_
  have kr := Try.kRightV l hn hr
  have e : vacuum l h = if vRight l = true then l.filter (fun v => decide (h < v.sh)) else l := rfl
  have hfl : (l.filter fun _ => true) = l := by simp
  cases hR : vRight l with
  | false =>
    rw [hR] at kr e
    have ko := Try.kOwnV l (fun _ => true) hn hr (H := upd noH 3 (some [.d (.lit (.int .i64 h))])) (A := noA) (Wf_upd Wf_noH rfl) (κ := (9, 0)) rfl (by decide) (Try.kAll l)
    rw [hfl] at ko
    repeat' (first
      | with_reducible refine VC_seq fun K hK => ?_
      | with_reducible refine W_region ?_
      | with_reducible refine VC_block ?_
      | with_reducible refine VC_scope ?_
      | with_reducible refine VC_if ?_
      | with_reducible refine VC_skip ?_
      | with_reducible refine VC_exit ?_
      | with_reducible refine VC_ret ?_
      | (with_reducible refine G_not (fun h => ?_) (fun h => ?_) <;> (try simp only [h]))
      | (with_reducible refine G_cases (fun h => ?_) (fun h => ?_) <;> (try simp only [h]))
      | refine C_pure kr rfl rfl (fun _ => rfl) ?_
      | refine C_call rfl ko rfl (Above_updH (Above_none _) (by decide)) ?_
      | (with_reducible refine hK _ ?_; clear hK K)
      | (clear hK K; with_reducible refine hK _ ?_; clear hK K)
      | (clear hK K; clear hK K; with_reducible refine hK _ ?_; clear hK K)
      | (clear hK K; clear hK K; clear hK K; with_reducible refine hK _ ?_; clear hK K)
      | (with_reducible refine todo ?_; simp +decide only [go_sem]))
    rw [e]
    exact Ret_mt (9, 0) rfl (sz := 5) (by simp +decide only [go_sem]) (by simp +decide only [go_sem])
  | true =>
    rw [hR] at kr e
    have ko := Try.kOwnV l (fun v => decide (h < v.sh)) hn hr (H := upd noH 3 (some [.d (.lit (.int .i64 h))])) (A := noA) (Wf_upd Wf_noH rfl) (κ := (12, 0)) rfl (by decide) (Try.kVacuum1 l h (id := 3) rfl (by decide))
    repeat' (first
      | with_reducible refine VC_seq fun K hK => ?_
      | with_reducible refine W_region ?_
      | with_reducible refine VC_block ?_
      | with_reducible refine VC_scope ?_
      | with_reducible refine VC_if ?_
      | with_reducible refine VC_skip ?_
      | with_reducible refine VC_exit ?_
      | with_reducible refine VC_ret ?_
      | (with_reducible refine G_not (fun h => ?_) (fun h => ?_) <;> (try simp only [h]))
      | (with_reducible refine G_cases (fun h => ?_) (fun h => ?_) <;> (try simp only [h]))
      | refine C_pure kr rfl rfl (fun _ => rfl) ?_
      | refine C_call rfl ko rfl (Above_updH (Above_none _) (by decide)) ?_
      | (with_reducible refine hK _ ?_; clear hK K)
      | (clear hK K; with_reducible refine hK _ ?_; clear hK K)
      | (clear hK K; clear hK K; with_reducible refine hK _ ?_; clear hK K)
      | (clear hK K; clear hK K; clear hK K; with_reducible refine hK _ ?_; clear hK K)
      | (with_reducible refine todo ?_; simp +decide only [go_sem]))
    rw [e]
    exact Ret_mt (12, 0) rfl (sz := 5) (by simp +decide only [go_sem]) (by simp +decide only [go_sem])
end Go.Proofs
