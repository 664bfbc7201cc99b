import Derived.Test.YtcdiifnnnnnceaaQ21

/-
  Versions: At.
-/

namespace Go.Proofs
open Go.PW

section slc3
variable {P : Program} {t e : TypeId} {c b : Nat} {els : List (List D)}
theorem W_slc3 {x m : PV} {lo hi : Option PV} {l h : Nat} {K : PV → Prop} (T : AppT P t e c b) (hx : sliceEls x = some els) (hl : optNat lo 0 = some l) (hh : optNat hi els.length = some h) (hhi : hi.isSome = true) (hm : natOf? m = some h) (h1 : l ≤ h) (h2 : h ≤ els.length) (sz : Szd c els)
    (hK : Todo (K (.c (.full ((els.drop l).take (h - l)))))) : slcV P t x lo hi (some m) K := by
  unfold slcV
  rw [T.und]
  simp only [T.hc, hx, hl, hh, Opt]
  refine ⟨T.pc, ⟨h1, h2, sz, fun _ => hhi⟩, ?_⟩
  unfold slcM
  simp only [hm, Opt]
  exact ⟨trivial, hK⟩
@[congr] theorem slcV_congr3 {T : TypeId} {x y : PV} {lo hi lo' hi' : Option PV} {m m' : PV} {K : PV → Prop} (hx : idd x = y) (hl : idd lo = lo') (hh : idd hi = hi') (hm : idd m = m') : slcV P T x lo hi (some m) K = slcV P T y lo' hi' (some m') K := by rw [← hx, ← hl, ← hh, ← hm]; rfl
end slc3

/-- Behind all but those at the end that are greater. -/
def insBack {α : Type} (gt : α → Bool) (l : List α) (x : α) : List α := (l.reverse.dropWhile gt).reverse ++ x :: (l.reverse.takeWhile gt).reverse
theorem back_stop {α : Type} {gt : α → Bool} {l : List α} {x : α} {n : Nat} (hn : n ≤ l.length) (h : (l.drop n).all gt = true) (hs : ∀ y, n ≠ 0 → l[n - 1]? = some y → gt y = false) : insBack gt l x = l.take n ++ x :: l.drop n := by
  have e1 : l.reverse.take (l.length - n) = (l.drop n).reverse := by rw [List.take_reverse, show l.length - (l.length - n) = n by omega]
  have e2 : l.reverse.drop (l.length - n) = (l.take n).reverse := by rw [List.drop_reverse, show l.length - (l.length - n) = n by omega]
  obtain ⟨k1, k2⟩ := while_stop (l := l.reverse) (i := l.length - n) (f := gt) (by rw [e1, List.all_reverse]; exact h) (fun y hy => by
    rcases Nat.eq_zero_or_pos n with h0 | h0
    · rw [List.getElem?_eq_none (by simp; omega)] at hy; cases hy
    · rw [List.getElem?_reverse (by omega), show l.length - 1 - (l.length - n) = n - 1 by omega] at hy
      exact hs y (by omega) hy)
  rw [insBack, k1, k2, e1, e2, List.reverse_reverse, List.reverse_reverse]
theorem insBack_length {α : Type} (gt : α → Bool) (l : List α) (x : α) : (insBack gt l x).length = l.length + 1 := by
  have := congrArg List.length (List.takeWhile_append_dropWhile (p := gt) (l := l.reverse))
  rw [List.length_append, List.length_reverse] at this
  rw [insBack, List.length_append, List.length_cons, List.length_reverse, List.length_reverse]
  omega
theorem mem_insBack {α : Type} {gt : α → Bool} {l : List α} {x y : α} : y ∈ insBack gt l x ↔ y = x ∨ y ∈ l := by
  have e := List.takeWhile_append_dropWhile (p := gt) (l := l.reverse)
  rw [insBack, List.mem_append, List.mem_cons, List.mem_reverse, List.mem_reverse]
  have h : y ∈ l ↔ y ∈ l.reverse.takeWhile gt ∨ y ∈ l.reverse.dropWhile gt := by rw [← List.mem_append, e, List.mem_reverse]
  rw [h]
  constructor
  · rintro (h | h | h)
    · exact .inr (.inr h)
    · exact .inl h
    · exact .inr (.inl h)
  · rintro (h | h | h)
    · exact .inr (.inl h)
    · exact .inr (.inr h)
    · exact .inl h

def gtP (p y : Piece) : Bool := decide (p.lo < y.lo)
def insP (out : List Piece) (v : Ver) : List Piece := insBack (gtP v.p) out v.p
def vAt (l : List Ver) (t : Int) : List Piece := if vRight l = true then (l.filter (fun v => Span.has v.sl v.sh t)).foldl insP [] else []

theorem insP_len (l : List Ver) : ∀ out : List Piece, (l.foldl insP out).length = out.length + l.length := by
  induction l with
  | nil => intro out; rfl
  | cons v r ih => intro out; rw [List.foldl_cons, ih, insP, insBack_length, List.length_cons]; omega

set_option maxRecDepth 8000 in
set_option maxHeartbeats 16000000 in
theorem Try.kAtV (l : List Ver) (t : Int) (hn : l.length ≤ 131072) (hr : ∀ v ∈ l, v.p.row.length ≤ 1048576) : PureOK Try.prog 16 [pD (encVers l), pD (.lit (.int .i64 t))] (.one (.d (encPieces (vAt l t)))) := by
  refine pure_ok (E := envOf Try.prog [46] 0 [] []) (envOf_ok Try.mixed) Try.func16 rfl Try.call16 (by kernel_rfl) (by rfl) (by exact Nat.le_of_ble_eq_true rfl) ?_
  have kr := Try.kRightV l (by omega) hr
  have e : vAt l t = if vRight l = true then (l.filter (fun v => Span.has v.sl v.sh t)).foldl insP [] else [] := rfl
  cases hR : vRight l with
  | false =>
    rw [hR] at kr e
    repeat' (first
      | with_reducible refine VC_seq fun K hK => ?_
      | with_reducible refine W_region ?_
      | with_reducible refine VC_block ?_
      | with_reducible refine VC_scope ?_
      | with_reducible refine VC_if ?_
      | with_reducible refine VC_skip ?_
      | with_reducible refine VC_exit ?_
      | with_reducible refine VC_ret ?_
      | (with_reducible refine G_not (fun h => ?_) (fun h => ?_) <;> (try simp only [h]))
      | (with_reducible refine G_cases (fun h => ?_) (fun h => ?_) <;> (try simp only [h]))
      | refine C_pure kr rfl rfl (fun _ => rfl) ?_
      | (with_reducible refine hK _ ?_; clear hK K)
      | (clear hK K; with_reducible refine hK _ ?_; clear hK K)
      | (clear hK K; clear hK K; with_reducible refine hK _ ?_; clear hK K)
      | (clear hK K; clear hK K; clear hK K; with_reducible refine hK _ ?_; clear hK K)
      | (with_reducible refine todo ?_; simp +decide only [go_sem]))
    rw [e]
    exact Ret_d rfl rfl
  | true =>
    rw [hR] at kr e
    have ko := Try.kOwnV l (fun v => Span.has v.sl v.sh t) (by omega) hr (H := upd noH 3 (some [.d (.lit (.int .i64 t))])) (A := noA) (Wf_upd Wf_noH rfl) (κ := (14, 0)) rfl (by decide) (Try.kAt1 l t (id := 3) rfl (by decide))
    have hml : (l.filter (fun v => Span.has v.sl v.sh t)).length ≤ l.length := List.length_filter_le _ _
    repeat' (first
      | with_reducible refine VC_seq fun K hK => ?_
      | with_reducible refine W_region ?_
      | with_reducible refine VC_block ?_
      | with_reducible refine VC_scope ?_
      | with_reducible refine VC_if ?_
      | with_reducible refine VC_skip ?_
      | with_reducible refine VC_exit ?_
      | with_reducible refine VC_ret ?_
      | (with_reducible refine G_not (fun h => ?_) (fun h => ?_) <;> (try simp only [h]))
      | (with_reducible refine G_cases (fun h => ?_) (fun h => ?_) <;> (try simp only [h]))
      | refine C_pure kr rfl rfl (fun _ => rfl) ?_
      | refine C_call rfl ko rfl (Above_updH (Above_none _) (by decide)) ?_
      | (with_reducible refine hK _ ?_; clear hK K)
      | (clear hK K; with_reducible refine hK _ ?_; clear hK K)
      | (clear hK K; clear hK K; with_reducible refine hK _ ?_; clear hK K)
      | (clear hK K; clear hK K; clear hK K; with_reducible refine hK _ ?_; clear hK K)
      | (with_reducible refine todo ?_; simp +decide only [go_sem]))
    generalize l.filter (fun v => Span.has v.sl v.sh t) = m at *
    refine VC_range m.length (fun _ => True) (fun i => frame [(14, .c (.mt (14, 0) 5 m.length)), (15, pD (.lit (.int .i64 m.length))), (16, pD (.lit (.int .i64 i))), (5, pD (encPieces ((m.take i).foldl insP [])))] [] [((14, 0), .mu 5 (m.map Ver.enc))]) True.intro ?_ ?_
    · refine Weak_frame ?_ ?_ ?_ <;> simp +decide only [go_sem, List.foldl_nil]
      exact wkP_mt (by simp [aOf]) (by simp [aOf, upd])
    · intro i hi hI
      rcases Nat.lt_or_ge i m.length with hlt | hge
      · have hg := List.getElem?_eq_getElem hlt
        have hd := int_lt_true hlt
        have hwi := int_next hlt (show m.length ≤ 4294967296 by omega)
        generalize m[i] = x at hg
        have hnx := foldl_next (f := insP) (b := []) hg
        have hol : ((m.take i).foldl insP []).length ≤ i := by rw [insP_len, List.length_take]; simp; omega
        have hltT : (i < m.length) = True := eq_true hlt
        repeat' (first
          | with_reducible refine VC_seq fun K hK => ?_
          | with_reducible refine W_region ?_
          | with_reducible refine VC_block ?_
          | with_reducible refine VC_scope ?_
          | with_reducible refine VC_if ?_
          | with_reducible refine VC_skip ?_
          | with_reducible refine VC_exit ?_
          | with_reducible refine VC_ret ?_
          | (with_reducible refine G_not (fun h => ?_) (fun h => ?_) <;> (try simp only [h]))
          | (with_reducible refine G_cases (fun h => ?_) (fun h => ?_) <;> (try simp only [h]))
          | (with_reducible refine hK _ ?_; clear hK K)
          | (clear hK K; with_reducible refine hK _ ?_; clear hK K)
          | (clear hK K; clear hK K; with_reducible refine hK _ ?_; clear hK K)
          | (clear hK K; clear hK K; clear hK K; with_reducible refine hK _ ?_; clear hK K)
          | (with_reducible refine todo ?_; simp +decide only [go_sem, hg, hd, iE_mt, hltT]))
        generalize (m.take i).foldl insP [] = out at *
        have hq2 : ∀ n, List.take (out.length - n) ((out.drop n).map Piece.enc) = (out.drop n).map Piece.enc := fun n => List.take_of_length_le (by simp)
        have hins : ∀ n, n ≤ out.length → (out.drop n).all (gtP x.p) = true → (∀ y, n ≠ 0 → out[n - 1]? = some y → gtP x.p y = false) → insP out x = out.take n ++ x.p :: out.drop n := fun n h1 h2 h3 => back_stop h1 h2 h3
        refine VC_range out.length (fun j => (out.drop (out.length - j)).all (gtP x.p) = true) (fun j => frame [(14, .c (.mt (14, 0) 5 m.length)), (15, pD (.lit (.int .i64 m.length))), (16, pD (.lit (.int .i64 i))), (5, pD (encPieces out)), (7, .c (.ptr 7 0)), (8, pD (.lit (.int .i64 ((out.length - j : Nat) : Int))))]
          [(7, [.d (.lit (.int .i64 x.sl)), .d (.lit (.int .i64 x.sh)), .d (.lit (.int .i64 x.p.lo)), .d (.lit (.int .i64 x.p.hi)), .d (encRow x.p.row)])] [((14, 0), .mu 5 (m.map Ver.enc))]) (by simp) ?_ ?_
        · refine Weak_frame ?_ ?_ ?_ <;> simp +decide only [go_sem, Nat.sub_zero]
          exact ⟨wkP_mt (by simp [aOf]) rfl, wkP_ptr (by simp [hOf])⟩
        · intro j hj hJ
          generalize hnj : out.length - j = n at hJ ⊢
          have hnl : n ≤ out.length := by omega
          rcases Nat.eq_zero_or_pos n with hn0 | hn0
          · have hd0 : ((0 : Int) < (n : Int)) = False := eq_false (by omega)
            have hI2 := hins n hnl hJ (fun y h0 => absurd hn0 h0)
            repeat' (first
              | with_reducible refine VC_seq fun K hK => ?_
              | with_reducible refine W_region ?_
              | with_reducible refine VC_block ?_
              | with_reducible refine VC_scope ?_
              | with_reducible refine VC_if ?_
              | with_reducible refine VC_skip ?_
              | with_reducible refine VC_exit ?_
              | with_reducible refine VC_ret ?_
              | (with_reducible refine G_not (fun h => ?_) (fun h => ?_) <;> (try simp only [h]))
              | (with_reducible refine G_cases (fun h => ?_) (fun h => ?_) <;> (try simp only [h]))
              | (refine W_slc3 Try.appPieces rfl (l := 0) (h := n) rfl (by simp [optNat, natOf?, intOf?]) rfl (by simp [natOf?, intOf?]) (by omega) (by simp; omega) (szPieces _) ?_)
              | refine W_slc Try.appPieces rfl (l := n) (h := out.length) (by simp [optNat, natOf?, intOf?]) (by simp [optNat]) (by omega) (by simp) (szPieces _) ?_
              | (refine W_full Try.appPieces rfl rfl (szOne rfl) (szPieces _) (by simp; omega) rfl ?_)
              | (refine W_full Try.appPieces rfl rfl (szPieces _) (szApp (szOne rfl) (szPieces _)) (by simp; omega) rfl ?_)
              | (with_reducible refine hK _ ?_; clear hK K)
              | (clear hK K; with_reducible refine hK _ ?_; clear hK K)
              | (clear hK K; clear hK K; with_reducible refine hK _ ?_; clear hK K)
              | (clear hK K; clear hK K; clear hK K; with_reducible refine hK _ ?_; clear hK K)
              | (with_reducible refine todo ?_; simp +decide only [go_sem, hd0, hwi, ← List.map_take, ← List.map_drop, Nat.sub_zero, hq2]))
            refine Next_of hlt True.intro (Weak_frame ?_ ?_ ?_) <;> simp +decide only [go_sem, hnx, hI2]
            exact wkP_mt (by simp [aOf]) (by simp [aOf, upd])
          · have hd0 : ((0 : Int) < (n : Int)) = True := eq_true (by omega)
            have hw1 : IntKind.i64.wrap ((n : Int) - 1) = ((n - 1 : Nat) : Int) := by rw [Go.IntWalk.i64_in _ (by omega)]; omega
            have hgy := List.getElem?_eq_getElem (show n - 1 < out.length by omega)
            generalize hyy : out[n - 1] = y at hgy
            cases hgt : decide (x.p.lo < y.lo) with
            | true =>
              repeat' (first
                | with_reducible refine VC_seq fun K hK => ?_
                | with_reducible refine W_region ?_
                | with_reducible refine VC_block ?_
                | with_reducible refine VC_scope ?_
                | with_reducible refine VC_if ?_
                | with_reducible refine VC_skip ?_
                | with_reducible refine VC_exit ?_
                | with_reducible refine VC_ret ?_
                | (with_reducible refine G_not (fun h => ?_) (fun h => ?_) <;> (try simp only [h]))
                | (with_reducible refine G_cases (fun h => ?_) (fun h => ?_) <;> (try simp only [h]))
                | (with_reducible refine hK _ ?_; clear hK K)
                | (clear hK K; with_reducible refine hK _ ?_; clear hK K)
                | (clear hK K; clear hK K; with_reducible refine hK _ ?_; clear hK K)
                | (clear hK K; clear hK K; clear hK K; with_reducible refine hK _ ?_; clear hK K)
                | (with_reducible refine todo ?_; simp +decide only [go_sem, hd0, hw1, hgy, hgt]))
              refine ⟨⟨j + 1, by omega, ?_⟩, Weak_frame ?_ ?_ ?_, by show out.length - (j + 1) < out.length - j; omega⟩ <;> simp +decide only [go_sem, show out.length - (j + 1) = n - 1 by omega]
              · rw [List.drop_eq_getElem_cons (show n - 1 < out.length by omega), hyy, show n - 1 + 1 = n by omega, List.all_cons, hJ, Bool.and_true]
                exact hgt
              · exact ⟨wkP_mt (by simp [aOf]) rfl, wkP_ptr (by simp [hOf])⟩
            | false =>
              have hI2 := hins n hnl hJ (fun z _ hz => by rw [hgy] at hz; cases hz; exact hgt)
              repeat' (first
                | with_reducible refine VC_seq fun K hK => ?_
                | with_reducible refine W_region ?_
                | with_reducible refine VC_block ?_
                | with_reducible refine VC_scope ?_
                | with_reducible refine VC_if ?_
                | with_reducible refine VC_skip ?_
                | with_reducible refine VC_exit ?_
                | with_reducible refine VC_ret ?_
                | (with_reducible refine G_not (fun h => ?_) (fun h => ?_) <;> (try simp only [h]))
                | (with_reducible refine G_cases (fun h => ?_) (fun h => ?_) <;> (try simp only [h]))
                | (refine W_slc3 Try.appPieces rfl (l := 0) (h := n) rfl (by simp [optNat, natOf?, intOf?]) rfl (by simp [natOf?, intOf?]) (by omega) (by simp; omega) (szPieces _) ?_)
                | refine W_slc Try.appPieces rfl (l := n) (h := out.length) (by simp [optNat, natOf?, intOf?]) (by simp [optNat]) (by omega) (by simp) (szPieces _) ?_
                | (refine W_full Try.appPieces rfl rfl (szOne rfl) (szPieces _) (by simp; omega) rfl ?_)
                | (refine W_full Try.appPieces rfl rfl (szPieces _) (szApp (szOne rfl) (szPieces _)) (by simp; omega) rfl ?_)
                | (with_reducible refine hK _ ?_; clear hK K)
                | (clear hK K; with_reducible refine hK _ ?_; clear hK K)
                | (clear hK K; clear hK K; with_reducible refine hK _ ?_; clear hK K)
                | (clear hK K; clear hK K; clear hK K; with_reducible refine hK _ ?_; clear hK K)
                | (with_reducible refine todo ?_; simp +decide only [go_sem, hd0, hw1, hgy, hgt, hwi, ← List.map_take, ← List.map_drop, Nat.sub_zero, hq2]))
              refine Next_of hlt True.intro (Weak_frame ?_ ?_ ?_) <;> simp +decide only [go_sem, hnx, hI2]
              exact wkP_mt (by simp [aOf]) (by simp [aOf, upd])
      · have hd := int_lt_false hge
        rw [List.take_of_length_le hge]
        repeat' (first
          | with_reducible refine VC_seq fun K hK => ?_
          | with_reducible refine W_region ?_
          | with_reducible refine VC_block ?_
          | with_reducible refine VC_scope ?_
          | with_reducible refine VC_if ?_
          | with_reducible refine VC_skip ?_
          | with_reducible refine VC_exit ?_
          | with_reducible refine VC_ret ?_
          | (with_reducible refine G_not (fun h => ?_) (fun h => ?_) <;> (try simp only [h]))
          | (with_reducible refine G_cases (fun h => ?_) (fun h => ?_) <;> (try simp only [h]))
          | (with_reducible refine hK _ ?_; clear hK K)
          | (clear hK K; with_reducible refine hK _ ?_; clear hK K)
          | (clear hK K; clear hK K; with_reducible refine hK _ ?_; clear hK K)
          | (clear hK K; clear hK K; clear hK K; with_reducible refine hK _ ?_; clear hK K)
          | (with_reducible refine todo ?_; simp +decide only [go_sem, hd]))
        rw [e]
        exact Ret_d rfl rfl
end Go.Proofs
