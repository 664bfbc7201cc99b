import Derived.Test.YtcdiifnnnnnceaaQ14

/-
  Pieces: Coalesce (and the function within it).
-/

namespace Go.Proofs
open Go.PW

def touches (out : List Piece) (x : Piece) : Bool :=
  match out.getLast? with
  | none => false
  | some y => y.hi == x.lo && sameRow y.row x.row

theorem iE_mt {P : Program} {e : TypeId} {n : Nat} {κ : Tok} {sz len : Nat} : idxE P e n (.c (.mt κ sz len)) = if n < len ∧ sz = P.cellsOf e then some (.c (.mptr κ sz len n 0)) else none := rfl

set_option maxRecDepth 8000 in
set_option maxHeartbeats 4000000 in
theorem Try.kTouches (out : List Piece) (x : Piece) (hn : out.length ≤ 1048576) (hr : ∀ p ∈ out, p.row.length ≤ 1048576) {H : HMap} {A : AMap} (hw : Wf H A) {id : Nat} {κ : Tok} (hid : H id = some [.mt κ 3 out.length]) (hκ : A κ = some (.mu 3 (out.map Piece.enc))) :
    EffOK Try.prog 67 1000 H A [pA x.enc, .c (.ptr id 0)] (pD (.lit (.bool (touches out x)))) H A := by
  refine eff_ok (E := envOf Try.prog [] 1000 [] []) (envOf_ok Try.mixed) Try.func67 rfl Try.call67 (by kernel_rfl) (by exact Nat.le_of_ble_eq_true rfl) (fun hab => ?_)
  have hi : id < 1000 := Nat.lt_of_not_le fun h => by rw [(hab id h).1] at hid; cases hid
  have h2 : H 1002 = none := (hab _ (by decide)).1
  have h4 : H 1004 = none := (hab _ (by decide)).1
  have n2 : (id = 1002) = False := eq_false (by omega)
  cases hl : out.getLast? with
  | none =>
    have e : out = [] := List.getLast?_eq_none_iff.1 hl
    subst e
    repeat' (first
      | with_reducible refine VC_seq fun K hK => ?_
      | with_reducible refine W_region ?_
      | with_reducible refine VC_block ?_
      | with_reducible refine VC_scope ?_
      | with_reducible refine VC_if ?_
      | with_reducible refine VC_skip ?_
      | with_reducible refine VC_exit ?_
      | with_reducible refine VC_ret ?_
      | (with_reducible refine G_not (fun h => ?_) (fun h => ?_) <;> (try simp only [h]))
      | (with_reducible refine G_cases (fun h => ?_) (fun h => ?_) <;> (try simp only [h]))
      | (with_reducible refine hK _ ?_; clear hK K)
      | (clear hK K; with_reducible refine hK _ ?_; clear hK K)
      | (clear hK K; clear hK K; with_reducible refine hK _ ?_; clear hK K)
      | (clear hK K; clear hK K; clear hK K; with_reducible refine hK _ ?_; clear hK K)
      | (with_reducible refine todo ?_; simp +decide only [go_sem, hid, h2, n2]))
    exact RetE_same hw (kp_upd h2 kp_refl) rfl rfl rfl
  | some y =>
    have hne : out ≠ [] := fun e => by rw [e] at hl; cases hl
    have hpos := List.length_pos_iff.2 hne
    have hg : out[out.length - 1]? = some y := by rw [← List.getLast?_eq_getElem?]; exact hl
    have hy := hr y (List.mem_of_getElem? hg)
    have hz : (((out.length : Int)) == 0) = false := by rw [beq_eq_false_iff_ne]; omega
    have hwr : IntKind.i64.wrap ((out.length : Int) - 1) = ((out.length - 1 : Nat) : Int) := by rw [Go.IntWalk.i64_in _ (by omega)]; omega
    have hlt : (out.length - 1 < out.length) = True := eq_true (by omega)
    have ht : touches out x = ((y.hi == x.lo) && sameRow y.row x.row) := by unfold touches; rw [hl]
    rw [ht]
    repeat' (first
      | with_reducible refine VC_seq fun K hK => ?_
      | with_reducible refine W_region ?_
      | with_reducible refine VC_block ?_
      | with_reducible refine VC_scope ?_
      | with_reducible refine VC_if ?_
      | with_reducible refine VC_skip ?_
      | with_reducible refine VC_exit ?_
      | with_reducible refine VC_ret ?_
      | (with_reducible refine G_not (fun h => ?_) (fun h => ?_) <;> (try simp only [h]))
      | (with_reducible refine G_cases (fun h => ?_) (fun h => ?_) <;> (try simp only [h]))
      | refine C_pure (Try.kSame y.row x.row (by omega)) rfl rfl (fun k => (hab _ (by decide)).2 k) ?_
      | (with_reducible refine hK _ ?_; clear hK K)
      | (clear hK K; with_reducible refine hK _ ?_; clear hK K)
      | (clear hK K; clear hK K; with_reducible refine hK _ ?_; clear hK K)
      | (clear hK K; clear hK K; clear hK K; with_reducible refine hK _ ?_; clear hK K)
      | (with_reducible refine todo ?_; simp +decide only [go_sem, hid, h2, h4, n2, iE_mt, hκ, hz, hwr, hlt, hg]))
    all_goals
      rw [h]
      exact RetE_same hw (kp_upd h4 (kp_upd h4 (kp_upd h2 kp_refl))) rfl rfl rfl
end Go.Proofs

/-
  Pieces: Coalesce.
-/

namespace Go.Proofs
open Go.PW

/-- The last piece's end, moved. -/
def setHi (out : List Piece) (h : Int) : List Piece := match out.getLast? with
  | none => out
  | some y => out.set (out.length - 1) { y with hi := h }
def coStep (out : List Piece) (x : Piece) : List Piece := if touches out x then setHi out x.hi else out ++ [x]
def co (ps : List Piece) : List Piece := ps.foldl coStep []
def coalesce (ps : List Piece) : List Piece := if right ps then co ps else ps

theorem setHi_length (out : List Piece) (h : Int) : (setHi out h).length = out.length := by
  unfold setHi
  split
  · rfl
  · exact List.length_set
theorem coStep_length (out : List Piece) (x : Piece) : (coStep out x).length ≤ out.length + 1 ∧ out.length ≤ (coStep out x).length := by
  unfold coStep
  split
  · rw [setHi_length]; omega
  · rw [List.length_append]; exact ⟨Nat.le_refl _, Nat.le_add_right _ _⟩
theorem coStep_row {out : List Piece} {x : Piece} {N : Nat} (h : ∀ p ∈ out, p.row.length ≤ N) (hx : x.row.length ≤ N) : ∀ p ∈ coStep out x, p.row.length ≤ N := by
  intro p hp
  unfold coStep at hp
  split at hp
  · unfold setHi at hp
    split at hp
    · exact h p hp
    · rename_i y hy
      rcases List.mem_or_eq_of_mem_set hp with hp | rfl
      · exact h p hp
      · exact h y (List.mem_of_getLast? hy)
  · rcases List.mem_append.1 hp with hp | hp
    · exact h p hp
    · rw [List.mem_singleton.1 hp]; exact hx
theorem coStep_ne {out : List Piece} {x : Piece} : coStep out x ≠ [] := by
  intro e
  unfold coStep at e
  split at e
  · rename_i h
    unfold touches at h
    split at h
    · cases h
    · rename_i y hy
      have := congrArg List.length e
      rw [setHi_length] at this
      rw [List.eq_nil_of_length_eq_zero this] at hy
      cases hy
  · simp at e
theorem co_next {ps : List Piece} {x : Piece} {i : Nat} (h : ps[i]? = some x) : co (ps.take (i + 1)) = coStep (co (ps.take i)) x := by
  rw [take_next h, co, List.foldl_append]; rfl
theorem co_len (ps : List Piece) : ∀ out : List Piece, (ps.foldl coStep out).length ≤ out.length + ps.length := by
  induction ps with
  | nil => intro out; simp
  | cons x r ih =>
    intro out
    have := ih (coStep out x)
    have := (coStep_length out x).1
    simp only [List.foldl_cons, List.length_cons]
    omega
theorem co_length (ps : List Piece) : (co ps).length ≤ ps.length := by
  have := co_len ps []
  simpa [co] using this
theorem co_row {N : Nat} (ps : List Piece) : ∀ out : List Piece, (∀ p ∈ ps, p.row.length ≤ N) → (∀ p ∈ out, p.row.length ≤ N) → ∀ p ∈ ps.foldl coStep out, p.row.length ≤ N := by
  induction ps with
  | nil => intro out _ h; exact h
  | cons x r ih =>
    intro out h h'
    exact ih (coStep out x) (fun p hp => h p (List.mem_cons_of_mem _ hp)) (coStep_row h' (h x (List.mem_cons_self ..)))
theorem co_rows {N : Nat} {ps : List Piece} (h : ∀ p ∈ ps, p.row.length ≤ N) : ∀ p ∈ co ps, p.row.length ≤ N := co_row ps [] h (fun p hp => by cases hp)

set_option maxRecDepth 8000 in
set_option maxHeartbeats 4000000 in
theorem Try.kTouches0 (x : Piece) {H : HMap} {A : AMap} (hw : Wf H A) {id : Nat} (hid : H id = some [.full []]) :
    EffOK Try.prog 67 1000 H A [pA x.enc, .c (.ptr id 0)] (pD (.lit (.bool false))) H A := by
  refine eff_ok (E := envOf Try.prog [] 1000 [] []) (envOf_ok Try.mixed) Try.func67 rfl Try.call67 (by kernel_rfl) (by exact Nat.le_of_ble_eq_true rfl) (fun hab => ?_)
  have hi : id < 1000 := Nat.lt_of_not_le fun h => by rw [(hab id h).1] at hid; cases hid
  have h2 : H 1002 = none := (hab _ (by decide)).1
  have n2 : (id = 1002) = False := eq_false (by omega)
  repeat' (first
    | with_reducible refine VC_seq fun K hK => ?_
    | with_reducible refine W_region ?_
    | with_reducible refine VC_block ?_
    | with_reducible refine VC_scope ?_
    | with_reducible refine VC_if ?_
    | with_reducible refine VC_skip ?_
    | with_reducible refine VC_exit ?_
    | with_reducible refine VC_ret ?_
    | (with_reducible refine G_not (fun h => ?_) (fun h => ?_) <;> (try simp only [h]))
    | (with_reducible refine G_cases (fun h => ?_) (fun h => ?_) <;> (try simp only [h]))
    | (with_reducible refine hK _ ?_; clear hK K)
    | (clear hK K; with_reducible refine hK _ ?_; clear hK K)
    | (clear hK K; clear hK K; with_reducible refine hK _ ?_; clear hK K)
    | (clear hK K; clear hK K; clear hK K; with_reducible refine hK _ ?_; clear hK K)
    | (with_reducible refine todo ?_; simp +decide only [go_sem, hid, h2, n2]))
  exact RetE_same hw (kp_upd h2 kp_refl) rfl rfl rfl

theorem wk_mt {H' : HMap} {A A' : AMap} {κ : Tok} {m n : Nat} (h : A' κ ≠ none) (e : A' κ = A κ) : CV.wk H' A A' (.mt κ m n) (.mt κ m n) := .inr (.inl ⟨rfl, h, e⟩)

theorem Wf_mt {u n m : Nat} {κ : Tok} {ar : Arr} : Wf (hOf [(u, [.mt κ m n])]) (aOf [(κ, ar)]) := by
  intro id cs c h hc
  unfold hOf at h
  split at h
  · cases h
    rw [List.mem_singleton.1 hc]
    show aOf [(κ, ar)] κ ≠ none
    simp [aOf]
  · cases h

section mt
variable {P : Program} {t e : TypeId} {c b : Nat} {md : List Nat} {k q : Nat} {A : AMap} {els ys : List (List D)} {y : PV} {κ : Tok} {KK : PV → AMap → Prop}
theorem W_mt {n : Nat} (T : AppT P t e c b) (hA : A κ = some (.mu c els)) (hn : n = els.length) (hy : sliceEls y = some ys) (s2 : Szd c ys) (s3 : (els.length + ys.length) * b ≤ 140737488355328)
    (hK : Todo (KK (.c (.mt κ c (els ++ ys).length)) (upd A κ (some (.mu c (els ++ ys)))))) : appV P md k q A [t, t] (.c (.mt κ c n)) y KK := by
  unfold appV
  simp only [T.und, T.hc, T.hb, T.hz, hy, hA]
  exact ⟨⟨trivial, T.pc, trivial, T.pb⟩, ⟨trivial, trivial, hn, s2, s3⟩, hK⟩
end mt

def outC : List Piece → CV
  | [] => .full []
  | x :: r => .mt (36, 0) 3 (x :: r).length
def outA : List Piece → List (Tok × Arr)
  | [] => []
  | x :: r => [((36, 0), .mu 3 ((x :: r).map Piece.enc))]
theorem outC_of {out : List Piece} (h : out ≠ []) : outC out = .mt (36, 0) 3 out.length := by cases out with | nil => exact absurd rfl h | cons => rfl
theorem outA_of {out : List Piece} (h : out ≠ []) : outA out = [((36, 0), .mu 3 (out.map Piece.enc))] := by cases out with | nil => exact absurd rfl h | cons => rfl

set_option maxRecDepth 8000 in
set_option maxHeartbeats 4000000 in
theorem Try.kCoalesce (ps : List Piece) (hn : ps.length ≤ 131072) (hr : ∀ p ∈ ps, p.row.length ≤ 1048576) : PureOK Try.prog 35 [pD (encPieces ps)] (.one (.d (encPieces (coalesce ps)))) := by
  refine Try.pure (md := [36]) Try.func35 rfl Try.call35 (by kernel_rfl) (by rfl) (by exact Nat.le_of_ble_eq_true rfl) ?_
  repeat' (first
    | with_reducible refine VC_seq fun K hK => ?_
    | with_reducible refine W_region ?_
    | with_reducible refine VC_block ?_
    | with_reducible refine VC_scope ?_
    | with_reducible refine VC_if ?_
    | with_reducible refine VC_skip ?_
    | with_reducible refine VC_exit ?_
    | with_reducible refine VC_ret ?_
    | (with_reducible refine G_not (fun h => ?_) (fun h => ?_) <;> (try simp only [h]))
    | (with_reducible refine G_cases (fun h => ?_) (fun h => ?_) <;> (try simp only [h]))
    | refine C_pure (Try.kOwn ps (by omega) hr) rfl rfl (fun _ => rfl) ?_
    | refine C_pure (Try.kRight ps (by omega) hr) rfl rfl (fun _ => rfl) ?_
    | (with_reducible refine hK _ ?_; clear hK K)
    | (clear hK K; with_reducible refine hK _ ?_; clear hK K)
    | (clear hK K; clear hK K; with_reducible refine hK _ ?_; clear hK K)
    | (clear hK K; clear hK K; clear hK K; with_reducible refine hK _ ?_; clear hK K)
    | (with_reducible refine todo ?_; simp +decide only [go_sem]))
  · have hR : coalesce ps = co ps := by unfold coalesce; rw [h]; rfl
    rw [hR]
    refine VC_range ps.length (fun _ => True) (fun i => frame [(3, .c (.ptr 3 0)), (4, .c (.fn 67 [(3, 0)])), (14, pD (encPieces ps)), (15, pD (.lit (.int .i64 ps.length))), (16, pD (.lit (.int .i64 i)))] [(3, [outC (co (ps.take i))])] (outA (co (ps.take i)))) True.intro ?_ ?_
    · refine Weak_frame ?_ ?_ ?_ <;> simp +decide only [go_sem, co, List.foldl_nil, outC, outA]
      exact ⟨wkP_ptr (by simp [hOf]), wkP_fn1 (by simp [hOf])⟩
    · intro i hi hI
      dsimp only
      rcases Nat.lt_or_ge i ps.length with hlt | hge
      · have hg := List.getElem?_eq_getElem hlt
        have hd := int_lt_true hlt
        have hwi := int_next hlt (show ps.length ≤ 4294967296 by omega)
        generalize ps[i] = x at hg
        have hx := hr x (List.mem_of_getElem? hg)
        have hl : (co (ps.take i)).length ≤ i := Nat.le_trans (co_length _) (by rw [List.length_take]; omega)
        have hro : ∀ p ∈ co (ps.take i), p.row.length ≤ 1048576 := co_rows (fun p hp => hr p (List.mem_of_mem_take hp))
        have hnx := co_next hg
        have hne' : co (ps.take (i + 1)) ≠ [] := by rw [hnx]; exact coStep_ne
        have hC := outC_of hne'
        have hA := outA_of hne'
        rw [hnx] at hC hA
        generalize co (ps.take i) = out at hl hro hnx hC hA ⊢
        cases out with
        | nil =>
          have hs : coStep [] x = [x] := rfl
          rw [hs] at hC hA
          rw [show outC [] = .full [] from rfl, show outA [] = [] from rfl]
          repeat' (first
            | with_reducible refine VC_seq fun K hK => ?_
            | with_reducible refine W_region ?_
            | with_reducible refine VC_block ?_
            | with_reducible refine VC_scope ?_
            | with_reducible refine VC_if ?_
            | with_reducible refine VC_skip ?_
            | with_reducible refine VC_exit ?_
            | with_reducible refine VC_ret ?_
            | (with_reducible refine G_not (fun h => ?_) (fun h => ?_) <;> (try simp only [h]))
            | (with_reducible refine G_cases (fun h => ?_) (fun h => ?_) <;> (try simp only [h]))
            | refine C_eff (Try.kTouches0 x (Wf_upd (Wf_upd (Wf_hOf rfl) rfl) rfl) (id := 3) (by simp +decide only [go_sem])) rfl (Above_updH (Above_updH (Above_of rfl rfl) (by decide)) (by decide)) ?_
            | refine W_fullm Try.appPieces rfl rfl (szOne rfl) (by simp) rfl ?_
            | (with_reducible refine hK _ ?_; clear hK K)
            | (clear hK K; with_reducible refine hK _ ?_; clear hK K)
            | (clear hK K; clear hK K; with_reducible refine hK _ ?_; clear hK K)
            | (clear hK K; clear hK K; clear hK K; with_reducible refine hK _ ?_; clear hK K)
            | (with_reducible refine todo ?_; simp +decide only [go_sem, hg, hd, hwi]))
          refine Next_of hlt True.intro (Weak_frame ?_ ?_ ?_) <;> simp +decide only [go_sem, hnx, hs, hC, hA]
          · exact ⟨wkP_ptr (by simp [hOf]), wkP_fn1 (by simp [hOf])⟩
          · exact wk_mt (by simp [aOf]) rfl
        | cons z zs =>
          have hne : z :: zs ≠ [] := List.cons_ne_nil z zs
          rw [outC_of hne, outA_of hne]
          have hpos := List.length_pos_iff.2 hne
          generalize z :: zs = out at *
          have kT := Try.kTouches out x (by omega) hro (H := upd (upd (hOf [(3, [.mt (36, 0) 3 out.length])]) 6 (some [.d (.lit (.int .i64 0)), .d (.lit (.int .i64 0)), .full []])) 6 (some [.d (.lit (.int .i64 x.lo)), .d (.lit (.int .i64 x.hi)), .d (encRow x.row)])) (A := aOf [((36, 0), .mu 3 (out.map Piece.enc))])
            (Wf_upd (Wf_upd Wf_mt rfl) rfl) (id := 3) (κ := (36, 0)) (by simp +decide only [go_sem]) (by simp +decide only [go_sem])
          cases hto : touches out x with
          | false =>
            rw [hto] at kT
            have hs : coStep out x = out ++ [x] := by unfold coStep; rw [hto]; rfl
            rw [hs] at hC hA
            repeat' (first
              | with_reducible refine VC_seq fun K hK => ?_
              | with_reducible refine W_region ?_
              | with_reducible refine VC_block ?_
              | with_reducible refine VC_scope ?_
              | with_reducible refine VC_if ?_
              | with_reducible refine VC_skip ?_
              | with_reducible refine VC_exit ?_
              | with_reducible refine VC_ret ?_
              | (with_reducible refine G_not (fun h => ?_) (fun h => ?_) <;> (try simp only [h]))
              | (with_reducible refine G_cases (fun h => ?_) (fun h => ?_) <;> (try simp only [h]))
              | refine C_eff kT rfl (Above_updH (Above_updH (Above_of rfl rfl) (by decide)) (by decide)) ?_
              | (refine W_mt Try.appPieces (els := out.map Piece.enc) (by simp +decide only [go_sem]) (by simp +decide only [go_sem]) rfl (szOne rfl) (by simp; omega) ?_)
              | (with_reducible refine hK _ ?_; clear hK K)
              | (clear hK K; with_reducible refine hK _ ?_; clear hK K)
              | (clear hK K; clear hK K; with_reducible refine hK _ ?_; clear hK K)
              | (clear hK K; clear hK K; clear hK K; with_reducible refine hK _ ?_; clear hK K)
              | (with_reducible refine todo ?_; simp +decide only [go_sem, hg, hd, hwi]))
            refine Next_of hlt True.intro (Weak_frame ?_ ?_ ?_) <;> simp +decide only [go_sem, hnx, hs, hC, hA]
            · exact ⟨wkP_ptr (by simp [hOf]), wkP_fn1 (by simp [hOf])⟩
            · exact wk_mt (by simp [aOf]) rfl
          | true =>
            rw [hto] at kT
            have hs : coStep out x = setHi out x.hi := by unfold coStep; rw [hto]; rfl
            rw [hs] at hC hA
            cases hlast : out.getLast? with
            | none => exact absurd (List.getLast?_eq_none_iff.1 hlast) hne
            | some y =>
              have hgl : out[out.length - 1]? = some y := by rw [← List.getLast?_eq_getElem?]; exact hlast
              have hset : setHi out x.hi = out.set (out.length - 1) { y with hi := x.hi } := by unfold setHi; rw [hlast]
              have hwr : IntKind.i64.wrap ((out.length : Int) - 1) = ((out.length - 1 : Nat) : Int) := by rw [Go.IntWalk.i64_in _ (by omega)]; omega
              have hll : (out.length - 1 < out.length) = True := eq_true (by omega)
              rw [hset] at hC hA
              repeat' (first
                | with_reducible refine VC_seq fun K hK => ?_
                | with_reducible refine W_region ?_
                | with_reducible refine VC_block ?_
                | with_reducible refine VC_scope ?_
                | with_reducible refine VC_if ?_
                | with_reducible refine VC_skip ?_
                | with_reducible refine VC_exit ?_
                | with_reducible refine VC_ret ?_
                | (with_reducible refine G_not (fun h => ?_) (fun h => ?_) <;> (try simp only [h]))
                | (with_reducible refine G_cases (fun h => ?_) (fun h => ?_) <;> (try simp only [h]))
                | refine C_eff kT rfl (Above_updH (Above_updH (Above_of rfl rfl) (by decide)) (by decide)) ?_
                | (with_reducible refine hK _ ?_; clear hK K)
                | (clear hK K; with_reducible refine hK _ ?_; clear hK K)
                | (clear hK K; clear hK K; with_reducible refine hK _ ?_; clear hK K)
                | (clear hK K; clear hK K; clear hK K; with_reducible refine hK _ ?_; clear hK K)
                | (with_reducible refine todo ?_; simp +decide only [go_sem, hg, hd, hwi, iE_mt, hwr, hll, hgl]))
              refine Next_of hlt True.intro (Weak_frame ?_ ?_ ?_) <;> simp +decide only [go_sem, hnx, hs, hset, hC, hA, List.map_set, List.length_set]
              · exact ⟨wkP_ptr (by simp [hOf]), wkP_fn1 (by simp [hOf])⟩
              · exact wk_mt (by simp [aOf]) rfl
      · have hd := int_lt_false hge
        rw [List.take_of_length_le hge]
        generalize hc : co ps = out
        cases out with
        | nil =>
          rw [show outC [] = .full [] from rfl, show outA [] = [] from rfl]
          repeat' (first
            | with_reducible refine VC_seq fun K hK => ?_
            | with_reducible refine W_region ?_
            | with_reducible refine VC_block ?_
            | with_reducible refine VC_scope ?_
            | with_reducible refine VC_if ?_
            | with_reducible refine VC_skip ?_
            | with_reducible refine VC_exit ?_
            | with_reducible refine VC_ret ?_
            | (with_reducible refine G_not (fun h => ?_) (fun h => ?_) <;> (try simp only [h]))
            | (with_reducible refine G_cases (fun h => ?_) (fun h => ?_) <;> (try simp only [h]))
            | (with_reducible refine hK _ ?_; clear hK K)
            | (clear hK K; with_reducible refine hK _ ?_; clear hK K)
            | (clear hK K; clear hK K; with_reducible refine hK _ ?_; clear hK K)
            | (clear hK K; clear hK K; clear hK K; with_reducible refine hK _ ?_; clear hK K)
            | (with_reducible refine todo ?_; simp +decide only [go_sem, hd]))
          rw [hR, hc]
          exact Ret_d rfl rfl
        | cons y r =>
          rw [outC_of (List.cons_ne_nil y r), outA_of (List.cons_ne_nil y r)]
          repeat' (first
            | with_reducible refine VC_seq fun K hK => ?_
            | with_reducible refine W_region ?_
            | with_reducible refine VC_block ?_
            | with_reducible refine VC_scope ?_
            | with_reducible refine VC_if ?_
            | with_reducible refine VC_skip ?_
            | with_reducible refine VC_exit ?_
            | with_reducible refine VC_ret ?_
            | (with_reducible refine G_not (fun h => ?_) (fun h => ?_) <;> (try simp only [h]))
            | (with_reducible refine G_cases (fun h => ?_) (fun h => ?_) <;> (try simp only [h]))
            | (with_reducible refine hK _ ?_; clear hK K)
            | (clear hK K; with_reducible refine hK _ ?_; clear hK K)
            | (clear hK K; clear hK K; with_reducible refine hK _ ?_; clear hK K)
            | (clear hK K; clear hK K; clear hK K; with_reducible refine hK _ ?_; clear hK K)
            | (with_reducible refine todo ?_; simp +decide only [go_sem, hd]))
          rw [hR, hc]
          exact Ret_mt (36, 0) rfl (sz := 3) (by simp +decide only [go_sem]) (by simp +decide only [go_sem])
  · have hR : coalesce ps = ps := by unfold coalesce; rw [h]; rfl
    rw [hR]
    refine Ret_d rfl ?_
    simp +decide only [go_sem]
end Go.Proofs

/-
  Pieces: plain laws (no program in sight).
-/

namespace Go.Proofs
open Go.PW

/-! Equality. -/
theorem bytes_same {s t : ByteArray} : s.toList = t.toList ↔ s = t := by
  constructor
  · intro h
    rw [ByteArray.toList_eq, ByteArray.toList_eq] at h
    exact ByteArray.ext (Array.toList_inj.1 h)
  · intro h; rw [h]
theorem Val.same_iff {v w : Val} : v.same w = true ↔ v = w := by
  unfold Val.same
  simp only [Bool.and_eq_true, beq_iff_eq, bytes_same]
  constructor
  · rintro ⟨h1, h2, h3, h4⟩; cases v; cases w; simp_all
  · rintro rfl; exact ⟨rfl, rfl, rfl, rfl⟩
theorem sameRow_iff : ∀ {a b : Row}, sameRow a b = true ↔ a = b
  | [], [] => by simp [sameRow]
  | [], _ :: _ => by simp [sameRow]
  | _ :: _, [] => by simp [sameRow]
  | x :: a, y :: b => by
    have ih := sameRow_iff (a := a) (b := b)
    unfold sameRow at ih ⊢
    simp only [List.zipWith_cons_cons, List.all_cons, List.length_cons, Bool.and_eq_true, id_eq, Val.same_iff, beq_iff_eq, Nat.add_right_cancel_iff, List.cons.injEq] at ih ⊢
    rw [← ih]
    constructor
    · rintro ⟨h1, h2, h3⟩; exact ⟨h2, h1, h3⟩
    · rintro ⟨h1, h2, h3⟩; exact ⟨h2, h1, h3⟩
theorem samePiece_iff {x y : Piece} : samePiece x y = true ↔ x = y := by
  unfold samePiece
  simp only [Bool.and_eq_true, sameRow_iff, beq_iff_eq]
  constructor
  · rintro ⟨⟨h1, h2⟩, h3⟩; cases x; cases y; simp_all
  · rintro rfl; exact ⟨⟨rfl, rfl⟩, rfl⟩
theorem samePieces_iff : ∀ {a b : List Piece}, samePieces a b = true ↔ a = b
  | [], [] => by simp [samePieces]
  | [], _ :: _ => by simp [samePieces]
  | _ :: _, [] => by simp [samePieces]
  | x :: a, y :: b => by
    have ih := samePieces_iff (a := a) (b := b)
    unfold samePieces at ih ⊢
    simp only [List.zipWith_cons_cons, List.all_cons, List.length_cons, Bool.and_eq_true, id_eq, samePiece_iff, beq_iff_eq, Nat.add_right_cancel_iff, List.cons.injEq] at ih ⊢
    rw [← ih]
    constructor
    · rintro ⟨h1, h2, h3⟩; exact ⟨h2, h1, h3⟩
    · rintro ⟨h1, h2, h3⟩; exact ⟨h2, h1, h3⟩
theorem isIn_iff {q : List Piece} {x : Piece} : isIn q x = true ↔ x ∈ q := by
  unfold isIn
  rw [List.any_eq_true]
  constructor
  · rintro ⟨y, h, e⟩; rw [samePiece_iff.1 e]; exact h
  · intro h; exact ⟨x, h, samePiece_iff.2 rfl⟩

/-! What is right. -/
def OK (p : Piece) : Prop := (0 ≤ p.lo ∧ p.lo < p.hi ∧ p.hi ≤ 1099511627776) ∧ rowRight p.row = true
theorem spanRight_iff {a b : Int} : Span.right a b = true ↔ 0 ≤ a ∧ a < b ∧ b ≤ 1099511627776 := by
  unfold Span.right
  simp only [Bool.and_eq_true, decide_eq_true_eq, and_assoc]
theorem rightFrom_iff : ∀ {ps : List Piece} {e : Int}, rightFrom e ps = true ↔ (∀ p ∈ ps, OK p ∧ e ≤ p.lo) ∧ ps.Pairwise fun p q => p.hi ≤ q.lo
  | [], e => by simp [rightFrom]
  | x :: r, e => by
    rw [rightFrom, Bool.and_eq_true, rightFrom_iff (ps := r), pieceRight, Bool.and_eq_true, Bool.and_eq_true, spanRight_iff]
    simp only [Bool.not_eq_true', decide_eq_false_iff_not, Int.not_lt, List.pairwise_cons, List.forall_mem_cons, OK]
    constructor
    · rintro ⟨⟨⟨h1, h2⟩, h3⟩, h4, h5⟩
      exact ⟨⟨⟨⟨h1, h2⟩, h3⟩, fun p hp => ⟨(h4 p hp).1, by have := (h4 p hp).2; omega⟩⟩, fun p hp => (h4 p hp).2, h5⟩
    · rintro ⟨⟨⟨⟨h1, h2⟩, h3⟩, h4⟩, h5, h6⟩
      exact ⟨⟨⟨h1, h2⟩, h3⟩, fun p hp => ⟨(h4 p hp).1, h5 p hp⟩, h6⟩
theorem right_iff {ps : List Piece} : right ps = true ↔ (∀ p ∈ ps, OK p) ∧ ps.Pairwise fun p q => p.hi ≤ q.lo := by
  rw [right, rightFrom_iff]
  constructor
  · rintro ⟨h1, h2⟩; exact ⟨fun p hp => (h1 p hp).1, h2⟩
  · rintro ⟨h1, h2⟩; exact ⟨fun p hp => ⟨h1 p hp, (h1 p hp).1.1⟩, h2⟩
theorem right_sublist {ps qs : List Piece} (h : qs.Sublist ps) (hr : right ps = true) : right qs = true := by
  rw [right_iff] at hr ⊢
  exact ⟨fun p hp => hr.1 p (h.subset hp), hr.2.sublist h⟩
theorem right_nodup {ps : List Piece} (h : right ps = true) : ps.Nodup := by
  rw [right_iff] at h
  rw [List.nodup_iff_pairwise_ne]
  refine List.Pairwise.imp_of_mem (fun {p q} hp hq h' e => ?_) h.2
  subst e
  have := (h.1 p hp).1
  omega

/-! Cut, Drop, Put. -/
theorem cut_eq {lo hi : Int} {s : Sp} (hp : lo < hi ∧ 0 ≤ lo ∧ hi ≤ 1099511627776) (hs : 0 ≤ s.1 ∧ s.1 < s.2 ∧ s.2 ≤ 1099511627776) :
    cut (lo, hi) s = if hi ≤ s.1 ∨ s.2 ≤ lo then [(lo, hi)] else (if lo < s.1 then [(lo, s.1)] else []) ++ (if s.2 < hi then [(s.2, hi)] else []) := by
  have h1 : Span.right lo hi = true := spanRight_iff.2 ⟨hp.2.1, hp.1, hp.2.2⟩
  have h2 : Span.right s.1 s.2 = true := spanRight_iff.2 hs
  unfold cut meet
  simp only [h1, h2, Bool.true_and]
  by_cases hm : hi ≤ s.1 ∨ s.2 ≤ lo
  · have : Span.right (iMax lo s.1) (iMin hi s.2) = false := by
      rw [Bool.eq_false_iff]; intro h; rw [spanRight_iff] at h; unfold iMax iMin at h; split at h <;> split at h <;> omega
    rw [this, if_pos hm]
    simp [rights, Sp.right, h1]
  · have : Span.right (iMax lo s.1) (iMin hi s.2) = true := by
      rw [spanRight_iff]; unfold iMax iMin; split <;> split <;> omega
    rw [this, if_neg hm]
    simp only [if_true, rights, List.filter_cons, List.filter_nil]
    have e1 : Sp.right (lo, iMax lo s.1) = decide (lo < s.1) := by
      rw [Bool.eq_iff_iff, Sp.right, spanRight_iff, decide_eq_true_eq]; unfold iMax; split <;> omega
    have e2 : Sp.right (iMin hi s.2, hi) = decide (s.2 < hi) := by
      rw [Bool.eq_iff_iff, Sp.right, spanRight_iff, decide_eq_true_eq]; unfold iMin; split <;> omega
    simp only [e1, e2]
    by_cases h3 : lo < s.1
    · have : iMax lo s.1 = s.1 := by unfold iMax; split <;> omega
      by_cases h4 : s.2 < hi
      · have h5 : iMin hi s.2 = s.2 := by unfold iMin; split <;> omega
        simp [h3, h4, this, h5]
      · simp [h3, h4, this]
    · by_cases h4 : s.2 < hi
      · have h5 : iMin hi s.2 = s.2 := by unfold iMin; split <;> omega
        simp [h3, h4, h5]
      · simp [h3, h4]

def SpOK (s : Sp) : Prop := 0 ≤ s.1 ∧ s.1 < s.2 ∧ s.2 ≤ 1099511627776
theorem rest1_eq {p : Piece} {s : Sp} (hp : OK p) (hs : SpOK s) : rest1 s p = if p.hi ≤ s.1 ∨ s.2 ≤ p.lo then [p] else (if p.lo < s.1 then [⟨p.lo, s.1, p.row⟩] else []) ++ (if s.2 < p.hi then [⟨s.2, p.hi, p.row⟩] else []) := by
  obtain ⟨⟨h1, h2, h3⟩, _⟩ := hp
  rw [rest1, cut_eq ⟨h2, h1, h3⟩ hs]
  split
  · rfl
  · split <;> split <;> rfl
/-- Of what stays of a piece. -/
theorem rest1_mem {p x : Piece} {s : Sp} (hp : OK p) (hs : SpOK s) (h : x ∈ rest1 s p) : OK x ∧ p.lo ≤ x.lo ∧ x.hi ≤ p.hi ∧ (x.hi ≤ s.1 ∨ s.2 ≤ x.lo) := by
  rw [rest1_eq hp hs] at h
  obtain ⟨⟨h1, h2, h3⟩, h4⟩ := hp
  obtain ⟨k1, k2, k3⟩ := hs
  split at h
  · rw [List.mem_singleton] at h
    subst h
    exact ⟨⟨⟨h1, h2, h3⟩, h4⟩, by omega, by omega, by assumption⟩
  · rename_i hm
    rw [List.mem_append] at h
    rcases h with h | h <;> split at h
    · rw [List.mem_singleton] at h
      subst h
      exact ⟨⟨⟨h1, by assumption, by show s.1 ≤ _; omega⟩, h4⟩, by simp, by show s.1 ≤ _; omega, .inl (by simp)⟩
    · cases h
    · rw [List.mem_singleton] at h
      subst h
      exact ⟨⟨⟨by show 0 ≤ s.2; omega, by assumption, h3⟩, h4⟩, by show _ ≤ s.2; omega, by simp, .inr (by simp)⟩
    · cases h
theorem rest1_pair {p : Piece} {s : Sp} (hp : OK p) (hs : SpOK s) : (rest1 s p).Pairwise fun p q => p.hi ≤ q.lo := by
  rw [rest1_eq hp hs]
  obtain ⟨k1, k2, k3⟩ := hs
  split
  · simp
  · split <;> split <;> simp
    omega
theorem rests_right {ps : List Piece} {s : Sp} (h : right ps = true) (hs : SpOK s) : right (rests s ps) = true := by
  rw [right_iff] at h ⊢
  obtain ⟨h1, h2⟩ := h
  constructor
  · intro x hx
    obtain ⟨p, hp, hx⟩ := List.mem_flatMap.1 hx
    exact (rest1_mem (h1 p hp) hs hx).1
  · rw [rests, List.pairwise_flatMap]
    refine ⟨fun p hp => rest1_pair (h1 p hp) hs, List.Pairwise.imp_of_mem (fun {p q} hp hq h' x hx y hy => ?_) h2⟩
    have a := rest1_mem (h1 p hp) hs hx
    have b := rest1_mem (h1 q hq) hs hy
    omega
theorem rests_apart {ps : List Piece} {s : Sp} (h : right ps = true) (hs : SpOK s) : ∀ x ∈ rests s ps, x.hi ≤ s.1 ∨ s.2 ≤ x.lo := by
  rw [right_iff] at h
  intro x hx
  obtain ⟨p, hp, hx⟩ := List.mem_flatMap.1 hx
  exact (rest1_mem (h.1 p hp) hs hx).2.2.2
theorem rest1_len {p : Piece} {s : Sp} (hp : OK p) (hs : SpOK s) : (rest1 s p).length ≤ 1 ∨ ((rest1 s p).length ≤ 2 ∧ s.2 < p.hi) := by
  rw [rest1_eq hp hs]
  split
  · simp
  · split <;> split <;> simp_all
theorem rests_far {s : Sp} (hs : SpOK s) : ∀ {ps : List Piece}, (∀ p ∈ ps, OK p ∧ s.2 ≤ p.lo) → rests s ps = ps
  | [], _ => rfl
  | p :: r, h => by
    have hp := h p (List.mem_cons_self ..)
    have e : rest1 s p = [p] := by rw [rest1_eq hp.1 hs, if_pos (.inr hp.2)]
    have ih := rests_far hs (ps := r) (fun q hq => h q (List.mem_cons_of_mem _ hq))
    unfold rests at ih ⊢
    rw [List.flatMap_cons, e, ih]
    rfl
theorem rests_len {s : Sp} (hs : SpOK s) : ∀ {ps : List Piece}, right ps = true → (rests s ps).length ≤ ps.length + 1
  | [], _ => by simp [rests]
  | p :: r, h => by
    have hr : right r = true := right_sublist (List.sublist_cons_self p r) h
    rw [right_iff, List.pairwise_cons] at h
    have hp := h.1 p (List.mem_cons_self ..)
    have ih := rests_len hs hr
    have e : (rests s (p :: r)).length = (rest1 s p).length + (rests s r).length := by unfold rests; rw [List.flatMap_cons, List.length_append]
    rw [e, List.length_cons]
    rcases rest1_len hp hs with h1 | ⟨h1, h2⟩
    · omega
    · rw [rests_far hs (fun q hq => ⟨h.1 q (List.mem_cons_of_mem _ hq), by have := h.2.1 q hq; omega⟩)]
      omega

theorem drop_right {ps : List Piece} {s : Sp} (h : right ps = true) : right (drop ps s) = true := by
  unfold drop
  split
  · rename_i hc
    rw [Bool.and_eq_true, spanRight_iff] at hc
    exact rests_right h hc.2
  · exact h
theorem drop_len {ps : List Piece} {s : Sp} (h : right ps = true) : (drop ps s).length ≤ ps.length + 1 := by
  unfold drop
  split
  · rename_i hc
    rw [Bool.and_eq_true, spanRight_iff] at hc
    exact rests_len hc.2 h
  · omega
theorem insert_right {q : List Piece} {s : Sp} {r : Row} (h : right q = true) (hs : SpOK s) (hr : rowRight r = true) (ha : ∀ x ∈ q, x.hi ≤ s.1 ∨ s.2 ≤ x.lo) : right (insert' s r q) = true := by
  have hq := (List.takeWhile_append_dropWhile (p := ahead s) (l := q)).symm
  rw [right_iff] at h ⊢
  obtain ⟨h1, h2⟩ := h
  have hmt : ∀ x ∈ q.takeWhile (ahead s), x ∈ q ∧ x.lo < s.1 := fun x hx => ⟨(List.takeWhile_sublist _).subset hx, by have := List.all_eq_true.1 (List.all_takeWhile (p := ahead s) (l := q)) x hx; simpa [ahead] using this⟩
  have hmd : ∀ x ∈ q.dropWhile (ahead s), x ∈ q ∧ s.1 ≤ x.lo := by
    have hp : (q.dropWhile (ahead s)).Pairwise fun p q => p.hi ≤ q.lo := h2.sublist (List.dropWhile_sublist _)
    have hsub : ∀ x ∈ q.dropWhile (ahead s), x ∈ q := fun x hx => (List.dropWhile_sublist _).subset hx
    cases hd : q.dropWhile (ahead s) with
    | nil => intro x hx; cases hx
    | cons y t =>
      have hy : ahead s y = false := by
        have := List.head?_dropWhile_not (ahead s) q
        rw [hd] at this
        simpa using this
      have hy' : s.1 ≤ y.lo := by simpa [ahead] using hy
      rw [hd] at hp hsub
      intro x hx
      rcases List.mem_cons.1 hx with rfl | hx'
      · exact ⟨hsub _ hx, hy'⟩
      · have := (List.pairwise_cons.1 hp).1 x hx'
        have := (h1 y (hsub y (List.mem_cons_self ..))).1
        exact ⟨hsub _ hx, by omega⟩
  constructor
  · intro p hp
    rcases List.mem_append.1 hp with hp | hp
    · exact h1 p (hmt p hp).1
    · rcases List.mem_cons.1 hp with rfl | hp
      · exact ⟨hs, hr⟩
      · exact h1 p (hmd p hp).1
  · rw [insert', List.pairwise_append, List.pairwise_cons]
    refine ⟨h2.sublist (List.takeWhile_sublist _), ⟨fun x hx => ?_, h2.sublist (List.dropWhile_sublist _)⟩, fun a ha' b hb => ?_⟩
    · have := ha x (hmd x hx).1
      have := (hmd x hx).2
      have := (h1 x (hmd x hx).1).1
      show s.2 ≤ x.lo
      omega
    · have h3 := hmt a ha'
      have h4 := ha a h3.1
      have h5 := (h1 a h3.1).1
      obtain ⟨k1, k2, k3⟩ := hs
      rcases List.mem_cons.1 hb with rfl | hb
      · show a.hi ≤ s.1
        omega
      · have h6 := hmd b hb
        omega
theorem insert_len (q : List Piece) (s : Sp) (r : Row) : (insert' s r q).length = q.length + 1 := by
  have := congrArg List.length (List.takeWhile_append_dropWhile (p := ahead s) (l := q))
  rw [List.length_append] at this
  rw [insert', List.length_append, List.length_cons]
  omega
theorem putP_right {ps : List Piece} {s : Sp} {r : Row} (h : right ps = true) : right (putP ps s r) = true := by
  unfold putP
  split
  · rename_i hc
    rw [Bool.and_eq_true, Bool.and_eq_true, spanRight_iff] at hc
    obtain ⟨⟨_, hs⟩, hr⟩ := hc
    refine insert_right (drop_right h) hs hr ?_
    have hd : drop ps s = rests s ps := by unfold drop; rw [h, spanRight_iff.2 hs]; rfl
    rw [hd]
    exact rests_apart h hs
  · exact h
theorem putP_len {ps : List Piece} {s : Sp} {r : Row} (h : right ps = true) : (putP ps s r).length ≤ ps.length + 2 := by
  unfold putP
  split
  · rw [insert_len]; have := drop_len (s := s) h; omega
  · omega
theorem putP_row {ps : List Piece} {s : Sp} {r : Row} {n : Nat} (h : ∀ p ∈ ps, p.row.length ≤ n) (hr : r.length ≤ n) : ∀ p ∈ putP ps s r, p.row.length ≤ n := by
  unfold putP
  split
  · intro p hp
    have hd := drop_row (s := s) h
    rcases List.mem_append.1 hp with hp | hp
    · exact hd p ((List.takeWhile_sublist _).subset hp)
    · rcases List.mem_cons.1 hp with rfl | hp
      · exact hr
      · exact hd p ((List.dropWhile_sublist _).subset hp)
  · exact h

/-! Calls, one behind the other. -/
structure OpP where
  dr : Bool
  s : Sp
  row : Row
def OpP.enc (o : OpP) : List D := [.lit (.bool o.dr), .lit (.int .i64 o.s.1), .lit (.int .i64 o.s.2), encRow o.row]
def encOps (l : List OpP) : D := .sl (l.map OpP.enc)
attribute [go_sem] OpP.enc encOps
def stepP (ps : List Piece) (o : OpP) : List Piece := if 20 < o.row.length then ps else if o.dr then drop ps o.s else putP ps o.s o.row
def opsP (ps : List Piece) (l : List OpP) : List Piece := l.foldl stepP ps
def buildP (l : List OpP) : List Piece := opsP [] (l.take 30)

theorem stepP_ok {ps : List Piece} {o : OpP} {n : Nat} (hr : right ps = true) (hl : ps.length ≤ n) (hw : ∀ p ∈ ps, p.row.length ≤ 20) : right (stepP ps o) = true ∧ (stepP ps o).length ≤ n + 2 ∧ ∀ p ∈ stepP ps o, p.row.length ≤ 20 := by
  unfold stepP
  split
  · exact ⟨hr, by omega, hw⟩
  · split
    · exact ⟨drop_right hr, by have := drop_len (s := o.s) hr; omega, drop_row hw⟩
    · exact ⟨putP_right hr, by have := putP_len (s := o.s) (r := o.row) hr; omega, putP_row hw (by omega)⟩
theorem opsP_ok : ∀ (l : List OpP) {ps : List Piece} {n : Nat}, right ps = true → ps.length ≤ n → (∀ p ∈ ps, p.row.length ≤ 20) → right (opsP ps l) = true ∧ (opsP ps l).length ≤ n + 2 * l.length ∧ ∀ p ∈ opsP ps l, p.row.length ≤ 20
  | [], ps, n, h1, h2, h3 => ⟨h1, h2, h3⟩
  | o :: l, ps, n, h1, h2, h3 => by
    obtain ⟨k1, k2, k3⟩ := stepP_ok (o := o) h1 h2 h3
    obtain ⟨m1, m2, m3⟩ := opsP_ok l k1 k2 k3
    exact ⟨m1, by rw [List.length_cons]; show (opsP (stepP ps o) l).length ≤ _; omega, m3⟩
theorem opsP_next {ps : List Piece} {l : List OpP} {i : Nat} {x : OpP} (h : l[i]? = some x) : opsP ps (l.take (i + 1)) = stepP (opsP ps (l.take i)) x := by
  rw [take_next h, opsP, List.foldl_append]
  rfl
theorem buildP_ok (l : List OpP) : right (buildP l) = true ∧ (buildP l).length ≤ 60 ∧ ∀ p ∈ buildP l, p.row.length ≤ 20 := by
  obtain ⟨h1, h2, h3⟩ := opsP_ok (l.take 30) (ps := []) (n := 0) rfl (Nat.le_refl 0) (fun p hp => by cases hp)
  exact ⟨h1, by rw [List.length_take] at h2; unfold buildP; omega, h3⟩

/-! What goes and what comes. -/
theorem without_mem {ps q : List Piece} {x : Piece} : x ∈ without ps q ↔ x ∈ ps ∧ x ∉ q := by
  rw [without, List.mem_filter, Bool.not_eq_true', Bool.eq_false_iff]
  exact and_congr Iff.rfl (not_congr isIn_iff)
theorem without_right {ps q : List Piece} (h : right ps = true) : right (without ps q) = true := right_sublist List.filter_sublist h
theorem without_self (ps : List Piece) : without ps ps = [] := by
  rw [List.eq_nil_iff_forall_not_mem]
  intro x hx
  rw [without_mem] at hx
  exact hx.2 hx.1
theorem without_count {l m : List Piece} (hl : right l = true) (hm : right m = true) : l.length - (without l m).length = m.length - (without m l).length := by
  have key : ∀ {l m : List Piece}, l.length = (without l m).length + (l.filter (isIn m)).length := by
    intro l m
    induction l with
    | nil => rfl
    | cons x r ih =>
      unfold without at ih ⊢
      rw [List.filter_cons, List.filter_cons]
      cases isIn m x <;> simp <;> omega
  have h1 := key (l := l) (m := m)
  have h2 := key (l := m) (m := l)
  have hp : (l.filter (isIn m)).Perm (m.filter (isIn l)) := by
    refine (List.perm_ext_iff_of_nodup ((right_nodup hl).sublist List.filter_sublist) ((right_nodup hm).sublist List.filter_sublist)).2 fun x => ?_
    rw [List.mem_filter, List.mem_filter, isIn_iff, isIn_iff]
    exact ⟨fun h => ⟨h.2, h.1⟩, fun h => ⟨h.2, h.1⟩⟩
  have h3 := hp.length_eq
  omega
end Go.Proofs
