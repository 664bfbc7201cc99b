import Derived.Test.YtcdiifnnnnnceaaQ14

/-
  Pieces: Diff, Same.
-/

namespace Go.Proofs
open Go.PW

def diff (ps q : List Piece) : List Piece × List Piece := if right ps && right q then (without ps q, without q ps) else ([], [])

set_option maxRecDepth 8000 in
set_option maxHeartbeats 4000000 in
theorem Try.kDiff (ps q : List Piece) (hn : ps.length ≤ 1048576) (hr : ∀ p ∈ ps, p.row.length ≤ 1048576) (hn' : q.length ≤ 1048576) (hr' : ∀ p ∈ q, p.row.length ≤ 1048576) :
    PureOK Try.prog 56 [pD (encPieces ps), pD (encPieces q)] (.tup [.own 3 ((diff ps q).1.map Piece.enc), .own 3 ((diff ps q).2.map Piece.enc)]) := by
  refine Try.pure (md := []) Try.func56 rfl Try.call56 (by kernel_rfl) (by rfl) (by exact Nat.le_of_ble_eq_true rfl) ?_
  repeat' (first
    | with_reducible refine VC_seq fun K hK => ?_
    | with_reducible refine W_region ?_
    | with_reducible refine VC_block ?_
    | with_reducible refine VC_scope ?_
    | with_reducible refine VC_if ?_
    | with_reducible refine VC_skip ?_
    | with_reducible refine VC_exit ?_
    | with_reducible refine VC_ret ?_
    | (with_reducible refine G_not (fun h => ?_) (fun h => ?_) <;> (try simp only [h]))
    | (with_reducible refine G_cases (fun h => ?_) (fun h => ?_) <;> (try simp only [h]))
    | refine C_pure (Try.kRight ps hn hr) rfl rfl (fun _ => rfl) ?_
    | refine C_pure (Try.kRight q hn' hr') rfl rfl (fun _ => rfl) ?_
    | refine C_pure (Try.kWithout ps q hn hr hn') rfl rfl (fun _ => rfl) ?_
    | refine C_pure (Try.kWithout q ps hn' hr' hn) rfl rfl (fun _ => rfl) ?_
    | (with_reducible refine hK _ ?_; clear hK K)
    | (clear hK K; with_reducible refine hK _ ?_; clear hK K)
    | (clear hK K; clear hK K; with_reducible refine hK _ ?_; clear hK K)
    | (clear hK K; clear hK K; clear hK K; with_reducible refine hK _ ?_; clear hK K)
    | (with_reducible refine todo ?_; simp +decide only [go_sem]))
  · have hD : diff ps q = (without ps q, without q ps) := by unfold diff; simp [*]
    rw [hD]
    refine Ret_both (k := some (16, 0)) (k' := some (19, 0)) (fun κ h h' => by rw [← h] at h'; simp at h') rfl (.inl ⟨_, rfl, rfl, ?_⟩) (.inl ⟨_, rfl, rfl, ?_⟩) <;> simp +decide only [go_sem]
  all_goals
    have hD : diff ps q = ([], []) := by unfold diff; simp [*]
    rw [hD]
    exact Ret_both (k := none) (k' := none) (fun κ h => by cases h) rfl (.inr rfl) (.inr rfl)

def samePieces (a b : List Piece) : Bool := a.length == b.length && (List.zipWith samePiece a b).all id
theorem zip_take {α : Type} {f : α → α → Bool} {a b : List α} {i : Nat} {x y : α} (h : (List.zipWith f (a.take i) (b.take i)).all id = true) (hx : a[i]? = some x) (hy : b[i]? = some y) (hf : f x y = true) : (List.zipWith f (a.take (i + 1)) (b.take (i + 1))).all id = true := by
  rw [← List.take_zipWith] at h ⊢
  refine all_take (x := true) h ?_ rfl
  rw [List.getElem?_zipWith, hx, hy]
  simp [hf]
theorem zip_not {α : Type} {f : α → α → Bool} {a b : List α} {i : Nat} {x y : α} (hx : a[i]? = some x) (hy : b[i]? = some y) (hf : f x y = false) : (List.zipWith f a b).all id = false := by
  refine all_not (i := i) (x := false) ?_ rfl
  rw [List.getElem?_zipWith, hx, hy]
  simp [hf]

set_option maxRecDepth 8000 in
set_option maxHeartbeats 4000000 in
theorem Try.kSameP (a b : List Piece) (hr : a.length ≤ 1048576) (hrr : ∀ p ∈ a, p.row.length ≤ 1048576) : PureOK Try.prog 37 [pD (encPieces a), pD (encPieces b)] (.one (dB (samePieces a b))) := by
  refine Try.pure (md := []) Try.func37 rfl Try.call37 (by kernel_rfl) (by rfl) (by exact Nat.le_of_ble_eq_true rfl) ?_
  repeat' (first
    | with_reducible refine VC_seq fun K hK => ?_
    | with_reducible refine W_region ?_
    | with_reducible refine VC_block ?_
    | with_reducible refine VC_scope ?_
    | with_reducible refine VC_if ?_
    | with_reducible refine VC_skip ?_
    | with_reducible refine VC_exit ?_
    | with_reducible refine VC_ret ?_
    | (with_reducible refine G_not (fun h => ?_) (fun h => ?_) <;> (try simp only [h]))
    | (with_reducible refine G_cases (fun h => ?_) (fun h => ?_) <;> (try simp only [h]))
    | (with_reducible refine hK _ ?_; clear hK K)
    | (clear hK K; with_reducible refine hK _ ?_; clear hK K)
    | (clear hK K; clear hK K; with_reducible refine hK _ ?_; clear hK K)
    | (clear hK K; clear hK K; clear hK K; with_reducible refine hK _ ?_; clear hK K)
    | (with_reducible refine todo ?_; simp +decide only [go_sem]))
  · refine Ret_d rfl ?_
    have hne : (a.length == b.length) = false := by
      rw [beq_eq_false_iff_ne]; intro e; rw [e] at h; simp at h
    simp +decide only [go_sem, samePieces, hne]
  · have hlen : a.length = b.length := by
      have e : ((a.length : Int) == (b.length : Int)) = true := by simpa [bne] using h
      exact Int.ofNat_inj.1 (by simpa using e)
    refine VC_range a.length (fun i => (List.zipWith samePiece (a.take i) (b.take i)).all id = true) (fun i => frame [(0, pD (encPieces a)), (1, pD (encPieces b)), (12, pD (.lit (.int .i64 a.length))), (13, pD (.lit (.int .i64 i)))] [] []) rfl ?_ ?_
    · refine Weak_frame ?_ ?_ ?_ <;> simp +decide only [go_sem]
    · intro i hi hI
      rcases Nat.lt_or_ge i a.length with hlt | hge
      · have hg := List.getElem?_eq_getElem hlt
        have hg' := List.getElem?_eq_getElem (show i < b.length by omega)
        have hd := int_lt_true hlt
        have hw := int_next hlt (show a.length ≤ 4294967296 by omega)
        generalize a[i] = x at hg
        generalize b[i] = y at hg'
        have hx := hrr x (List.mem_of_getElem? hg)
        repeat' (first
          | with_reducible refine VC_seq fun K hK => ?_
          | with_reducible refine W_region ?_
          | with_reducible refine VC_block ?_
          | with_reducible refine VC_scope ?_
          | with_reducible refine VC_if ?_
          | with_reducible refine VC_skip ?_
          | with_reducible refine VC_exit ?_
          | with_reducible refine VC_ret ?_
          | (with_reducible refine G_not (fun h => ?_) (fun h => ?_) <;> (try simp only [h]))
          | (with_reducible refine G_cases (fun h => ?_) (fun h => ?_) <;> (try simp only [h]))
          | refine C_pure (Try.kSame x.row y.row (by omega)) rfl rfl (fun _ => rfl) ?_
          | (with_reducible refine hK _ ?_; clear hK K)
          | (clear hK K; with_reducible refine hK _ ?_; clear hK K)
          | (clear hK K; clear hK K; with_reducible refine hK _ ?_; clear hK K)
          | (clear hK K; clear hK K; clear hK K; with_reducible refine hK _ ?_; clear hK K)
          | (with_reducible refine todo ?_; simp +decide only [go_sem, hg, hg', hd, hw]))
        all_goals first
          | (have hf : samePiece x y = true := by unfold samePiece; simp [*]
             refine Next_of hlt (zip_take hI hg hg' hf) (Weak_frame ?_ ?_ ?_) <;> simp +decide only [go_sem])
          | (have hf : samePiece x y = false := by unfold samePiece; simp [*]
             refine Ret_d rfl ?_
             simp +decide only [go_sem, samePieces, zip_not hg hg' hf])
      · have hd := int_lt_false hge
        rw [List.take_of_length_le hge, List.take_of_length_le (show b.length ≤ i by omega)] at hI
        repeat' (first
          | with_reducible refine VC_seq fun K hK => ?_
          | with_reducible refine W_region ?_
          | with_reducible refine VC_block ?_
          | with_reducible refine VC_scope ?_
          | with_reducible refine VC_if ?_
          | with_reducible refine VC_skip ?_
          | with_reducible refine VC_exit ?_
          | with_reducible refine VC_ret ?_
          | (with_reducible refine G_not (fun h => ?_) (fun h => ?_) <;> (try simp only [h]))
          | (with_reducible refine G_cases (fun h => ?_) (fun h => ?_) <;> (try simp only [h]))
          | (with_reducible refine hK _ ?_; clear hK K)
          | (clear hK K; with_reducible refine hK _ ?_; clear hK K)
          | (clear hK K; clear hK K; with_reducible refine hK _ ?_; clear hK K)
          | (clear hK K; clear hK K; clear hK K; with_reducible refine hK _ ?_; clear hK K)
          | (with_reducible refine todo ?_; simp +decide only [go_sem, hd]))
        refine Ret_d rfl ?_
        simp +decide only [go_sem, samePieces, hI, hlen]
end Go.Proofs

/-
  Pieces: Coalesce (and the function within it).
-/

namespace Go.Proofs
open Go.PW

def touches (out : List Piece) (x : Piece) : Bool :=
  match out.getLast? with
  | none => false
  | some y => y.hi == x.lo && sameRow y.row x.row

theorem iE_mt {P : Program} {e : TypeId} {n : Nat} {κ : Tok} {sz len : Nat} : idxE P e n (.c (.mt κ sz len)) = if n < len ∧ sz = P.cellsOf e then some (.c (.mptr κ sz len n 0)) else none := rfl

set_option maxRecDepth 8000 in
set_option maxHeartbeats 4000000 in
theorem Try.kTouches (out : List Piece) (x : Piece) (hn : out.length ≤ 1048576) (hr : ∀ p ∈ out, p.row.length ≤ 1048576) {H : HMap} {A : AMap} (hw : Wf H A) {id : Nat} {κ : Tok} (hid : H id = some [.mt κ 3 out.length]) (hκ : A κ = some (.mu 3 (out.map Piece.enc))) :
    EffOK Try.prog 67 1000 H A [pA x.enc, .c (.ptr id 0)] (pD (.lit (.bool (touches out x)))) H A := by
  refine eff_ok (E := envOf Try.prog [] 1000 [] []) (envOf_ok Try.mixed) Try.func67 rfl Try.call67 (by kernel_rfl) (by exact Nat.le_of_ble_eq_true rfl) (fun hab => ?_)
  have hi : id < 1000 := Nat.lt_of_not_le fun h => by rw [(hab id h).1] at hid; cases hid
  have h2 : H 1002 = none := (hab _ (by decide)).1
  have h4 : H 1004 = none := (hab _ (by decide)).1
  have n2 : (id = 1002) = False := eq_false (by omega)
  cases hl : out.getLast? with
  | none =>
    have e : out = [] := List.getLast?_eq_none_iff.1 hl
    subst e
    repeat' (first
      | with_reducible refine VC_seq fun K hK => ?_
      | with_reducible refine W_region ?_
      | with_reducible refine VC_block ?_
      | with_reducible refine VC_scope ?_
      | with_reducible refine VC_if ?_
      | with_reducible refine VC_skip ?_
      | with_reducible refine VC_exit ?_
      | with_reducible refine VC_ret ?_
      | (with_reducible refine G_not (fun h => ?_) (fun h => ?_) <;> (try simp only [h]))
      | (with_reducible refine G_cases (fun h => ?_) (fun h => ?_) <;> (try simp only [h]))
      | (with_reducible refine hK _ ?_; clear hK K)
      | (clear hK K; with_reducible refine hK _ ?_; clear hK K)
      | (clear hK K; clear hK K; with_reducible refine hK _ ?_; clear hK K)
      | (clear hK K; clear hK K; clear hK K; with_reducible refine hK _ ?_; clear hK K)
      | (with_reducible refine todo ?_; simp +decide only [go_sem, hid, h2, n2]))
    exact RetE_same hw (kp_upd h2 kp_refl) rfl rfl rfl
  | some y =>
    have hne : out ≠ [] := fun e => by rw [e] at hl; cases hl
    have hpos := List.length_pos_iff.2 hne
    have hg : out[out.length - 1]? = some y := by rw [← List.getLast?_eq_getElem?]; exact hl
    have hy := hr y (List.mem_of_getElem? hg)
    have hz : (((out.length : Int)) == 0) = false := by rw [beq_eq_false_iff_ne]; omega
    have hwr : IntKind.i64.wrap ((out.length : Int) - 1) = ((out.length - 1 : Nat) : Int) := by rw [Go.IntWalk.i64_in _ (by omega)]; omega
    have hlt : (out.length - 1 < out.length) = True := eq_true (by omega)
    have ht : touches out x = ((y.hi == x.lo) && sameRow y.row x.row) := by unfold touches; rw [hl]
    rw [ht]
    repeat' (first
      | with_reducible refine VC_seq fun K hK => ?_
      | with_reducible refine W_region ?_
      | with_reducible refine VC_block ?_
      | with_reducible refine VC_scope ?_
      | with_reducible refine VC_if ?_
      | with_reducible refine VC_skip ?_
      | with_reducible refine VC_exit ?_
      | with_reducible refine VC_ret ?_
      | (with_reducible refine G_not (fun h => ?_) (fun h => ?_) <;> (try simp only [h]))
      | (with_reducible refine G_cases (fun h => ?_) (fun h => ?_) <;> (try simp only [h]))
      | refine C_pure (Try.kSame y.row x.row (by omega)) rfl rfl (fun k => (hab _ (by decide)).2 k) ?_
      | (with_reducible refine hK _ ?_; clear hK K)
      | (clear hK K; with_reducible refine hK _ ?_; clear hK K)
      | (clear hK K; clear hK K; with_reducible refine hK _ ?_; clear hK K)
      | (clear hK K; clear hK K; clear hK K; with_reducible refine hK _ ?_; clear hK K)
      | (with_reducible refine todo ?_; simp +decide only [go_sem, hid, h2, h4, n2, iE_mt, hκ, hz, hwr, hlt, hg]))
    all_goals
      rw [h]
      exact RetE_same hw (kp_upd h4 (kp_upd h4 (kp_upd h2 kp_refl))) rfl rfl rfl
end Go.Proofs

/-
  Pieces: Coalesce.
-/

namespace Go.Proofs
open Go.PW

/-- The last piece's end, moved. -/
def setHi (out : List Piece) (h : Int) : List Piece := match out.getLast? with
  | none => out
  | some y => out.set (out.length - 1) { y with hi := h }
def coStep (out : List Piece) (x : Piece) : List Piece := if touches out x then setHi out x.hi else out ++ [x]
def co (ps : List Piece) : List Piece := ps.foldl coStep []
def coalesce (ps : List Piece) : List Piece := if right ps then co ps else ps

theorem setHi_length (out : List Piece) (h : Int) : (setHi out h).length = out.length := by
  unfold setHi
  split
  · rfl
  · exact List.length_set
theorem coStep_length (out : List Piece) (x : Piece) : (coStep out x).length ≤ out.length + 1 ∧ out.length ≤ (coStep out x).length := by
  unfold coStep
  split
  · rw [setHi_length]; omega
  · rw [List.length_append]; exact ⟨Nat.le_refl _, Nat.le_add_right _ _⟩
theorem coStep_row {out : List Piece} {x : Piece} {N : Nat} (h : ∀ p ∈ out, p.row.length ≤ N) (hx : x.row.length ≤ N) : ∀ p ∈ coStep out x, p.row.length ≤ N := by
  intro p hp
  unfold coStep at hp
  split at hp
  · unfold setHi at hp
    split at hp
    · exact h p hp
    · rename_i y hy
      rcases List.mem_or_eq_of_mem_set hp with hp | rfl
      · exact h p hp
      · exact h y (List.mem_of_getLast? hy)
  · rcases List.mem_append.1 hp with hp | hp
    · exact h p hp
    · rw [List.mem_singleton.1 hp]; exact hx
theorem coStep_ne {out : List Piece} {x : Piece} : coStep out x ≠ [] := by
  intro e
  unfold coStep at e
  split at e
  · rename_i h
    unfold touches at h
    split at h
    · cases h
    · rename_i y hy
      have := congrArg List.length e
      rw [setHi_length] at this
      rw [List.eq_nil_of_length_eq_zero this] at hy
      cases hy
  · simp at e
theorem co_next {ps : List Piece} {x : Piece} {i : Nat} (h : ps[i]? = some x) : co (ps.take (i + 1)) = coStep (co (ps.take i)) x := by
  rw [take_next h, co, List.foldl_append]; rfl
theorem co_len (ps : List Piece) : ∀ out : List Piece, (ps.foldl coStep out).length ≤ out.length + ps.length := by
  induction ps with
  | nil => intro out; simp
  | cons x r ih =>
    intro out
    have := ih (coStep out x)
    have := (coStep_length out x).1
    simp only [List.foldl_cons, List.length_cons]
    omega
theorem co_length (ps : List Piece) : (co ps).length ≤ ps.length := by
  have := co_len ps []
  simpa [co] using this
theorem co_row {N : Nat} (ps : List Piece) : ∀ out : List Piece, (∀ p ∈ ps, p.row.length ≤ N) → (∀ p ∈ out, p.row.length ≤ N) → ∀ p ∈ ps.foldl coStep out, p.row.length ≤ N := by
  induction ps with
  | nil => intro out _ h; exact h
  | cons x r ih =>
    intro out h h'
    exact ih (coStep out x) (fun p hp => h p (List.mem_cons_of_mem _ hp)) (coStep_row h' (h x (List.mem_cons_self ..)))
theorem co_rows {N : Nat} {ps : List Piece} (h : ∀ p ∈ ps, p.row.length ≤ N) : ∀ p ∈ co ps, p.row.length ≤ N := co_row ps [] h (fun p hp => by cases hp)

set_option maxRecDepth 8000 in
set_option maxHeartbeats 4000000 in
theorem Try.kTouches0 (x : Piece) {H : HMap} {A : AMap} (hw : Wf H A) {id : Nat} (hid : H id = some [.full []]) :
    EffOK Try.prog 67 1000 H A [pA x.enc, .c (.ptr id 0)] (pD (.lit (.bool false))) H A := by
  refine eff_ok (E := envOf Try.prog [] 1000 [] []) (envOf_ok Try.mixed) Try.func67 rfl Try.call67 (by kernel_rfl) (by exact Nat.le_of_ble_eq_true rfl) (fun hab => ?_)
  have hi : id < 1000 := Nat.lt_of_not_le fun h => by rw [(hab id h).1] at hid; cases hid
  have h2 : H 1002 = none := (hab _ (by decide)).1
  have n2 : (id = 1002) = False := eq_false (by omega)
  repeat' (first
    | with_reducible refine VC_seq fun K hK => ?_
    | with_reducible refine W_region ?_
    | with_reducible refine VC_block ?_
    | with_reducible refine VC_scope ?_
    | with_reducible refine VC_if ?_
    | with_reducible refine VC_skip ?_
    | with_reducible refine VC_exit ?_
    | with_reducible refine VC_ret ?_
    | (with_reducible refine G_not (fun h => ?_) (fun h => ?_) <;> (try simp only [h]))
    | (with_reducible refine G_cases (fun h => ?_) (fun h => ?_) <;> (try simp only [h]))
    | (with_reducible refine hK _ ?_; clear hK K)
    | (clear hK K; with_reducible refine hK _ ?_; clear hK K)
    | (clear hK K; clear hK K; with_reducible refine hK _ ?_; clear hK K)
    | (clear hK K; clear hK K; clear hK K; with_reducible refine hK _ ?_; clear hK K)
    | (with_reducible refine todo ?_; simp +decide only [go_sem, hid, h2, n2]))
  exact RetE_same hw (kp_upd h2 kp_refl) rfl rfl rfl

theorem wk_mt {H' : HMap} {A A' : AMap} {κ : Tok} {m n : Nat} (h : A' κ ≠ none) (e : A' κ = A κ) : CV.wk H' A A' (.mt κ m n) (.mt κ m n) := .inr (.inl ⟨rfl, h, e⟩)

theorem Wf_mt {u n m : Nat} {κ : Tok} {ar : Arr} : Wf (hOf [(u, [.mt κ m n])]) (aOf [(κ, ar)]) := by
  intro id cs c h hc
  unfold hOf at h
  split at h
  · cases h
    rw [List.mem_singleton.1 hc]
    show aOf [(κ, ar)] κ ≠ none
    simp [aOf]
  · cases h

section mt
variable {P : Program} {t e : TypeId} {c b : Nat} {md : List Nat} {k q : Nat} {A : AMap} {els ys : List (List D)} {y : PV} {κ : Tok} {KK : PV → AMap → Prop}
theorem W_mt {n : Nat} (T : AppT P t e c b) (hA : A κ = some (.mu c els)) (hn : n = els.length) (hy : sliceEls y = some ys) (s2 : Szd c ys) (s3 : (els.length + ys.length) * b ≤ 140737488355328)
    (hK : Todo (KK (.c (.mt κ c (els ++ ys).length)) (upd A κ (some (.mu c (els ++ ys)))))) : appV P md k q A [t, t] (.c (.mt κ c n)) y KK := by
  unfold appV
  simp only [T.und, T.hc, T.hb, T.hz, hy, hA]
  exact ⟨⟨trivial, T.pc, trivial, T.pb⟩, ⟨trivial, trivial, hn, s2, s3⟩, hK⟩
end mt

def outC : List Piece → CV
  | [] => .full []
  | x :: r => .mt (36, 0) 3 (x :: r).length
def outA : List Piece → List (Tok × Arr)
  | [] => []
  | x :: r => [((36, 0), .mu 3 ((x :: r).map Piece.enc))]
theorem outC_of {out : List Piece} (h : out ≠ []) : outC out = .mt (36, 0) 3 out.length := by cases out with | nil => exact absurd rfl h | cons => rfl
theorem outA_of {out : List Piece} (h : out ≠ []) : outA out = [((36, 0), .mu 3 (out.map Piece.enc))] := by cases out with | nil => exact absurd rfl h | cons => rfl

set_option maxRecDepth 8000 in
set_option maxHeartbeats 4000000 in
theorem Try.kCoalesce (ps : List Piece) (hn : ps.length ≤ 131072) (hr : ∀ p ∈ ps, p.row.length ≤ 1048576) : PureOK Try.prog 35 [pD (encPieces ps)] (.one (.d (encPieces (coalesce ps)))) := by
  refine Try.pure (md := [36]) Try.func35 rfl Try.call35 (by kernel_rfl) (by rfl) (by exact Nat.le_of_ble_eq_true rfl) ?_
  repeat' (first
    | with_reducible refine VC_seq fun K hK => ?_
    | with_reducible refine W_region ?_
    | with_reducible refine VC_block ?_
    | with_reducible refine VC_scope ?_
    | with_reducible refine VC_if ?_
    | with_reducible refine VC_skip ?_
    | with_reducible refine VC_exit ?_
    | with_reducible refine VC_ret ?_
    | (with_reducible refine G_not (fun h => ?_) (fun h => ?_) <;> (try simp only [h]))
    | (with_reducible refine G_cases (fun h => ?_) (fun h => ?_) <;> (try simp only [h]))
    | refine C_pure (Try.kOwn ps (by omega) hr) rfl rfl (fun _ => rfl) ?_
    | refine C_pure (Try.kRight ps (by omega) hr) rfl rfl (fun _ => rfl) ?_
    | (with_reducible refine hK _ ?_; clear hK K)
    | (clear hK K; with_reducible refine hK _ ?_; clear hK K)
    | (clear hK K; clear hK K; with_reducible refine hK _ ?_; clear hK K)
    | (clear hK K; clear hK K; clear hK K; with_reducible refine hK _ ?_; clear hK K)
    | (with_reducible refine todo ?_; simp +decide only [go_sem]))
  · have hR : coalesce ps = co ps := by unfold coalesce; rw [h]; rfl
    rw [hR]
    refine VC_range ps.length (fun _ => True) (fun i => frame [(3, .c (.ptr 3 0)), (4, .c (.fn 67 [(3, 0)])), (14, pD (encPieces ps)), (15, pD (.lit (.int .i64 ps.length))), (16, pD (.lit (.int .i64 i)))] [(3, [outC (co (ps.take i))])] (outA (co (ps.take i)))) True.intro ?_ ?_
    · refine Weak_frame ?_ ?_ ?_ <;> simp +decide only [go_sem, co, List.foldl_nil, outC, outA]
      exact ⟨wkP_ptr (by simp [hOf]), wkP_fn1 (by simp [hOf])⟩
    · intro i hi hI
      dsimp only
      rcases Nat.lt_or_ge i ps.length with hlt | hge
      · have hg := List.getElem?_eq_getElem hlt
        have hd := int_lt_true hlt
        have hwi := int_next hlt (show ps.length ≤ 4294967296 by omega)
        generalize ps[i] = x at hg
        have hx := hr x (List.mem_of_getElem? hg)
        have hl : (co (ps.take i)).length ≤ i := Nat.le_trans (co_length _) (by rw [List.length_take]; omega)
        have hro : ∀ p ∈ co (ps.take i), p.row.length ≤ 1048576 := co_rows (fun p hp => hr p (List.mem_of_mem_take hp))
        have hnx := co_next hg
        have hne' : co (ps.take (i + 1)) ≠ [] := by rw [hnx]; exact coStep_ne
        have hC := outC_of hne'
        have hA := outA_of hne'
        rw [hnx] at hC hA
        generalize co (ps.take i) = out at hl hro hnx hC hA ⊢
        cases out with
        | nil =>
          have hs : coStep [] x = [x] := rfl
          rw [hs] at hC hA
          rw [show outC [] = .full [] from rfl, show outA [] = [] from rfl]
          repeat' (first
            | with_reducible refine VC_seq fun K hK => ?_
            | with_reducible refine W_region ?_
            | with_reducible refine VC_block ?_
            | with_reducible refine VC_scope ?_
            | with_reducible refine VC_if ?_
            | with_reducible refine VC_skip ?_
            | with_reducible refine VC_exit ?_
            | with_reducible refine VC_ret ?_
            | (with_reducible refine G_not (fun h => ?_) (fun h => ?_) <;> (try simp only [h]))
            | (with_reducible refine G_cases (fun h => ?_) (fun h => ?_) <;> (try simp only [h]))
            | refine C_eff (Try.kTouches0 x (Wf_upd (Wf_upd (Wf_hOf rfl) rfl) rfl) (id := 3) (by simp +decide only [go_sem])) rfl (Above_updH (Above_updH (Above_of rfl rfl) (by decide)) (by decide)) ?_
            | refine W_fullm Try.appPieces rfl rfl (szOne rfl) (by simp) rfl ?_
            | (with_reducible refine hK _ ?_; clear hK K)
            | (clear hK K; with_reducible refine hK _ ?_; clear hK K)
            | (clear hK K; clear hK K; with_reducible refine hK _ ?_; clear hK K)
            | (clear hK K; clear hK K; clear hK K; with_reducible refine hK _ ?_; clear hK K)
            | (with_reducible refine todo ?_; simp +decide only [go_sem, hg, hd, hwi]))
          refine Next_of hlt True.intro (Weak_frame ?_ ?_ ?_) <;> simp +decide only [go_sem, hnx, hs, hC, hA]
          · exact ⟨wkP_ptr (by simp [hOf]), wkP_fn1 (by simp [hOf])⟩
          · exact wk_mt (by simp [aOf]) rfl
        | cons z zs =>
          have hne : z :: zs ≠ [] := List.cons_ne_nil z zs
          rw [outC_of hne, outA_of hne]
          have hpos := List.length_pos_iff.2 hne
          generalize z :: zs = out at *
          have kT := Try.kTouches out x (by omega) hro (H := upd (upd (hOf [(3, [.mt (36, 0) 3 out.length])]) 6 (some [.d (.lit (.int .i64 0)), .d (.lit (.int .i64 0)), .full []])) 6 (some [.d (.lit (.int .i64 x.lo)), .d (.lit (.int .i64 x.hi)), .d (encRow x.row)])) (A := aOf [((36, 0), .mu 3 (out.map Piece.enc))])
            (Wf_upd (Wf_upd Wf_mt rfl) rfl) (id := 3) (κ := (36, 0)) (by simp +decide only [go_sem]) (by simp +decide only [go_sem])
          cases hto : touches out x with
          | false =>
            rw [hto] at kT
            have hs : coStep out x = out ++ [x] := by unfold coStep; rw [hto]; rfl
            rw [hs] at hC hA
            repeat' (first
              | with_reducible refine VC_seq fun K hK => ?_
              | with_reducible refine W_region ?_
              | with_reducible refine VC_block ?_
              | with_reducible refine VC_scope ?_
              | with_reducible refine VC_if ?_
              | with_reducible refine VC_skip ?_
              | with_reducible refine VC_exit ?_
              | with_reducible refine VC_ret ?_
              | (with_reducible refine G_not (fun h => ?_) (fun h => ?_) <;> (try simp only [h]))
              | (with_reducible refine G_cases (fun h => ?_) (fun h => ?_) <;> (try simp only [h]))
              | refine C_eff kT rfl (Above_updH (Above_updH (Above_of rfl rfl) (by decide)) (by decide)) ?_
              | (refine W_mt Try.appPieces (els := out.map Piece.enc) (by simp +decide only [go_sem]) (by simp +decide only [go_sem]) rfl (szOne rfl) (by simp; omega) ?_)
              | (with_reducible refine hK _ ?_; clear hK K)
              | (clear hK K; with_reducible refine hK _ ?_; clear hK K)
              | (clear hK K; clear hK K; with_reducible refine hK _ ?_; clear hK K)
              | (clear hK K; clear hK K; clear hK K; with_reducible refine hK _ ?_; clear hK K)
              | (with_reducible refine todo ?_; simp +decide only [go_sem, hg, hd, hwi]))
            refine Next_of hlt True.intro (Weak_frame ?_ ?_ ?_) <;> simp +decide only [go_sem, hnx, hs, hC, hA]
            · exact ⟨wkP_ptr (by simp [hOf]), wkP_fn1 (by simp [hOf])⟩
            · exact wk_mt (by simp [aOf]) rfl
          | true =>
            rw [hto] at kT
            have hs : coStep out x = setHi out x.hi := by unfold coStep; rw [hto]; rfl
            rw [hs] at hC hA
            cases hlast : out.getLast? with
            | none => exact absurd (List.getLast?_eq_none_iff.1 hlast) hne
            | some y =>
              have hgl : out[out.length - 1]? = some y := by rw [← List.getLast?_eq_getElem?]; exact hlast
              have hset : setHi out x.hi = out.set (out.length - 1) { y with hi := x.hi } := by unfold setHi; rw [hlast]
              have hwr : IntKind.i64.wrap ((out.length : Int) - 1) = ((out.length - 1 : Nat) : Int) := by rw [Go.IntWalk.i64_in _ (by omega)]; omega
              have hll : (out.length - 1 < out.length) = True := eq_true (by omega)
              rw [hset] at hC hA
              repeat' (first
                | with_reducible refine VC_seq fun K hK => ?_
                | with_reducible refine W_region ?_
                | with_reducible refine VC_block ?_
                | with_reducible refine VC_scope ?_
                | with_reducible refine VC_if ?_
                | with_reducible refine VC_skip ?_
                | with_reducible refine VC_exit ?_
                | with_reducible refine VC_ret ?_
                | (with_reducible refine G_not (fun h => ?_) (fun h => ?_) <;> (try simp only [h]))
                | (with_reducible refine G_cases (fun h => ?_) (fun h => ?_) <;> (try simp only [h]))
                | refine C_eff kT rfl (Above_updH (Above_updH (Above_of rfl rfl) (by decide)) (by decide)) ?_
                | (with_reducible refine hK _ ?_; clear hK K)
                | (clear hK K; with_reducible refine hK _ ?_; clear hK K)
                | (clear hK K; clear hK K; with_reducible refine hK _ ?_; clear hK K)
                | (clear hK K; clear hK K; clear hK K; with_reducible refine hK _ ?_; clear hK K)
                | (with_reducible refine todo ?_; simp +decide only [go_sem, hg, hd, hwi, iE_mt, hwr, hll, hgl]))
              refine Next_of hlt True.intro (Weak_frame ?_ ?_ ?_) <;> simp +decide only [go_sem, hnx, hs, hset, hC, hA, List.map_set, List.length_set]
              · exact ⟨wkP_ptr (by simp [hOf]), wkP_fn1 (by simp [hOf])⟩
              · exact wk_mt (by simp [aOf]) rfl
      · have hd := int_lt_false hge
        rw [List.take_of_length_le hge]
        generalize hc : co ps = out
        cases out with
        | nil =>
          rw [show outC [] = .full [] from rfl, show outA [] = [] from rfl]
          repeat' (first
            | with_reducible refine VC_seq fun K hK => ?_
            | with_reducible refine W_region ?_
            | with_reducible refine VC_block ?_
            | with_reducible refine VC_scope ?_
            | with_reducible refine VC_if ?_
            | with_reducible refine VC_skip ?_
            | with_reducible refine VC_exit ?_
            | with_reducible refine VC_ret ?_
            | (with_reducible refine G_not (fun h => ?_) (fun h => ?_) <;> (try simp only [h]))
            | (with_reducible refine G_cases (fun h => ?_) (fun h => ?_) <;> (try simp only [h]))
            | (with_reducible refine hK _ ?_; clear hK K)
            | (clear hK K; with_reducible refine hK _ ?_; clear hK K)
            | (clear hK K; clear hK K; with_reducible refine hK _ ?_; clear hK K)
            | (clear hK K; clear hK K; clear hK K; with_reducible refine hK _ ?_; clear hK K)
            | (with_reducible refine todo ?_; simp +decide only [go_sem, hd]))
          rw [hR, hc]
          exact Ret_d rfl rfl
        | cons y r =>
          rw [outC_of (List.cons_ne_nil y r), outA_of (List.cons_ne_nil y r)]
          repeat' (first
            | with_reducible refine VC_seq fun K hK => ?_
            | with_reducible refine W_region ?_
            | with_reducible refine VC_block ?_
            | with_reducible refine VC_scope ?_
            | with_reducible refine VC_if ?_
            | with_reducible refine VC_skip ?_
            | with_reducible refine VC_exit ?_
            | with_reducible refine VC_ret ?_
            | (with_reducible refine G_not (fun h => ?_) (fun h => ?_) <;> (try simp only [h]))
            | (with_reducible refine G_cases (fun h => ?_) (fun h => ?_) <;> (try simp only [h]))
            | (with_reducible refine hK _ ?_; clear hK K)
            | (clear hK K; with_reducible refine hK _ ?_; clear hK K)
            | (clear hK K; clear hK K; with_reducible refine hK _ ?_; clear hK K)
            | (clear hK K; clear hK K; clear hK K; with_reducible refine hK _ ?_; clear hK K)
            | (with_reducible refine todo ?_; simp +decide only [go_sem, hd]))
          rw [hR, hc]
          exact Ret_mt (36, 0) rfl (sz := 3) (by simp +decide only [go_sem]) (by simp +decide only [go_sem])
  · have hR : coalesce ps = ps := by unfold coalesce; rw [h]; rfl
    rw [hR]
    refine Ret_d rfl ?_
    simp +decide only [go_sem]
end Go.Proofs
