import Derived.Test.YtcdiifnnnnnceaaQ24

/-
  Versions: Set's tests.
-/

namespace Go.Proofs
open Go.PW

attribute [go_sem] Try.underlying85
@[go_sem] theorem Try.clTest : Try.prog.cellsOf 85 = 1 := by kernel_rfl
@[go_sem] theorem Try.byTest : Try.prog.bytesOf 85 = 8 := by kernel_rfl
@[go_sem] theorem Try.zeTest : zeroOf Try.prog 85 = some [CV.d (D.lit Value.nilFunc)] := by kernel_rfl
@[go_sem] theorem Try.zoTest : zeroOK Try.prog 85 = true := by kernel_rfl

/-- Whether a version ends: it is open, and its piece is one of those that go. -/
def vEnds (q : List Piece) (v : Ver) : Bool := v.open' && isIn q v.p

set_option maxRecDepth 8000 in
set_option maxHeartbeats 4000000 in
theorem Try.kEnds1 (q : List Piece) (v : Ver) (hn : q.length ≤ 1048576) (hx : v.p.row.length ≤ 1048576) {H : HMap} {A : AMap} (hw : Wf H A) {id : Nat} (hid : H id = some [.d (encPieces q)]) :
    EffOK Try.prog 57 1000 H A [pA v.enc, .c (.ptr id 0)] (pD (.lit (.bool (vEnds q v)))) H A := by
  refine eff_ok (E := envOf Try.prog [] 1000 [] []) (envOf_ok Try.mixed) Try.func57 rfl Try.call57 (by kernel_rfl) (by exact Nat.le_of_ble_eq_true rfl) (fun hab => ?_)
  have hi : id < 1000 := Nat.lt_of_not_le fun h => by rw [(hab id h).1] at hid; cases hid
  have h2 : H 1002 = none := (hab _ (by decide)).1
  have h5 : H 1005 = none := (hab _ (by decide)).1
  have n2 : (id = 1002) = False := eq_false (by omega)
  have n5 : (id = 1005) = False := eq_false (by omega)
  have ko := Try.kOpen v
  repeat' (first
    | with_reducible refine VC_seq fun K hK => ?_
    | with_reducible refine W_region ?_
    | with_reducible refine VC_block ?_
    | with_reducible refine VC_scope ?_
    | with_reducible refine VC_if ?_
    | with_reducible refine VC_skip ?_
    | with_reducible refine VC_exit ?_
    | with_reducible refine VC_ret ?_
    | (with_reducible refine G_not (fun h => ?_) (fun h => ?_) <;> (try simp only [h]))
    | (with_reducible refine G_cases (fun h => ?_) (fun h => ?_) <;> (try simp only [h]))
    | (with_reducible refine hK _ ?_; clear hK K)
    | (clear hK K; with_reducible refine hK _ ?_; clear hK K)
    | (clear hK K; clear hK K; with_reducible refine hK _ ?_; clear hK K)
    | (clear hK K; clear hK K; clear hK K; with_reducible refine hK _ ?_; clear hK K)
    | (with_reducible refine todo ?_; simp +decide only [go_sem, hid, h2, n2]))
  refine VC_range q.length (fun i => vEnds (q.take i) v = false) (fun i => over [(2, .c (.ptr 1002 0)), (6, pD (encPieces q)), (7, pD (.lit (.int .i64 q.length))), (8, pD (.lit (.int .i64 i)))]
    [(1002, [.d (.lit (.int .i64 v.sl)), .d (.lit (.int .i64 v.sh)), .d (.lit (.int .i64 v.p.lo)), .d (.lit (.int .i64 v.p.hi)), .d (encRow v.p.row)])] H A) (by simp [vEnds, isIn]) ?_ ?_
  · refine Weak_over hw (kp_upd h2 kp_refl) rfl ?_ ?_ <;> simp +decide only [go_sem]
    exact wkP_ptr (by simp [hOver])
  · intro i hi hI
    rcases Nat.lt_or_ge i q.length with hlt | hge
    · have hg := List.getElem?_eq_getElem hlt
      have hd := int_lt_true hlt
      have hnx := int_next hlt (show q.length ≤ 4294967296 by omega)
      generalize q[i] = y at hg
      have ka := Try.kAlike v.p y hx
      have e : vEnds q v = (v.open' && isIn q v.p) := rfl
      have e' : ∀ n, vEnds (q.take n) v = (v.open' && isIn (q.take n) v.p) := fun _ => rfl
      cases ho : v.open' with
      | false =>
        rw [ho] at ko
        repeat' (first
          | with_reducible refine VC_seq fun K hK => ?_
          | with_reducible refine W_region ?_
          | with_reducible refine VC_block ?_
          | with_reducible refine VC_scope ?_
          | with_reducible refine VC_if ?_
          | with_reducible refine VC_skip ?_
          | with_reducible refine VC_exit ?_
          | with_reducible refine VC_ret ?_
          | (with_reducible refine G_not (fun h => ?_) (fun h => ?_) <;> (try simp only [h]))
          | (with_reducible refine G_cases (fun h => ?_) (fun h => ?_) <;> (try simp only [h]))
          | refine C_pure ko rfl rfl (fun k => (hab _ (by decide)).2 k) ?_
          | (with_reducible refine hK _ ?_; clear hK K)
          | (clear hK K; with_reducible refine hK _ ?_; clear hK K)
          | (clear hK K; clear hK K; with_reducible refine hK _ ?_; clear hK K)
          | (clear hK K; clear hK K; clear hK K; with_reducible refine hK _ ?_; clear hK K)
          | (with_reducible refine todo ?_; simp +decide only [go_sem, hg, hd, hnx, h5]))
        refine Next_of hlt (by rw [e', ho]; rfl) (Weak_over hw (kp_upd h5 (kp_upd h5 (kp_cons h2 kp_nil))) rfl ?_ ?_) <;> simp +decide only [go_sem]
        exact wkP_ptr (by simp [hOver])
      | true =>
        rw [ho] at ko
        have hI' : isIn (q.take i) v.p = false := by rw [e', ho] at hI; exact hI
        cases hs : samePiece v.p y with
        | false =>
          rw [hs] at ka
          repeat' (first
            | with_reducible refine VC_seq fun K hK => ?_
            | with_reducible refine W_region ?_
            | with_reducible refine VC_block ?_
            | with_reducible refine VC_scope ?_
            | with_reducible refine VC_if ?_
            | with_reducible refine VC_skip ?_
            | with_reducible refine VC_exit ?_
            | with_reducible refine VC_ret ?_
            | (with_reducible refine G_not (fun h => ?_) (fun h => ?_) <;> (try simp only [h]))
            | (with_reducible refine G_cases (fun h => ?_) (fun h => ?_) <;> (try simp only [h]))
            | refine C_pure ko rfl rfl (fun k => (hab _ (by decide)).2 k) ?_
            | refine C_pure ka rfl rfl (fun k => (hab _ (by decide)).2 k) ?_
            | (with_reducible refine hK _ ?_; clear hK K)
            | (clear hK K; with_reducible refine hK _ ?_; clear hK K)
            | (clear hK K; clear hK K; with_reducible refine hK _ ?_; clear hK K)
            | (clear hK K; clear hK K; clear hK K; with_reducible refine hK _ ?_; clear hK K)
            | (with_reducible refine todo ?_; simp +decide only [go_sem, hg, hd, hnx, h5]))
          refine Next_of hlt (by rw [e', ho, isIn_next hg hI' hs]; rfl) (Weak_over hw (kp_upd h5 (kp_upd h5 (kp_cons h2 kp_nil))) rfl ?_ ?_) <;> simp +decide only [go_sem]
          exact wkP_ptr (by simp [hOver])
        | true =>
          rw [hs] at ka
          rw [e, ho, isIn_found hg hs]
          repeat' (first
            | with_reducible refine VC_seq fun K hK => ?_
            | with_reducible refine W_region ?_
            | with_reducible refine VC_block ?_
            | with_reducible refine VC_scope ?_
            | with_reducible refine VC_if ?_
            | with_reducible refine VC_skip ?_
            | with_reducible refine VC_exit ?_
            | with_reducible refine VC_ret ?_
            | (with_reducible refine G_not (fun h => ?_) (fun h => ?_) <;> (try simp only [h]))
            | (with_reducible refine G_cases (fun h => ?_) (fun h => ?_) <;> (try simp only [h]))
            | refine C_pure ko rfl rfl (fun k => (hab _ (by decide)).2 k) ?_
            | refine C_pure ka rfl rfl (fun k => (hab _ (by decide)).2 k) ?_
            | (with_reducible refine hK _ ?_; clear hK K)
            | (clear hK K; with_reducible refine hK _ ?_; clear hK K)
            | (clear hK K; clear hK K; with_reducible refine hK _ ?_; clear hK K)
            | (clear hK K; clear hK K; clear hK K; with_reducible refine hK _ ?_; clear hK K)
            | (with_reducible refine todo ?_; simp +decide only [go_sem, hg, hd, h5]))
          exact RetE_same hw (kp_upd h5 (kp_upd h5 (kp_cons h2 kp_nil))) rfl rfl rfl
    · have hd := int_lt_false hge
      rw [List.take_of_length_le hge] at hI
      repeat' (first
        | with_reducible refine VC_seq fun K hK => ?_
        | with_reducible refine W_region ?_
        | with_reducible refine VC_block ?_
        | with_reducible refine VC_scope ?_
        | with_reducible refine VC_if ?_
        | with_reducible refine VC_skip ?_
        | with_reducible refine VC_exit ?_
        | with_reducible refine VC_ret ?_
        | (with_reducible refine G_not (fun h => ?_) (fun h => ?_) <;> (try simp only [h]))
        | (with_reducible refine G_cases (fun h => ?_) (fun h => ?_) <;> (try simp only [h]))
        | (with_reducible refine hK _ ?_; clear hK K)
        | (clear hK K; with_reducible refine hK _ ?_; clear hK K)
        | (clear hK K; clear hK K; with_reducible refine hK _ ?_; clear hK K)
        | (clear hK K; clear hK K; clear hK K; with_reducible refine hK _ ?_; clear hK K)
        | (with_reducible refine todo ?_; simp +decide only [go_sem, hd]))
      rw [hI]
      exact RetE_same hw (kp_cons h2 kp_nil) rfl rfl rfl

set_option maxRecDepth 8000 in
set_option maxHeartbeats 4000000 in
theorem Try.kEnds3 (q : List Piece) (v : Ver) (hn : q.length ≤ 1048576) (hx : v.p.row.length ≤ 1048576) {H : HMap} {A : AMap} (hw : Wf H A) {id : Nat} (hid : H id = some [.d (encPieces q)]) :
    EffOK Try.prog 57 3000 H A [pA v.enc, .c (.ptr id 0)] (pD (.lit (.bool (vEnds q v)))) H A := by
  refine eff_ok (E := envOf Try.prog [] 3000 [] []) (envOf_ok Try.mixed) Try.func57 rfl Try.call57 (by kernel_rfl) (by exact Nat.le_of_ble_eq_true rfl) (fun hab => ?_)
  have hi : id < 3000 := Nat.lt_of_not_le fun h => by rw [(hab id h).1] at hid; cases hid
  have h2 : H 3002 = none := (hab _ (by decide)).1
  have h5 : H 3005 = none := (hab _ (by decide)).1
  have n2 : (id = 3002) = False := eq_false (by omega)
  have n5 : (id = 3005) = False := eq_false (by omega)
  have ko := Try.kOpen v
  repeat' (first
    | with_reducible refine VC_seq fun K hK => ?_
    | with_reducible refine W_region ?_
    | with_reducible refine VC_block ?_
    | with_reducible refine VC_scope ?_
    | with_reducible refine VC_if ?_
    | with_reducible refine VC_skip ?_
    | with_reducible refine VC_exit ?_
    | with_reducible refine VC_ret ?_
    | (with_reducible refine G_not (fun h => ?_) (fun h => ?_) <;> (try simp only [h]))
    | (with_reducible refine G_cases (fun h => ?_) (fun h => ?_) <;> (try simp only [h]))
    | (with_reducible refine hK _ ?_; clear hK K)
    | (clear hK K; with_reducible refine hK _ ?_; clear hK K)
    | (clear hK K; clear hK K; with_reducible refine hK _ ?_; clear hK K)
    | (clear hK K; clear hK K; clear hK K; with_reducible refine hK _ ?_; clear hK K)
    | (with_reducible refine todo ?_; simp +decide only [go_sem, hid, h2, n2]))
  refine VC_range q.length (fun i => vEnds (q.take i) v = false) (fun i => over [(2, .c (.ptr 3002 0)), (6, pD (encPieces q)), (7, pD (.lit (.int .i64 q.length))), (8, pD (.lit (.int .i64 i)))]
    [(3002, [.d (.lit (.int .i64 v.sl)), .d (.lit (.int .i64 v.sh)), .d (.lit (.int .i64 v.p.lo)), .d (.lit (.int .i64 v.p.hi)), .d (encRow v.p.row)])] H A) (by simp [vEnds, isIn]) ?_ ?_
  · refine Weak_over hw (kp_upd h2 kp_refl) rfl ?_ ?_ <;> simp +decide only [go_sem]
    exact wkP_ptr (by simp [hOver])
  · intro i hi hI
    rcases Nat.lt_or_ge i q.length with hlt | hge
    · have hg := List.getElem?_eq_getElem hlt
      have hd := int_lt_true hlt
      have hnx := int_next hlt (show q.length ≤ 4294967296 by omega)
      generalize q[i] = y at hg
      have ka := Try.kAlike v.p y hx
      have e : vEnds q v = (v.open' && isIn q v.p) := rfl
      have e' : ∀ n, vEnds (q.take n) v = (v.open' && isIn (q.take n) v.p) := fun _ => rfl
      cases ho : v.open' with
      | false =>
        rw [ho] at ko
        repeat' (first
          | with_reducible refine VC_seq fun K hK => ?_
          | with_reducible refine W_region ?_
          | with_reducible refine VC_block ?_
          | with_reducible refine VC_scope ?_
          | with_reducible refine VC_if ?_
          | with_reducible refine VC_skip ?_
          | with_reducible refine VC_exit ?_
          | with_reducible refine VC_ret ?_
          | (with_reducible refine G_not (fun h => ?_) (fun h => ?_) <;> (try simp only [h]))
          | (with_reducible refine G_cases (fun h => ?_) (fun h => ?_) <;> (try simp only [h]))
          | refine C_pure ko rfl rfl (fun k => (hab _ (by decide)).2 k) ?_
          | (with_reducible refine hK _ ?_; clear hK K)
          | (clear hK K; with_reducible refine hK _ ?_; clear hK K)
          | (clear hK K; clear hK K; with_reducible refine hK _ ?_; clear hK K)
          | (clear hK K; clear hK K; clear hK K; with_reducible refine hK _ ?_; clear hK K)
          | (with_reducible refine todo ?_; simp +decide only [go_sem, hg, hd, hnx, h5]))
        refine Next_of hlt (by rw [e', ho]; rfl) (Weak_over hw (kp_upd h5 (kp_upd h5 (kp_cons h2 kp_nil))) rfl ?_ ?_) <;> simp +decide only [go_sem]
        exact wkP_ptr (by simp [hOver])
      | true =>
        rw [ho] at ko
        have hI' : isIn (q.take i) v.p = false := by rw [e', ho] at hI; exact hI
        cases hs : samePiece v.p y with
        | false =>
          rw [hs] at ka
          repeat' (first
            | with_reducible refine VC_seq fun K hK => ?_
            | with_reducible refine W_region ?_
            | with_reducible refine VC_block ?_
            | with_reducible refine VC_scope ?_
            | with_reducible refine VC_if ?_
            | with_reducible refine VC_skip ?_
            | with_reducible refine VC_exit ?_
            | with_reducible refine VC_ret ?_
            | (with_reducible refine G_not (fun h => ?_) (fun h => ?_) <;> (try simp only [h]))
            | (with_reducible refine G_cases (fun h => ?_) (fun h => ?_) <;> (try simp only [h]))
            | refine C_pure ko rfl rfl (fun k => (hab _ (by decide)).2 k) ?_
            | refine C_pure ka rfl rfl (fun k => (hab _ (by decide)).2 k) ?_
            | (with_reducible refine hK _ ?_; clear hK K)
            | (clear hK K; with_reducible refine hK _ ?_; clear hK K)
            | (clear hK K; clear hK K; with_reducible refine hK _ ?_; clear hK K)
            | (clear hK K; clear hK K; clear hK K; with_reducible refine hK _ ?_; clear hK K)
            | (with_reducible refine todo ?_; simp +decide only [go_sem, hg, hd, hnx, h5]))
          refine Next_of hlt (by rw [e', ho, isIn_next hg hI' hs]; rfl) (Weak_over hw (kp_upd h5 (kp_upd h5 (kp_cons h2 kp_nil))) rfl ?_ ?_) <;> simp +decide only [go_sem]
          exact wkP_ptr (by simp [hOver])
        | true =>
          rw [hs] at ka
          rw [e, ho, isIn_found hg hs]
          repeat' (first
            | with_reducible refine VC_seq fun K hK => ?_
            | with_reducible refine W_region ?_
            | with_reducible refine VC_block ?_
            | with_reducible refine VC_scope ?_
            | with_reducible refine VC_if ?_
            | with_reducible refine VC_skip ?_
            | with_reducible refine VC_exit ?_
            | with_reducible refine VC_ret ?_
            | (with_reducible refine G_not (fun h => ?_) (fun h => ?_) <;> (try simp only [h]))
            | (with_reducible refine G_cases (fun h => ?_) (fun h => ?_) <;> (try simp only [h]))
            | refine C_pure ko rfl rfl (fun k => (hab _ (by decide)).2 k) ?_
            | refine C_pure ka rfl rfl (fun k => (hab _ (by decide)).2 k) ?_
            | (with_reducible refine hK _ ?_; clear hK K)
            | (clear hK K; with_reducible refine hK _ ?_; clear hK K)
            | (clear hK K; clear hK K; with_reducible refine hK _ ?_; clear hK K)
            | (clear hK K; clear hK K; clear hK K; with_reducible refine hK _ ?_; clear hK K)
            | (with_reducible refine todo ?_; simp +decide only [go_sem, hg, hd, h5]))
          exact RetE_same hw (kp_upd h5 (kp_upd h5 (kp_cons h2 kp_nil))) rfl rfl rfl
    · have hd := int_lt_false hge
      rw [List.take_of_length_le hge] at hI
      repeat' (first
        | with_reducible refine VC_seq fun K hK => ?_
        | with_reducible refine W_region ?_
        | with_reducible refine VC_block ?_
        | with_reducible refine VC_scope ?_
        | with_reducible refine VC_if ?_
        | with_reducible refine VC_skip ?_
        | with_reducible refine VC_exit ?_
        | with_reducible refine VC_ret ?_
        | (with_reducible refine G_not (fun h => ?_) (fun h => ?_) <;> (try simp only [h]))
        | (with_reducible refine G_cases (fun h => ?_) (fun h => ?_) <;> (try simp only [h]))
        | (with_reducible refine hK _ ?_; clear hK K)
        | (clear hK K; with_reducible refine hK _ ?_; clear hK K)
        | (clear hK K; clear hK K; with_reducible refine hK _ ?_; clear hK K)
        | (clear hK K; clear hK K; clear hK K; with_reducible refine hK _ ?_; clear hK K)
        | (with_reducible refine todo ?_; simp +decide only [go_sem, hd]))
      rw [hI]
      exact RetE_same hw (kp_cons h2 kp_nil) rfl rfl rfl

set_option maxRecDepth 8000 in
set_option maxHeartbeats 4000000 in
theorem Try.kStays (l : List Ver) (q : List Piece) (t : Int) (hn : q.length ≤ 1048576) (hr : ∀ v ∈ l, v.p.row.length ≤ 1048576) {H : HMap} {A : AMap} {idE idT idG : Nat} (hE : H idE = some [.fn 57 [(idG, 0)]]) (hT : H idT = some [.d (.lit (.int .i64 t))]) (hG : H idG = some [.d (encPieces q)]) (hi : idE < 2000) (hi' : idT < 2000) :
    TestOK Try.prog 58 [(idE, 0), (idT, 0)] 2000 H A l (fun v => !vEnds q v || decide (v.sl < t)) := by
  refine ⟨fun p hp => ?_, fun H' A' hw hk _ v hv => ?_⟩
  · rcases List.mem_cons.1 hp with rfl | hp
    · show H idE ≠ none; rw [hE]; simp
    · rw [List.mem_singleton.1 hp]; show H idT ≠ none; rw [hT]; simp
  refine eff_ok (E := envOf Try.prog [] 2000 [] []) (envOf_ok Try.mixed) Try.func58 rfl Try.call58 (by kernel_rfl) (by exact Nat.le_of_ble_eq_true rfl) (fun hab => ?_)
  have hE' : H' idE = some [.fn 57 [(idG, 0)]] := by rw [hk idE (by rw [hE]; simp), hE]
  have hT' : H' idT = some [.d (.lit (.int .i64 t))] := by rw [hk idT (by rw [hT]; simp), hT]
  have hG' : H' idG = some [.d (encPieces q)] := by rw [hk idG (by rw [hG]; simp), hG]
  have h3 : H' 2003 = none := (hab _ (by decide)).1
  have nE : (idE = 2003) = False := eq_false (by omega)
  have nT : (idT = 2003) = False := eq_false (by omega)
  have nG : idG ≠ 2003 := fun e => by rw [e, h3] at hG'; cases hG'
  have ke := Try.kEnds3 q v hn (hr v hv) (H := upd H' 2003 (some [.d (.lit (.int .i64 v.sl)), .d (.lit (.int .i64 v.sh)), .d (.lit (.int .i64 v.p.lo)), .d (.lit (.int .i64 v.p.hi)), .d (encRow v.p.row)])) (A := A') (Wf_upd hw rfl) (id := idG) (by rw [upd_other _ _ nG]; exact hG')
  have hab2 := Above_updH (cs := [.d (.lit (.int .i64 v.sl)), .d (.lit (.int .i64 v.sh)), .d (.lit (.int .i64 v.p.lo)), .d (.lit (.int .i64 v.p.hi)), .d (encRow v.p.row)]) (id := 2003) (Above_mono (m := 3000) hab (by decide)) (by decide)
  cases hve : vEnds q v with
  | false =>
    rw [hve] at ke
    repeat' (first
      | with_reducible refine VC_seq fun K hK => ?_
      | with_reducible refine W_region ?_
      | with_reducible refine VC_block ?_
      | with_reducible refine VC_scope ?_
      | with_reducible refine VC_if ?_
      | with_reducible refine VC_skip ?_
      | with_reducible refine VC_exit ?_
      | with_reducible refine VC_ret ?_
      | (with_reducible refine G_not (fun h => ?_) (fun h => ?_) <;> (try simp only [h]))
      | (with_reducible refine G_cases (fun h => ?_) (fun h => ?_) <;> (try simp only [h]))
      | refine C_eff ke rfl hab2 ?_
      | (with_reducible refine hK _ ?_; clear hK K)
      | (clear hK K; with_reducible refine hK _ ?_; clear hK K)
      | (clear hK K; clear hK K; with_reducible refine hK _ ?_; clear hK K)
      | (clear hK K; clear hK K; clear hK K; with_reducible refine hK _ ?_; clear hK K)
      | (with_reducible refine todo ?_; simp +decide only [go_sem, h3, hE', nE, capPV]))
    exact RetE_same hw (kp_upd h3 kp_refl) rfl rfl (by rw [hve]; rfl)
  | true =>
    rw [hve] at ke
    repeat' (first
      | with_reducible refine VC_seq fun K hK => ?_
      | with_reducible refine W_region ?_
      | with_reducible refine VC_block ?_
      | with_reducible refine VC_scope ?_
      | with_reducible refine VC_if ?_
      | with_reducible refine VC_skip ?_
      | with_reducible refine VC_exit ?_
      | with_reducible refine VC_ret ?_
      | (with_reducible refine G_not (fun h => ?_) (fun h => ?_) <;> (try simp only [h]))
      | (with_reducible refine G_cases (fun h => ?_) (fun h => ?_) <;> (try simp only [h]))
      | refine C_eff ke rfl hab2 ?_
      | (with_reducible refine hK _ ?_; clear hK K)
      | (clear hK K; with_reducible refine hK _ ?_; clear hK K)
      | (clear hK K; clear hK K; with_reducible refine hK _ ?_; clear hK K)
      | (clear hK K; clear hK K; clear hK K; with_reducible refine hK _ ?_; clear hK K)
      | (with_reducible refine todo ?_; simp +decide only [go_sem, h3, hE', hT', nE, nT, capPV]))
    exact RetE_same hw (kp_upd h3 kp_refl) rfl rfl (by rw [hve]; rfl)
end Go.Proofs
