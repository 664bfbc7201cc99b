/-
  Pieces: Coalesce (and the function within it).
-/
import Derived.Test.YtgpmdeembgohdaaPwFj
namespace Go.Proofs
open Go.PW

def touches (out : List Piece) (x : Piece) : Bool :=
  match out.getLast? with
  | none => false
  | some y => y.hi == x.lo && sameRow y.row x.row

theorem iE_mt {P : Program} {e : TypeId} {n : Nat} {κ : Tok} {sz len : Nat} : idxE P e n (.c (.mt κ sz len)) = if n < len ∧ sz = P.cellsOf e then some (.c (.mptr κ sz len n 0)) else none := rfl

set_option maxHeartbeats 4000000 in
theorem Try.kTouches (out : List Piece) (x : Piece) (hn : out.length ≤ 1048576) (hr : ∀ p ∈ out, p.row.length ≤ 1048576) {H : HMap} {A : AMap} (hw : Wf H A) {id : Nat} {κ : Tok} (hid : H id = some [.mt κ 3 out.length]) (hκ : A κ = some (.mu 3 (out.map Piece.enc))) :
    EffOK Try.prog 39 1000 H A [pA x.enc, .c (.ptr id 0)] (pD (.lit (.bool (touches out x)))) H A := by
  refine eff_ok (E := envOf Try.prog [] 1000 [] []) (envOf_ok Try.mixed) Try.func39 rfl Try.call39 (by kernel_rfl) (by exact Nat.le_of_ble_eq_true rfl) (fun hab => ?_)
  have hi : id < 1000 := Nat.lt_of_not_le fun h => by rw [(hab id h).1] at hid; cases hid
  have h2 : H 1002 = none := (hab _ (by decide)).1
  have h4 : H 1004 = none := (hab _ (by decide)).1
  have n2 : (id = 1002) = False := eq_false (by omega)
  cases hl : out.getLast? with
  | none =>
    have e : out = [] := List.getLast?_eq_none_iff.1 hl
    subst e
    repeat' (first
      | with_reducible refine VC_seq fun K hK => ?_
      | with_reducible refine W_region ?_
      | with_reducible refine VC_block ?_
      | with_reducible refine VC_scope ?_
      | with_reducible refine VC_if ?_
      | with_reducible refine VC_skip ?_
      | with_reducible refine VC_exit ?_
      | with_reducible refine VC_ret ?_
      | (with_reducible refine G_not (fun h => ?_) (fun h => ?_) <;> (try simp only [h]))
      | (with_reducible refine G_cases (fun h => ?_) (fun h => ?_) <;> (try simp only [h]))
      | (with_reducible refine hK _ ?_; clear hK K)
      | (clear hK K; with_reducible refine hK _ ?_; clear hK K)
      | (clear hK K; clear hK K; with_reducible refine hK _ ?_; clear hK K)
      | (clear hK K; clear hK K; clear hK K; with_reducible refine hK _ ?_; clear hK K)
      | (with_reducible refine todo ?_; simp +decide only [go_sem, hid, h2, n2]))
    exact RetE_same hw (kp_upd h2 kp_refl) rfl rfl rfl
  | some y =>
    have hne : out ≠ [] := fun e => by rw [e] at hl; cases hl
    have hpos := List.length_pos_iff.2 hne
    have hg : out[out.length - 1]? = some y := by rw [← List.getLast?_eq_getElem?]; exact hl
    have hy := hr y (List.mem_of_getElem? hg)
    have hz : (((out.length : Int)) == 0) = false := by rw [beq_eq_false_iff_ne]; omega
    have hwr : IntKind.i64.wrap ((out.length : Int) - 1) = ((out.length - 1 : Nat) : Int) := by rw [Go.IntWalk.i64_in _ (by omega)]; omega
    have hlt : (out.length - 1 < out.length) = True := eq_true (by omega)
    have ht : touches out x = ((y.hi == x.lo) && sameRow y.row x.row) := by unfold touches; rw [hl]
    rw [ht]
    repeat' (first
      | with_reducible refine VC_seq fun K hK => ?_
      | with_reducible refine W_region ?_
      | with_reducible refine VC_block ?_
      | with_reducible refine VC_scope ?_
      | with_reducible refine VC_if ?_
      | with_reducible refine VC_skip ?_
      | with_reducible refine VC_exit ?_
      | with_reducible refine VC_ret ?_
      | (with_reducible refine G_not (fun h => ?_) (fun h => ?_) <;> (try simp only [h]))
      | (with_reducible refine G_cases (fun h => ?_) (fun h => ?_) <;> (try simp only [h]))
      | refine C_pure (Try.kSame y.row x.row (by omega)) rfl rfl (fun k => (hab _ (by decide)).2 k) ?_
      | (with_reducible refine hK _ ?_; clear hK K)
      | (clear hK K; with_reducible refine hK _ ?_; clear hK K)
      | (clear hK K; clear hK K; with_reducible refine hK _ ?_; clear hK K)
      | (clear hK K; clear hK K; clear hK K; with_reducible refine hK _ ?_; clear hK K)
      | (with_reducible refine todo ?_; simp +decide only [go_sem, hid, h2, h4, n2, iE_mt, hκ, hz, hwr, hlt, hg]))
    all_goals
      rw [h]
      exact RetE_same hw (kp_upd h4 (kp_upd h4 (kp_upd h2 kp_refl))) rfl rfl rfl
end Go.Proofs
