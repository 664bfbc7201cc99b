import Derived.Test.YtcdiifnnnnnceaaQ30
import Derived.Test.YtcdiifnnnnnceaaQ17

/-
  TrackLast.
-/

namespace Go.Proofs
open Go.PW

theorem iAnd_63 (m : Int) : 0 ≤ iAnd .i64 m 63 ∧ iAnd .i64 m 63 ≤ 63 := by
  have h : (BitVec.ofInt IntKind.i64.bits m &&& BitVec.ofInt IntKind.i64.bits 63).toNat ≤ 63 := by
    rw [BitVec.toNat_and]
    exact Nat.and_le_right
  have e : iAnd .i64 m 63 = ((BitVec.ofInt IntKind.i64.bits m &&& BitVec.ofInt IntKind.i64.bits 63).toNat : Int) := by
    unfold iAnd
    exact Go.IntWalk.i64_in _ (by omega)
  rw [e]
  omega
theorem sameVers_self (l : List Ver) : sameVers l l = true := by
  unfold sameVers
  have : (List.zipWith sameVer l l).all id = true := by
    induction l with
    | nil => rfl
    | cons v r ih =>
      rw [List.zipWith_cons_cons, List.all_cons, ih]
      have : sameVer v v = true := by unfold sameVer; rw [samePiece_iff.2 rfl]; simp
      simp [this]
  rw [this]
  simp
theorem sets_same {l : List Ver} {t : Int} (h : vRight l = true) (h1 : vLast l ≤ t) (h2 : t < 1099511627776) {p : List Piece} (hp : right p = true) : vSetOK l t p = true := sets_iff.2 ⟨h, hp, h1, h2⟩

set_option maxRecDepth 8000 in
set_option maxHeartbeats 16000000 in
theorem Try.kLasts (s : List OpT) (o : OpT) (back : Int) (hb : ∀ o ∈ s, o.byte) (ho : o.byte) : PureOK Try.prog 8 [pD (encOpsT s), pA o.enc, pD (.lit (.int .i64 back))] (.one (dB true)) := by
  have kb := Try.kBuildT s hb
  have hT := buildT_ok hb
  generalize buildT s = σ at *
  have hl : σ.l.length ≤ 1000 := by have := hT.vl; omega
  have hr := hT.vr
  have hR := hT.v
  have hL1 : vLast σ.l ≤ 140 := by have := hT.la; have := hT.t1; omega
  generalize σ.l = l at *
  have hL0 := (vLast_spec hR).1
  have kk := Try.kKnown
  have hroe : ∀ v ∈ l, v.p.row.length ≤ 1048576 := fun v hv => Nat.le_trans (hr v hv) (by decide)
  rcases Nat.lt_or_ge 20 o.row.length with hlong | hshort
  · have h20 : ((20 : Int) < (o.row.length : Int)) = True := eq_true (by omega)
    refine Try.pure (md := []) Try.func8 rfl Try.call8 (by kernel_rfl) (by rfl) (by exact Nat.le_of_ble_eq_true rfl) ?_
    repeat' (first
      | with_reducible refine VC_seq fun K hK => ?_
      | with_reducible refine W_region ?_
      | with_reducible refine VC_block ?_
      | with_reducible refine VC_scope ?_
      | with_reducible refine VC_if ?_
      | with_reducible refine VC_skip ?_
      | with_reducible refine VC_exit ?_
      | with_reducible refine VC_ret ?_
      | (with_reducible refine G_not (fun h => ?_) (fun h => ?_) <;> (try simp only [h]))
      | (with_reducible refine G_cases (fun h => ?_) (fun h => ?_) <;> (try simp only [h]))
      | refine C_pure kb rfl rfl (fun _ => rfl) ?_
      | refine C_pure kk rfl rfl (fun _ => rfl) ?_
      | (with_reducible refine hK _ ?_; clear hK K)
      | (clear hK K; with_reducible refine hK _ ?_; clear hK K)
      | (clear hK K; clear hK K; with_reducible refine hK _ ?_; clear hK K)
      | (clear hK K; clear hK K; clear hK K; with_reducible refine hK _ ?_; clear hK K)
      | (with_reducible refine todo ?_; simp +decide only [go_sem, h20]))
    exact Ret_d rfl rfl
  · have h20 : ((20 : Int) < (o.row.length : Int)) = False := eq_false (by omega)
    have ka := Try.kAtV l 1099511627775 (by omega) hroe
    have kl := Try.kLast l (by omega) hroe
    have hpl := vAt_length l 1099511627775
    have hpr : ∀ x ∈ vAt l 1099511627775, x.row.length ≤ 20 := fun x hx => by obtain ⟨v, hv, e⟩ := vAt_mem hx; rw [e]; exact hr v hv
    have hpR := vAt_right l 1099511627775
    have hsame : ∀ t, vLast l ≤ t → t < 1099511627776 → vSetOf l t (vAt l 1099511627775) = l := fun t h1 h2 => vSet_same ⟨hR, hpR, h1, h2⟩
    have hlast : ∀ t q, vLast l < t → t < 1099511627776 → right q = true → q ≠ vAt l 1099511627775 → vLast (vSetOf l t q) = t := fun t q h1 h2 h3 h4 => vSet_last ⟨hR, h3, by omega, h2⟩ h1 h4
    generalize vAt l 1099511627775 = p at *
    have hw0 : IntKind.i64.wrap o.lt = o.lt := Go.IntWalk.i64_in _ (by have := ho.1; have := ho.2; omega)
    have hw1 : IntKind.i64.wrap (vLast l + 1) = vLast l + 1 := Go.IntWalk.i64_in _ (by omega)
    obtain ⟨t, htd⟩ : ∃ t, vLast l + 1 + o.lt = t := ⟨_, rfl⟩
    have hw2 : IntKind.i64.wrap (vLast l + 1 + o.lt) = t := by rw [← htd]; exact Go.IntWalk.i64_in _ (by have := ho.1; have := ho.2; omega)
    have ht : vLast l < t ∧ t ≤ 1000 := by have := ho.1; have := ho.2; omega
    have kS := Try.kSet l t p (by omega) hroe (by omega) (fun x hx => Nat.le_trans (hpr x hx) (by decide))
    have hok := sets_same hR (show vLast l ≤ t by omega) (by omega) hpR
    rw [if_pos hok, vSet, if_pos hok, hsame t (by omega) (by omega)] at kS
    have kP := Try.kPut p o.s o.row (by omega) (fun x hx => Nat.le_trans (hpr x hx) (by decide)) (by omega)
    have hqR : right (putP p o.s o.row) = true := putP_right hpR
    have hql := putP_len (s := o.s) (r := o.row) hpR
    have hqr : ∀ x ∈ putP p o.s o.row, x.row.length ≤ 20 := putP_row hpr hshort
    generalize putP p o.s o.row = q at *
    have hsets : Sets l t q := ⟨hR, hqR, by omega, by omega⟩
    have kS2 := Try.kSet l t q (by omega) hroe (by omega) (fun x hx => Nat.le_trans (hqr x hx) (by decide))
    have hok2 := sets_iff.2 hsets
    rw [if_pos hok2, vSet, if_pos hok2] at kS2
    have hml := vSetOf_length l t q
    have hmr := vSetOf_rows hsets hr hqr
    have hm1 := vSet_after hsets (Int.le_refl t) (by omega)
    have hm2 := fun u (hu : u < t) => vSet_before hsets hu
    have hm3 := hlast t q ht.1 (by omega) hqR
    have hm4 : p = q → vSetOf l t q = l := fun e => by rw [← e]; exact hsame t (by omega) (by omega)
    generalize vSetOf l t q = m at *
    have hme : ∀ v ∈ m, v.p.row.length ≤ 1048576 := fun v hv => Nat.le_trans (hmr v hv) (by decide)
    have kV := Try.kSameV l l (by omega) hroe
    rw [sameVers_self] at kV
    have kpq := Try.kSameP p q (by omega) (fun x hx => Nat.le_trans (hpr x hx) (by decide))
    have n0 : ((0 : Int) != 0) = false := by decide
    have hse : o.s.enc = encSpan o.s.1 o.s.2 := rfl
    cases hpq : samePieces p q with
    | true =>
      rw [hpq] at kpq
      rw [hm4 (samePieces_iff.1 hpq)] at kS2
      refine Try.pure (md := []) Try.func8 rfl Try.call8 (by kernel_rfl) (by rfl) (by exact Nat.le_of_ble_eq_true rfl) ?_
      repeat' (first
        | with_reducible refine VC_seq fun K hK => ?_
        | with_reducible refine W_region ?_
        | with_reducible refine VC_block ?_
        | with_reducible refine VC_scope ?_
        | with_reducible refine VC_if ?_
        | with_reducible refine VC_skip ?_
        | with_reducible refine VC_exit ?_
        | with_reducible refine VC_ret ?_
        | (with_reducible refine G_not (fun h => ?_) (fun h => ?_) <;> (try simp only [h]))
        | (with_reducible refine G_cases (fun h => ?_) (fun h => ?_) <;> (try simp only [h]))
        | refine C_pure kb rfl rfl (fun _ => rfl) ?_
        | refine C_pure ka rfl rfl (fun _ => rfl) ?_
        | refine C_pure kl rfl rfl (fun _ => rfl) ?_
        | refine C_pure kS rfl rfl (fun _ => rfl) ?_
        | refine C_pure kP rfl rfl (fun _ => rfl) ?_
        | refine C_pure kS2 rfl rfl (fun _ => rfl) ?_
        | refine C_pure kV rfl rfl (fun _ => rfl) ?_
        | refine C_pure kpq rfl rfl (fun _ => rfl) ?_
        | refine C_pure kk rfl rfl (fun _ => rfl) ?_
        | (with_reducible refine hK _ ?_; clear hK K)
        | (clear hK K; with_reducible refine hK _ ?_; clear hK K)
        | (clear hK K; clear hK K; with_reducible refine hK _ ?_; clear hK K)
        | (clear hK K; clear hK K; clear hK K; with_reducible refine hK _ ?_; clear hK K)
        | (with_reducible refine todo ?_; simp +decide only [go_sem, h20, hw0, hw1, hw2, n0]))
      exact Ret_d rfl rfl
    | false =>
      rw [hpq] at kpq
      have hne : q ≠ p := fun e => by rw [samePieces_iff.2 e.symm] at hpq; cases hpq
      have hm3 := hm3 hne
      have hi := iAnd_63 back
      have hw3 : IntKind.i64.wrap (t - 1) = t - 1 := Go.IntWalk.i64_in _ (by omega)
      obtain ⟨old, hod⟩ : ∃ u, t - 1 - iAnd .i64 back 63 = u := ⟨_, rfl⟩
      have hw4 : IntKind.i64.wrap (t - 1 - iAnd .i64 back 63) = old := by rw [← hod]; exact Go.IntWalk.i64_in _ (by omega)
      have hold := hm2 old (by omega)
      have kml := Try.kLast m (by omega) hme
      rw [hm3] at kml
      have kmo := Try.kAtV m old (by omega) hme
      rw [hold] at kmo
      have klo := Try.kAtV l old (by omega) hroe
      have hdl := vAt_length l old
      have hdr : ∀ x ∈ vAt l old, x.row.length ≤ 20 := fun x hx => by obtain ⟨v, hv, e⟩ := vAt_mem hx; rw [e]; exact hr v hv
      generalize vAt l old = d at *
      have kpd := Try.kPieces d (by omega)
      have ksd := Try.rSame d d (by omega) (fun x hx => Nat.le_trans (hdr x hx) (by decide))
      rw [samePieces_iff.2 rfl] at ksd
      have kmt := Try.kAtV m t (by omega) hme
      rw [hm1] at kmt
      have kpe := Try.kPieces q (by omega)
      have kse := Try.rSame q q (by omega) (fun x hx => Nat.le_trans (hqr x hx) (by decide))
      rw [samePieces_iff.2 rfl] at kse
      have e1 : (t == t) = true := by simp
      refine Try.pure (md := []) Try.func8 rfl Try.call8 (by kernel_rfl) (by rfl) (by exact Nat.le_of_ble_eq_true rfl) ?_
      repeat' (first
        | with_reducible refine VC_seq fun K hK => ?_
        | with_reducible refine W_region ?_
        | with_reducible refine VC_block ?_
        | with_reducible refine VC_scope ?_
        | with_reducible refine VC_if ?_
        | with_reducible refine VC_skip ?_
        | with_reducible refine VC_exit ?_
        | with_reducible refine VC_ret ?_
        | (with_reducible refine G_not (fun h => ?_) (fun h => ?_) <;> (try simp only [h]))
        | (with_reducible refine G_cases (fun h => ?_) (fun h => ?_) <;> (try simp only [h]))
        | refine C_pure kb rfl rfl (fun _ => rfl) ?_
        | refine C_pure ka rfl rfl (fun _ => rfl) ?_
        | refine C_pure kl rfl rfl (fun _ => rfl) ?_
        | refine C_pure kS rfl rfl (fun _ => rfl) ?_
        | refine C_pure kP rfl rfl (fun _ => rfl) ?_
        | refine C_pure kS2 rfl rfl (fun _ => rfl) ?_
        | refine C_pure kV rfl rfl (fun _ => rfl) ?_
        | refine C_pure kpq rfl rfl (fun _ => rfl) ?_
        | refine C_pure kml rfl rfl (fun _ => rfl) ?_
        | refine C_pure kmo rfl rfl (fun _ => rfl) ?_
        | refine C_pure klo rfl rfl (fun _ => rfl) ?_
        | refine C_pure kpd rfl rfl (fun _ => rfl) ?_
        | refine C_pure ksd rfl rfl (fun _ => rfl) ?_
        | refine C_pure kmt rfl rfl (fun _ => rfl) ?_
        | refine C_pure kpe rfl rfl (fun _ => rfl) ?_
        | refine C_pure kse rfl rfl (fun _ => rfl) ?_
        | refine C_pure kk rfl rfl (fun _ => rfl) ?_
        | (with_reducible refine hK _ ?_; clear hK K)
        | (clear hK K; with_reducible refine hK _ ?_; clear hK K)
        | (clear hK K; clear hK K; with_reducible refine hK _ ?_; clear hK K)
        | (clear hK K; clear hK K; clear hK K; with_reducible refine hK _ ?_; clear hK K)
        | (with_reducible refine todo ?_; simp +decide only [go_sem, h20, hw0, hw1, hw2, n0, hw3, hw4, e1]))
      exact Ret_d rfl rfl
end Go.Proofs

/-
  What calls and versions (memoirlaw14) read as.
-/


namespace Go.Proofs
open Go.PW
def OpT.ok (o : OpT) : Prop := (Lit.int .u8 o.lt).wf = true ∧ Sp.ok o.s ∧ Row.ok' o.row
def Ver.ok (v : Ver) : Prop := Sp.ok (v.sl, v.sh) ∧ Piece.ok v.p
theorem OpT.ok_byte {o : OpT} (h : OpT.ok o) : o.byte := by
  have := h.1
  simp [Lit.wf] at this
  have h1 : IntKind.u8.min = 0 := by decide
  have h2 : IntKind.u8.max = 255 := by decide
  rw [h1, h2] at this
  exact ⟨this.1, by omega⟩
theorem Try.rOpT (w : World) : Reads Try.prog w 74 OpT.ok OpT.enc :=
  reads_map (reads_struct Try.underlying74 rfl (by kernel_rfl) (readsF_cons rfl Try.cl5 (reads_int Try.underlying5) (readsF_cons rfl Try.cl4 (reads_bool Try.underlying4) (readsF_cons rfl Try.cl43 (Try.rSp w) (readsF_cons rfl Try.cl44 (Try.rRow w) readsF_nil))))) (fun x => (⟨x.1, x.2.1, x.2.2.1, x.2.2.2.1⟩ : OpT)) (fun _ h => ⟨⟨h.1, h.2.2.1, h.2.2.2.1⟩, rfl⟩)
theorem Try.rOpsT (w : World) : Reads Try.prog w 60 (fun l : List OpT => ∀ o ∈ l, OpT.ok o) (fun l => [encOpsT l]) :=
  reads_slice Try.underlying60 Try.cl74 (by decide) (fun _ => rfl) (Try.rOpT w)
theorem Try.rVer (w : World) : Reads Try.prog w 68 Ver.ok Ver.enc :=
  reads_map (reads_struct Try.underlying68 rfl (by kernel_rfl) (readsF_cons rfl Try.cl43 (Try.rSp w) (readsF_cons rfl Try.cl46 (Try.rPiece w) readsF_nil))) (fun x => (⟨x.1.1, x.1.2, x.2.1⟩ : Ver)) (fun _ h => ⟨⟨h.1, h.2.1⟩, rfl⟩)
theorem Try.rVers (w : World) : Reads Try.prog w 22 (fun l : List Ver => ∀ v ∈ l, Ver.ok v) (fun l => [encVers l]) :=
  reads_slice Try.underlying22 Try.cl68 (by decide) (fun _ => rfl) (Try.rVer w)
theorem ops_byte {s : List OpT} (h : ∀ o ∈ s, OpT.ok o) : ∀ o ∈ s, o.byte := fun o ho => OpT.ok_byte (h o ho)
end Go.Proofs
