import Derived.Test.YtcdiifnnnnnceaaQ30
import Derived.Test.YtcdiifnnnnnceaaQ17

/-
  TrackHas.
-/

namespace Go.Proofs
open Go.PW

theorem wantT_next {out : List TSt} {i : Nat} {w : TSt} {u : Int} (h : out[i]? = some w) : wantT (out.take (i + 1)) u = if Span.has w.sl w.sh u = true then w.ps else wantT (out.take i) u := foldl_next h

set_option maxRecDepth 8000 in
set_option maxHeartbeats 8000000 in
theorem Try.kHas (s : List OpT) (u : Int) (hb : ∀ o ∈ s, o.byte) : PureOK Try.prog 5 [pD (encOpsT s), pD (.lit (.int .i64 u))] (.one (dB true)) := by
  have kb := Try.kBuildT s hb
  have hT := buildT_ok hb
  generalize buildT s = σ at *
  have kr := Try.kRightV σ.l (by have := hT.vl; omega) (fun v hv => Nat.le_trans (hT.vr v hv) (by decide))
  have hsem := hT.sem u
  have ka := Try.kAtV σ.l u (by have := hT.vl; omega) (fun v hv => Nat.le_trans (hT.vr v hv) (by decide))
  have hal := vAt_length σ.l u
  have har : ∀ x ∈ vAt σ.l u, x.row.length ≤ 1048576 := fun x hx => by obtain ⟨v, hv, e⟩ := vAt_mem hx; rw [e]; exact Nat.le_trans (hT.vr v hv) (by decide)
  have kp := Try.kPieces (vAt σ.l u) (by have := hT.vl; omega)
  have ks := Try.rSame (vAt σ.l u) (wantT σ.out u) (by have := hT.vl; omega) har
  rw [hT.v] at kr
  rw [samePieces_iff.2 hsem] at ks
  have kk := Try.kKnown
  have hol := hT.ol
  have hos := hT.os
  refine Try.pure (md := []) Try.func5 rfl Try.call5 (by kernel_rfl) (by rfl) (by exact Nat.le_of_ble_eq_true rfl) ?_
  repeat' (first
    | with_reducible refine VC_seq fun K hK => ?_
    | with_reducible refine W_region ?_
    | with_reducible refine VC_block ?_
    | with_reducible refine VC_scope ?_
    | with_reducible refine VC_if ?_
    | with_reducible refine VC_skip ?_
    | with_reducible refine VC_exit ?_
    | with_reducible refine VC_ret ?_
    | (with_reducible refine G_not (fun h => ?_) (fun h => ?_) <;> (try simp only [h]))
    | (with_reducible refine G_cases (fun h => ?_) (fun h => ?_) <;> (try simp only [h]))
    | refine C_pure kb rfl rfl (fun _ => rfl) ?_
    | refine C_pure kr rfl rfl (fun _ => rfl) ?_
    | (with_reducible refine hK _ ?_; clear hK K)
    | (clear hK K; with_reducible refine hK _ ?_; clear hK K)
    | (clear hK K; clear hK K; with_reducible refine hK _ ?_; clear hK K)
    | (clear hK K; clear hK K; clear hK K; with_reducible refine hK _ ?_; clear hK K)
    | (with_reducible refine todo ?_; simp +decide only [go_sem]))
  refine VC_range σ.out.length (fun _ => True) (fun i => frame [(1, pD (.lit (.int .i64 u))), (5, pD (encVers σ.l)), (6, pD (encSts σ.out)), (7, pD (encPieces (wantT (σ.out.take i) u))), (8, pD (.lit (.int .i64 i)))] [] []) True.intro ?_ ?_
  · refine Weak_frame ?_ ?_ ?_ <;> simp +decide only [go_sem, wantT, List.foldl_nil]
  · intro i hi hI
    rcases Nat.lt_or_ge i σ.out.length with hlt | hge
    · have hg := List.getElem?_eq_getElem hlt
      have hd := int_lt_true hlt
      have hwi := int_next hlt (show σ.out.length ≤ 4294967296 by omega)
      generalize σ.out[i] = w at hg
      have hnx := wantT_next (u := u) hg
      have kh := Try.rSpanHas w.sl w.sh u
      have kw := Try.kPieces w.ps (by have := (hos w (List.mem_of_getElem? hg)).1; omega)
      cases hh : Span.has w.sl w.sh u with
      | true =>
        rw [hh] at kh hnx
        rw [if_pos rfl] at hnx
        repeat' (first
          | with_reducible refine VC_seq fun K hK => ?_
          | with_reducible refine W_region ?_
          | with_reducible refine VC_block ?_
          | with_reducible refine VC_scope ?_
          | with_reducible refine VC_if ?_
          | with_reducible refine VC_skip ?_
          | with_reducible refine VC_exit ?_
          | with_reducible refine VC_ret ?_
          | (with_reducible refine G_not (fun h => ?_) (fun h => ?_) <;> (try simp only [h]))
          | (with_reducible refine G_cases (fun h => ?_) (fun h => ?_) <;> (try simp only [h]))
          | refine C_pure kh rfl rfl (fun _ => rfl) ?_
          | refine C_pure kw rfl rfl (fun _ => rfl) ?_
          | (with_reducible refine hK _ ?_; clear hK K)
          | (clear hK K; with_reducible refine hK _ ?_; clear hK K)
          | (clear hK K; clear hK K; with_reducible refine hK _ ?_; clear hK K)
          | (clear hK K; clear hK K; clear hK K; with_reducible refine hK _ ?_; clear hK K)
          | (with_reducible refine todo ?_; simp +decide only [go_sem, hg, hd, hwi]))
        refine Next_of hlt True.intro (Weak_frame ?_ ?_ ?_) <;> simp +decide only [go_sem, hnx]
      | false =>
        rw [hh] at kh hnx
        rw [if_neg (by decide)] at hnx
        repeat' (first
          | with_reducible refine VC_seq fun K hK => ?_
          | with_reducible refine W_region ?_
          | with_reducible refine VC_block ?_
          | with_reducible refine VC_scope ?_
          | with_reducible refine VC_if ?_
          | with_reducible refine VC_skip ?_
          | with_reducible refine VC_exit ?_
          | with_reducible refine VC_ret ?_
          | (with_reducible refine G_not (fun h => ?_) (fun h => ?_) <;> (try simp only [h]))
          | (with_reducible refine G_cases (fun h => ?_) (fun h => ?_) <;> (try simp only [h]))
          | refine C_pure kh rfl rfl (fun _ => rfl) ?_
          | (with_reducible refine hK _ ?_; clear hK K)
          | (clear hK K; with_reducible refine hK _ ?_; clear hK K)
          | (clear hK K; clear hK K; with_reducible refine hK _ ?_; clear hK K)
          | (clear hK K; clear hK K; clear hK K; with_reducible refine hK _ ?_; clear hK K)
          | (with_reducible refine todo ?_; simp +decide only [go_sem, hg, hd, hwi]))
        refine Next_of hlt True.intro (Weak_frame ?_ ?_ ?_) <;> simp +decide only [go_sem, hnx]
    · have hd := int_lt_false hge
      rw [List.take_of_length_le hge]
      repeat' (first
        | with_reducible refine VC_seq fun K hK => ?_
        | with_reducible refine W_region ?_
        | with_reducible refine VC_block ?_
        | with_reducible refine VC_scope ?_
        | with_reducible refine VC_if ?_
        | with_reducible refine VC_skip ?_
        | with_reducible refine VC_exit ?_
        | with_reducible refine VC_ret ?_
        | (with_reducible refine G_not (fun h => ?_) (fun h => ?_) <;> (try simp only [h]))
        | (with_reducible refine G_cases (fun h => ?_) (fun h => ?_) <;> (try simp only [h]))
        | refine C_pure ka rfl rfl (fun _ => rfl) ?_
        | refine C_pure kp rfl rfl (fun _ => rfl) ?_
        | refine C_pure ks rfl rfl (fun _ => rfl) ?_
        | refine C_pure kk rfl rfl (fun _ => rfl) ?_
        | (with_reducible refine hK _ ?_; clear hK K)
        | (clear hK K; with_reducible refine hK _ ?_; clear hK K)
        | (clear hK K; clear hK K; with_reducible refine hK _ ?_; clear hK K)
        | (clear hK K; clear hK K; clear hK K; with_reducible refine hK _ ?_; clear hK K)
        | (with_reducible refine todo ?_; simp +decide only [go_sem, hd]))
      exact Ret_d rfl rfl
end Go.Proofs

/-
  What calls and versions (memoirlaw14) read as.
-/


namespace Go.Proofs
open Go.PW
def OpT.ok (o : OpT) : Prop := (Lit.int .u8 o.lt).wf = true ∧ Sp.ok o.s ∧ Row.ok' o.row
def Ver.ok (v : Ver) : Prop := Sp.ok (v.sl, v.sh) ∧ Piece.ok v.p
theorem OpT.ok_byte {o : OpT} (h : OpT.ok o) : o.byte := by
  have := h.1
  simp [Lit.wf] at this
  have h1 : IntKind.u8.min = 0 := by decide
  have h2 : IntKind.u8.max = 255 := by decide
  rw [h1, h2] at this
  exact ⟨this.1, by omega⟩
theorem Try.rOpT (w : World) : Reads Try.prog w 74 OpT.ok OpT.enc :=
  reads_map (reads_struct Try.underlying74 rfl (by kernel_rfl) (readsF_cons rfl Try.cl5 (reads_int Try.underlying5) (readsF_cons rfl Try.cl4 (reads_bool Try.underlying4) (readsF_cons rfl Try.cl43 (Try.rSp w) (readsF_cons rfl Try.cl44 (Try.rRow w) readsF_nil))))) (fun x => (⟨x.1, x.2.1, x.2.2.1, x.2.2.2.1⟩ : OpT)) (fun _ h => ⟨⟨h.1, h.2.2.1, h.2.2.2.1⟩, rfl⟩)
theorem Try.rOpsT (w : World) : Reads Try.prog w 60 (fun l : List OpT => ∀ o ∈ l, OpT.ok o) (fun l => [encOpsT l]) :=
  reads_slice Try.underlying60 Try.cl74 (by decide) (fun _ => rfl) (Try.rOpT w)
theorem Try.rVer (w : World) : Reads Try.prog w 68 Ver.ok Ver.enc :=
  reads_map (reads_struct Try.underlying68 rfl (by kernel_rfl) (readsF_cons rfl Try.cl43 (Try.rSp w) (readsF_cons rfl Try.cl46 (Try.rPiece w) readsF_nil))) (fun x => (⟨x.1.1, x.1.2, x.2.1⟩ : Ver)) (fun _ h => ⟨⟨h.1, h.2.1⟩, rfl⟩)
theorem Try.rVers (w : World) : Reads Try.prog w 22 (fun l : List Ver => ∀ v ∈ l, Ver.ok v) (fun l => [encVers l]) :=
  reads_slice Try.underlying22 Try.cl68 (by decide) (fun _ => rfl) (Try.rVer w)
theorem ops_byte {s : List OpT} (h : ∀ o ∈ s, OpT.ok o) : ∀ o ∈ s, o.byte := fun o ho => OpT.ok_byte (h o ho)
end Go.Proofs
