import Derived.Test.YtcdiifnnnnnceaaQ30
import Derived.Test.YtcdiifnnnnnceaaQ17

/-
  TrackKeeps.
-/

namespace Go.Proofs
open Go.PW

set_option maxRecDepth 8000 in
set_option maxHeartbeats 16000000 in
theorem Try.kKeeps (s : List OpT) (h t : Int) (hb : ∀ o ∈ s, o.byte) : PureOK Try.prog 6 [pD (encOpsT s), pD (.lit (.int .i64 h)), pD (.lit (.int .i64 t))] (.one (dB true)) := by
  have kb := Try.kBuildT s hb
  have hT := buildT_ok hb
  generalize buildT s = σ at *
  have hl : σ.l.length ≤ 1000 := by have := hT.vl; omega
  have hr := hT.vr
  have hR := hT.v
  generalize σ.l = l at *
  have kV := Try.kVacuum l h (by omega) (fun v hv => Nat.le_trans (hr v hv) (by decide))
  have kC := Try.kCoalesceV l (by omega) (fun v hv => Nat.le_trans (hr v hv) (by decide))
  have ka := Try.kAtV l t (by omega) (fun v hv => Nat.le_trans (hr v hv) (by decide))
  obtain ⟨c1, c2, c3⟩ := vCoalesce_spec hR
  have cl := vCoalesce_length l
  have cr : ∀ v ∈ vCoalesce l, v.p.row.length ≤ 20 := by rw [vCoalesce, if_pos hR]; exact (vCo_ok l [] hr (fun w hw => by cases hw)).2
  have ct := c2 t
  have vR := vacuum_right hR h
  have vm := fun v (hv : v ∈ vacuum l h) => vacuum_mem hR hv
  have vl : (vacuum l h).length ≤ 1000 := by rw [vacuum_eq hR]; exact Nat.le_trans (List.length_filter_le _ _) hl
  have vr : ∀ v ∈ vacuum l h, v.p.row.length ≤ 20 := fun v hv => by rw [vacuum_eq hR] at hv; exact hr v (List.mem_filter.1 hv).1
  have va : h ≤ t → vAt (vacuum l h) t = vAt l t := fun k => vacuum_at hR k
  generalize vacuum l h = V at *
  generalize vCoalesce l = C at *
  have kaV := Try.kAtV V t (by omega) (fun v hv => Nat.le_trans (vr v hv) (by decide))
  have kaC := Try.kAtV C t (by omega) (fun v hv => Nat.le_trans (cr v hv) (by decide))
  have krV := Try.kRightV V (by omega) (fun v hv => Nat.le_trans (vr v hv) (by decide))
  have krC := Try.kRightV C (by omega) (fun v hv => Nat.le_trans (cr v hv) (by decide))
  rw [vR] at krV
  rw [c1] at krC
  rw [ct] at kaC
  have kk := Try.kKnown
  have hle : ((C.length : Int) ≤ (l.length : Int)) = True := eq_true (by omega)
  have pl := vAt_length l t
  have pr : ∀ x ∈ vAt l t, x.row.length ≤ 1048576 := fun x hx => by obtain ⟨v, hv, e⟩ := vAt_mem hx; rw [e]; exact Nat.le_trans (hr v hv) (by decide)
  generalize vAt l t = p at *
  have kp := Try.kPieces p (by omega)
  have ks := Try.rSame p p (by omega) pr
  rw [samePieces_iff.2 rfl] at ks
  refine Try.pure (md := []) Try.func6 rfl Try.call6 (by kernel_rfl) (by rfl) (by exact Nat.le_of_ble_eq_true rfl) ?_
  repeat' (first
    | with_reducible refine VC_seq fun K hK => ?_
    | with_reducible refine W_region ?_
    | with_reducible refine VC_block ?_
    | with_reducible refine VC_scope ?_
    | with_reducible refine VC_if ?_
    | with_reducible refine VC_skip ?_
    | with_reducible refine VC_exit ?_
    | with_reducible refine VC_ret ?_
    | (with_reducible refine G_not (fun h => ?_) (fun h => ?_) <;> (try simp only [h]))
    | (with_reducible refine G_cases (fun h => ?_) (fun h => ?_) <;> (try simp only [h]))
    | refine C_pure kb rfl rfl (fun _ => rfl) ?_
    | refine C_pure kV rfl rfl (fun _ => rfl) ?_
    | refine C_pure kC rfl rfl (fun _ => rfl) ?_
    | (with_reducible refine hK _ ?_; clear hK K)
    | (clear hK K; with_reducible refine hK _ ?_; clear hK K)
    | (clear hK K; clear hK K; with_reducible refine hK _ ?_; clear hK K)
    | (clear hK K; clear hK K; clear hK K; with_reducible refine hK _ ?_; clear hK K)
    | (with_reducible refine todo ?_; simp +decide only [go_sem]))
  refine VC_range V.length (fun _ => True) (fun i => frame [(1, pD (.lit (.int .i64 h))), (2, pD (.lit (.int .i64 t))), (7, pD (encVers l)), (9, pD (encVers V)), (10, pD (encVers C)), (11, pD (.lit (.int .i64 i)))] [] []) True.intro ?_ ?_
  · refine Weak_frame ?_ ?_ ?_ <;> simp +decide only [go_sem]
  · intro i hi hI
    rcases Nat.lt_or_ge i V.length with hlt | hge
    · have hg := List.getElem?_eq_getElem hlt
      have hd := int_lt_true hlt
      have hwi := int_next hlt (show V.length ≤ 4294967296 by omega)
      generalize V[i] = v at hg
      have hv := vm v (List.mem_of_getElem? hg)
      have hle2 : (v.sh ≤ h) = False := eq_false (by omega)
      repeat' (first
        | with_reducible refine VC_seq fun K hK => ?_
        | with_reducible refine W_region ?_
        | with_reducible refine VC_block ?_
        | with_reducible refine VC_scope ?_
        | with_reducible refine VC_if ?_
        | with_reducible refine VC_skip ?_
        | with_reducible refine VC_exit ?_
        | with_reducible refine VC_ret ?_
        | (with_reducible refine G_not (fun h => ?_) (fun h => ?_) <;> (try simp only [h]))
        | (with_reducible refine G_cases (fun h => ?_) (fun h => ?_) <;> (try simp only [h]))
        | (with_reducible refine hK _ ?_; clear hK K)
        | (clear hK K; with_reducible refine hK _ ?_; clear hK K)
        | (clear hK K; clear hK K; with_reducible refine hK _ ?_; clear hK K)
        | (clear hK K; clear hK K; clear hK K; with_reducible refine hK _ ?_; clear hK K)
        | (with_reducible refine todo ?_; simp +decide only [go_sem, hg, hd, hwi, hle2]))
      refine Next_of hlt True.intro (Weak_frame ?_ ?_ ?_) <;> simp +decide only [go_sem]
    · have hd := int_lt_false hge
      repeat' (first
        | with_reducible refine VC_seq fun K hK => ?_
        | with_reducible refine W_region ?_
        | with_reducible refine VC_block ?_
        | with_reducible refine VC_scope ?_
        | with_reducible refine VC_if ?_
        | with_reducible refine VC_skip ?_
        | with_reducible refine VC_exit ?_
        | with_reducible refine VC_ret ?_
        | (with_reducible refine G_not (fun h => ?_) (fun h => ?_) <;> (try simp only [h]))
        | (with_reducible refine G_cases (fun h => ?_) (fun h => ?_) <;> (try simp only [h]))
        | (with_reducible refine hK _ ?_; clear hK K)
        | (clear hK K; with_reducible refine hK _ ?_; clear hK K)
        | (clear hK K; clear hK K; with_reducible refine hK _ ?_; clear hK K)
        | (clear hK K; clear hK K; clear hK K; with_reducible refine hK _ ?_; clear hK K)
        | (with_reducible refine todo ?_; simp +decide only [go_sem, hd]))
      refine VC_range C.length (fun _ => True) (fun i => frame [(1, pD (.lit (.int .i64 h))), (2, pD (.lit (.int .i64 t))), (7, pD (encVers l)), (9, pD (encVers V)), (10, pD (encVers C)), (12, pD (.lit (.int .i64 i)))] [] []) True.intro ?_ ?_
      · refine Weak_frame ?_ ?_ ?_ <;> simp +decide only [go_sem]
      · intro j hj hJ
        rcases Nat.lt_or_ge j C.length with hlt2 | hge2
        · have hg2 := List.getElem?_eq_getElem hlt2
          have hd2 := int_lt_true hlt2
          have hw2 := int_next hlt2 (show C.length ≤ 4294967296 by omega)
          generalize C[j] = v at hg2
          have hvm := List.mem_of_getElem? hg2
          repeat' (first
            | with_reducible refine VC_seq fun K hK => ?_
            | with_reducible refine W_region ?_
            | with_reducible refine VC_block ?_
            | with_reducible refine VC_scope ?_
            | with_reducible refine VC_if ?_
            | with_reducible refine VC_skip ?_
            | with_reducible refine VC_exit ?_
            | with_reducible refine VC_ret ?_
            | (with_reducible refine G_not (fun h => ?_) (fun h => ?_) <;> (try simp only [h]))
            | (with_reducible refine G_cases (fun h => ?_) (fun h => ?_) <;> (try simp only [h]))
            | (with_reducible refine hK _ ?_; clear hK K)
            | (clear hK K; with_reducible refine hK _ ?_; clear hK K)
            | (clear hK K; clear hK K; with_reducible refine hK _ ?_; clear hK K)
            | (clear hK K; clear hK K; clear hK K; with_reducible refine hK _ ?_; clear hK K)
            | (with_reducible refine todo ?_; simp +decide only [go_sem, hd2]))
          refine VC_range C.length (fun _ => True) (fun k => frame [(1, pD (.lit (.int .i64 h))), (2, pD (.lit (.int .i64 t))), (7, pD (encVers l)), (9, pD (encVers V)), (10, pD (encVers C)), (12, pD (.lit (.int .i64 j))), (13, pD (.lit (.int .i64 k)))] [] []) True.intro ?_ ?_
          · refine Weak_frame ?_ ?_ ?_ <;> simp +decide only [go_sem]
          · intro k hk hJ2
            rcases Nat.lt_or_ge k C.length with hlt3 | hge3
            · have hg3 := List.getElem?_eq_getElem hlt3
              have hd3 := int_lt_true hlt3
              have hw3 := int_next hlt3 (show C.length ≤ 4294967296 by omega)
              generalize C[k] = w at hg3
              have hwm := List.mem_of_getElem? hg3
              have hnj := c3 v hvm w hwm
              have kp1 := Try.kPieces [v.p] (by simp)
              have kp2 := Try.kPieces [w.p] (by simp)
              have ks2 := Try.rSame [v.p] [w.p] (by simp) (fun x hx => by rw [List.mem_singleton.1 hx]; exact Nat.le_trans (cr v hvm) (by decide))
              cases he : (v.sh == w.sl) with
              | false =>
                repeat' (first
                  | with_reducible refine VC_seq fun K hK => ?_
                  | with_reducible refine W_region ?_
                  | with_reducible refine VC_block ?_
                  | with_reducible refine VC_scope ?_
                  | with_reducible refine VC_if ?_
                  | with_reducible refine VC_skip ?_
                  | with_reducible refine VC_exit ?_
                  | with_reducible refine VC_ret ?_
                  | (with_reducible refine G_not (fun h => ?_) (fun h => ?_) <;> (try simp only [h]))
                  | (with_reducible refine G_cases (fun h => ?_) (fun h => ?_) <;> (try simp only [h]))
                  | (with_reducible refine hK _ ?_; clear hK K)
                  | (clear hK K; with_reducible refine hK _ ?_; clear hK K)
                  | (clear hK K; clear hK K; with_reducible refine hK _ ?_; clear hK K)
                  | (clear hK K; clear hK K; clear hK K; with_reducible refine hK _ ?_; clear hK K)
                  | (with_reducible refine todo ?_; simp +decide only [go_sem, hg2, hg3, hd3, hw3, he]))
                refine Next_of hlt3 True.intro (Weak_frame ?_ ?_ ?_) <;> simp +decide only [go_sem]
              | true =>
                have hne : samePieces [v.p] [w.p] = false := by
                  rw [samePieces_one, ← Bool.not_eq_true, samePiece_iff]
                  exact fun e => hnj ⟨by simpa using he, e⟩
                rw [hne] at ks2
                repeat' (first
                  | with_reducible refine VC_seq fun K hK => ?_
                  | with_reducible refine W_region ?_
                  | with_reducible refine VC_block ?_
                  | with_reducible refine VC_scope ?_
                  | with_reducible refine VC_if ?_
                  | with_reducible refine VC_skip ?_
                  | with_reducible refine VC_exit ?_
                  | with_reducible refine VC_ret ?_
                  | (with_reducible refine G_not (fun h => ?_) (fun h => ?_) <;> (try simp only [h]))
                  | (with_reducible refine G_cases (fun h => ?_) (fun h => ?_) <;> (try simp only [h]))
                  | refine C_pure kp1 rfl rfl (fun _ => rfl) ?_
                  | refine C_pure kp2 rfl rfl (fun _ => rfl) ?_
                  | refine C_pure ks2 rfl rfl (fun _ => rfl) ?_
                  | (with_reducible refine hK _ ?_; clear hK K)
                  | (clear hK K; with_reducible refine hK _ ?_; clear hK K)
                  | (clear hK K; clear hK K; with_reducible refine hK _ ?_; clear hK K)
                  | (clear hK K; clear hK K; clear hK K; with_reducible refine hK _ ?_; clear hK K)
                  | (with_reducible refine todo ?_; simp +decide only [go_sem, hg2, hg3, hd3, hw3, he]))
                refine Next_of hlt3 True.intro (Weak_frame ?_ ?_ ?_) <;> simp +decide only [go_sem]
            · have hd3 := int_lt_false hge3
              repeat' (first
                | with_reducible refine VC_seq fun K hK => ?_
                | with_reducible refine W_region ?_
                | with_reducible refine VC_block ?_
                | with_reducible refine VC_scope ?_
                | with_reducible refine VC_if ?_
                | with_reducible refine VC_skip ?_
                | with_reducible refine VC_exit ?_
                | with_reducible refine VC_ret ?_
                | (with_reducible refine G_not (fun h => ?_) (fun h => ?_) <;> (try simp only [h]))
                | (with_reducible refine G_cases (fun h => ?_) (fun h => ?_) <;> (try simp only [h]))
                | (with_reducible refine hK _ ?_; clear hK K)
                | (clear hK K; with_reducible refine hK _ ?_; clear hK K)
                | (clear hK K; clear hK K; with_reducible refine hK _ ?_; clear hK K)
                | (clear hK K; clear hK K; clear hK K; with_reducible refine hK _ ?_; clear hK K)
                | (with_reducible refine todo ?_; simp +decide only [go_sem, hd3, hw2]))
              refine Next_of hlt2 True.intro (Weak_frame ?_ ?_ ?_) <;> simp +decide only [go_sem]
        · have hd2 := int_lt_false hge2
          rcases Int.lt_or_le t h with hth | hth
          · have ht : (t < h) = True := eq_true hth
            repeat' (first
              | with_reducible refine VC_seq fun K hK => ?_
              | with_reducible refine W_region ?_
              | with_reducible refine VC_block ?_
              | with_reducible refine VC_scope ?_
              | with_reducible refine VC_if ?_
              | with_reducible refine VC_skip ?_
              | with_reducible refine VC_exit ?_
              | with_reducible refine VC_ret ?_
              | (with_reducible refine G_not (fun h => ?_) (fun h => ?_) <;> (try simp only [h]))
              | (with_reducible refine G_cases (fun h => ?_) (fun h => ?_) <;> (try simp only [h]))
              | refine C_pure ka rfl rfl (fun _ => rfl) ?_
              | refine C_pure kp rfl rfl (fun _ => rfl) ?_
              | refine C_pure kaC rfl rfl (fun _ => rfl) ?_
              | refine C_pure ks rfl rfl (fun _ => rfl) ?_
              | refine C_pure krV rfl rfl (fun _ => rfl) ?_
              | refine C_pure krC rfl rfl (fun _ => rfl) ?_
              | refine C_pure kk rfl rfl (fun _ => rfl) ?_
              | (with_reducible refine hK _ ?_; clear hK K)
              | (clear hK K; with_reducible refine hK _ ?_; clear hK K)
              | (clear hK K; clear hK K; with_reducible refine hK _ ?_; clear hK K)
              | (clear hK K; clear hK K; clear hK K; with_reducible refine hK _ ?_; clear hK K)
              | (with_reducible refine todo ?_; simp +decide only [go_sem, hd2, ht, hle]))
            exact Ret_d rfl rfl
          · have ht : (t < h) = False := eq_false (by omega)
            rw [va hth] at kaV
            repeat' (first
              | with_reducible refine VC_seq fun K hK => ?_
              | with_reducible refine W_region ?_
              | with_reducible refine VC_block ?_
              | with_reducible refine VC_scope ?_
              | with_reducible refine VC_if ?_
              | with_reducible refine VC_skip ?_
              | with_reducible refine VC_exit ?_
              | with_reducible refine VC_ret ?_
              | (with_reducible refine G_not (fun h => ?_) (fun h => ?_) <;> (try simp only [h]))
              | (with_reducible refine G_cases (fun h => ?_) (fun h => ?_) <;> (try simp only [h]))
              | refine C_pure ka rfl rfl (fun _ => rfl) ?_
              | refine C_pure kp rfl rfl (fun _ => rfl) ?_
              | refine C_pure kaV rfl rfl (fun _ => rfl) ?_
              | refine C_pure kaC rfl rfl (fun _ => rfl) ?_
              | refine C_pure ks rfl rfl (fun _ => rfl) ?_
              | refine C_pure krV rfl rfl (fun _ => rfl) ?_
              | refine C_pure krC rfl rfl (fun _ => rfl) ?_
              | refine C_pure kk rfl rfl (fun _ => rfl) ?_
              | (with_reducible refine hK _ ?_; clear hK K)
              | (clear hK K; with_reducible refine hK _ ?_; clear hK K)
              | (clear hK K; clear hK K; with_reducible refine hK _ ?_; clear hK K)
              | (clear hK K; clear hK K; clear hK K; with_reducible refine hK _ ?_; clear hK K)
              | (with_reducible refine todo ?_; simp +decide only [go_sem, hd2, ht, hle]))
            exact Ret_d rfl rfl
end Go.Proofs

/-
  What calls and versions (memoirlaw14) read as.
-/


namespace Go.Proofs
open Go.PW
def OpT.ok (o : OpT) : Prop := (Lit.int .u8 o.lt).wf = true ∧ Sp.ok o.s ∧ Row.ok' o.row
def Ver.ok (v : Ver) : Prop := Sp.ok (v.sl, v.sh) ∧ Piece.ok v.p
theorem OpT.ok_byte {o : OpT} (h : OpT.ok o) : o.byte := by
  have := h.1
  simp [Lit.wf] at this
  have h1 : IntKind.u8.min = 0 := by decide
  have h2 : IntKind.u8.max = 255 := by decide
  rw [h1, h2] at this
  exact ⟨this.1, by omega⟩
theorem Try.rOpT (w : World) : Reads Try.prog w 74 OpT.ok OpT.enc :=
  reads_map (reads_struct Try.underlying74 rfl (by kernel_rfl) (readsF_cons rfl Try.cl5 (reads_int Try.underlying5) (readsF_cons rfl Try.cl4 (reads_bool Try.underlying4) (readsF_cons rfl Try.cl43 (Try.rSp w) (readsF_cons rfl Try.cl44 (Try.rRow w) readsF_nil))))) (fun x => (⟨x.1, x.2.1, x.2.2.1, x.2.2.2.1⟩ : OpT)) (fun _ h => ⟨⟨h.1, h.2.2.1, h.2.2.2.1⟩, rfl⟩)
theorem Try.rOpsT (w : World) : Reads Try.prog w 60 (fun l : List OpT => ∀ o ∈ l, OpT.ok o) (fun l => [encOpsT l]) :=
  reads_slice Try.underlying60 Try.cl74 (by decide) (fun _ => rfl) (Try.rOpT w)
theorem Try.rVer (w : World) : Reads Try.prog w 68 Ver.ok Ver.enc :=
  reads_map (reads_struct Try.underlying68 rfl (by kernel_rfl) (readsF_cons rfl Try.cl43 (Try.rSp w) (readsF_cons rfl Try.cl46 (Try.rPiece w) readsF_nil))) (fun x => (⟨x.1.1, x.1.2, x.2.1⟩ : Ver)) (fun _ h => ⟨⟨h.1, h.2.1⟩, rfl⟩)
theorem Try.rVers (w : World) : Reads Try.prog w 22 (fun l : List Ver => ∀ v ∈ l, Ver.ok v) (fun l => [encVers l]) :=
  reads_slice Try.underlying22 Try.cl68 (by decide) (fun _ => rfl) (Try.rVer w)
theorem ops_byte {s : List OpT} (h : ∀ o ∈ s, OpT.ok o) : ∀ o ∈ s, o.byte := fun o ho => OpT.ok_byte (h o ho)
end Go.Proofs
