import Derived.Test.YtcdiifnnnnnceaaQ30

/-
  What must come of fixed calls.
-/

namespace Go.Proofs
open Go.PW

section long
variable {E : Env} {fb : Option (List Nat)} {ops : Array Oper} {o : Oper} {r r' : List Oper} {S : St} {K : St → Prop}
@[go_sem] theorem RunV_app : RunV E fb ops (List.append (o :: r) r') S K = RunV E fb ops (o :: List.append r r') S K := rfl
@[go_sem] theorem RunV_app0 : RunV E fb ops (List.append [] r') S K = RunV E fb ops r' S K := rfl
end long
attribute [go_sem] List.append_eq

def vA : Val := ⟨2, 1, 0, ⟨#[]⟩⟩
def vB : Val := ⟨2, 2, 0, ⟨#[]⟩⟩
def pA' : Piece := ⟨1, 9, [vA]⟩
def pB' : Piece := ⟨1, 9, [vB]⟩
def kL : List Ver := [⟨5, 1099511627776, pA'⟩]
def kM : List Ver := [⟨5, 9, pA'⟩, ⟨9, 1099511627776, pB'⟩]
def kN : List Ver := [⟨5, 9, pA'⟩, ⟨9, 1099511627776, pA'⟩]
def kC : List Ver := [⟨5, 1099511627776, pA'⟩]
def kV : List Ver := [⟨9, 1099511627776, pB'⟩]
def kZ : List Ver := [⟨0, 0, ⟨0, 0, []⟩⟩]
def kS : List TSt := [⟨5, 9, [pA']⟩, ⟨9, 20, [pB']⟩]
theorem o1 : vSetOK [] 5 [pA'] = true := by kernel_rfl
theorem o2 : vSetOK kL 9 [pB'] = true := by kernel_rfl
theorem o3 : vSetOK kM 8 [pA'] = false := by kernel_rfl
theorem o4 : vSetOK kM 9 [pA'] = true := by kernel_rfl
theorem e1 : vSetOf [] 5 [pA'] = kL := by kernel_rfl
theorem e2 : vSetOf kL 9 [pB'] = kM := by kernel_rfl
theorem e4 : vSetOf kM 9 [pA'] = kN := by kernel_rfl
theorem e6 : vRight kM = true := by kernel_rfl
theorem e5 : vBetween kM 0 20 = kS := by
  rw [vBetween, if_pos e6, if_pos (by decide)]
  have n1 : vNext kM 0 20 = 5 := by kernel_rfl
  have n2 : vNext kM 5 20 = 9 := by kernel_rfl
  have n3 : vNext kM 9 20 = 20 := by kernel_rfl
  have s1 : betwStep kM 0 5 [] = [] := by kernel_rfl
  have s2 : betwStep kM 5 9 [] = [⟨5, 9, [pA']⟩] := by kernel_rfl
  have s3 : betwStep kM 9 20 [⟨5, 9, [pA']⟩] = kS := by kernel_rfl
  rw [betw_go (by decide), n1, s1, betw_go (by decide), n2, s2, betw_go (by decide), n3, s3, betw_end (by decide)]
theorem e7 : vacuum kM 9 = kV := by kernel_rfl
theorem e8 : vCoalesce kN = kC := by kernel_rfl
theorem e9 : vAt kM 8 = [pA'] := by kernel_rfl
theorem e10 : vAt kM 9 = [pB'] := by kernel_rfl
theorem e11 : vAt kM 4 = [] := by kernel_rfl
theorem e12 : vLast kM = 9 := by kernel_rfl
theorem e13 : vRight kZ = false := by kernel_rfl
theorem e14 : sameVers kM kM = true := by kernel_rfl
theorem e15 : sameVers kM kL = false := by kernel_rfl
theorem e16 : samePieces [pA'] [pA'] = true := samePieces_iff.2 rfl
theorem e17 : samePieces [pB'] [pB'] = true := samePieces_iff.2 rfl

set_option maxRecDepth 8000 in
set_option maxHeartbeats 16000000 in
theorem Try.kKnown : PureOK Try.prog 10 [] (.one (dB true)) := by
  have k1 := Try.kSet [] 5 [pA'] (by decide) (by decide) (by decide) (by decide)
  have k2 := Try.kSet kL 9 [pB'] (by decide) (by decide) (by decide) (by decide)
  have k3 := Try.kSet kM 8 [pA'] (by decide) (by decide) (by decide) (by decide)
  have k4 := Try.kSet kM 9 [pA'] (by decide) (by decide) (by decide) (by decide)
  have k5 := Try.kBetween kM 0 20 (by decide) (by decide)
  have k6 := Try.kRightV kM (by decide) (by decide)
  have k7 := Try.kVacuum kM 9 (by decide) (by decide)
  have k8 := Try.kCoalesceV kN (by decide) (by decide)
  have k9 := Try.kAtV kM 8 (by decide) (by decide)
  have k10 := Try.kAtV kM 9 (by decide) (by decide)
  have k11 := Try.kAtV kM 4 (by decide) (by decide)
  have k12 := Try.kLast kM (by decide) (by decide)
  have k13 := Try.kRightV kZ (by decide) (by decide)
  have k14 := Try.kSameV kM kM (by decide) (by decide)
  have k15 := Try.kSameV kM kL (by decide) (by decide)
  have k16 := Try.rSame [pA'] [pA'] (by decide) (by decide)
  have k17 := Try.rSame [pB'] [pB'] (by decide) (by decide)
  have k18 := Try.kPieces [pA'] (by decide)
  have k19 := Try.kPieces [pB'] (by decide)
  rw [if_pos o1, vSet, if_pos o1, e1] at k1
  rw [if_pos o2, vSet, if_pos o2, e2] at k2
  rw [if_neg (by rw [o3]; decide), vSet, if_neg (by rw [o3]; decide)] at k3
  rw [if_pos o4, vSet, if_pos o4, e4] at k4
  rw [e5] at k5
  rw [e6] at k6
  rw [e7] at k7
  rw [e8] at k8
  rw [e9] at k9
  rw [e10] at k10
  rw [e11] at k11
  rw [e12] at k12
  rw [e13] at k13
  rw [e14] at k14
  rw [e15] at k15
  rw [e16] at k16
  rw [e17] at k17
  have m1 : (((1 : Nat) : Int) == 1) = true := by decide
  have m2 : (((1 + 1 : Nat) : Int) == 2) = true := by decide
  have t0 : Int.toNat 0 = 0 := rfl
  have t1 : Int.toNat 1 = 1 := rfl
  refine Try.pure (md := []) Try.func10 rfl Try.call10 (by kernel_rfl) (by rfl) (by exact Nat.le_of_ble_eq_true rfl) ?_
  repeat' (first
    | with_reducible refine VC_seq fun K hK => ?_
    | with_reducible refine W_region ?_
    | with_reducible refine VC_block ?_
    | with_reducible refine VC_scope ?_
    | with_reducible refine VC_if ?_
    | with_reducible refine VC_skip ?_
    | with_reducible refine VC_exit ?_
    | with_reducible refine VC_ret ?_
    | (with_reducible refine G_not (fun h => ?_) (fun h => ?_) <;> (try simp only [h]))
    | (with_reducible refine G_cases (fun h => ?_) (fun h => ?_) <;> (try simp only [h]))
    | refine C_pure k1 rfl rfl (fun _ => rfl) ?_
    | refine C_pure k2 rfl rfl (fun _ => rfl) ?_
    | refine C_pure k3 rfl rfl (fun _ => rfl) ?_
    | refine C_pure k4 rfl rfl (fun _ => rfl) ?_
    | refine C_pure k5 rfl rfl (fun _ => rfl) ?_
    | refine C_pure k6 rfl rfl (fun _ => rfl) ?_
    | refine C_pure k7 rfl rfl (fun _ => rfl) ?_
    | refine C_pure k8 rfl rfl (fun _ => rfl) ?_
    | refine C_pure k9 rfl rfl (fun _ => rfl) ?_
    | refine C_pure k10 rfl rfl (fun _ => rfl) ?_
    | refine C_pure k11 rfl rfl (fun _ => rfl) ?_
    | refine C_pure k12 rfl rfl (fun _ => rfl) ?_
    | refine C_pure k13 rfl rfl (fun _ => rfl) ?_
    | refine C_pure k14 rfl rfl (fun _ => rfl) ?_
    | refine C_pure k15 rfl rfl (fun _ => rfl) ?_
    | refine C_pure k16 rfl rfl (fun _ => rfl) ?_
    | refine C_pure k17 rfl rfl (fun _ => rfl) ?_
    | refine C_pure k18 rfl rfl (fun _ => rfl) ?_
    | refine C_pure k19 rfl rfl (fun _ => rfl) ?_
    | (with_reducible refine hK _ ?_; clear hK K)
    | (clear hK K; with_reducible refine hK _ ?_; clear hK K)
    | (clear hK K; clear hK K; with_reducible refine hK _ ?_; clear hK K)
    | (clear hK K; clear hK K; clear hK K; with_reducible refine hK _ ?_; clear hK K)
    | (with_reducible refine todo ?_; simp +decide only [go_sem, m1, m2, t0, t1, kL, kM, kN, kC, kV, kS, pA', pB', vA, vB]))
  exact Ret_d rfl rfl
end Go.Proofs

/-
  TrackHas.
-/

namespace Go.Proofs
open Go.PW

theorem wantT_next {out : List TSt} {i : Nat} {w : TSt} {u : Int} (h : out[i]? = some w) : wantT (out.take (i + 1)) u = if Span.has w.sl w.sh u = true then w.ps else wantT (out.take i) u := foldl_next h

set_option maxRecDepth 8000 in
set_option maxHeartbeats 8000000 in
theorem Try.kHas (s : List OpT) (u : Int) (hb : ∀ o ∈ s, o.byte) : PureOK Try.prog 5 [pD (encOpsT s), pD (.lit (.int .i64 u))] (.one (dB true)) := by
  have kb := Try.kBuildT s hb
  have hT := buildT_ok hb
  generalize buildT s = σ at *
  have kr := Try.kRightV σ.l (by have := hT.vl; omega) (fun v hv => Nat.le_trans (hT.vr v hv) (by decide))
  have hsem := hT.sem u
  have ka := Try.kAtV σ.l u (by have := hT.vl; omega) (fun v hv => Nat.le_trans (hT.vr v hv) (by decide))
  have hal := vAt_length σ.l u
  have har : ∀ x ∈ vAt σ.l u, x.row.length ≤ 1048576 := fun x hx => by obtain ⟨v, hv, e⟩ := vAt_mem hx; rw [e]; exact Nat.le_trans (hT.vr v hv) (by decide)
  have kp := Try.kPieces (vAt σ.l u) (by have := hT.vl; omega)
  have ks := Try.rSame (vAt σ.l u) (wantT σ.out u) (by have := hT.vl; omega) har
  rw [hT.v] at kr
  rw [samePieces_iff.2 hsem] at ks
  have kk := Try.kKnown
  have hol := hT.ol
  have hos := hT.os
  refine Try.pure (md := []) Try.func5 rfl Try.call5 (by kernel_rfl) (by rfl) (by exact Nat.le_of_ble_eq_true rfl) ?_
  repeat' (first
    | with_reducible refine VC_seq fun K hK => ?_
    | with_reducible refine W_region ?_
    | with_reducible refine VC_block ?_
    | with_reducible refine VC_scope ?_
    | with_reducible refine VC_if ?_
    | with_reducible refine VC_skip ?_
    | with_reducible refine VC_exit ?_
    | with_reducible refine VC_ret ?_
    | (with_reducible refine G_not (fun h => ?_) (fun h => ?_) <;> (try simp only [h]))
    | (with_reducible refine G_cases (fun h => ?_) (fun h => ?_) <;> (try simp only [h]))
    | refine C_pure kb rfl rfl (fun _ => rfl) ?_
    | refine C_pure kr rfl rfl (fun _ => rfl) ?_
    | (with_reducible refine hK _ ?_; clear hK K)
    | (clear hK K; with_reducible refine hK _ ?_; clear hK K)
    | (clear hK K; clear hK K; with_reducible refine hK _ ?_; clear hK K)
    | (clear hK K; clear hK K; clear hK K; with_reducible refine hK _ ?_; clear hK K)
    | (with_reducible refine todo ?_; simp +decide only [go_sem]))
  refine VC_range σ.out.length (fun _ => True) (fun i => frame [(1, pD (.lit (.int .i64 u))), (5, pD (encVers σ.l)), (6, pD (encSts σ.out)), (7, pD (encPieces (wantT (σ.out.take i) u))), (8, pD (.lit (.int .i64 i)))] [] []) True.intro ?_ ?_
  · refine Weak_frame ?_ ?_ ?_ <;> simp +decide only [go_sem, wantT, List.foldl_nil]
  · intro i hi hI
    rcases Nat.lt_or_ge i σ.out.length with hlt | hge
    · have hg := List.getElem?_eq_getElem hlt
      have hd := int_lt_true hlt
      have hwi := int_next hlt (show σ.out.length ≤ 4294967296 by omega)
      generalize σ.out[i] = w at hg
      have hnx := wantT_next (u := u) hg
      have kh := Try.rSpanHas w.sl w.sh u
      have kw := Try.kPieces w.ps (by have := (hos w (List.mem_of_getElem? hg)).1; omega)
      cases hh : Span.has w.sl w.sh u with
      | true =>
        rw [hh] at kh hnx
        rw [if_pos rfl] at hnx
        repeat' (first
          | with_reducible refine VC_seq fun K hK => ?_
          | with_reducible refine W_region ?_
          | with_reducible refine VC_block ?_
          | with_reducible refine VC_scope ?_
          | with_reducible refine VC_if ?_
          | with_reducible refine VC_skip ?_
          | with_reducible refine VC_exit ?_
          | with_reducible refine VC_ret ?_
          | (with_reducible refine G_not (fun h => ?_) (fun h => ?_) <;> (try simp only [h]))
          | (with_reducible refine G_cases (fun h => ?_) (fun h => ?_) <;> (try simp only [h]))
          | refine C_pure kh rfl rfl (fun _ => rfl) ?_
          | refine C_pure kw rfl rfl (fun _ => rfl) ?_
          | (with_reducible refine hK _ ?_; clear hK K)
          | (clear hK K; with_reducible refine hK _ ?_; clear hK K)
          | (clear hK K; clear hK K; with_reducible refine hK _ ?_; clear hK K)
          | (clear hK K; clear hK K; clear hK K; with_reducible refine hK _ ?_; clear hK K)
          | (with_reducible refine todo ?_; simp +decide only [go_sem, hg, hd, hwi]))
        refine Next_of hlt True.intro (Weak_frame ?_ ?_ ?_) <;> simp +decide only [go_sem, hnx]
      | false =>
        rw [hh] at kh hnx
        rw [if_neg (by decide)] at hnx
        repeat' (first
          | with_reducible refine VC_seq fun K hK => ?_
          | with_reducible refine W_region ?_
          | with_reducible refine VC_block ?_
          | with_reducible refine VC_scope ?_
          | with_reducible refine VC_if ?_
          | with_reducible refine VC_skip ?_
          | with_reducible refine VC_exit ?_
          | with_reducible refine VC_ret ?_
          | (with_reducible refine G_not (fun h => ?_) (fun h => ?_) <;> (try simp only [h]))
          | (with_reducible refine G_cases (fun h => ?_) (fun h => ?_) <;> (try simp only [h]))
          | refine C_pure kh rfl rfl (fun _ => rfl) ?_
          | (with_reducible refine hK _ ?_; clear hK K)
          | (clear hK K; with_reducible refine hK _ ?_; clear hK K)
          | (clear hK K; clear hK K; with_reducible refine hK _ ?_; clear hK K)
          | (clear hK K; clear hK K; clear hK K; with_reducible refine hK _ ?_; clear hK K)
          | (with_reducible refine todo ?_; simp +decide only [go_sem, hg, hd, hwi]))
        refine Next_of hlt True.intro (Weak_frame ?_ ?_ ?_) <;> simp +decide only [go_sem, hnx]
    · have hd := int_lt_false hge
      rw [List.take_of_length_le hge]
      repeat' (first
        | with_reducible refine VC_seq fun K hK => ?_
        | with_reducible refine W_region ?_
        | with_reducible refine VC_block ?_
        | with_reducible refine VC_scope ?_
        | with_reducible refine VC_if ?_
        | with_reducible refine VC_skip ?_
        | with_reducible refine VC_exit ?_
        | with_reducible refine VC_ret ?_
        | (with_reducible refine G_not (fun h => ?_) (fun h => ?_) <;> (try simp only [h]))
        | (with_reducible refine G_cases (fun h => ?_) (fun h => ?_) <;> (try simp only [h]))
        | refine C_pure ka rfl rfl (fun _ => rfl) ?_
        | refine C_pure kp rfl rfl (fun _ => rfl) ?_
        | refine C_pure ks rfl rfl (fun _ => rfl) ?_
        | refine C_pure kk rfl rfl (fun _ => rfl) ?_
        | (with_reducible refine hK _ ?_; clear hK K)
        | (clear hK K; with_reducible refine hK _ ?_; clear hK K)
        | (clear hK K; clear hK K; with_reducible refine hK _ ?_; clear hK K)
        | (clear hK K; clear hK K; clear hK K; with_reducible refine hK _ ?_; clear hK K)
        | (with_reducible refine todo ?_; simp +decide only [go_sem, hd]))
      exact Ret_d rfl rfl
end Go.Proofs
