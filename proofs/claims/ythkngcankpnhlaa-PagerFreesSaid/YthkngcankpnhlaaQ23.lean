import Derived.Test.YthkngcankpnhlaaQ22

/-
  The log: notes, records, the next turn.
-/

namespace Go.PW
/-- The end of what has changed variables and arrays: all is as it stands. -/
theorem RetR_eq {P : Program} {fn : Func} {H : HMap} {A : AMap} {v p : PV} {H' : HMap} {A' : AMap} {S : St} (hp : resPVs P S fn.results.toList = some p) (hv : PV.wk H' A' A' v p) (hok : v.oks (fun i => H' i ≠ none) (fun κ => A' κ ≠ none)) (hw : Wf H' A')
    (h1 : ∀ i, H' i ≠ none → S.H i = H' i) (h2 : S.A = A') (kH : ∀ id, H id ≠ none → H' id ≠ none) (kA : ∀ κ, A κ ≠ none → A' κ ≠ none) : RetR P fn H A v H' A' S := by
  subst h2
  exact RetR_of hp hv hok hw (fun i cs hi => ⟨cs, by rw [h1 i (by rw [hi]; simp), hi], wkC_same fun c hc => ok_mono (fun _ h => h) (fun κ h => ⟨h, rfl⟩) (hw i cs c hi hc)⟩) (fun κ => .inr (.inl rfl)) kH kA
theorem upd_keepH {H : HMap} {u : Nat} {cs : List CV} : ∀ i, H i ≠ none → upd H u (some cs) i ≠ none := fun i hi => by
  rw [upd_apply']; split
  · simp
  · exact hi
end Go.PW
namespace Go.Proofs
open Go.PW
theorem Try.appT : AppT Try.prog 55 9 1 16 := ⟨Try.underlying55, Try.cl9, Try.by9, Try.zo9, by decide, by decide⟩
theorem szd_texts (l : List (List UInt8)) : Szd 1 (textsD l) := fun e he => by
  obtain ⟨w, _, rfl⟩ := List.mem_map.1 he
  rfl
section wal
variable {H : HMap} {A : AMap} {lid did : Nat} {κm κc κr κ' : Tok} {d : Dk} {l : Lg}
theorem LgAt.ne (hl : LgAt H A lid did κr l) (hd : DkAt H A did κm κc d) : lid ≠ did := fun e => by
  have h1 := hl.h
  rw [e, hd.h] at h1
  have := congrArg List.length (Option.some.inj h1)
  cases this
theorem LgAt.nc (hl : LgAt H A lid did κr l) (hd : DkAt H A did κm κc d) : κr ≠ κc := fun e => by
  have h1 := hl.r
  rw [e, hd.c] at h1
  cases h1
theorem LgAt.nm (hl : LgAt H A lid did κr l) (hd : DkAt H A did κm κc d) : κr ≠ κm := fun e => by
  have h1 := hl.r
  rw [e, hd.m] at h1
  cases h1
theorem LgAt.lt (hl : LgAt H A lid did κr l) {off : Nat} (hab : Above off H A) : lid < off ∧ κr.1 < off := by
  refine ⟨?_, ?_⟩
  · refine Nat.lt_of_not_le fun h => ?_
    have := hl.h; rw [(hab lid h).1] at this; cases this
  · refine Nat.lt_of_not_le fun h => ?_
    have := hl.r; rw [(hab κr.1 h).2 κr.2] at this; cases this
theorem LgAt.ok (hdid : H did ≠ none) (hr : A κr ≠ none) : ∀ c ∈ encLg did κr l, c.ok (fun i => H i ≠ none) (fun κ => A κ ≠ none) := fun c h => by
  simp only [encLg, List.mem_cons, List.not_mem_nil, or_false] at h
  rcases h with rfl | rfl | rfl | rfl | rfl | rfl | rfl | rfl <;> first | exact True.intro | exact hdid | exact hr
set_option maxRecDepth 8000 in
set_option maxHeartbeats 8000000 in
theorem Try.kTook (off : Nat) (hw : Wf H A) (hl : LgAt H A lid did κr l) (hdid : H did ≠ none) (e : Int) : EffOK Try.prog 62 off H A [.c (.ptr lid 0), pD (.lit (.int .i64 e))] (pD (.lit (.int .i64 e))) (upd H lid (some (encLg did κr { l with halted := l.halted || e != 0 }))) A := by
  refine effr_ok (E := envOf Try.prog [] off [] []) (envOf_ok Try.mixed) Try.func62 rfl Try.call62 (by kernel_rfl) (by exact Nat.le_of_ble_eq_true rfl) (fun hab => ?_)
  have hlh := hl.h
  unfold encLg at hlh
  have hend : Wf (upd H lid (some (encLg did κr { l with halted := l.halted || e != 0 }))) A := Wf_set hw (LgAt.ok (upd_keepH _ hdid) (by rw [hl.r]; simp)) (fun _ h => h)
  cases hh : l.halted with
  | true =>
    rw [hh] at hlh hend
    repeat' (first
     | with_reducible first | refine VC_seq fun K hK => ?_ | refine W_region ?_ | refine VC_block ?_ | refine VC_scope ?_ | refine VC_if ?_ | refine VC_skip ?_ | refine VC_exit ?_ | refine VC_ret ?_
     | (with_reducible first | refine G_not (fun h => ?_) (fun h => ?_) | refine G_cases (fun h => ?_) (fun h => ?_)) <;> (try simp only [h])
     | with_reducible first | (refine hK _ ?_; clear hK K) | (clear hK K; refine hK _ ?_; clear hK K) | (clear hK K; clear hK K; refine hK _ ?_; clear hK K) | (clear hK K; clear hK K; clear hK K; refine hK _ ?_; clear hK K)
     | (with_reducible refine todo ?_; simp +decide only [go_sem, hlh]))
    refine RetR_eq rfl (wk_c (.inr (.inl ⟨rfl, True.intro⟩))) True.intro hend ?_ rfl upd_keepH (fun _ h => h)
    intro i _
    simp +decide only [go_sem, encLg]
  | false =>
    rw [hh] at hlh hend
    repeat' (first
     | with_reducible first | refine VC_seq fun K hK => ?_ | refine W_region ?_ | refine VC_block ?_ | refine VC_scope ?_ | refine VC_if ?_ | refine VC_skip ?_ | refine VC_exit ?_ | refine VC_ret ?_
     | (with_reducible first | refine G_not (fun h => ?_) (fun h => ?_) | refine G_cases (fun h => ?_) (fun h => ?_)) <;> (try simp only [h])
     | with_reducible first | (refine hK _ ?_; clear hK K) | (clear hK K; refine hK _ ?_; clear hK K) | (clear hK K; clear hK K; refine hK _ ?_; clear hK K) | (clear hK K; clear hK K; clear hK K; refine hK _ ?_; clear hK K)
     | (with_reducible refine todo ?_; simp +decide only [go_sem, hlh]))
    refine RetR_eq rfl (wk_c (.inr (.inl ⟨rfl, True.intro⟩))) True.intro hend ?_ rfl upd_keepH (fun _ h => h)
    intro i _
    simp +decide only [go_sem, encLg]
set_option maxRecDepth 8000 in
set_option maxHeartbeats 8000000 in
theorem Try.kRecords (off : Nat) (hw : Wf H A) (hl : LgAt H A lid did κr l) (hb : l.recs.length ≤ 1000000) : EffOK Try.prog 53 off H A [.c (.ptr lid 0)] (.c (.d (.sl (textsD l.recs)))) H A := by
  refine effr_ok (E := envOf Try.prog [] off [] []) (envOf_ok Try.mixed) Try.func53 rfl Try.call53 (by kernel_rfl) (by exact Nat.le_of_ble_eq_true rfl) (fun hab => ?_)
  have hlh := hl.h
  unfold encLg at hlh
  have hll : (textsD l.recs).length = l.recs.length := by simp [textsD]
  have hap : [] ++ textsD l.recs = textsD l.recs := rfl
  repeat' (first
   | with_reducible first | refine VC_seq fun K hK => ?_ | refine W_region ?_ | refine VC_block ?_ | refine VC_scope ?_ | refine VC_if ?_ | refine VC_skip ?_ | refine VC_exit ?_ | refine VC_ret ?_
   | (with_reducible first | refine G_not (fun h => ?_) (fun h => ?_) | refine G_cases (fun h => ?_) (fun h => ?_)) <;> (try simp only [h])
   | (refine W_full Try.appT rfl rfl szNil (szd_texts _) (by rw [hll]; simp only [List.length_nil]; omega) ((hab _ (Nat.le_add_right _ _)).2 _) ?_)
   | with_reducible first | (refine hK _ ?_; clear hK K) | (clear hK K; refine hK _ ?_; clear hK K) | (clear hK K; clear hK K; refine hK _ ?_; clear hK K) | (clear hK K; clear hK K; clear hK K; refine hK _ ?_; clear hK K)
   | (with_reducible refine todo ?_; simp +decide only [go_sem, hlh, hap]))
  refine RetR_same rfl (by simp +decide only [go_sem]) True.intro hw kp_refl (fun κ hκ => ?_)
  show upd _ _ _ κ = _
  rw [upd_other _ _ (fun e => hκ (by rw [e]; exact (hab _ (Nat.le_add_right _ _)).2 _))]
end wal
end Go.Proofs

/-
  The log: the next turn.
-/

namespace Go.Proofs
open Go.PW
def turnB (t b : Nat) : List UInt8 := sealB ([83] ++ uintB t ++ uintB b)
/-- The disk behind a turn that was begun. -/
def nextD (d : Dk) (from_ t b : Nat) : Dk := flD (wrD d ((from_ + t % 2 : Nat) : Int) (turnB t b))
section wal
variable {H : HMap} {A : AMap} {lid did : Nat} {κm κc κr κ' : Tok} {d : Dk} {l : Lg}
set_option maxRecDepth 8000 in
set_option maxHeartbeats 16000000 in
theorem Try.kNext (off : Nat) (hw : Wf H A) (hl : LgAt H A lid did κr l) (hd : DkAt H A did κm κc d) (b : Nat) (hb : b < 9223372036854775808) (ht : l.turn + 1 < 9223372036854775808) (hin : l.from_ + 1 < d.n) (hdn : d.n ≤ 4096) (hcl : d.cache.length + 1 ≤ 1000000)
    (hb1 : burnt d = false) (hb2 : burnt (wrD d ((l.from_ + (l.turn + 1) % 2 : Nat) : Int) (turnB (l.turn + 1) b)) = false) (hκ : A κ' = none) :
    EffOK Try.prog 52 off H A [.c (.ptr lid 0), pD (.lit (.int .i64 b))] (pD (.lit (.int .i64 0)))
      (upd (upd H did (some (encDk κm κ' (nextD d l.from_ (l.turn + 1) b)))) lid (some (encLg did κr { l with turn := l.turn + 1, base := b })))
      (upd (upd (upd A κc (some (.co 2 (d.cache.length + 1)))) κm (some (.mp (encNS (nextD d l.from_ (l.turn + 1) b).stays)))) κ' (some (.co 2 0))) := by
  refine effr_ok (E := envOf Try.prog [63, 67] off [] []) (envOf_ok Try.mixed) Try.func52 rfl Try.call52 (by kernel_rfl) (by exact Nat.le_of_ble_eq_true rfl) (fun hab => ?_)
  have hlh := hl.h
  unfold encLg at hlh
  have hne := hl.ne hd
  have hnc := hl.nc hd
  have hnm := hl.nm hd
  have hlt := hd.lt hab
  have hlt2 := hl.lt hab
  have hid := hd.h
  have c1 : IntKind.i64.wrap ((l.turn : Int) + 1) = ((l.turn + 1 : Nat) : Int) := Go.IntWalk.i64_in _ (by omega)
  have c2 : Int.tmod ((l.turn + 1 : Nat) : Int) 2 = (((l.turn + 1) % 2 : Nat) : Int) := tmod_nat (l.turn + 1) 2
  have c3 : IntKind.i64.wrap ((l.from_ : Int) + (((l.turn + 1) % 2 : Nat) : Int)) = ((l.from_ + (l.turn + 1) % 2 : Nat) : Int) := by rw [Go.IntWalk.i64_in _ (by omega)]; omega
  have kn1 := Try.kNumber (l.turn + 1) ht
  have kn2 := Try.kNumber b hb
  have l1 := uintB_len (l.turn + 1)
  have l2 := uintB_len b
  have ks := Try.kSeal ([83] ++ uintB (l.turn + 1) ++ uintB b) (by simp; omega)
  have hwe : writeE d ((l.from_ + (l.turn + 1) % 2 : Nat) : Int) (turnB (l.turn + 1) b) = 0 := by
    have h1 : dkRight d ((l.from_ + (l.turn + 1) % 2 : Nat) : Int) = 0 := by unfold dkRight; rw [if_neg (by omega), if_neg (by omega)]
    have h2 : (turnB (l.turn + 1) b).length ≤ 128 := sealB_len _
    unfold writeE
    rw [if_neg (by simpa using h1), if_neg (by omega), hb1]
    rfl
  have kw := Try.kWrite (off + 1000) hw hd ((l.from_ + (l.turn + 1) % 2 : Nat) : Int) (turnB (l.turn + 1) b) (by omega) (by omega) hwe
  have hw1 := DkAt.wf (d' := wrD d ((l.from_ + (l.turn + 1) % 2 : Nat) : Int) (turnB (l.turn + 1) b)) hw hd (A' := upd A κc (some (.co 2 (d.cache.length + 1)))) upd_keep
  have hd1 : DkAt (upd H did (some (encDk κm κc (wrD d ((l.from_ + (l.turn + 1) % 2 : Nat) : Int) (turnB (l.turn + 1) b))))) (upd A κc (some (.co 2 (d.cache.length + 1)))) did κm κc (wrD d ((l.from_ + (l.turn + 1) % 2 : Nat) : Int) (turnB (l.turn + 1) b)) :=
    ⟨upd_same _ _ _, by rw [upd_other _ _ hd.ne.symm]; exact hd.m, by rw [upd_same]; simp [wrD]⟩
  have hκ1 : upd A κc (some (.co 2 (d.cache.length + 1))) κ' = none := by rw [upd_other _ _ (fun e => by rw [e, hd.c] at hκ; cases hκ)]; exact hκ
  have kf := Try.kFlush (κ' := κ') (off + 1000) hw1 hd1 (by show 0 < d.n; omega) (by simp [wrD]; omega) hb2 hκ1
  have hnx : flD (wrD d ((l.from_ + (l.turn + 1) % 2 : Nat) : Int) (turnB (l.turn + 1) b)) = nextD d l.from_ (l.turn + 1) b := rfl
  rw [hnx] at kf
  have htb : sealB ([83] ++ uintB (l.turn + 1) ++ uintB b) = turnB (l.turn + 1) b := rfl
  rw [htb] at ks
  have hm : Above (off + 1000) (upd H did (some (encDk κm κc (wrD d ((l.from_ + (l.turn + 1) % 2 : Nat) : Int) (turnB (l.turn + 1) b))))) (upd A κc (some (.co 2 (d.cache.length + 1)))) := Above_updA (Above_updH (Above_mono hab (by omega)) (by omega)) (by omega)
  have kA2 : ∀ κ, A κ ≠ none → upd (upd (upd A κc (some (.co 2 (d.cache.length + 1)))) κm (some (.mp (encNS (nextD d l.from_ (l.turn + 1) b).stays)))) κ' (some (.co 2 0)) κ ≠ none := fun κ h => upd_keep _ (upd_keep _ (upd_keep _ h))
  have hwE : Wf (upd (upd H did (some (encDk κm κ' (nextD d l.from_ (l.turn + 1) b)))) lid (some (encLg did κr { l with turn := l.turn + 1, base := b }))) (upd (upd (upd A κc (some (.co 2 (d.cache.length + 1)))) κm (some (.mp (encNS (nextD d l.from_ (l.turn + 1) b).stays)))) κ' (some (.co 2 0))) := by
    refine Wf_set (A := upd (upd (upd A κc (some (.co 2 (d.cache.length + 1)))) κm (some (.mp (encNS (nextD d l.from_ (l.turn + 1) b).stays)))) κ' (some (.co 2 0))) (Wf_set hw (DkAt.ok (kA2 κm (by rw [hd.m]; simp)) (by rw [upd_same]; simp)) kA2) (LgAt.ok (upd_keepH _ (by rw [upd_same]; simp)) (kA2 κr (by rw [hl.r]; simp))) (fun _ h => h)
  generalize hD : nextD d l.from_ (l.turn + 1) b = dn at *
  generalize hW : wrD d ((l.from_ + (l.turn + 1) % 2 : Nat) : Int) (turnB (l.turn + 1) b) = dw at *
  generalize turnB (l.turn + 1) b = tb at *
  generalize uintB (l.turn + 1) = u1 at *
  generalize uintB b = u2 at *
  have s1 : (1 + u1.length ≤ 9223372036854775807) = True := eq_true (by omega)
  have s2 : (u1.length + 1 + u2.length ≤ 9223372036854775807) = True := eq_true (by omega)
  repeat' (first
   | with_reducible first | refine VC_seq fun K hK => ?_ | refine W_region ?_ | refine VC_block ?_ | refine VC_scope ?_ | refine VC_if ?_ | refine VC_skip ?_ | refine VC_exit ?_ | refine VC_ret ?_
   | (with_reducible first | refine G_not (fun h => ?_) (fun h => ?_) | refine G_cases (fun h => ?_) (fun h => ?_)) <;> (try simp only [h])
   | refine C_pure kn1 rfl rfl (fun k => (hab _ (Nat.le_add_right _ _)).2 k) ?_
   | refine C_pure kn2 rfl rfl (fun k => (hab _ (Nat.le_add_right _ _)).2 k) ?_
   | refine C_pure ks rfl rfl (fun k => (hab _ (Nat.le_add_right _ _)).2 k) ?_
   | refine C_call rfl kw rfl (Above_mono hab (by omega)) ?_
   | refine C_call rfl kf rfl hm ?_
   | with_reducible first | (refine hK _ ?_; clear hK K) | (clear hK K; refine hK _ ?_; clear hK K) | (clear hK K; clear hK K; refine hK _ ?_; clear hK K) | (clear hK K; clear hK K; clear hK K; refine hK _ ?_; clear hK K)
   | (with_reducible refine todo ?_; simp +decide only [go_sem, hlh, c1, c2, c3, zne, s1, s2, hne]))
  refine RetR_eq rfl (wk_c (.inr (.inl ⟨rfl, True.intro⟩))) True.intro hwE ?_ rfl (fun i h => upd_keepH i (upd_keepH i h)) kA2
  intro i _
  show upd (upd (upd (upd H did _) did _) lid _) lid _ i = _
  by_cases e : i = lid
  · subst e
    rw [upd_same, upd_same]
    rfl
  · rw [upd_other _ _ e, upd_other _ _ e, upd_other _ _ e]
    by_cases e2 : i = did
    · subst e2
      rw [upd_same, upd_same]
    · rw [upd_other _ _ e2, upd_other _ _ e2, upd_other _ _ e2]
end wal
end Go.Proofs

/-
  The log: a record's parts.
-/

namespace Go.Proofs
open Go.PW
def partsK : Nat → List UInt8 → List (List UInt8)
  | 0, s => [s]
  | k + 1, s => if 100 < s.length then s.take 100 :: partsK k (s.drop 100) else [s]
def partsL (s : List UInt8) : List (List UInt8) := partsK s.length s
theorem partsK_small {k : Nat} {s : List UInt8} (h : s.length ≤ 100) : partsK k s = [s] := by
  cases k with
  | zero => rfl
  | succ k => unfold partsK; rw [if_neg (by omega)]
theorem textsD_app (a b : List (List UInt8)) : textsD (a ++ b) = textsD a ++ textsD b := List.map_append
theorem textsD_len (a : List (List UInt8)) : (textsD a).length = a.length := by simp [textsD]
set_option maxRecDepth 8000 in
set_option maxHeartbeats 8000000 in
theorem Try.kParts (s : List UInt8) (hs : s.length ≤ 1000000) : PureOK Try.prog 61 [pD (dS s)] (.one (.d (.sl (textsD (partsL s))))) := by
  refine Try.pure (md := []) Try.func61 rfl Try.call61 (by kernel_rfl) (by rfl) (by exact Nat.le_of_ble_eq_true rfl) ?_
  repeat' (first
   | with_reducible first | refine VC_seq fun K hK => ?_ | refine W_region ?_ | refine VC_block ?_ | refine VC_scope ?_ | refine VC_if ?_ | refine VC_skip ?_ | refine VC_exit ?_ | refine VC_ret ?_
   | (with_reducible first | refine G_not (fun h => ?_) (fun h => ?_) | refine G_cases (fun h => ?_) (fun h => ?_)) <;> (try simp only [h])
   | with_reducible first | (refine hK _ ?_; clear hK K) | (clear hK K; refine hK _ ?_; clear hK K) | (clear hK K; clear hK K; refine hK _ ?_; clear hK K) | (clear hK K; clear hK K; clear hK K; refine hK _ ?_; clear hK K)
   | (with_reducible refine todo ?_; simp +decide only [go_sem]))
  refine VC_while (ι := Nat × List (List UInt8) × List UInt8) (fun x => x.2.1 ++ partsK x.1 x.2.2 = partsL s ∧ x.2.2.length ≤ x.1 ∧ x.1 + x.2.1.length ≤ s.length)
    (fun x => frame [(0, pD (dS x.2.2)), (3, .c (.own (11, 0) (textsD x.2.1)))] [] [((11, 0), .co 1 x.2.1.length)]) (fun x => x.1) (s.length, [], s) ⟨rfl, Nat.le_refl _, by simp⟩ ?_ ?_
  · refine Weak_frame ?_ ?_ ?_
    · simp +decide only [go_sem]
      exact wkP_new rfl (sz := 1) (if_pos rfl)
    · simp +decide only [go_sem]
    · simp +decide only [go_sem]
  · rintro ⟨k, l, r⟩ ⟨h1, h2, h3⟩
    simp only at h1 h2 h3
    have hll := textsD_len l
    rcases Nat.lt_or_ge 100 r.length with hr | hr
    · have hd : ((100 : Int) < (r.length : Int)) = True := eq_true (by omega)
      obtain ⟨k, rfl⟩ : ∃ j, k = j + 1 := ⟨k - 1, by omega⟩
      have ht2 : List.take (r.length - 100) (List.drop 100 r) = r.drop 100 := List.take_of_length_le (by rw [List.length_drop]; omega)
      have hp : partsK (k + 1) r = r.take 100 :: partsK k (r.drop 100) := by
        show (if 100 < r.length then _ else _) = _
        rw [if_pos hr]
      repeat' (first
       | with_reducible first | refine VC_seq fun K hK => ?_ | refine W_region ?_ | refine VC_block ?_ | refine VC_scope ?_ | refine VC_if ?_ | refine VC_skip ?_ | refine VC_exit ?_ | refine VC_ret ?_
       | (with_reducible first | refine G_not (fun h => ?_) (fun h => ?_) | refine G_cases (fun h => ?_) (fun h => ?_)) <;> (try simp only [h])
       | refine W_slcS (a := r) (l := 0) (h := 100) Try.underlying9 rfl rfl (by simp [optNat, natOf?, intOf?]) (by omega) (by omega) ?_
       | refine W_slcS (a := r) (l := 100) (h := r.length) Try.underlying9 rfl (by simp [optNat, natOf?, intOf?]) rfl (by omega) (Nat.le_refl _) ?_
       | (refine W_own Try.appT rfl (szd_texts _) (szOne rfl) (by rw [hll]; simp only [List.length_singleton]; omega) (by rw [hll]; exact if_pos rfl) ?_)
       | with_reducible first | (refine hK _ ?_; clear hK K) | (clear hK K; refine hK _ ?_; clear hK K) | (clear hK K; clear hK K; refine hK _ ?_; clear hK K) | (clear hK K; clear hK K; clear hK K; refine hK _ ?_; clear hK K)
       | (with_reducible refine todo ?_; simp +decide only [go_sem, hd, ht2]))
      have he : textsD l ++ [[dS (r.take 100)]] = textsD (l ++ [r.take 100]) := (textsD_app l [r.take 100]).symm
      refine ⟨⟨(k, l ++ [r.take 100], r.drop 100), ⟨?_, ?_, ?_⟩⟩, Weak_frame ?_ ?_ ?_, by show k < k + 1; omega⟩
      · rw [← h1, hp]; simp
      · simp only [List.length_drop]; omega
      · simp only [List.length_append, List.length_singleton]; omega
      · simp +decide only [go_sem]
        change PV.wk _ _ _ _ (.c (.own (11, 0) (textsD l ++ [[dS (r.take 100)]])))
        rw [he]
        have hx : aOf [((11, 0), Arr.co 1 (l.length + 1))] (11, 0) = some (.co 1 (l.length + 1)) := if_pos rfl
        exact wkP_own (by rw [hx]; simp) (by rw [upd_same, hll]; exact hx)
      · simp +decide only [go_sem]
      · simp +decide only [go_sem, hll]
    · have hd : ((100 : Int) < (r.length : Int)) = False := eq_false (by omega)
      rw [partsK_small hr] at h1
      repeat' (first
       | with_reducible first | refine VC_seq fun K hK => ?_ | refine W_region ?_ | refine VC_block ?_ | refine VC_scope ?_ | refine VC_if ?_ | refine VC_skip ?_ | refine VC_exit ?_ | refine VC_ret ?_
       | (with_reducible first | refine G_not (fun h => ?_) (fun h => ?_) | refine G_cases (fun h => ?_) (fun h => ?_)) <;> (try simp only [h])
       | (refine W_own Try.appT rfl (szd_texts _) (szOne rfl) (by rw [hll]; simp only [List.length_singleton]; omega) (by rw [hll]; exact if_pos rfl) ?_)
       | with_reducible first | (refine hK _ ?_; clear hK K) | (clear hK K; refine hK _ ?_; clear hK K) | (clear hK K; clear hK K; refine hK _ ?_; clear hK K) | (clear hK K; clear hK K; clear hK K; refine hK _ ?_; clear hK K)
       | (with_reducible refine todo ?_; simp +decide only [go_sem, hd]))
      refine Ret_d rfl ?_
      rw [← h1, textsD_app]
      rfl
end Go.Proofs

/-
  The log: Commit.
-/

namespace Go.Proofs
open Go.PW
section wal
variable {H : HMap} {A : AMap} {lid did : Nat} {κm κc κr κ' : Tok} {d : Dk} {l : Lg}
theorem Lg.unhalted (h : l.halted = false) : { l with halted := l.halted || ((0 : Int) != 0) } = l := by
  cases l
  simp only at h
  subst h
  rfl
set_option maxRecDepth 8000 in
set_option maxHeartbeats 16000000 in
theorem Try.kCommit (off : Nat) (hw : Wf H A) (hl : LgAt H A lid did κr l) (hd : DkAt H A did κm κc d) (hh : l.halted = false) (hn : 0 < d.n) (hcl : d.cache.length ≤ 1000000) (hb : burnt d = false) (hκ : A κ' = none) (hκb : κ'.1 < off + 1000) :
    EffOK Try.prog 45 off H A [.c (.ptr lid 0)] (pD (.lit (.int .i64 0))) (upd H did (some (encDk κm κ' (flD d)))) (upd (upd A κm (some (.mp (encNS (flD d).stays)))) κ' (some (.co 2 0))) := by
  refine effr_ok (E := envOf Try.prog [60, 62, 67] off [] []) (envOf_ok Try.mixed) Try.func45 rfl Try.call45 (by kernel_rfl) (by exact Nat.le_of_ble_eq_true rfl) (fun hab => ?_)
  have hlh := hl.h
  have hne := hl.ne hd
  have hlt := hd.lt hab
  have hlt2 := hl.lt hab
  have ks := Try.kState (off + 1000) hw hl hh
  have kf := Try.kFlush (κ' := κ') (off + 1000) hw hd hn hcl hb hκ
  have kA2 : ∀ κ, A κ ≠ none → upd (upd A κm (some (.mp (encNS (flD d).stays)))) κ' (some (.co 2 0)) κ ≠ none := fun κ h => upd_keep _ (upd_keep _ h)
  have hw2 : Wf (upd H did (some (encDk κm κ' (flD d)))) (upd (upd A κm (some (.mp (encNS (flD d).stays)))) κ' (some (.co 2 0))) := Wf_set hw (DkAt.ok (kA2 κm (by rw [hd.m]; simp)) (by rw [upd_same]; simp)) kA2
  have nκ : κr ≠ κ' := fun e => by have := hl.r; rw [e, hκ] at this; cases this
  have hl2 : LgAt (upd H did (some (encDk κm κ' (flD d)))) (upd (upd A κm (some (.mp (encNS (flD d).stays)))) κ' (some (.co 2 0))) lid did κr l := ⟨by rw [upd_other _ _ hne]; exact hl.h, by rw [upd_other _ _ nκ, upd_other _ _ (hl.nm hd)]; exact hl.r⟩
  have kt := Try.kTook (off + 1000) hw2 hl2 (by rw [upd_same]; simp) 0
  rw [Lg.unhalted hh, upd_self hl2.h] at kt
  have hm : Above (off + 1000) (upd H did (some (encDk κm κ' (flD d)))) (upd (upd A κm (some (.mp (encNS (flD d).stays)))) κ' (some (.co 2 0))) := Above_updA (Above_updA (Above_updH (Above_mono hab (by omega)) (by omega)) (by omega)) hκb
  unfold encLg at hlh
  repeat' (first
   | with_reducible first | refine VC_seq fun K hK => ?_ | refine W_region ?_ | refine VC_block ?_ | refine VC_scope ?_ | refine VC_if ?_ | refine VC_skip ?_ | refine VC_exit ?_ | refine VC_ret ?_
   | (with_reducible first | refine G_not (fun h => ?_) (fun h => ?_) | refine G_cases (fun h => ?_) (fun h => ?_)) <;> (try simp only [h])
   | refine C_call rfl ks rfl (Above_mono hab (by omega)) ?_
   | refine C_call rfl kf rfl (Above_mono hab (by omega)) ?_
   | refine C_call rfl kt rfl hm ?_
   | with_reducible first | (refine hK _ ?_; clear hK K) | (clear hK K; refine hK _ ?_; clear hK K) | (clear hK K; clear hK K; refine hK _ ?_; clear hK K) | (clear hK K; clear hK K; clear hK K; refine hK _ ?_; clear hK K)
   | (with_reducible refine todo ?_; simp +decide only [go_sem, hlh, zne]))
  exact RetR_eq rfl (wk_c (.inr (.inl ⟨rfl, True.intro⟩))) True.intro hw2 (fun _ _ => rfl) rfl upd_keepH kA2
end wal
end Go.Proofs

/-
  The log: Append, where no fuse burns.
-/

namespace Go.Proofs
open Go.PW
theorem partsK_len : ∀ (k : Nat) (s : List UInt8), s.length ≤ k → (partsK k s).length = needN s.length
  | 0, s, h => by
    have : s.length = 0 := by omega
    show 1 = _
    unfold needN
    rw [this]; rfl
  | k + 1, s, h => by
    unfold partsK
    by_cases hs : 100 < s.length
    · rw [if_pos hs, List.length_cons, partsK_len k (s.drop 100) (by rw [List.length_drop]; omega), List.length_drop]
      unfold needN
      omega
    · rw [if_neg hs]
      show 1 = _
      unfold needN
      omega
theorem partsL_len (s : List UInt8) : (partsL s).length = needN s.length := partsK_len _ s (Nat.le_refl _)
theorem partsK_mem : ∀ (k : Nat) (s : List UInt8), s.length ≤ k → ∀ p ∈ partsK k s, p.length ≤ 100
  | 0, s, h, p, hp => by
    have : p = s := by simpa [partsK] using hp
    rw [this]; omega
  | k + 1, s, h, p, hp => by
    unfold partsK at hp
    by_cases hs : 100 < s.length
    · rw [if_pos hs] at hp
      rcases List.mem_cons.1 hp with rfl | hp
      · rw [List.length_take]; omega
      · exact partsK_mem k (s.drop 100) (by rw [List.length_drop]; omega) p hp
    · rw [if_neg hs] at hp
      rw [List.mem_singleton.1 hp]; omega
theorem partsL_mem (s : List UInt8) : ∀ p ∈ partsL s, p.length ≤ 100 := partsK_mem _ s (Nat.le_refl _)
/-- What a place is written with. -/
def placeB (l : Lg) (s : List UInt8) (m k : Nat) (p : List UInt8) : List UInt8 := sealB (headL l.turn (l.used + k) (if k + 1 = m then 0 else 1) ++ sum4 s ++ p)
/-- The disk behind so many places. -/
def apD (l : Lg) (s : List UInt8) (m : Nat) (cut : List (List UInt8)) (d : Dk) : Nat → Dk
  | 0 => d
  | k + 1 => wrD (apD l s m cut d k) ((l.from_ + 2 + (l.used + k) : Nat) : Int) (placeB l s m k (cut.getD k []))
theorem apD_spec (l : Lg) (s : List UInt8) (m : Nat) (cut : List (List UInt8)) (d : Dk) : ∀ k, (apD l s m cut d k).n = d.n ∧ (apD l s m cut d k).cache.length = d.cache.length + k ∧ (apD l s m cut d k).fused = d.fused ∧ (apD l s m cut d k).stays = d.stays
  | 0 => ⟨rfl, rfl, rfl, rfl⟩
  | k + 1 => by
    obtain ⟨h1, h2, h3, h4⟩ := apD_spec l s m cut d k
    exact ⟨h1, by simp [apD, wrD, h2, Nat.add_assoc], h3, h4⟩
section wal
variable {H : HMap} {A : AMap} {lid did : Nat} {κm κc κr κ' : Tok} {d : Dk} {l : Lg}
set_option maxRecDepth 8000 in
set_option maxHeartbeats 32000000 in
theorem Try.kAppend (off : Nat) (hw : Wf H A) (hl : LgAt H A lid did κr l) (hd : DkAt H A did κm κc d) (hh : l.halted = false) (s : List UInt8) (hs : s.length ≤ 5000) (hfit : l.used + needN s.length ≤ l.places) (hp : l.places ≤ 1000) (ht : l.turn < 9223372036854775808)
    (hin : l.from_ + 2 + l.places ≤ d.n) (hdn : d.n ≤ 4096) (hcl : d.cache.length + 100 ≤ 1000000) (hrl : l.recs.length ≤ 1000000) (hf : d.fused = false) :
    EffOK Try.prog 44 off H A [.c (.ptr lid 0), pD (dS s)] (pD (.lit (.int .i64 0)))
      (upd (upd H did (some (encDk κm κc (apD l s (partsL s).length (partsL s) d (partsL s).length)))) lid (some (encLg did κr { l with recs := l.recs ++ [s], used := l.used + (partsL s).length })))
      (upd (upd A κc (some (.co 2 (d.cache.length + (partsL s).length)))) κr (some (.co 1 (l.recs.length + 1)))) := by
  refine effr_ok (E := envOf Try.prog [60, 42, 62, 63] off [] []) (envOf_ok Try.mixed) Try.func44 rfl Try.call44 (by kernel_rfl) (by exact Nat.le_of_ble_eq_true rfl) (fun hab => ?_)
  have hlh := hl.h
  unfold encLg at hlh
  have hne := hl.ne hd
  have hnc := hl.nc hd
  have hlt := hd.lt hab
  have hlt2 := hl.lt hab
  have ks := Try.kState (off + 1000) hw hl hh
  have kf := Try.kFits (off + 1000) hw hl s.length (by omega) (by omega) hp
  rw [show decide (l.used + needN s.length ≤ l.places) = true from decide_eq_true hfit] at kf
  have kp := Try.kParts s (by omega)
  have hm := partsL_len s
  have hmem := partsL_mem s
  have hmn : needN s.length ≤ 50 := by unfold needN; omega
  generalize hcut : partsL s = cut at *
  have hlen : (textsD cut).length = cut.length := textsD_len cut
  repeat' (first
   | with_reducible first | refine VC_seq fun K hK => ?_ | refine W_region ?_ | refine VC_block ?_ | refine VC_scope ?_ | refine VC_if ?_ | refine VC_skip ?_ | refine VC_exit ?_ | refine VC_ret ?_
   | (with_reducible first | refine G_not (fun h => ?_) (fun h => ?_) | refine G_cases (fun h => ?_) (fun h => ?_)) <;> (try simp only [h])
   | refine C_call rfl ks rfl (Above_mono hab (by omega)) ?_
   | refine C_call rfl kf rfl (Above_mono hab (by omega)) ?_
   | refine C_pure kp rfl rfl (fun k => (hab _ (Nat.le_add_right _ _)).2 k) ?_
   | with_reducible first | (refine hK _ ?_; clear hK K) | (clear hK K; refine hK _ ?_; clear hK K) | (clear hK K; clear hK K; refine hK _ ?_; clear hK K) | (clear hK K; clear hK K; clear hK K; refine hK _ ?_; clear hK K)
   | (with_reducible refine todo ?_; simp +decide only [go_sem, zne, hlen]))
  have hsp := apD_spec l s cut.length cut d
  have hwk : ∀ k, Wf (upd H did (some (encDk κm κc (apD l s cut.length cut d k)))) (upd A κc (some (.co 2 (d.cache.length + k)))) := fun k => DkAt.wf hw hd _ upd_keep
  have hdk : ∀ k, DkAt (upd H did (some (encDk κm κc (apD l s cut.length cut d k)))) (upd A κc (some (.co 2 (d.cache.length + k)))) did κm κc (apD l s cut.length cut d k) := fun k => ⟨upd_same _ _ _, by rw [upd_other _ _ hd.ne.symm, (hsp k).2.2.2]; exact hd.m, by rw [upd_same, (hsp k).2.1]⟩
  have hlk : ∀ k, LgAt (upd H did (some (encDk κm κc (apD l s cut.length cut d k)))) (upd A κc (some (.co 2 (d.cache.length + k)))) lid did κr l := fun k => ⟨by rw [upd_other _ _ hne]; exact hl.h, by rw [upd_other _ _ hnc]; exact hl.r⟩
  have hptr : ∀ {A1 A2 : AMap} {x : List CV}, PV.wk (hOver [] (upd H did (some x))) A1 A2 (.c (.ptr lid 0)) (.c (.ptr lid 0)) = True := eq_true (wkP_ptr (upd_keepH _ (by rw [hl.h]; simp)))
  refine VC_range cut.length (fun _ => True) (fun i => over [(0, .c (.ptr lid 0)), (1, pD (dS s)), (6, .c (.d (.sl (textsD cut)))), (24, .c (.d (.sl (textsD cut)))), (25, pD (.lit (.int .i64 cut.length))), (26, pD (.lit (.int .i64 i)))] []
    (upd H did (some (encDk κm κc (apD l s cut.length cut d i)))) (upd A κc (some (.co 2 (d.cache.length + i))))) True.intro ?_ ?_
  · refine Weak_overG (hwk 0) (fun i _ => ?_) (upd_self hd.c).symm ?_ ?_ upd_keepH upd_keep
    · rw [show upd H did (some (encDk κm κc (apD l s cut.length cut d 0))) = H from upd_self hd.h]
    · simp +decide only [go_sem, hptr]
    · simp +decide only [go_sem]
  · intro i hi _
    rcases Nat.lt_or_ge i cut.length with hi2 | hi2
    · have hc := int_lt_true hi2
      have hnx := int_next hi2 (by omega)
      have h3 : (textsD cut)[i]? = some [dS cut[i]] := by unfold textsD; rw [List.getElem?_map, List.getElem?_eq_getElem hi2]; rfl
      have hpl : cut[i].length ≤ 100 := hmem _ (List.getElem_mem hi2)
      have hgd : cut.getD i [] = cut[i] := by rw [List.getD_eq_getElem?_getD, List.getElem?_eq_getElem hi2]; rfl
      have c1 : IntKind.i64.wrap ((l.used : Int) + (i : Int)) = ((l.used + i : Nat) : Int) := by rw [Go.IntWalk.i64_in _ (by omega)]; omega
      have c2 : IntKind.i64.wrap ((l.from_ : Int) + 2) = ((l.from_ + 2 : Nat) : Int) := Go.IntWalk.i64_in _ (by omega)
      have c3 : IntKind.i64.wrap (((l.from_ + 2 : Nat) : Int) + ((l.used + i : Nat) : Int)) = ((l.from_ + 2 + (l.used + i) : Nat) : Int) := by rw [Go.IntWalk.i64_in _ (by omega)]; omega
      have c4 : IntKind.i64.wrap ((cut.length : Int) - 1) = ((cut.length - 1 : Nat) : Int) := by rw [Go.IntWalk.i64_in _ (by omega)]; omega
      have ksm := Try.kSum s (by omega)
      have lsm := sum4_len s
      have hAb : Above off (upd H did (some (encDk κm κc (apD l s cut.length cut d i)))) (upd A κc (some (.co 2 (d.cache.length + i)))) := Above_updA (Above_updH hab (by omega)) (by omega)
      have hstep : apD l s cut.length cut d (i + 1) = wrD (apD l s cut.length cut d i) ((l.from_ + 2 + (l.used + i) : Nat) : Int) (placeB l s cut.length i cut[i]) := by rw [← hgd]; rfl
      have hbn : burnt (apD l s cut.length cut d i) = false := by unfold burnt; rw [(hsp i).2.2.1, hf]; rfl
      have hwe : writeE (apD l s cut.length cut d i) ((l.from_ + 2 + (l.used + i) : Nat) : Int) (placeB l s cut.length i cut[i]) = 0 := by
        have h1 : dkRight (apD l s cut.length cut d i) ((l.from_ + 2 + (l.used + i) : Nat) : Int) = 0 := by
          have := (hsp i).1
          unfold dkRight; rw [if_neg (by omega), if_neg (by omega)]
        have h2 : (placeB l s cut.length i cut[i]).length ≤ 128 := sealB_len _
        unfold writeE
        rw [if_neg (by simpa using h1), if_neg (by omega), hbn]
        rfl
      have kw := Try.kWrite (off + 1000) (hwk i) (hdk i) ((l.from_ + 2 + (l.used + i) : Nat) : Int) (placeB l s cut.length i cut[i]) (by rw [(hsp i).1]; omega) (by rw [(hsp i).2.1]; omega) hwe
      rw [upd_twice, upd_twice, ← hstep, (hsp i).2.1] at kw
      have kt := Try.kTook (off + 1000) (hwk (i + 1)) (hlk (i + 1)) (by rw [upd_same]; simp) 0
      rw [Lg.unhalted hh, upd_self (hlk (i + 1)).h] at kt
      have hAb2 : Above (off + 1000) (upd H did (some (encDk κm κc (apD l s cut.length cut d (i + 1))))) (upd A κc (some (.co 2 (d.cache.length + (i + 1))))) := Above_updA (Above_updH (Above_mono hab (by omega)) (by omega)) (by omega)
      clear hmem
      by_cases hlast : i + 1 = cut.length
      · have hq : ((i : Int) == ((cut.length - 1 : Nat) : Int)) = true := by rw [beq_iff_eq]; omega
        have hpb : sealB (headL l.turn (l.used + i) 0 ++ sum4 s ++ cut[i]) = placeB l s cut.length i cut[i] := by unfold placeB; rw [if_pos hlast]
        have kh := Try.kHead l.turn (l.used + i) 0 ht (by omega) (by omega)
        have lh := headL_len l.turn (l.used + i) 0
        have kse := Try.kSeal (headL l.turn (l.used + i) 0 ++ sum4 s ++ cut[i]) (by simp only [List.length_append]; omega)
        rw [hpb] at kse
        generalize headL l.turn (l.used + i) 0 = hB at *
        generalize sum4 s = sm at *
        generalize placeB l s cut.length i cut[i] = pb at *
        generalize cut[i] = p at *
        have s1 : (hB.length + sm.length ≤ 9223372036854775807) = True := eq_true (by omega)
        have s2 : (hB.length + sm.length + p.length ≤ 9223372036854775807) = True := eq_true (by omega)
        repeat' (first
         | with_reducible first | refine VC_seq fun K hK => ?_ | refine W_region ?_ | refine VC_block ?_ | refine VC_scope ?_ | refine VC_if ?_ | refine VC_skip ?_ | refine VC_exit ?_ | refine VC_ret ?_
         | (with_reducible first | refine G_not (fun h => ?_) (fun h => ?_) | refine G_cases (fun h => ?_) (fun h => ?_)) <;> (try simp only [h])
         | refine C_pure kh rfl rfl (fun k => (hAb _ (Nat.le_add_right _ _)).2 k) ?_
         | refine C_pure ksm rfl rfl (fun k => (hAb _ (Nat.le_add_right _ _)).2 k) ?_
         | refine C_pure kse rfl rfl (fun k => (hAb _ (Nat.le_add_right _ _)).2 k) ?_
         | refine C_call rfl kw rfl (Above_mono hAb (by omega)) ?_
         | refine C_call rfl kt rfl hAb2 ?_
         | with_reducible first | (refine hK _ ?_; clear hK K) | (clear hK K; refine hK _ ?_; clear hK K) | (clear hK K; clear hK K; refine hK _ ?_; clear hK K) | (clear hK K; clear hK K; clear hK K; refine hK _ ?_; clear hK K)
         | (with_reducible refine todo ?_; simp +decide only [go_sem, hlh, hne, hc, hnx, h3, c1, c2, c3, c4, hlen, hq, zne, s1, s2]))
        refine Next_of hi2 True.intro (Weak_overG (hwk (i + 1)) (fun _ _ => rfl) rfl ?_ ?_ upd_keepH upd_keep)
        · simp +decide only [go_sem, hptr]
        · simp +decide only [go_sem]
      · have hq : ((i : Int) == ((cut.length - 1 : Nat) : Int)) = false := by rw [beq_eq_false_iff_ne]; omega
        have hpb : sealB (headL l.turn (l.used + i) 1 ++ sum4 s ++ cut[i]) = placeB l s cut.length i cut[i] := by unfold placeB; rw [if_neg hlast]
        have kh := Try.kHead l.turn (l.used + i) 1 ht (by omega) (by omega)
        have lh := headL_len l.turn (l.used + i) 1
        have kse := Try.kSeal (headL l.turn (l.used + i) 1 ++ sum4 s ++ cut[i]) (by simp only [List.length_append]; omega)
        rw [hpb] at kse
        generalize headL l.turn (l.used + i) 1 = hB at *
        generalize sum4 s = sm at *
        generalize placeB l s cut.length i cut[i] = pb at *
        generalize cut[i] = p at *
        have s1 : (hB.length + sm.length ≤ 9223372036854775807) = True := eq_true (by omega)
        have s2 : (hB.length + sm.length + p.length ≤ 9223372036854775807) = True := eq_true (by omega)
        repeat' (first
         | with_reducible first | refine VC_seq fun K hK => ?_ | refine W_region ?_ | refine VC_block ?_ | refine VC_scope ?_ | refine VC_if ?_ | refine VC_skip ?_ | refine VC_exit ?_ | refine VC_ret ?_
         | (with_reducible first | refine G_not (fun h => ?_) (fun h => ?_) | refine G_cases (fun h => ?_) (fun h => ?_)) <;> (try simp only [h])
         | refine C_pure kh rfl rfl (fun k => (hAb _ (Nat.le_add_right _ _)).2 k) ?_
         | refine C_pure ksm rfl rfl (fun k => (hAb _ (Nat.le_add_right _ _)).2 k) ?_
         | refine C_pure kse rfl rfl (fun k => (hAb _ (Nat.le_add_right _ _)).2 k) ?_
         | refine C_call rfl kw rfl (Above_mono hAb (by omega)) ?_
         | refine C_call rfl kt rfl hAb2 ?_
         | with_reducible first | (refine hK _ ?_; clear hK K) | (clear hK K; refine hK _ ?_; clear hK K) | (clear hK K; clear hK K; refine hK _ ?_; clear hK K) | (clear hK K; clear hK K; clear hK K; refine hK _ ?_; clear hK K)
         | (with_reducible refine todo ?_; simp +decide only [go_sem, hlh, hne, hc, hnx, h3, c1, c2, c3, c4, hlen, hq, zne, s1, s2]))
        refine Next_of hi2 True.intro (Weak_overG (hwk (i + 1)) (fun _ _ => rfl) rfl ?_ ?_ upd_keepH upd_keep)
        · simp +decide only [go_sem, hptr]
        · simp +decide only [go_sem]
    · have hc := int_lt_false hi2
      have hie : i = cut.length := by omega
      subst hie
      have hrl2 := textsD_len l.recs
      have c1 : IntKind.i64.wrap ((l.used : Int) + (cut.length : Int)) = ((l.used + cut.length : Nat) : Int) := by rw [Go.IntWalk.i64_in _ (by omega)]; omega
      have hla : upd A κc (some (.co 2 (d.cache.length + cut.length))) κr = some (.co 1 (textsD l.recs).length) := by rw [upd_other _ _ hnc, hrl2]; exact hl.r
      repeat' (first
       | with_reducible first | refine VC_seq fun K hK => ?_ | refine W_region ?_ | refine VC_block ?_ | refine VC_scope ?_ | refine VC_if ?_ | refine VC_skip ?_ | refine VC_exit ?_ | refine VC_ret ?_
       | (with_reducible first | refine G_not (fun h => ?_) (fun h => ?_) | refine G_cases (fun h => ?_) (fun h => ?_)) <;> (try simp only [h])
       | (refine W_own Try.appT rfl (szd_texts _) (szOne rfl) (by rw [hrl2]; simp only [List.length_singleton]; omega) hla ?_)
       | with_reducible first | (refine hK _ ?_; clear hK K) | (clear hK K; refine hK _ ?_; clear hK K) | (clear hK K; clear hK K; refine hK _ ?_; clear hK K) | (clear hK K; clear hK K; clear hK K; refine hK _ ?_; clear hK K)
       | (with_reducible refine todo ?_; simp +decide only [go_sem, hlh, hne, hc, c1, hlen]))
      have hwE : Wf (upd (upd H did (some (encDk κm κc (apD l s cut.length cut d cut.length)))) lid (some (encLg did κr { l with recs := l.recs ++ [s], used := l.used + cut.length }))) (upd (upd A κc (some (.co 2 (d.cache.length + cut.length)))) κr (some (.co 1 (l.recs.length + 1)))) :=
        Wf_set (hwk cut.length) (LgAt.ok (upd_keepH _ (by rw [upd_same]; simp)) (by rw [upd_same]; simp)) upd_keep
      refine RetR_eq rfl (wk_c (.inr (.inl ⟨rfl, True.intro⟩))) True.intro hwE (fun i _ => ?_) ?_ (fun i h => upd_keepH i (upd_keepH i h)) (fun κ h => upd_keep _ (upd_keep _ h))
      · show upd (upd (upd H did _) lid _) lid _ i = _
        by_cases e : i = lid
        · subst e
          rw [upd_same, upd_same]
          unfold encLg
          rw [textsD_app]
          rfl
        · rw [upd_other _ _ e, upd_other _ _ e, upd_other _ _ e]
      · show upd (upd _ _ _) _ (some (Arr.co 1 ((textsD l.recs).length + 1))) = _
        rw [hrl2]
end wal
end Go.Proofs
