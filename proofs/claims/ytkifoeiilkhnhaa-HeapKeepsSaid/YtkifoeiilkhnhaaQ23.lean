import Derived.Test.YtkifoeiilkhnhaaQ22

/-
  The log: a record's parts.
-/

namespace Go.Proofs
open Go.PW
def partsK : Nat → List UInt8 → List (List UInt8)
  | 0, s => [s]
  | k + 1, s => if 100 < s.length then s.take 100 :: partsK k (s.drop 100) else [s]
def partsL (s : List UInt8) : List (List UInt8) := partsK s.length s
theorem partsK_small {k : Nat} {s : List UInt8} (h : s.length ≤ 100) : partsK k s = [s] := by
  cases k with
  | zero => rfl
  | succ k => unfold partsK; rw [if_neg (by omega)]
theorem textsD_app (a b : List (List UInt8)) : textsD (a ++ b) = textsD a ++ textsD b := List.map_append
theorem textsD_len (a : List (List UInt8)) : (textsD a).length = a.length := by simp [textsD]
set_option maxRecDepth 8000 in
set_option maxHeartbeats 8000000 in
theorem Try.kParts (s : List UInt8) (hs : s.length ≤ 1000000) : PureOK Try.prog 65 [pD (dS s)] (.one (.d (.sl (textsD (partsL s))))) := by
  refine Try.pure (md := []) Try.func65 rfl Try.call65 (by kernel_rfl) (by rfl) (by exact Nat.le_of_ble_eq_true rfl) ?_
  repeat' (first
   | with_reducible first | refine VC_seq fun K hK => ?_ | refine W_region ?_ | refine VC_block ?_ | refine VC_scope ?_ | refine VC_if ?_ | refine VC_skip ?_ | refine VC_exit ?_ | refine VC_ret ?_
   | (with_reducible first | refine G_not (fun h => ?_) (fun h => ?_) | refine G_cases (fun h => ?_) (fun h => ?_)) <;> (try simp only [h])
   | with_reducible first | (refine hK _ ?_; clear hK K) | (clear hK K; refine hK _ ?_; clear hK K) | (clear hK K; clear hK K; refine hK _ ?_; clear hK K) | (clear hK K; clear hK K; clear hK K; refine hK _ ?_; clear hK K)
   | (with_reducible refine todo ?_; simp +decide only [go_sem]))
  refine VC_while (ι := Nat × List (List UInt8) × List UInt8) (fun x => x.2.1 ++ partsK x.1 x.2.2 = partsL s ∧ x.2.2.length ≤ x.1 ∧ x.1 + x.2.1.length ≤ s.length)
    (fun x => frame [(0, pD (dS x.2.2)), (3, .c (.own (11, 0) (textsD x.2.1)))] [] [((11, 0), .co 1 x.2.1.length)]) (fun x => x.1) (s.length, [], s) ⟨rfl, Nat.le_refl _, by simp⟩ ?_ ?_
  · refine Weak_frame ?_ ?_ ?_
    · simp +decide only [go_sem]
      exact wkP_new rfl (sz := 1) (if_pos rfl)
    · simp +decide only [go_sem]
    · simp +decide only [go_sem]
  · rintro ⟨k, l, r⟩ ⟨h1, h2, h3⟩
    simp only at h1 h2 h3
    have hll := textsD_len l
    rcases Nat.lt_or_ge 100 r.length with hr | hr
    · have hd : ((100 : Int) < (r.length : Int)) = True := eq_true (by omega)
      obtain ⟨k, rfl⟩ : ∃ j, k = j + 1 := ⟨k - 1, by omega⟩
      have ht2 : List.take (r.length - 100) (List.drop 100 r) = r.drop 100 := List.take_of_length_le (by rw [List.length_drop]; omega)
      have hp : partsK (k + 1) r = r.take 100 :: partsK k (r.drop 100) := by
        show (if 100 < r.length then _ else _) = _
        rw [if_pos hr]
      repeat' (first
       | with_reducible first | refine VC_seq fun K hK => ?_ | refine W_region ?_ | refine VC_block ?_ | refine VC_scope ?_ | refine VC_if ?_ | refine VC_skip ?_ | refine VC_exit ?_ | refine VC_ret ?_
       | (with_reducible first | refine G_not (fun h => ?_) (fun h => ?_) | refine G_cases (fun h => ?_) (fun h => ?_)) <;> (try simp only [h])
       | refine W_slcS (a := r) (l := 0) (h := 100) Try.underlying9 rfl rfl (by simp [optNat, natOf?, intOf?]) (by omega) (by omega) ?_
       | refine W_slcS (a := r) (l := 100) (h := r.length) Try.underlying9 rfl (by simp [optNat, natOf?, intOf?]) rfl (by omega) (Nat.le_refl _) ?_
       | (refine W_own Try.appT rfl (szd_texts _) (szOne rfl) (by rw [hll]; simp only [List.length_singleton]; omega) (by rw [hll]; exact if_pos rfl) ?_)
       | with_reducible first | (refine hK _ ?_; clear hK K) | (clear hK K; refine hK _ ?_; clear hK K) | (clear hK K; clear hK K; refine hK _ ?_; clear hK K) | (clear hK K; clear hK K; clear hK K; refine hK _ ?_; clear hK K)
       | (with_reducible refine todo ?_; simp +decide only [go_sem, hd, ht2]))
      have he : textsD l ++ [[dS (r.take 100)]] = textsD (l ++ [r.take 100]) := (textsD_app l [r.take 100]).symm
      refine ⟨⟨(k, l ++ [r.take 100], r.drop 100), ⟨?_, ?_, ?_⟩⟩, Weak_frame ?_ ?_ ?_, by show k < k + 1; omega⟩
      · rw [← h1, hp]; simp
      · simp only [List.length_drop]; omega
      · simp only [List.length_append, List.length_singleton]; omega
      · simp +decide only [go_sem]
        change PV.wk _ _ _ _ (.c (.own (11, 0) (textsD l ++ [[dS (r.take 100)]])))
        rw [he]
        have hx : aOf [((11, 0), Arr.co 1 (l.length + 1))] (11, 0) = some (.co 1 (l.length + 1)) := if_pos rfl
        exact wkP_own (by rw [hx]; simp) (by rw [upd_same, hll]; exact hx)
      · simp +decide only [go_sem]
      · simp +decide only [go_sem, hll]
    · have hd : ((100 : Int) < (r.length : Int)) = False := eq_false (by omega)
      rw [partsK_small hr] at h1
      repeat' (first
       | with_reducible first | refine VC_seq fun K hK => ?_ | refine W_region ?_ | refine VC_block ?_ | refine VC_scope ?_ | refine VC_if ?_ | refine VC_skip ?_ | refine VC_exit ?_ | refine VC_ret ?_
       | (with_reducible first | refine G_not (fun h => ?_) (fun h => ?_) | refine G_cases (fun h => ?_) (fun h => ?_)) <;> (try simp only [h])
       | (refine W_own Try.appT rfl (szd_texts _) (szOne rfl) (by rw [hll]; simp only [List.length_singleton]; omega) (by rw [hll]; exact if_pos rfl) ?_)
       | with_reducible first | (refine hK _ ?_; clear hK K) | (clear hK K; refine hK _ ?_; clear hK K) | (clear hK K; clear hK K; refine hK _ ?_; clear hK K) | (clear hK K; clear hK K; clear hK K; refine hK _ ?_; clear hK K)
       | (with_reducible refine todo ?_; simp +decide only [go_sem, hd]))
      refine Ret_d rfl ?_
      rw [← h1, textsD_app]
      rfl
end Go.Proofs

/-
  The log: Commit.
-/

namespace Go.Proofs
open Go.PW
section wal
variable {H : HMap} {A : AMap} {lid did : Nat} {κm κc κr κ' : Tok} {d : Dk} {l : Lg}
theorem Lg.unhalted (h : l.halted = false) : { l with halted := l.halted || ((0 : Int) != 0) } = l := by
  cases l
  simp only at h
  subst h
  rfl
set_option maxRecDepth 8000 in
set_option maxHeartbeats 16000000 in
theorem Try.kCommit (off : Nat) (hw : Wf H A) (hl : LgAt H A lid did κr l) (hd : DkAt H A did κm κc d) (hh : l.halted = false) (hn : 0 < d.n) (hcl : d.cache.length ≤ 1000000) (hb : burnt d = false) (hκ : A κ' = none) (hκb : κ'.1 < off + 1000) :
    EffOK Try.prog 42 off H A [.c (.ptr lid 0)] (pD (.lit (.int .i64 0))) (upd H did (some (encDk κm κ' (flD d)))) (upd (upd A κm (some (.mp (encNS (flD d).stays)))) κ' (some (.co 2 0))) := by
  refine effr_ok (E := envOf Try.prog [64, 66, 71] off [] []) (envOf_ok Try.mixed) Try.func42 rfl Try.call42 (by kernel_rfl) (by exact Nat.le_of_ble_eq_true rfl) (fun hab => ?_)
  have hlh := hl.h
  have hne := hl.ne hd
  have hlt := hd.lt hab
  have hlt2 := hl.lt hab
  have ks := Try.kState (off + 1000) hw hl hh
  have kf := Try.kFlush (κ' := κ') (off + 1000) hw hd hn hcl hb hκ
  have kA2 : ∀ κ, A κ ≠ none → upd (upd A κm (some (.mp (encNS (flD d).stays)))) κ' (some (.co 2 0)) κ ≠ none := fun κ h => upd_keep _ (upd_keep _ h)
  have hw2 : Wf (upd H did (some (encDk κm κ' (flD d)))) (upd (upd A κm (some (.mp (encNS (flD d).stays)))) κ' (some (.co 2 0))) := Wf_set hw (DkAt.ok (kA2 κm (by rw [hd.m]; simp)) (by rw [upd_same]; simp)) kA2
  have nκ : κr ≠ κ' := fun e => by have := hl.r; rw [e, hκ] at this; cases this
  have hl2 : LgAt (upd H did (some (encDk κm κ' (flD d)))) (upd (upd A κm (some (.mp (encNS (flD d).stays)))) κ' (some (.co 2 0))) lid did κr l := ⟨by rw [upd_other _ _ hne]; exact hl.h, by rw [upd_other _ _ nκ, upd_other _ _ (hl.nm hd)]; exact hl.r⟩
  have kt := Try.kTook (off + 1000) hw2 hl2 (by rw [upd_same]; simp) 0
  rw [Lg.unhalted hh, upd_self hl2.h] at kt
  have hm : Above (off + 1000) (upd H did (some (encDk κm κ' (flD d)))) (upd (upd A κm (some (.mp (encNS (flD d).stays)))) κ' (some (.co 2 0))) := Above_updA (Above_updA (Above_updH (Above_mono hab (by omega)) (by omega)) (by omega)) hκb
  unfold encLg at hlh
  repeat' (first
   | with_reducible first | refine VC_seq fun K hK => ?_ | refine W_region ?_ | refine VC_block ?_ | refine VC_scope ?_ | refine VC_if ?_ | refine VC_skip ?_ | refine VC_exit ?_ | refine VC_ret ?_
   | (with_reducible first | refine G_not (fun h => ?_) (fun h => ?_) | refine G_cases (fun h => ?_) (fun h => ?_)) <;> (try simp only [h])
   | refine C_call rfl ks rfl (Above_mono hab (by omega)) ?_
   | refine C_call rfl kf rfl (Above_mono hab (by omega)) ?_
   | refine C_call rfl kt rfl hm ?_
   | with_reducible first | (refine hK _ ?_; clear hK K) | (clear hK K; refine hK _ ?_; clear hK K) | (clear hK K; clear hK K; refine hK _ ?_; clear hK K) | (clear hK K; clear hK K; clear hK K; refine hK _ ?_; clear hK K)
   | (with_reducible refine todo ?_; simp +decide only [go_sem, hlh, zne]))
  exact RetR_eq rfl (wk_c (.inr (.inl ⟨rfl, True.intro⟩))) True.intro hw2 (fun _ _ => rfl) rfl upd_keepH kA2
end wal
end Go.Proofs

/-
  The log: Append, where no fuse burns.
-/

namespace Go.Proofs
open Go.PW
theorem partsK_len : ∀ (k : Nat) (s : List UInt8), s.length ≤ k → (partsK k s).length = needN s.length
  | 0, s, h => by
    have : s.length = 0 := by omega
    show 1 = _
    unfold needN
    rw [this]; rfl
  | k + 1, s, h => by
    unfold partsK
    by_cases hs : 100 < s.length
    · rw [if_pos hs, List.length_cons, partsK_len k (s.drop 100) (by rw [List.length_drop]; omega), List.length_drop]
      unfold needN
      omega
    · rw [if_neg hs]
      show 1 = _
      unfold needN
      omega
theorem partsL_len (s : List UInt8) : (partsL s).length = needN s.length := partsK_len _ s (Nat.le_refl _)
theorem partsK_mem : ∀ (k : Nat) (s : List UInt8), s.length ≤ k → ∀ p ∈ partsK k s, p.length ≤ 100
  | 0, s, h, p, hp => by
    have : p = s := by simpa [partsK] using hp
    rw [this]; omega
  | k + 1, s, h, p, hp => by
    unfold partsK at hp
    by_cases hs : 100 < s.length
    · rw [if_pos hs] at hp
      rcases List.mem_cons.1 hp with rfl | hp
      · rw [List.length_take]; omega
      · exact partsK_mem k (s.drop 100) (by rw [List.length_drop]; omega) p hp
    · rw [if_neg hs] at hp
      rw [List.mem_singleton.1 hp]; omega
theorem partsL_mem (s : List UInt8) : ∀ p ∈ partsL s, p.length ≤ 100 := partsK_mem _ s (Nat.le_refl _)
/-- What a place is written with. -/
def placeB (l : Lg) (s : List UInt8) (m k : Nat) (p : List UInt8) : List UInt8 := sealB (headL l.turn (l.used + k) (if k + 1 = m then 0 else 1) ++ sum4 s ++ p)
/-- The disk behind so many places. -/
def apD (l : Lg) (s : List UInt8) (m : Nat) (cut : List (List UInt8)) (d : Dk) : Nat → Dk
  | 0 => d
  | k + 1 => wrD (apD l s m cut d k) ((l.from_ + 2 + (l.used + k) : Nat) : Int) (placeB l s m k (cut.getD k []))
theorem apD_spec (l : Lg) (s : List UInt8) (m : Nat) (cut : List (List UInt8)) (d : Dk) : ∀ k, (apD l s m cut d k).n = d.n ∧ (apD l s m cut d k).cache.length = d.cache.length + k ∧ (apD l s m cut d k).fused = d.fused ∧ (apD l s m cut d k).stays = d.stays
  | 0 => ⟨rfl, rfl, rfl, rfl⟩
  | k + 1 => by
    obtain ⟨h1, h2, h3, h4⟩ := apD_spec l s m cut d k
    exact ⟨h1, by simp [apD, wrD, h2, Nat.add_assoc], h3, h4⟩
section wal
variable {H : HMap} {A : AMap} {lid did : Nat} {κm κc κr κ' : Tok} {d : Dk} {l : Lg}
set_option maxRecDepth 8000 in
set_option maxHeartbeats 32000000 in
theorem Try.kAppend (off : Nat) (hw : Wf H A) (hl : LgAt H A lid did κr l) (hd : DkAt H A did κm κc d) (hh : l.halted = false) (s : List UInt8) (hs : s.length ≤ 5000) (hfit : l.used + needN s.length ≤ l.places) (hp : l.places ≤ 1000) (ht : l.turn < 9223372036854775808)
    (hin : l.from_ + 2 + l.places ≤ d.n) (hdn : d.n ≤ 4096) (hcl : d.cache.length + 100 ≤ 1000000) (hrl : l.recs.length ≤ 1000000) (hf : d.fused = false) :
    EffOK Try.prog 41 off H A [.c (.ptr lid 0), pD (dS s)] (pD (.lit (.int .i64 0)))
      (upd (upd H did (some (encDk κm κc (apD l s (partsL s).length (partsL s) d (partsL s).length)))) lid (some (encLg did κr { l with recs := l.recs ++ [s], used := l.used + (partsL s).length })))
      (upd (upd A κc (some (.co 2 (d.cache.length + (partsL s).length)))) κr (some (.co 1 (l.recs.length + 1)))) := by
  refine effr_ok (E := envOf Try.prog [64, 39, 66, 67] off [] []) (envOf_ok Try.mixed) Try.func41 rfl Try.call41 (by kernel_rfl) (by exact Nat.le_of_ble_eq_true rfl) (fun hab => ?_)
  have hlh := hl.h
  unfold encLg at hlh
  have hne := hl.ne hd
  have hnc := hl.nc hd
  have hlt := hd.lt hab
  have hlt2 := hl.lt hab
  have ks := Try.kState (off + 1000) hw hl hh
  have kf := Try.kFits (off + 1000) hw hl s.length (by omega) (by omega) hp
  rw [show decide (l.used + needN s.length ≤ l.places) = true from decide_eq_true hfit] at kf
  have kp := Try.kParts s (by omega)
  have hm := partsL_len s
  have hmem := partsL_mem s
  have hmn : needN s.length ≤ 50 := by unfold needN; omega
  generalize hcut : partsL s = cut at *
  have hlen : (textsD cut).length = cut.length := textsD_len cut
  repeat' (first
   | with_reducible first | refine VC_seq fun K hK => ?_ | refine W_region ?_ | refine VC_block ?_ | refine VC_scope ?_ | refine VC_if ?_ | refine VC_skip ?_ | refine VC_exit ?_ | refine VC_ret ?_
   | (with_reducible first | refine G_not (fun h => ?_) (fun h => ?_) | refine G_cases (fun h => ?_) (fun h => ?_)) <;> (try simp only [h])
   | refine C_call rfl ks rfl (Above_mono hab (by omega)) ?_
   | refine C_call rfl kf rfl (Above_mono hab (by omega)) ?_
   | refine C_pure kp rfl rfl (fun k => (hab _ (Nat.le_add_right _ _)).2 k) ?_
   | with_reducible first | (refine hK _ ?_; clear hK K) | (clear hK K; refine hK _ ?_; clear hK K) | (clear hK K; clear hK K; refine hK _ ?_; clear hK K) | (clear hK K; clear hK K; clear hK K; refine hK _ ?_; clear hK K)
   | (with_reducible refine todo ?_; simp +decide only [go_sem, zne, hlen]))
  have hsp := apD_spec l s cut.length cut d
  have hwk : ∀ k, Wf (upd H did (some (encDk κm κc (apD l s cut.length cut d k)))) (upd A κc (some (.co 2 (d.cache.length + k)))) := fun k => DkAt.wf hw hd _ upd_keep
  have hdk : ∀ k, DkAt (upd H did (some (encDk κm κc (apD l s cut.length cut d k)))) (upd A κc (some (.co 2 (d.cache.length + k)))) did κm κc (apD l s cut.length cut d k) := fun k => ⟨upd_same _ _ _, by rw [upd_other _ _ hd.ne.symm, (hsp k).2.2.2]; exact hd.m, by rw [upd_same, (hsp k).2.1]⟩
  have hlk : ∀ k, LgAt (upd H did (some (encDk κm κc (apD l s cut.length cut d k)))) (upd A κc (some (.co 2 (d.cache.length + k)))) lid did κr l := fun k => ⟨by rw [upd_other _ _ hne]; exact hl.h, by rw [upd_other _ _ hnc]; exact hl.r⟩
  have hptr : ∀ {A1 A2 : AMap} {x : List CV}, PV.wk (hOver [] (upd H did (some x))) A1 A2 (.c (.ptr lid 0)) (.c (.ptr lid 0)) = True := eq_true (wkP_ptr (upd_keepH _ (by rw [hl.h]; simp)))
  refine VC_range cut.length (fun _ => True) (fun i => over [(0, .c (.ptr lid 0)), (1, pD (dS s)), (6, .c (.d (.sl (textsD cut)))), (24, .c (.d (.sl (textsD cut)))), (25, pD (.lit (.int .i64 cut.length))), (26, pD (.lit (.int .i64 i)))] []
    (upd H did (some (encDk κm κc (apD l s cut.length cut d i)))) (upd A κc (some (.co 2 (d.cache.length + i))))) True.intro ?_ ?_
  · refine Weak_overG (hwk 0) (fun i _ => ?_) (upd_self hd.c).symm ?_ ?_ upd_keepH upd_keep
    · rw [show upd H did (some (encDk κm κc (apD l s cut.length cut d 0))) = H from upd_self hd.h]
    · simp +decide only [go_sem, hptr]
    · simp +decide only [go_sem]
  · intro i hi _
    rcases Nat.lt_or_ge i cut.length with hi2 | hi2
    · have hc := int_lt_true hi2
      have hnx := int_next hi2 (by omega)
      have h3 : (textsD cut)[i]? = some [dS cut[i]] := by unfold textsD; rw [List.getElem?_map, List.getElem?_eq_getElem hi2]; rfl
      have hpl : cut[i].length ≤ 100 := hmem _ (List.getElem_mem hi2)
      have hgd : cut.getD i [] = cut[i] := by rw [List.getD_eq_getElem?_getD, List.getElem?_eq_getElem hi2]; rfl
      have c1 : IntKind.i64.wrap ((l.used : Int) + (i : Int)) = ((l.used + i : Nat) : Int) := by rw [Go.IntWalk.i64_in _ (by omega)]; omega
      have c2 : IntKind.i64.wrap ((l.from_ : Int) + 2) = ((l.from_ + 2 : Nat) : Int) := Go.IntWalk.i64_in _ (by omega)
      have c3 : IntKind.i64.wrap (((l.from_ + 2 : Nat) : Int) + ((l.used + i : Nat) : Int)) = ((l.from_ + 2 + (l.used + i) : Nat) : Int) := by rw [Go.IntWalk.i64_in _ (by omega)]; omega
      have c4 : IntKind.i64.wrap ((cut.length : Int) - 1) = ((cut.length - 1 : Nat) : Int) := by rw [Go.IntWalk.i64_in _ (by omega)]; omega
      have ksm := Try.kSum s (by omega)
      have lsm := sum4_len s
      have hAb : Above off (upd H did (some (encDk κm κc (apD l s cut.length cut d i)))) (upd A κc (some (.co 2 (d.cache.length + i)))) := Above_updA (Above_updH hab (by omega)) (by omega)
      have hstep : apD l s cut.length cut d (i + 1) = wrD (apD l s cut.length cut d i) ((l.from_ + 2 + (l.used + i) : Nat) : Int) (placeB l s cut.length i cut[i]) := by rw [← hgd]; rfl
      have hbn : burnt (apD l s cut.length cut d i) = false := by unfold burnt; rw [(hsp i).2.2.1, hf]; rfl
      have hwe : writeE (apD l s cut.length cut d i) ((l.from_ + 2 + (l.used + i) : Nat) : Int) (placeB l s cut.length i cut[i]) = 0 := by
        have h1 : dkRight (apD l s cut.length cut d i) ((l.from_ + 2 + (l.used + i) : Nat) : Int) = 0 := by
          have := (hsp i).1
          unfold dkRight; rw [if_neg (by omega), if_neg (by omega)]
        have h2 : (placeB l s cut.length i cut[i]).length ≤ 128 := sealB_len _
        unfold writeE
        rw [if_neg (by simpa using h1), if_neg (by omega), hbn]
        rfl
      have kw := Try.kWrite (off + 1000) (hwk i) (hdk i) ((l.from_ + 2 + (l.used + i) : Nat) : Int) (placeB l s cut.length i cut[i]) (by rw [(hsp i).1]; omega) (by rw [(hsp i).2.1]; omega) hwe
      rw [upd_twice, upd_twice, ← hstep, (hsp i).2.1] at kw
      have kt := Try.kTook (off + 1000) (hwk (i + 1)) (hlk (i + 1)) (by rw [upd_same]; simp) 0
      rw [Lg.unhalted hh, upd_self (hlk (i + 1)).h] at kt
      have hAb2 : Above (off + 1000) (upd H did (some (encDk κm κc (apD l s cut.length cut d (i + 1))))) (upd A κc (some (.co 2 (d.cache.length + (i + 1))))) := Above_updA (Above_updH (Above_mono hab (by omega)) (by omega)) (by omega)
      clear hmem
      by_cases hlast : i + 1 = cut.length
      · have hq : ((i : Int) == ((cut.length - 1 : Nat) : Int)) = true := by rw [beq_iff_eq]; omega
        have hpb : sealB (headL l.turn (l.used + i) 0 ++ sum4 s ++ cut[i]) = placeB l s cut.length i cut[i] := by unfold placeB; rw [if_pos hlast]
        have kh := Try.kHead l.turn (l.used + i) 0 ht (by omega) (by omega)
        have lh := headL_len l.turn (l.used + i) 0
        have kse := Try.kSeal (headL l.turn (l.used + i) 0 ++ sum4 s ++ cut[i]) (by simp only [List.length_append]; omega)
        rw [hpb] at kse
        generalize headL l.turn (l.used + i) 0 = hB at *
        generalize sum4 s = sm at *
        generalize placeB l s cut.length i cut[i] = pb at *
        generalize cut[i] = p at *
        have s1 : (hB.length + sm.length ≤ 9223372036854775807) = True := eq_true (by omega)
        have s2 : (hB.length + sm.length + p.length ≤ 9223372036854775807) = True := eq_true (by omega)
        repeat' (first
         | with_reducible first | refine VC_seq fun K hK => ?_ | refine W_region ?_ | refine VC_block ?_ | refine VC_scope ?_ | refine VC_if ?_ | refine VC_skip ?_ | refine VC_exit ?_ | refine VC_ret ?_
         | (with_reducible first | refine G_not (fun h => ?_) (fun h => ?_) | refine G_cases (fun h => ?_) (fun h => ?_)) <;> (try simp only [h])
         | refine C_pure kh rfl rfl (fun k => (hAb _ (Nat.le_add_right _ _)).2 k) ?_
         | refine C_pure ksm rfl rfl (fun k => (hAb _ (Nat.le_add_right _ _)).2 k) ?_
         | refine C_pure kse rfl rfl (fun k => (hAb _ (Nat.le_add_right _ _)).2 k) ?_
         | refine C_call rfl kw rfl (Above_mono hAb (by omega)) ?_
         | refine C_call rfl kt rfl hAb2 ?_
         | with_reducible first | (refine hK _ ?_; clear hK K) | (clear hK K; refine hK _ ?_; clear hK K) | (clear hK K; clear hK K; refine hK _ ?_; clear hK K) | (clear hK K; clear hK K; clear hK K; refine hK _ ?_; clear hK K)
         | (with_reducible refine todo ?_; simp +decide only [go_sem, hlh, hne, hc, hnx, h3, c1, c2, c3, c4, hlen, hq, zne, s1, s2]))
        refine Next_of hi2 True.intro (Weak_overG (hwk (i + 1)) (fun _ _ => rfl) rfl ?_ ?_ upd_keepH upd_keep)
        · simp +decide only [go_sem, hptr]
        · simp +decide only [go_sem]
      · have hq : ((i : Int) == ((cut.length - 1 : Nat) : Int)) = false := by rw [beq_eq_false_iff_ne]; omega
        have hpb : sealB (headL l.turn (l.used + i) 1 ++ sum4 s ++ cut[i]) = placeB l s cut.length i cut[i] := by unfold placeB; rw [if_neg hlast]
        have kh := Try.kHead l.turn (l.used + i) 1 ht (by omega) (by omega)
        have lh := headL_len l.turn (l.used + i) 1
        have kse := Try.kSeal (headL l.turn (l.used + i) 1 ++ sum4 s ++ cut[i]) (by simp only [List.length_append]; omega)
        rw [hpb] at kse
        generalize headL l.turn (l.used + i) 1 = hB at *
        generalize sum4 s = sm at *
        generalize placeB l s cut.length i cut[i] = pb at *
        generalize cut[i] = p at *
        have s1 : (hB.length + sm.length ≤ 9223372036854775807) = True := eq_true (by omega)
        have s2 : (hB.length + sm.length + p.length ≤ 9223372036854775807) = True := eq_true (by omega)
        repeat' (first
         | with_reducible first | refine VC_seq fun K hK => ?_ | refine W_region ?_ | refine VC_block ?_ | refine VC_scope ?_ | refine VC_if ?_ | refine VC_skip ?_ | refine VC_exit ?_ | refine VC_ret ?_
         | (with_reducible first | refine G_not (fun h => ?_) (fun h => ?_) | refine G_cases (fun h => ?_) (fun h => ?_)) <;> (try simp only [h])
         | refine C_pure kh rfl rfl (fun k => (hAb _ (Nat.le_add_right _ _)).2 k) ?_
         | refine C_pure ksm rfl rfl (fun k => (hAb _ (Nat.le_add_right _ _)).2 k) ?_
         | refine C_pure kse rfl rfl (fun k => (hAb _ (Nat.le_add_right _ _)).2 k) ?_
         | refine C_call rfl kw rfl (Above_mono hAb (by omega)) ?_
         | refine C_call rfl kt rfl hAb2 ?_
         | with_reducible first | (refine hK _ ?_; clear hK K) | (clear hK K; refine hK _ ?_; clear hK K) | (clear hK K; clear hK K; refine hK _ ?_; clear hK K) | (clear hK K; clear hK K; clear hK K; refine hK _ ?_; clear hK K)
         | (with_reducible refine todo ?_; simp +decide only [go_sem, hlh, hne, hc, hnx, h3, c1, c2, c3, c4, hlen, hq, zne, s1, s2]))
        refine Next_of hi2 True.intro (Weak_overG (hwk (i + 1)) (fun _ _ => rfl) rfl ?_ ?_ upd_keepH upd_keep)
        · simp +decide only [go_sem, hptr]
        · simp +decide only [go_sem]
    · have hc := int_lt_false hi2
      have hie : i = cut.length := by omega
      subst hie
      have hrl2 := textsD_len l.recs
      have c1 : IntKind.i64.wrap ((l.used : Int) + (cut.length : Int)) = ((l.used + cut.length : Nat) : Int) := by rw [Go.IntWalk.i64_in _ (by omega)]; omega
      have hla : upd A κc (some (.co 2 (d.cache.length + cut.length))) κr = some (.co 1 (textsD l.recs).length) := by rw [upd_other _ _ hnc, hrl2]; exact hl.r
      repeat' (first
       | with_reducible first | refine VC_seq fun K hK => ?_ | refine W_region ?_ | refine VC_block ?_ | refine VC_scope ?_ | refine VC_if ?_ | refine VC_skip ?_ | refine VC_exit ?_ | refine VC_ret ?_
       | (with_reducible first | refine G_not (fun h => ?_) (fun h => ?_) | refine G_cases (fun h => ?_) (fun h => ?_)) <;> (try simp only [h])
       | (refine W_own Try.appT rfl (szd_texts _) (szOne rfl) (by rw [hrl2]; simp only [List.length_singleton]; omega) hla ?_)
       | with_reducible first | (refine hK _ ?_; clear hK K) | (clear hK K; refine hK _ ?_; clear hK K) | (clear hK K; clear hK K; refine hK _ ?_; clear hK K) | (clear hK K; clear hK K; clear hK K; refine hK _ ?_; clear hK K)
       | (with_reducible refine todo ?_; simp +decide only [go_sem, hlh, hne, hc, c1, hlen]))
      have hwE : Wf (upd (upd H did (some (encDk κm κc (apD l s cut.length cut d cut.length)))) lid (some (encLg did κr { l with recs := l.recs ++ [s], used := l.used + cut.length }))) (upd (upd A κc (some (.co 2 (d.cache.length + cut.length)))) κr (some (.co 1 (l.recs.length + 1)))) :=
        Wf_set (hwk cut.length) (LgAt.ok (upd_keepH _ (by rw [upd_same]; simp)) (by rw [upd_same]; simp)) upd_keep
      refine RetR_eq rfl (wk_c (.inr (.inl ⟨rfl, True.intro⟩))) True.intro hwE (fun i _ => ?_) ?_ (fun i h => upd_keepH i (upd_keepH i h)) (fun κ h => upd_keep _ (upd_keep _ h))
      · show upd (upd (upd H did _) lid _) lid _ i = _
        by_cases e : i = lid
        · subst e
          rw [upd_same, upd_same]
          unfold encLg
          rw [textsD_app]
          rfl
        · rw [upd_other _ _ e, upd_other _ _ e, upd_other _ _ e]
      · show upd (upd _ _ _) _ (some (Arr.co 1 ((textsD l.recs).length + 1))) = _
        rw [hrl2]
end wal
end Go.Proofs

/-
  Texts: whether two rows of texts are the same.
-/

namespace Go.Proofs
open Go.PW
def tx (l : List (List UInt8)) : PV := .c (.d (.sl (textsD l)))
theorem textsD_get {l : List (List UInt8)} {i : Nat} (h : i < l.length) : (textsD l)[i]? = some [dS l[i]] := by
  unfold textsD; rw [List.getElem?_map, List.getElem?_eq_getElem h]; rfl
end Go.Proofs

/-
  The log: what a place has.
-/

namespace Go.Proofs
open Go.PW
/-- A place's part, and whether it is one. -/
def pieceC (t : Nat) (sm pt : List UInt8) (more : Bool) : List CV := [.d (.lit (.int .i64 t)), .d (dS sm), .d (dS pt), .d (.lit (.bool more))]
def pieceV (t : Nat) (sm pt : List UInt8) (more ok : Bool) : PV := .tup [.agg (pieceC t sm pt more), .c (.d (.lit (.bool ok)))]
theorem wk_piece {H' : HMap} {A A' : AMap} {t : Nat} {sm pt : List UInt8} {more ok : Bool} : PV.wk H' A A' (pieceV t sm pt more ok) (pieceV t sm pt more ok) := by
  refine ⟨rfl, fun k a b h1 h2 => ?_⟩
  rw [h1] at h2
  cases h2
  match k, h1 with
  | 0, e =>
    cases e
    refine ⟨rfl, fun j c d h3 h4 => ?_⟩
    rw [h3] at h4
    cases h4
    match j, h3 with
    | 0, e => cases e; exact .inr (.inl ⟨rfl, True.intro⟩)
    | 1, e => cases e; exact .inr (.inl ⟨rfl, True.intro⟩)
    | 2, e => cases e; exact .inr (.inl ⟨rfl, True.intro⟩)
    | 3, e => cases e; exact .inr (.inl ⟨rfl, True.intro⟩)
  | 1, e => cases e; exact .inr (.inl ⟨rfl, True.intro⟩)
theorem oks_piece {hk : Nat → Prop} {tk : Tok → Prop} {t : Nat} {sm pt : List UInt8} {more ok : Bool} : PV.oks hk tk (pieceV t sm pt more ok) := fun z hz => by
  rcases List.mem_cons.1 hz with rfl | hz
  · intro c hc
    simp only [pieceC, List.mem_cons, List.not_mem_nil, or_false] at hc
    rcases hc with rfl | rfl | rfl | rfl <;> exact True.intro
  · rw [List.mem_singleton.1 hz]; exact True.intro
theorem beq_r1 : ((1 : Nat) == 19004) = false := rfl
theorem beq_r17 : ((17 : Nat) == 19004) = false := rfl
theorem beq_r18 : ((18 : Nat) == 19004) = false := rfl
section wal
variable {H : HMap} {A : AMap} {lid did : Nat} {κm κc κr : Tok} {d : Dk} {l : Lg}
set_option maxRecDepth 8000 in
set_option maxHeartbeats 16000000 in
theorem Try.kAtE (off : Nat) (hw : Wf H A) (hl : LgAt H A lid did κr l) (hd : DkAt H A did κm κc d) (hcl : d.cache.length ≤ 1000000) (i : Nat) (hin : l.from_ + 2 + i < d.n) (hdn : d.n ≤ 4096) (hs : (rd d ((l.from_ + 2 + i : Nat) : Int)).length ≤ 128)
    (hc : unsealB (rd d ((l.from_ + 2 + i : Nat) : Int)) = some [] ∨ unsealB (rd d ((l.from_ + 2 + i : Nat) : Int)) = none) :
    EffOK Try.prog 82 off H A [.c (.ptr lid 0), pD (.lit (.int .i64 i))] (pieceV 0 [] [] false false) H A := by
  refine effr_ok (E := envOf Try.prog [55, 78, 79, 80] off [] [19004]) (envOf_ok Try.mixed) Try.func82 rfl Try.call82 (by kernel_rfl) (by exact Nat.le_of_ble_eq_true rfl) (fun hab => ?_)
  have hlh := hl.h
  unfold encLg at hlh
  have hlt := hd.lt hab
  have hlt2 := hl.lt hab
  have n4 : lid ≠ off + 4 := by omega
  have nd4 : did ≠ off + 4 := by omega
  have hx4 : H (off + 4) = none := (hab _ (Nat.le_add_right _ _)).1
  have c1 : IntKind.i64.wrap ((l.from_ : Int) + 2) = ((l.from_ + 2 : Nat) : Int) := Go.IntWalk.i64_in _ (by omega)
  have c2 : IntKind.i64.wrap (((l.from_ + 2 : Nat) : Int) + (i : Int)) = ((l.from_ + 2 + i : Nat) : Int) := by rw [Go.IntWalk.i64_in _ (by omega)]; omega
  have hrt : dkRight d ((l.from_ + 2 + i : Nat) : Int) = 0 := by unfold dkRight; rw [if_neg (by omega), if_neg (by omega)]
  have hw4 : Wf (upd H (off + 4) (some (pieceC 0 [] [] false))) A := Wf_upd hw rfl
  have kr := Try.kRead (off + 1000) hw4 (hd.updH nd4) ((l.from_ + 2 + i : Nat) : Int) (by omega) hcl
  unfold readPV at kr
  rw [if_pos hrt] at kr
  generalize rd d ((l.from_ + 2 + i : Nat) : Int) = s at *
  have ku := Try.kUnseal s (by omega)
  have hm4 : Above (off + 1000) (upd H (off + 4) (some (pieceC 0 [] [] false))) A := Above_updH (Above_mono hab (by omega)) (by omega)
  rcases hc with h1 | h1 <;> rw [h1] at ku <;> simp only [optS] at ku
  · have kb := Try.kBehind [] [76]
    have hbe : behindL [] [76] = none := rfl
    unfold behRV at kb
    rw [hbe] at kb
    simp only at kb
    have hx47 : H (off + 47) = none := (hab _ (Nat.le_add_right _ _)).1
    have hy47 : upd H (off + 4) (some (pieceC 0 [] [] false)) (off + 47) = none := by rw [upd_other _ _ (by omega)]; exact hx47
    have kn := Try.kRdNew (id := off + 47) (off + 1000) hw4 [] hy47
    have hw5 : Wf (upd (upd H (off + 4) (some (pieceC 0 [] [] false))) (off + 47) (some (encRd ⟨[], 0, 0⟩))) A := Wf_upd hw4 (encRd_D _)
    have k1 := Try.kUint48 (H := upd (upd H (off + 4) (some (pieceC 0 [] [] false))) (off + 47) (some (encRd ⟨[], 0, 0⟩))) (A := A) (id := off + 47) (n := 0) (res := 0) (off + 1000) hw5 (upd_same _ _ _) rfl (by simp) (.inr ⟨Nat.le_refl _, rfl, rfl⟩)
    rw [upd_twice] at k1
    have hw6 : Wf (upd (upd H (off + 4) (some (pieceC 0 [] [] false))) (off + 47) (some (encRd ⟨[], 0, 8⟩))) A := Wf_upd hw4 (encRd_D _)
    have k2 := Try.kErr (H := upd (upd H (off + 4) (some (pieceC 0 [] [] false))) (off + 47) (some (encRd ⟨[], 0, 8⟩))) (A := A) (off + 1000) hw6 (upd_same _ _ _)
    simp only at k2
    have e8 : ((8 : Int) != 0) = true := rfl
    have e47 : (off + 4 = off + 47) = False := eq_false (by omega)
    have ha : ∀ x, Above (off + 1000) (upd (upd H (off + 4) (some (pieceC 0 [] [] false))) (off + 47) (some x)) A := fun x => Above_updH hm4 (by omega)
    repeat' (first
     | with_reducible first | refine VC_seq fun K hK => ?_ | refine W_region ?_ | refine VC_block ?_ | refine VC_scope ?_ | refine VC_if ?_ | refine VC_skip ?_ | refine VC_exit ?_ | refine VC_ret ?_
     | (with_reducible first | refine G_not (fun h => ?_) (fun h => ?_) | refine G_cases (fun h => ?_) (fun h => ?_)) <;> (try simp only [h])
     | refine And.intro hx4 ?_
     | refine C_call rfl kr rfl hm4 ?_
     | refine C_pure ku rfl rfl (fun k => (hab _ (Nat.le_add_right _ _)).2 k) ?_
     | refine C_pure kb rfl rfl (fun k => (hab _ (Nat.le_add_right _ _)).2 k) ?_
     | refine C_call rfl kn rfl hm4 ?_
     | refine C_call rfl k1 rfl (ha _) ?_
     | refine C_call rfl k2 rfl (ha _) ?_
     | with_reducible first | (refine hK _ ?_; clear hK K) | (clear hK K; refine hK _ ?_; clear hK K) | (clear hK K; clear hK K; refine hK _ ?_; clear hK K) | (clear hK K; clear hK K; clear hK K; refine hK _ ?_; clear hK K)
     | (with_reducible refine todo ?_; simp +decide only [go_sem, hlh, n4, c1, c2, beq_r1, e8, e47]))
    · refine RetR_same (p := pieceV 0 [] [] false false) ?_ wk_piece oks_piece hw (fun j hj => ?_) (fun _ _ => rfl)
      · show resPVs _ _ [.cell 4 109, .tmp 5] = _
        simp +decide only [go_sem, resPVs, resPs, resOne, joinP, toTVs, PV.tv, pieceV, pieceC, e47]
      · have j4 : j ≠ off + 4 := fun e => hj (by rw [e]; exact hx4)
        have j47 : j ≠ off + 47 := fun e => hj (by rw [e]; exact hx47)
        simp +decide only [go_sem, j4, j47]
  · repeat' (first
     | with_reducible first | refine VC_seq fun K hK => ?_ | refine W_region ?_ | refine VC_block ?_ | refine VC_scope ?_ | refine VC_if ?_ | refine VC_skip ?_ | refine VC_exit ?_ | refine VC_ret ?_
     | (with_reducible first | refine G_not (fun h => ?_) (fun h => ?_) | refine G_cases (fun h => ?_) (fun h => ?_)) <;> (try simp only [h])
     | refine And.intro hx4 ?_
     | refine C_call rfl kr rfl hm4 ?_
     | refine C_pure ku rfl rfl (fun k => (hab _ (Nat.le_add_right _ _)).2 k) ?_
     | with_reducible first | (refine hK _ ?_; clear hK K) | (clear hK K; refine hK _ ?_; clear hK K) | (clear hK K; clear hK K; refine hK _ ?_; clear hK K) | (clear hK K; clear hK K; clear hK K; refine hK _ ?_; clear hK K)
     | (with_reducible refine todo ?_; simp +decide only [go_sem, hlh, n4, c1, c2, beq_r1]))
    · refine RetR_same (p := pieceV 0 [] [] false false) ?_ wk_piece oks_piece hw (fun j hj => ?_) (fun _ _ => rfl)
      · show resPVs _ _ [.cell 4 109, .tmp 5] = _
        simp +decide only [go_sem, resPVs, resPs, resOne, joinP, toTVs, PV.tv, pieceV, pieceC]
      · have j4 : j ≠ off + 4 := fun e => hj (by rw [e]; exact hx4)
        simp +decide only [go_sem, j4]
end wal
end Go.Proofs
