/-
  Parts of the proof, laid together: PwHd, PwHe, PwHf, PwHg, PwHh, PwXa, PwHi, PwHj.
-/
import Derived.Test.YtghlemfokpfngaaQ23

namespace Go.Proofs
open Go.PW
def turnB (t b : Nat) : List UInt8 := sealB ([83] ++ uintB t ++ uintB b)
def nextD (d : Dk) (from_ t b : Nat) : Dk := flD (wrD d ((from_ + t % 2 : Nat) : Int) (turnB t b))
section wal
variable {H : HMap} {A : AMap} {lid did : Nat} {κm κc κr κ' : Tok} {d : Dk} {l : Lg}
set_option maxRecDepth 8000 in
set_option maxHeartbeats 16000000 in
theorem Try.kNext (off : Nat) (hw : Wf H A) (hl : LgAt H A lid did κr l) (hd : DkAt H A did κm κc d) (b : Nat) (hb : b < 9223372036854775808) (ht : l.turn + 1 < 9223372036854775808) (hin : l.from_ + 1 < d.n) (hdn : d.n ≤ 4096) (hcl : d.cache.length + 1 ≤ 1000000)
    (hb1 : burnt d = false) (hb2 : burnt (wrD d ((l.from_ + (l.turn + 1) % 2 : Nat) : Int) (turnB (l.turn + 1) b)) = false) (hκ : A κ' = none) :
    EffOK Try.prog 47 off H A [.c (.ptr lid 0), pD (.lit (.int .i64 b))] (pD (.lit (.int .i64 0)))
      (upd (upd H did (some (encDk κm κ' (nextD d l.from_ (l.turn + 1) b)))) lid (some (encLg did κr { l with turn := l.turn + 1, base := b })))
      (upd (upd (upd A κc (some (.co 2 (d.cache.length + 1)))) κm (some (.mp (encNS (nextD d l.from_ (l.turn + 1) b).stays)))) κ' (some (.co 2 0))) := by
  refine effr_ok (E := envOf Try.prog [56, 60] off [] []) (envOf_ok Try.mixed) Try.func47 rfl Try.call47 (by kernel_rfl) (by exact Nat.le_of_ble_eq_true rfl) (fun hab => ?_)
  have hlh := hl.h
  unfold encLg at hlh
  have hne := hl.ne hd
  have hnc := hl.nc hd
  have hnm := hl.nm hd
  have hlt := hd.lt hab
  have hlt2 := hl.lt hab
  have hid := hd.h
  have c1 : IntKind.i64.wrap ((l.turn : Int) + 1) = ((l.turn + 1 : Nat) : Int) := Go.IntWalk.i64_in _ (by omega)
  have c2 : Int.tmod ((l.turn + 1 : Nat) : Int) 2 = (((l.turn + 1) % 2 : Nat) : Int) := tmod_nat (l.turn + 1) 2
  have c3 : IntKind.i64.wrap ((l.from_ : Int) + (((l.turn + 1) % 2 : Nat) : Int)) = ((l.from_ + (l.turn + 1) % 2 : Nat) : Int) := by rw [Go.IntWalk.i64_in _ (by omega)]; omega
  have kn1 := Try.kNumber (l.turn + 1) ht
  have kn2 := Try.kNumber b hb
  have l1 := uintB_len (l.turn + 1)
  have l2 := uintB_len b
  have ks := Try.kSeal ([83] ++ uintB (l.turn + 1) ++ uintB b) (by simp; omega)
  have hwe : writeE d ((l.from_ + (l.turn + 1) % 2 : Nat) : Int) (turnB (l.turn + 1) b) = 0 := by
    have h1 : dkRight d ((l.from_ + (l.turn + 1) % 2 : Nat) : Int) = 0 := by unfold dkRight; rw [if_neg (by omega), if_neg (by omega)]
    have h2 : (turnB (l.turn + 1) b).length ≤ 128 := sealB_len _
    unfold writeE
    rw [if_neg (by simpa using h1), if_neg (by omega), hb1]
    rfl
  have kw := Try.kWrite (off + 1000) hw hd ((l.from_ + (l.turn + 1) % 2 : Nat) : Int) (turnB (l.turn + 1) b) (by omega) (by omega) hwe
  have hw1 := DkAt.wf (d' := wrD d ((l.from_ + (l.turn + 1) % 2 : Nat) : Int) (turnB (l.turn + 1) b)) hw hd (A' := upd A κc (some (.co 2 (d.cache.length + 1)))) upd_keep
  have hd1 : DkAt (upd H did (some (encDk κm κc (wrD d ((l.from_ + (l.turn + 1) % 2 : Nat) : Int) (turnB (l.turn + 1) b))))) (upd A κc (some (.co 2 (d.cache.length + 1)))) did κm κc (wrD d ((l.from_ + (l.turn + 1) % 2 : Nat) : Int) (turnB (l.turn + 1) b)) :=
    ⟨upd_same _ _ _, by rw [upd_other _ _ hd.ne.symm]; exact hd.m, by rw [upd_same]; simp [wrD]⟩
  have hκ1 : upd A κc (some (.co 2 (d.cache.length + 1))) κ' = none := by rw [upd_other _ _ (fun e => by rw [e, hd.c] at hκ; cases hκ)]; exact hκ
  have kf := Try.kFlush (κ' := κ') (off + 1000) hw1 hd1 (by show 0 < d.n; omega) (by simp [wrD]; omega) hb2 hκ1
  have hnx : flD (wrD d ((l.from_ + (l.turn + 1) % 2 : Nat) : Int) (turnB (l.turn + 1) b)) = nextD d l.from_ (l.turn + 1) b := rfl
  rw [hnx] at kf
  have htb : sealB ([83] ++ uintB (l.turn + 1) ++ uintB b) = turnB (l.turn + 1) b := rfl
  rw [htb] at ks
  have hm : Above (off + 1000) (upd H did (some (encDk κm κc (wrD d ((l.from_ + (l.turn + 1) % 2 : Nat) : Int) (turnB (l.turn + 1) b))))) (upd A κc (some (.co 2 (d.cache.length + 1)))) := Above_updA (Above_updH (Above_mono hab (by omega)) (by omega)) (by omega)
  have kA2 : ∀ κ, A κ ≠ none → upd (upd (upd A κc (some (.co 2 (d.cache.length + 1)))) κm (some (.mp (encNS (nextD d l.from_ (l.turn + 1) b).stays)))) κ' (some (.co 2 0)) κ ≠ none := fun κ h => upd_keep _ (upd_keep _ (upd_keep _ h))
  have hwE : Wf (upd (upd H did (some (encDk κm κ' (nextD d l.from_ (l.turn + 1) b)))) lid (some (encLg did κr { l with turn := l.turn + 1, base := b }))) (upd (upd (upd A κc (some (.co 2 (d.cache.length + 1)))) κm (some (.mp (encNS (nextD d l.from_ (l.turn + 1) b).stays)))) κ' (some (.co 2 0))) := by
    refine Wf_set (A := upd (upd (upd A κc (some (.co 2 (d.cache.length + 1)))) κm (some (.mp (encNS (nextD d l.from_ (l.turn + 1) b).stays)))) κ' (some (.co 2 0))) (Wf_set hw (DkAt.ok (kA2 κm (by rw [hd.m]; simp)) (by rw [upd_same]; simp)) kA2) (LgAt.ok (upd_keepH _ (by rw [upd_same]; simp)) (kA2 κr (by rw [hl.r]; simp))) (fun _ h => h)
  generalize hD : nextD d l.from_ (l.turn + 1) b = dn at *
  generalize hW : wrD d ((l.from_ + (l.turn + 1) % 2 : Nat) : Int) (turnB (l.turn + 1) b) = dw at *
  generalize turnB (l.turn + 1) b = tb at *
  generalize uintB (l.turn + 1) = u1 at *
  generalize uintB b = u2 at *
  have s1 : (1 + u1.length ≤ 9223372036854775807) = True := eq_true (by omega)
  have s2 : (u1.length + 1 + u2.length ≤ 9223372036854775807) = True := eq_true (by omega)
  repeat' (first
   |with_reducible first|refine vSq fun K hK=>?_|refine vRg ?_|refine vBl ?_|refine vSc ?_|refine vIf ?_|refine vSk ?_|refine vEx ?_|refine vRt ?_
   |(with_reducible first|refine gNt (fun h=>?_) (fun h=>?_)|refine gCs (fun h=>?_) (fun h=>?_))<;>(try simp only[h])
   |refine C_pure kn1 rfl rfl (fun k => (hab _ (Nat.le_add_right _ _)).2 k) ?_
   |refine C_pure kn2 rfl rfl (fun k => (hab _ (Nat.le_add_right _ _)).2 k) ?_
   |refine C_pure ks rfl rfl (fun k => (hab _ (Nat.le_add_right _ _)).2 k) ?_
   |refine C_call rfl kw rfl (Above_mono hab (by omega)) ?_
   |refine C_call rfl kf rfl hm ?_
   |with_reducible first|(refine hK _ ?_;clear hK K)|(clear hK K;refine hK _ ?_;clear hK K)|(clear hK K;clear hK K;refine hK _ ?_;clear hK K)|(clear hK K;clear hK K;clear hK K;refine hK _ ?_;clear hK K)
   |(with_reducible refine todo ?_;simp +decide only[go_sem, hlh, c1, c2, c3, zne, s1, s2, hne]))
  refine RetR_eq rfl (wk_c (.inr (.inl ⟨rfl, True.intro⟩))) True.intro hwE ?_ rfl (fun i h => upd_keepH i (upd_keepH i h)) kA2
  intro i _
  show upd (upd (upd (upd H did _) did _) lid _) lid _ i = _
  by_cases e : i = lid
  · subst e
    rw [upd_same, upd_same]
    rfl
  · rw [upd_other _ _ e, upd_other _ _ e, upd_other _ _ e]
    by_cases e2 : i = did
    · subst e2
      rw [upd_same, upd_same]
    · rw [upd_other _ _ e2, upd_other _ _ e2, upd_other _ _ e2]
end wal
end Go.Proofs

namespace Go.Proofs
open Go.PW
def partsK : Nat → List UInt8 → List (List UInt8)
  | 0, s => [s]
  | k + 1, s => if 100 < s.length then s.take 100 :: partsK k (s.drop 100) else [s]
def partsL (s : List UInt8) : List (List UInt8) := partsK s.length s
theorem partsK_small {k : Nat} {s : List UInt8} (h : s.length ≤ 100) : partsK k s = [s] := by
  cases k with
  | zero => rfl
  | succ k => unfold partsK; rw [if_neg (by omega)]
theorem textsD_app (a b : List (List UInt8)) : textsD (a ++ b) = textsD a ++ textsD b := List.map_append
theorem textsD_len (a : List (List UInt8)) : (textsD a).length = a.length := by simp [textsD]
set_option maxRecDepth 8000 in
set_option maxHeartbeats 8000000 in
theorem Try.kParts (s : List UInt8) (hs : s.length ≤ 1000000) : PureOK Try.prog 54 [pD (dS s)] (.one (.d (.sl (textsD (partsL s))))) := by
  refine Try.pure (md := []) Try.func54 rfl Try.call54 (by kernel_rfl) (by rfl) (by exact Nat.le_of_ble_eq_true rfl) ?_
  repeat' (first
   |with_reducible first|refine vSq fun K hK=>?_|refine vRg ?_|refine vBl ?_|refine vSc ?_|refine vIf ?_|refine vSk ?_|refine vEx ?_|refine vRt ?_
   |(with_reducible first|refine gNt (fun h=>?_) (fun h=>?_)|refine gCs (fun h=>?_) (fun h=>?_))<;>(try simp only[h])
   |with_reducible first|(refine hK _ ?_;clear hK K)|(clear hK K;refine hK _ ?_;clear hK K)|(clear hK K;clear hK K;refine hK _ ?_;clear hK K)|(clear hK K;clear hK K;clear hK K;refine hK _ ?_;clear hK K)
   |(with_reducible refine todo ?_;simp +decide only[go_sem]))
  refine VC_while (ι := Nat × List (List UInt8) × List UInt8) (fun x => x.2.1 ++ partsK x.1 x.2.2 = partsL s ∧ x.2.2.length ≤ x.1 ∧ x.1 + x.2.1.length ≤ s.length)
    (fun x => frame [(0, pD (dS x.2.2)), (3, .c (.own (11, 0) (textsD x.2.1)))] [] [((11, 0), .co 1 x.2.1.length)]) (fun x => x.1) (s.length, [], s) ⟨rfl, Nat.le_refl _, by simp⟩ ?_ ?_
  · refine Weak_frame ?_ ?_ ?_
    · simp +decide only [go_sem]
      exact wkP_new rfl (sz := 1) (if_pos rfl)
    · simp +decide only [go_sem]
    · simp +decide only [go_sem]
  · rintro ⟨k, l, r⟩ ⟨h1, h2, h3⟩
    simp only at h1 h2 h3
    have hll := textsD_len l
    rcases Nat.lt_or_ge 100 r.length with hr | hr
    · have hd : ((100 : Int) < (r.length : Int)) = True := eq_true (by omega)
      obtain ⟨k, rfl⟩ : ∃ j, k = j + 1 := ⟨k - 1, by omega⟩
      have ht2 : List.take (r.length - 100) (List.drop 100 r) = r.drop 100 := List.take_of_length_le (by rw [List.length_drop]; omega)
      have hp : partsK (k + 1) r = r.take 100 :: partsK k (r.drop 100) := by
        show (if 100 < r.length then _ else _) = _
        rw [if_pos hr]
      repeat' (first
       |with_reducible first|refine vSq fun K hK=>?_|refine vRg ?_|refine vBl ?_|refine vSc ?_|refine vIf ?_|refine vSk ?_|refine vEx ?_|refine vRt ?_
       |(with_reducible first|refine gNt (fun h=>?_) (fun h=>?_)|refine gCs (fun h=>?_) (fun h=>?_))<;>(try simp only[h])
       |refine W_slcS (a := r) (l := 0) (h := 100) Try.underlying9 rfl rfl (by simp [optNat, natOf?, intOf?]) (by omega) (by omega) ?_
       |refine W_slcS (a := r) (l := 100) (h := r.length) Try.underlying9 rfl (by simp [optNat, natOf?, intOf?]) rfl (by omega) (Nat.le_refl _) ?_
       |(refine W_own Try.appT rfl (szd_texts _) (szOne rfl) (by rw [hll]; simp only [List.length_singleton]; omega) (by rw [hll]; exact if_pos rfl) ?_)
       |with_reducible first|(refine hK _ ?_;clear hK K)|(clear hK K;refine hK _ ?_;clear hK K)|(clear hK K;clear hK K;refine hK _ ?_;clear hK K)|(clear hK K;clear hK K;clear hK K;refine hK _ ?_;clear hK K)
       |(with_reducible refine todo ?_;simp +decide only[go_sem, hd, ht2]))
      have he : textsD l ++ [[dS (r.take 100)]] = textsD (l ++ [r.take 100]) := (textsD_app l [r.take 100]).symm
      refine ⟨⟨(k, l ++ [r.take 100], r.drop 100), ⟨?_, ?_, ?_⟩⟩, Weak_frame ?_ ?_ ?_, by show k < k + 1; omega⟩
      · rw [← h1, hp]; simp
      · simp only [List.length_drop]; omega
      · simp only [List.length_append, List.length_singleton]; omega
      · simp +decide only [go_sem]
        change PV.wk _ _ _ _ (.c (.own (11, 0) (textsD l ++ [[dS (r.take 100)]])))
        rw [he]
        have hx : aOf [((11, 0), Arr.co 1 (l.length + 1))] (11, 0) = some (.co 1 (l.length + 1)) := if_pos rfl
        exact wkP_own (by rw [hx]; simp) (by rw [upd_same, hll]; exact hx)
      · simp +decide only [go_sem]
      · simp +decide only [go_sem, hll]
    · have hd : ((100 : Int) < (r.length : Int)) = False := eq_false (by omega)
      rw [partsK_small hr] at h1
      repeat' (first
       |with_reducible first|refine vSq fun K hK=>?_|refine vRg ?_|refine vBl ?_|refine vSc ?_|refine vIf ?_|refine vSk ?_|refine vEx ?_|refine vRt ?_
       |(with_reducible first|refine gNt (fun h=>?_) (fun h=>?_)|refine gCs (fun h=>?_) (fun h=>?_))<;>(try simp only[h])
       |(refine W_own Try.appT rfl (szd_texts _) (szOne rfl) (by rw [hll]; simp only [List.length_singleton]; omega) (by rw [hll]; exact if_pos rfl) ?_)
       |with_reducible first|(refine hK _ ?_;clear hK K)|(clear hK K;refine hK _ ?_;clear hK K)|(clear hK K;clear hK K;refine hK _ ?_;clear hK K)|(clear hK K;clear hK K;clear hK K;refine hK _ ?_;clear hK K)
       |(with_reducible refine todo ?_;simp +decide only[go_sem, hd]))
      refine Ret_d rfl ?_
      rw [← h1, textsD_app]
      rfl
end Go.Proofs

namespace Go.Proofs
open Go.PW
section wal
variable {H : HMap} {A : AMap} {lid did : Nat} {κm κc κr κ' : Tok} {d : Dk} {l : Lg}
theorem Lg.unhalted (h : l.halted = false) : { l with halted := l.halted || ((0 : Int) != 0) } = l := by
  cases l
  simp only at h
  subst h
  rfl
set_option maxRecDepth 8000 in
set_option maxHeartbeats 16000000 in
theorem Try.kCommit (off : Nat) (hw : Wf H A) (hl : LgAt H A lid did κr l) (hd : DkAt H A did κm κc d) (hh : l.halted = false) (hn : 0 < d.n) (hcl : d.cache.length ≤ 1000000) (hb : burnt d = false) (hκ : A κ' = none) (hκb : κ'.1 < off + 1000) :
    EffOK Try.prog 34 off H A [.c (.ptr lid 0)] (pD (.lit (.int .i64 0))) (upd H did (some (encDk κm κ' (flD d)))) (upd (upd A κm (some (.mp (encNS (flD d).stays)))) κ' (some (.co 2 0))) := by
  refine effr_ok (E := envOf Try.prog [53, 55, 60] off [] []) (envOf_ok Try.mixed) Try.func34 rfl Try.call34 (by kernel_rfl) (by exact Nat.le_of_ble_eq_true rfl) (fun hab => ?_)
  have hlh := hl.h
  have hne := hl.ne hd
  have hlt := hd.lt hab
  have hlt2 := hl.lt hab
  have ks := Try.kState (off + 1000) hw hl hh
  have kf := Try.kFlush (κ' := κ') (off + 1000) hw hd hn hcl hb hκ
  have kA2 : ∀ κ, A κ ≠ none → upd (upd A κm (some (.mp (encNS (flD d).stays)))) κ' (some (.co 2 0)) κ ≠ none := fun κ h => upd_keep _ (upd_keep _ h)
  have hw2 : Wf (upd H did (some (encDk κm κ' (flD d)))) (upd (upd A κm (some (.mp (encNS (flD d).stays)))) κ' (some (.co 2 0))) := Wf_set hw (DkAt.ok (kA2 κm (by rw [hd.m]; simp)) (by rw [upd_same]; simp)) kA2
  have nκ : κr ≠ κ' := fun e => by have := hl.r; rw [e, hκ] at this; cases this
  have hl2 : LgAt (upd H did (some (encDk κm κ' (flD d)))) (upd (upd A κm (some (.mp (encNS (flD d).stays)))) κ' (some (.co 2 0))) lid did κr l := ⟨by rw [upd_other _ _ hne]; exact hl.h, by rw [upd_other _ _ nκ, upd_other _ _ (hl.nm hd)]; exact hl.r⟩
  have kt := Try.kTook (off + 1000) hw2 hl2 (by rw [upd_same]; simp) 0
  rw [Lg.unhalted hh, upd_self hl2.h] at kt
  have hm : Above (off + 1000) (upd H did (some (encDk κm κ' (flD d)))) (upd (upd A κm (some (.mp (encNS (flD d).stays)))) κ' (some (.co 2 0))) := Above_updA (Above_updA (Above_updH (Above_mono hab (by omega)) (by omega)) (by omega)) hκb
  unfold encLg at hlh
  repeat' (first
   |with_reducible first|refine vSq fun K hK=>?_|refine vRg ?_|refine vBl ?_|refine vSc ?_|refine vIf ?_|refine vSk ?_|refine vEx ?_|refine vRt ?_
   |(with_reducible first|refine gNt (fun h=>?_) (fun h=>?_)|refine gCs (fun h=>?_) (fun h=>?_))<;>(try simp only[h])
   |refine C_call rfl ks rfl (Above_mono hab (by omega)) ?_
   |refine C_call rfl kf rfl (Above_mono hab (by omega)) ?_
   |refine C_call rfl kt rfl hm ?_
   |with_reducible first|(refine hK _ ?_;clear hK K)|(clear hK K;refine hK _ ?_;clear hK K)|(clear hK K;clear hK K;refine hK _ ?_;clear hK K)|(clear hK K;clear hK K;clear hK K;refine hK _ ?_;clear hK K)
   |(with_reducible refine todo ?_;simp +decide only[go_sem, hlh, zne]))
  exact RetR_eq rfl (wk_c (.inr (.inl ⟨rfl, True.intro⟩))) True.intro hw2 (fun _ _ => rfl) rfl upd_keepH kA2
end wal
end Go.Proofs

namespace Go.Proofs
open Go.PW
theorem partsK_len : ∀ (k : Nat) (s : List UInt8), s.length ≤ k → (partsK k s).length = needN s.length
  | 0, s, h => by
    have : s.length = 0 := by omega
    show 1 = _
    unfold needN
    rw [this]; rfl
  | k + 1, s, h => by
    unfold partsK
    by_cases hs : 100 < s.length
    · rw [if_pos hs, List.length_cons, partsK_len k (s.drop 100) (by rw [List.length_drop]; omega), List.length_drop]
      unfold needN
      omega
    · rw [if_neg hs]
      show 1 = _
      unfold needN
      omega
theorem partsL_len (s : List UInt8) : (partsL s).length = needN s.length := partsK_len _ s (Nat.le_refl _)
theorem partsK_mem : ∀ (k : Nat) (s : List UInt8), s.length ≤ k → ∀ p ∈ partsK k s, p.length ≤ 100
  | 0, s, h, p, hp => by
    have : p = s := by simpa [partsK] using hp
    rw [this]; omega
  | k + 1, s, h, p, hp => by
    unfold partsK at hp
    by_cases hs : 100 < s.length
    · rw [if_pos hs] at hp
      rcases List.mem_cons.1 hp with rfl | hp
      · rw [List.length_take]; omega
      · exact partsK_mem k (s.drop 100) (by rw [List.length_drop]; omega) p hp
    · rw [if_neg hs] at hp
      rw [List.mem_singleton.1 hp]; omega
theorem partsL_mem (s : List UInt8) : ∀ p ∈ partsL s, p.length ≤ 100 := partsK_mem _ s (Nat.le_refl _)
def placeB (l : Lg) (s : List UInt8) (m k : Nat) (p : List UInt8) : List UInt8 := sealB (headL l.turn (l.used + k) (if k + 1 = m then 0 else 1) ++ sum4 s ++ p)
def apD (l : Lg) (s : List UInt8) (m : Nat) (cut : List (List UInt8)) (d : Dk) : Nat → Dk
  | 0 => d
  | k + 1 => wrD (apD l s m cut d k) ((l.from_ + 2 + (l.used + k) : Nat) : Int) (placeB l s m k (cut.getD k []))
theorem apD_spec (l : Lg) (s : List UInt8) (m : Nat) (cut : List (List UInt8)) (d : Dk) : ∀ k, (apD l s m cut d k).n = d.n ∧ (apD l s m cut d k).cache.length = d.cache.length + k ∧ (apD l s m cut d k).fused = d.fused ∧ (apD l s m cut d k).stays = d.stays
  | 0 => ⟨rfl, rfl, rfl, rfl⟩
  | k + 1 => by
    obtain ⟨h1, h2, h3, h4⟩ := apD_spec l s m cut d k
    exact ⟨h1, by simp [apD, wrD, h2, Nat.add_assoc], h3, h4⟩
section wal
variable {H : HMap} {A : AMap} {lid did : Nat} {κm κc κr κ' : Tok} {d : Dk} {l : Lg}
end wal
end Go.Proofs

namespace Go.Proofs
open Go.PW
def tx (l : List (List UInt8)) : PV := .c (.d (.sl (textsD l)))
theorem textsD_get {l : List (List UInt8)} {i : Nat} (h : i < l.length) : (textsD l)[i]? = some [dS l[i]] := by
  unfold textsD; rw [List.getElem?_map, List.getElem?_eq_getElem h]; rfl
end Go.Proofs

namespace Go.Proofs
open Go.PW
set_option maxRecDepth 8000 in
set_option maxHeartbeats 8000000 in
theorem Try.kTexts (a b : List (List UInt8)) (ha : a.length ≤ 1000000) : PureOK Try.prog 13 [tx a, tx b] (.one (.d (.lit (.bool (a == b))))) := by
  refine Try.pure (md := []) Try.func13 rfl Try.call13 (by kernel_rfl) (by rfl) (by exact Nat.le_of_ble_eq_true rfl) ?_
  unfold tx
  have la := textsD_len a
  have lb := textsD_len b
  by_cases hl : a.length = b.length
  · have hne : (((textsD a).length : Int) != ((textsD b).length : Int)) = false := by rw [la, lb, hl]; simp
    repeat' (first
     |with_reducible first|refine vSq fun K hK=>?_|refine vRg ?_|refine vBl ?_|refine vSc ?_|refine vIf ?_|refine vSk ?_|refine vEx ?_|refine vRt ?_
     |(with_reducible first|refine gNt (fun h=>?_) (fun h=>?_)|refine gCs (fun h=>?_) (fun h=>?_))<;>(try simp only[h])
     |with_reducible first|(refine hK _ ?_;clear hK K)|(clear hK K;refine hK _ ?_;clear hK K)|(clear hK K;clear hK K;refine hK _ ?_;clear hK K)|(clear hK K;clear hK K;clear hK K;refine hK _ ?_;clear hK K)
     |(with_reducible refine todo ?_;simp +decide only[go_sem, hne]))
    refine VC_range a.length (fun i => a.take i = b.take i) (fun i => frame [(0, .c (.d (.sl (textsD a)))), (1, .c (.d (.sl (textsD b)))), (5, pD (.lit (.int .i64 i)))] [] []) rfl ?_ ?_
    · refine Weak_frame ?_ ?_ ?_ <;> simp +decide only [go_sem]
    · intro i hi h0
      rcases Nat.lt_or_ge i a.length with hi2 | hi2
      · have hc := int_lt_true hi2
        rw [← la] at hc
        have hnx := int_next hi2 (by omega)
        have g1 := textsD_get hi2
        have g2 := textsD_get (l := b) (i := i) (by omega)
        cases hq : (a[i] == b[i]) with
        | true =>
          have hq' : a[i] = b[i] := by simpa using hq
          repeat' (first
           |with_reducible first|refine vSq fun K hK=>?_|refine vRg ?_|refine vBl ?_|refine vSc ?_|refine vIf ?_|refine vSk ?_|refine vEx ?_|refine vRt ?_
           |(with_reducible first|refine gNt (fun h=>?_) (fun h=>?_)|refine gCs (fun h=>?_) (fun h=>?_))<;>(try simp only[h])
           |with_reducible first|(refine hK _ ?_;clear hK K)|(clear hK K;refine hK _ ?_;clear hK K)|(clear hK K;clear hK K;refine hK _ ?_;clear hK K)|(clear hK K;clear hK K;clear hK K;refine hK _ ?_;clear hK K)
           |(with_reducible refine todo ?_;simp +decide only[go_sem, hc, hnx, g1, g2, hq]))
          refine Next_of hi2 ?_ (Weak_frame ?_ ?_ ?_)
          · rw [List.take_add_one, List.take_add_one, h0, List.getElem?_eq_getElem hi2, List.getElem?_eq_getElem (l := b) (by omega), hq']
          · simp +decide only [go_sem]
          · simp +decide only [go_sem]
          · simp +decide only [go_sem]
        | false =>
          have hab : (a == b) = false := by
            rw [beq_eq_false_iff_ne]
            intro e
            subst e
            simp at hq
          repeat' (first
           |with_reducible first|refine vSq fun K hK=>?_|refine vRg ?_|refine vBl ?_|refine vSc ?_|refine vIf ?_|refine vSk ?_|refine vEx ?_|refine vRt ?_
           |(with_reducible first|refine gNt (fun h=>?_) (fun h=>?_)|refine gCs (fun h=>?_) (fun h=>?_))<;>(try simp only[h])
           |with_reducible first|(refine hK _ ?_;clear hK K)|(clear hK K;refine hK _ ?_;clear hK K)|(clear hK K;clear hK K;refine hK _ ?_;clear hK K)|(clear hK K;clear hK K;clear hK K;refine hK _ ?_;clear hK K)
           |(with_reducible refine todo ?_;simp +decide only[go_sem, hc, g1, g2, hq]))
          rw [hab]
          exact Ret_d rfl rfl
      · have hc := int_lt_false hi2
        rw [← la] at hc
        rw [List.take_of_length_le hi2, List.take_of_length_le (by omega)] at h0
        subst h0
        repeat' (first
         |with_reducible first|refine vSq fun K hK=>?_|refine vRg ?_|refine vBl ?_|refine vSc ?_|refine vIf ?_|refine vSk ?_|refine vEx ?_|refine vRt ?_
         |(with_reducible first|refine gNt (fun h=>?_) (fun h=>?_)|refine gCs (fun h=>?_) (fun h=>?_))<;>(try simp only[h])
         |with_reducible first|(refine hK _ ?_;clear hK K)|(clear hK K;refine hK _ ?_;clear hK K)|(clear hK K;clear hK K;refine hK _ ?_;clear hK K)|(clear hK K;clear hK K;clear hK K;refine hK _ ?_;clear hK K)
         |(with_reducible refine todo ?_;simp +decide only[go_sem, hc]))
        exact Ret_d rfl rfl
  · have hne : (((textsD a).length : Int) != ((textsD b).length : Int)) = true := by rw [la, lb]; simp; omega
    have hab : (a == b) = false := by
      rw [beq_eq_false_iff_ne]
      intro e
      exact hl (by rw [e])
    repeat' (first
     |with_reducible first|refine vSq fun K hK=>?_|refine vRg ?_|refine vBl ?_|refine vSc ?_|refine vIf ?_|refine vSk ?_|refine vEx ?_|refine vRt ?_
     |(with_reducible first|refine gNt (fun h=>?_) (fun h=>?_)|refine gCs (fun h=>?_) (fun h=>?_))<;>(try simp only[h])
     |with_reducible first|(refine hK _ ?_;clear hK K)|(clear hK K;refine hK _ ?_;clear hK K)|(clear hK K;clear hK K;refine hK _ ?_;clear hK K)|(clear hK K;clear hK K;clear hK K;refine hK _ ?_;clear hK K)
     |(with_reducible refine todo ?_;simp +decide only[go_sem, hne]))
    rw [hab]
    exact Ret_d rfl rfl
end Go.Proofs

namespace Go.Proofs
open Go.PW
def pieceC (t : Nat) (sm pt : List UInt8) (more : Bool) : List CV := [.d (.lit (.int .i64 t)), .d (dS sm), .d (dS pt), .d (.lit (.bool more))]
def pieceV (t : Nat) (sm pt : List UInt8) (more ok : Bool) : PV := .tup [.agg (pieceC t sm pt more), .c (.d (.lit (.bool ok)))]
theorem wk_piece {H' : HMap} {A A' : AMap} {t : Nat} {sm pt : List UInt8} {more ok : Bool} : PV.wk H' A A' (pieceV t sm pt more ok) (pieceV t sm pt more ok) := by
  refine ⟨rfl, fun k a b h1 h2 => ?_⟩
  rw [h1] at h2
  cases h2
  match k, h1 with
  | 0, e =>
    cases e
    refine ⟨rfl, fun j c d h3 h4 => ?_⟩
    rw [h3] at h4
    cases h4
    match j, h3 with
    | 0, e => cases e; exact .inr (.inl ⟨rfl, True.intro⟩)
    | 1, e => cases e; exact .inr (.inl ⟨rfl, True.intro⟩)
    | 2, e => cases e; exact .inr (.inl ⟨rfl, True.intro⟩)
    | 3, e => cases e; exact .inr (.inl ⟨rfl, True.intro⟩)
  | 1, e => cases e; exact .inr (.inl ⟨rfl, True.intro⟩)
theorem oks_piece {hk : Nat → Prop} {tk : Tok → Prop} {t : Nat} {sm pt : List UInt8} {more ok : Bool} : PV.oks hk tk (pieceV t sm pt more ok) := fun z hz => by
  rcases List.mem_cons.1 hz with rfl | hz
  · intro c hc
    simp only [pieceC, List.mem_cons, List.not_mem_nil, or_false] at hc
    rcases hc with rfl | rfl | rfl | rfl <;> exact True.intro
  · rw [List.mem_singleton.1 hz]; exact True.intro
theorem beq_r1 : ((1 : Nat) == 19004) = false := rfl
theorem beq_r17 : ((17 : Nat) == 19004) = false := rfl
theorem beq_r18 : ((18 : Nat) == 19004) = false := rfl
section wal
variable {H : HMap} {A : AMap} {lid did : Nat} {κm κc κr : Tok} {d : Dk} {l : Lg}
set_option maxRecDepth 8000 in
set_option maxHeartbeats 16000000 in
theorem Try.kAtE (off : Nat) (hw : Wf H A) (hl : LgAt H A lid did κr l) (hd : DkAt H A did κm κc d) (hcl : d.cache.length ≤ 1000000) (i : Nat) (hin : l.from_ + 2 + i < d.n) (hdn : d.n ≤ 4096) (hs : (rd d ((l.from_ + 2 + i : Nat) : Int)).length ≤ 128)
    (hc : unsealB (rd d ((l.from_ + 2 + i : Nat) : Int)) = some [] ∨ unsealB (rd d ((l.from_ + 2 + i : Nat) : Int)) = none) :
    EffOK Try.prog 70 off H A [.c (.ptr lid 0), pD (.lit (.int .i64 i))] (pieceV 0 [] [] false false) H A := by
  refine effr_ok (E := envOf Try.prog [43, 66, 67, 68] off [] [19004]) (envOf_ok Try.mixed) Try.func70 rfl Try.call70 (by kernel_rfl) (by exact Nat.le_of_ble_eq_true rfl) (fun hab => ?_)
  have hlh := hl.h
  unfold encLg at hlh
  have hlt := hd.lt hab
  have hlt2 := hl.lt hab
  have n4 : lid ≠ off + 4 := by omega
  have nd4 : did ≠ off + 4 := by omega
  have hx4 : H (off + 4) = none := (hab _ (Nat.le_add_right _ _)).1
  have c1 : IntKind.i64.wrap ((l.from_ : Int) + 2) = ((l.from_ + 2 : Nat) : Int) := Go.IntWalk.i64_in _ (by omega)
  have c2 : IntKind.i64.wrap (((l.from_ + 2 : Nat) : Int) + (i : Int)) = ((l.from_ + 2 + i : Nat) : Int) := by rw [Go.IntWalk.i64_in _ (by omega)]; omega
  have hrt : dkRight d ((l.from_ + 2 + i : Nat) : Int) = 0 := by unfold dkRight; rw [if_neg (by omega), if_neg (by omega)]
  have hw4 : Wf (upd H (off + 4) (some (pieceC 0 [] [] false))) A := Wf_upd hw rfl
  have kr := Try.kRead (off + 1000) hw4 (hd.updH nd4) ((l.from_ + 2 + i : Nat) : Int) (by omega) hcl
  unfold readPV at kr
  rw [if_pos hrt] at kr
  generalize rd d ((l.from_ + 2 + i : Nat) : Int) = s at *
  have ku := Try.kUnseal s (by omega)
  have hm4 : Above (off + 1000) (upd H (off + 4) (some (pieceC 0 [] [] false))) A := Above_updH (Above_mono hab (by omega)) (by omega)
  rcases hc with h1 | h1 <;> rw [h1] at ku <;> simp only [optS] at ku
  · have kb := Try.kBehind [] [76]
    have hbe : behindL [] [76] = none := rfl
    unfold behRV at kb
    rw [hbe] at kb
    simp only at kb
    have hx47 : H (off + 47) = none := (hab _ (Nat.le_add_right _ _)).1
    have hy47 : upd H (off + 4) (some (pieceC 0 [] [] false)) (off + 47) = none := by rw [upd_other _ _ (by omega)]; exact hx47
    have kn := Try.kRdNew (id := off + 47) (off + 1000) hw4 [] hy47
    have hw5 : Wf (upd (upd H (off + 4) (some (pieceC 0 [] [] false))) (off + 47) (some (encRd ⟨[], 0, 0⟩))) A := Wf_upd hw4 (encRd_D _)
    have k1 := Try.kUint48 (H := upd (upd H (off + 4) (some (pieceC 0 [] [] false))) (off + 47) (some (encRd ⟨[], 0, 0⟩))) (A := A) (id := off + 47) (n := 0) (res := 0) (off + 1000) hw5 (upd_same _ _ _) rfl (by simp) (.inr ⟨Nat.le_refl _, rfl, rfl⟩)
    rw [upd_twice] at k1
    have hw6 : Wf (upd (upd H (off + 4) (some (pieceC 0 [] [] false))) (off + 47) (some (encRd ⟨[], 0, 8⟩))) A := Wf_upd hw4 (encRd_D _)
    have k2 := Try.kErr (H := upd (upd H (off + 4) (some (pieceC 0 [] [] false))) (off + 47) (some (encRd ⟨[], 0, 8⟩))) (A := A) (off + 1000) hw6 (upd_same _ _ _)
    simp only at k2
    have e8 : ((8 : Int) != 0) = true := rfl
    have e47 : (off + 4 = off + 47) = False := eq_false (by omega)
    have ha : ∀ x, Above (off + 1000) (upd (upd H (off + 4) (some (pieceC 0 [] [] false))) (off + 47) (some x)) A := fun x => Above_updH hm4 (by omega)
    repeat' (first
     |with_reducible first|refine vSq fun K hK=>?_|refine vRg ?_|refine vBl ?_|refine vSc ?_|refine vIf ?_|refine vSk ?_|refine vEx ?_|refine vRt ?_
     |(with_reducible first|refine gNt (fun h=>?_) (fun h=>?_)|refine gCs (fun h=>?_) (fun h=>?_))<;>(try simp only[h])
     |refine And.intro hx4 ?_
     |refine C_call rfl kr rfl hm4 ?_
     |refine C_pure ku rfl rfl (fun k => (hab _ (Nat.le_add_right _ _)).2 k) ?_
     |refine C_pure kb rfl rfl (fun k => (hab _ (Nat.le_add_right _ _)).2 k) ?_
     |refine C_call rfl kn rfl hm4 ?_
     |refine C_call rfl k1 rfl (ha _) ?_
     |refine C_call rfl k2 rfl (ha _) ?_
     |with_reducible first|(refine hK _ ?_;clear hK K)|(clear hK K;refine hK _ ?_;clear hK K)|(clear hK K;clear hK K;refine hK _ ?_;clear hK K)|(clear hK K;clear hK K;clear hK K;refine hK _ ?_;clear hK K)
     |(with_reducible refine todo ?_;simp +decide only[go_sem, hlh, n4, c1, c2, beq_r1, e8, e47]))
    · refine RetR_same (p := pieceV 0 [] [] false false) ?_ wk_piece oks_piece hw (fun j hj => ?_) (fun _ _ => rfl)
      · show resPVs _ _ [.cell 4 95, .tmp 5] = _
        simp +decide only [go_sem, resPVs, resPs, resOne, joinP, toTVs, PV.tv, pieceV, pieceC, e47]
      · have j4 : j ≠ off + 4 := fun e => hj (by rw [e]; exact hx4)
        have j47 : j ≠ off + 47 := fun e => hj (by rw [e]; exact hx47)
        simp +decide only [go_sem, j4, j47]
  · repeat' (first
     |with_reducible first|refine vSq fun K hK=>?_|refine vRg ?_|refine vBl ?_|refine vSc ?_|refine vIf ?_|refine vSk ?_|refine vEx ?_|refine vRt ?_
     |(with_reducible first|refine gNt (fun h=>?_) (fun h=>?_)|refine gCs (fun h=>?_) (fun h=>?_))<;>(try simp only[h])
     |refine And.intro hx4 ?_
     |refine C_call rfl kr rfl hm4 ?_
     |refine C_pure ku rfl rfl (fun k => (hab _ (Nat.le_add_right _ _)).2 k) ?_
     |with_reducible first|(refine hK _ ?_;clear hK K)|(clear hK K;refine hK _ ?_;clear hK K)|(clear hK K;clear hK K;refine hK _ ?_;clear hK K)|(clear hK K;clear hK K;clear hK K;refine hK _ ?_;clear hK K)
     |(with_reducible refine todo ?_;simp +decide only[go_sem, hlh, n4, c1, c2, beq_r1]))
    · refine RetR_same (p := pieceV 0 [] [] false false) ?_ wk_piece oks_piece hw (fun j hj => ?_) (fun _ _ => rfl)
      · show resPVs _ _ [.cell 4 95, .tmp 5] = _
        simp +decide only [go_sem, resPVs, resPs, resOne, joinP, toTVs, PV.tv, pieceV, pieceC]
      · have j4 : j ≠ off + 4 := fun e => hj (by rw [e]; exact hx4)
        simp +decide only [go_sem, j4]
end wal
end Go.Proofs

namespace Go.Proofs
open Go.PW
theorem behindL_app (h r : List UInt8) : behindL (h ++ r) h = some r := by
  unfold behindL
  rw [List.take_left, if_pos rfl, List.drop_left]
theorem headL_one (t i : Nat) (r : List UInt8) : behindL (headL t i 0 ++ r) (headL t i 1) = none := by
  have hl : (headL t i 1).length = (headL t i 0).length := by
    simp only [headL, List.length_append]
    rfl
  unfold behindL
  rw [hl, List.take_left, if_neg]
  intro e
  unfold headL at e
  have := List.append_cancel_left e
  cases this
section wal
variable {H : HMap} {A : AMap} {lid did : Nat} {κm κc κr : Tok} {d : Dk} {l : Lg}
set_option maxRecDepth 8000 in
set_option maxHeartbeats 32000000 in
theorem Try.kAtP (off : Nat) (hw : Wf H A) (hl : LgAt H A lid did κr l) (hd : DkAt H A did κm κc d) (hcl : d.cache.length ≤ 1000000) (i : Nat) (hin : l.from_ + 2 + i < d.n) (hdn : d.n ≤ 4096) (hs : (rd d ((l.from_ + 2 + i : Nat) : Int)).length ≤ 128)
    (t : Nat) (sm pt : List UInt8) (more : Bool) (ht : t ≤ 1099511627776) (hsm : sm.length = 4) (hpt : pt.length ≤ 100) (hpm : more = true → pt.length = 100)
    (hc : unsealB (rd d ((l.from_ + 2 + i : Nat) : Int)) = some (headL t i (if more = true then 1 else 0) ++ (sm ++ pt))) :
    EffOK Try.prog 70 off H A [.c (.ptr lid 0), pD (.lit (.int .i64 i))] (pieceV t sm pt more true) H A := by
  refine effr_ok (E := envOf Try.prog [43, 66, 67, 68] off [] [19004]) (envOf_ok Try.mixed) Try.func70 rfl Try.call70 (by kernel_rfl) (by exact Nat.le_of_ble_eq_true rfl) (fun hab => ?_)
  have hlh := hl.h
  unfold encLg at hlh
  have hlt := hd.lt hab
  have hlt2 := hl.lt hab
  have n4 : lid ≠ off + 4 := by omega
  have nd4 : did ≠ off + 4 := by omega
  have hx4 : H (off + 4) = none := (hab _ (Nat.le_add_right _ _)).1
  have hx17 : H (off + 17) = none := (hab _ (Nat.le_add_right _ _)).1
  have hx47 : H (off + 47) = none := (hab _ (Nat.le_add_right _ _)).1
  have c1 : IntKind.i64.wrap ((l.from_ : Int) + 2) = ((l.from_ + 2 : Nat) : Int) := Go.IntWalk.i64_in _ (by omega)
  have c2 : IntKind.i64.wrap (((l.from_ + 2 : Nat) : Int) + (i : Int)) = ((l.from_ + 2 + i : Nat) : Int) := by rw [Go.IntWalk.i64_in _ (by omega)]; omega
  have c3 : IntKind.i64.wrap (t : Int) = (t : Int) := Go.IntWalk.i64_in _ (by omega)
  have g1 : ((1099511627776 : Int) < (t : Int)) = False := eq_false (by omega)
  have hrt : dkRight d ((l.from_ + 2 + i : Nat) : Int) = 0 := by unfold dkRight; rw [if_neg (by omega), if_neg (by omega)]
  have hw4 : Wf (upd H (off + 4) (some (pieceC 0 [] [] false))) A := Wf_upd hw rfl
  have kr := Try.kRead (off + 1000) hw4 (hd.updH nd4) ((l.from_ + 2 + i : Nat) : Int) (by omega) hcl
  unfold readPV at kr
  rw [if_pos hrt] at kr
  generalize rd d ((l.from_ + 2 + i : Nat) : Int) = s at *
  have ku := Try.kUnseal s (by omega)
  have hm4 : Above (off + 1000) (upd H (off + 4) (some (pieceC 0 [] [] false))) A := Above_updH (Above_mono hab (by omega)) (by omega)
  rw [hc] at ku
  simp only [optS] at ku
  have kb := Try.kBehind (headL t i (if more = true then 1 else 0) ++ (sm ++ pt)) [76]
  have hbe : behindL (headL t i (if more = true then 1 else 0) ++ (sm ++ pt)) [76] = some (uintB t ++ (uintB i ++ uintB (if more = true then 1 else 0) ++ (sm ++ pt))) := by
    have : headL t i (if more = true then 1 else 0) ++ (sm ++ pt) = [76] ++ (uintB t ++ (uintB i ++ uintB (if more = true then 1 else 0) ++ (sm ++ pt))) := by simp [headL]
    rw [this, behindL_app]
  unfold behRV at kb
  rw [hbe] at kb
  simp only at kb
  have hy47 : upd H (off + 4) (some (pieceC 0 [] [] false)) (off + 47) = none := by rw [upd_other _ _ (by omega)]; exact hx47
  have l1 := uintB_len t
  have l2 := uintB_len i
  have l3 := uintB_len (if more = true then 1 else 0)
  generalize hR : uintB i ++ uintB (if more = true then 1 else 0) ++ (sm ++ pt) = R at *
  have lR : R.length ≤ 126 := by rw [← hR]; simp; omega
  have kn := Try.kRdNew (id := off + 47) (off + 1000) hw4 (uintB t ++ R) hy47
  have hw5 : Wf (upd (upd H (off + 4) (some (pieceC 0 [] [] false))) (off + 47) (some (encRd ⟨uintB t ++ R, 0, 0⟩))) A := Wf_upd hw4 (encRd_D _)
  have k1 := Try.kUint48 (H := upd (upd H (off + 4) (some (pieceC 0 [] [] false))) (off + 47) (some (encRd ⟨uintB t ++ R, 0, 0⟩))) (A := A) (id := off + 47) (n := t) (res := t) (off + 1000) hw5 (upd_same _ _ _) rfl (by simp; omega) (.inl ⟨R, rfl, by omega, rfl, rfl⟩)
  rw [upd_twice] at k1
  simp only [Nat.zero_add] at k1
  have hw6 : Wf (upd (upd H (off + 4) (some (pieceC 0 [] [] false))) (off + 47) (some (encRd ⟨uintB t ++ R, (uintB t).length, 0⟩))) A := Wf_upd hw4 (encRd_D _)
  have k2 := Try.kErr (H := upd (upd H (off + 4) (some (pieceC 0 [] [] false))) (off + 47) (some (encRd ⟨uintB t ++ R, (uintB t).length, 0⟩))) (A := A) (off + 1000) hw6 (upd_same _ _ _)
  simp only at k2
  have kh1 := Try.kHead t i 1 (by omega) (by omega) (by omega)
  have kh0 := Try.kHead t i 0 (by omega) (by omega) (by omega)
  have e47 : (off + 4 = off + 47) = False := eq_false (by omega)
  have e17 : (off + 17 = off + 47) = False := eq_false (by omega)
  have e174 : (off + 17 = off + 4) = False := eq_false (by omega)
  have e417 : (off + 4 = off + 17) = False := eq_false (by omega)
  have q4 : (sm ++ pt).length = 4 + pt.length := by rw [List.length_append, hsm]
  have qq : (((4 + pt.length : Nat) : Int) < 4) = False := eq_false (by omega)
  have q100 : ((pt.length : Int) ≤ 100) = True := eq_true (by omega)
  have ha : ∀ x, Above (off + 1000) (upd (upd H (off + 4) (some (pieceC 0 [] [] false))) (off + 47) (some x)) A := fun x => Above_updH hm4 (by omega)
  have m4 : 19004 % 1000 = 4 := rfl
  have b1 : ([off + 4] : List Nat).contains (off + 17) = false := by simp
  have b2 : ([off + 4] : List Nat).contains (off + 4) = true := by simp
  have ft : List.take (4 - 0) (sm ++ pt) = sm := by rw [show 4 - 0 = sm.length by omega, List.take_left]
  have fp : List.take (4 + pt.length - 4) (List.drop 4 (sm ++ pt)) = pt := by
    rw [show List.drop 4 (sm ++ pt) = pt by rw [← hsm, List.drop_left], show 4 + pt.length - 4 = pt.length by omega, List.take_length]
  generalize uintB t = ut at *
  cases more with
  | true =>
    simp only [if_true] at kb ku
    have kc := Try.kBehind (headL t i 1 ++ (sm ++ pt)) (headL t i 1)
    unfold behRV at kc
    rw [behindL_app] at kc
    simp only at kc
    generalize headL t i 1 = h1 at *
    have qe : ((pt.length : Int) == 100) = true := by rw [beq_iff_eq, hpm rfl]; rfl
    generalize hT : sm ++ pt = T at *
    repeat' (first
     |with_reducible first|refine vSq fun K hK=>?_|refine vRg ?_|refine vBl ?_|refine vSc ?_|refine vIf ?_|refine vSk ?_|refine vEx ?_|refine vRt ?_
     |(with_reducible first|refine gNt (fun h=>?_) (fun h=>?_)|refine gCs (fun h=>?_) (fun h=>?_))<;>(try simp only[h])
     |refine W_slcS (a := T) (l := 0) (h := 4) Try.underlying9 rfl rfl (by simp [optNat, natOf?, intOf?]) (by omega) (by omega) ?_
     |refine W_slcS (a := T) (l := 4) (h := T.length) Try.underlying9 rfl (by simp [optNat, natOf?, intOf?]) rfl (by omega) (Nat.le_refl _) ?_
     |refine And.intro hx4 ?_
     |refine And.intro hx17 ?_
     |refine C_call rfl kr rfl hm4 ?_
     |refine C_pure ku rfl rfl (fun k => (hab _ (Nat.le_add_right _ _)).2 k) ?_
     |refine C_pure kb rfl rfl (fun k => (hab _ (Nat.le_add_right _ _)).2 k) ?_
     |refine C_pure kc rfl rfl (fun k => (hab _ (Nat.le_add_right _ _)).2 k) ?_
     |refine C_pure kh1 rfl rfl (fun k => (hab _ (Nat.le_add_right _ _)).2 k) ?_
     |refine C_call rfl kn rfl hm4 ?_
     |refine C_call rfl k1 rfl (ha _) ?_
     |refine C_call rfl k2 rfl (ha _) ?_
     |with_reducible first|(refine hK _ ?_;clear hK K)|(clear hK K;refine hK _ ?_;clear hK K)|(clear hK K;clear hK K;refine hK _ ?_;clear hK K)|(clear hK K;clear hK K;clear hK K;refine hK _ ?_;clear hK K)
     |(with_reducible refine todo ?_;simp +decide only[go_sem, hlh, n4, c1, c2, c3, g1, zne, beq_r1, beq_r17, beq_r18, e47, e17, e174, e417, q4, qq, q100, m4, b1, b2, ft, fp, qe]))
    refine RetR_same (p := pieceV t sm pt true true) ?_ wk_piece oks_piece hw (fun j hj => ?_) (fun _ _ => rfl)
    · show resPVs _ _ [.cell 4 95, .tmp 5] = _
      simp +decide only [go_sem, resPVs, resPs, resOne, joinP, toTVs, PV.tv, pieceV, pieceC]
    · have j4 : j ≠ off + 4 := fun e => hj (by rw [e]; exact hx4)
      have j17 : j ≠ off + 17 := fun e => hj (by rw [e]; exact hx17)
      have j47 : j ≠ off + 47 := fun e => hj (by rw [e]; exact hx47)
      simp +decide only [go_sem, j4, j17, j47]
  | false =>
    have ef : (if false = true then 1 else 0) = 0 := rfl
    simp only [ef] at kb ku
    have kc1 := Try.kBehind (headL t i 0 ++ (sm ++ pt)) (headL t i 1)
    unfold behRV at kc1
    rw [headL_one] at kc1
    simp only at kc1
    have kc := Try.kBehind (headL t i 0 ++ (sm ++ pt)) (headL t i 0)
    unfold behRV at kc
    rw [behindL_app] at kc
    simp only at kc
    generalize headL t i 1 = h1 at *
    generalize headL t i 0 = h0 at *
    generalize hT : sm ++ pt = T at *
    repeat' (first
     |with_reducible first|refine vSq fun K hK=>?_|refine vRg ?_|refine vBl ?_|refine vSc ?_|refine vIf ?_|refine vSk ?_|refine vEx ?_|refine vRt ?_
     |(with_reducible first|refine gNt (fun h=>?_) (fun h=>?_)|refine gCs (fun h=>?_) (fun h=>?_))<;>(try simp only[h])
     |refine W_slcS (a := T) (l := 0) (h := 4) Try.underlying9 rfl rfl (by simp [optNat, natOf?, intOf?]) (by omega) (by omega) ?_
     |refine W_slcS (a := T) (l := 4) (h := T.length) Try.underlying9 rfl (by simp [optNat, natOf?, intOf?]) rfl (by omega) (Nat.le_refl _) ?_
     |refine And.intro hx4 ?_
     |refine And.intro hx17 ?_
     |refine C_call rfl kr rfl hm4 ?_
     |refine C_pure ku rfl rfl (fun k => (hab _ (Nat.le_add_right _ _)).2 k) ?_
     |refine C_pure kb rfl rfl (fun k => (hab _ (Nat.le_add_right _ _)).2 k) ?_
     |refine C_pure kc1 rfl rfl (fun k => (hab _ (Nat.le_add_right _ _)).2 k) ?_
     |refine C_pure kh0 rfl rfl (fun k => (hab _ (Nat.le_add_right _ _)).2 k) ?_
     |refine C_pure kc rfl rfl (fun k => (hab _ (Nat.le_add_right _ _)).2 k) ?_
     |refine C_pure kh1 rfl rfl (fun k => (hab _ (Nat.le_add_right _ _)).2 k) ?_
     |refine C_call rfl kn rfl hm4 ?_
     |refine C_call rfl k1 rfl (ha _) ?_
     |refine C_call rfl k2 rfl (ha _) ?_
     |with_reducible first|(refine hK _ ?_;clear hK K)|(clear hK K;refine hK _ ?_;clear hK K)|(clear hK K;clear hK K;refine hK _ ?_;clear hK K)|(clear hK K;clear hK K;clear hK K;refine hK _ ?_;clear hK K)
     |(with_reducible refine todo ?_;simp +decide only[go_sem, hlh, n4, c1, c2, c3, g1, zne, beq_r1, beq_r17, beq_r18, e47, e17, e174, e417, q4, qq, q100, m4, b1, b2, ft, fp]))
    refine RetR_same (p := pieceV t sm pt false true) ?_ wk_piece oks_piece hw (fun j hj => ?_) (fun _ _ => rfl)
    · show resPVs _ _ [.cell 4 95, .tmp 5] = _
      simp +decide only [go_sem, resPVs, resPs, resOne, joinP, toTVs, PV.tv, pieceV, pieceC]
    · have j4 : j ≠ off + 4 := fun e => hj (by rw [e]; exact hx4)
      have j17 : j ≠ off + 17 := fun e => hj (by rw [e]; exact hx17)
      have j47 : j ≠ off + 47 := fun e => hj (by rw [e]; exact hx47)
      simp +decide only [go_sem, j4, j17, j47]
end wal
end Go.Proofs
