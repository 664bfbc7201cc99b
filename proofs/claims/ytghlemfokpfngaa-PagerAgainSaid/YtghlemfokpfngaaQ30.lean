/-
  Parts of the proof, laid together: PwHz, PwPa, PwPb.
-/
import Derived.Test.YtghlemfokpfngaaQ29
import Derived.Test.YtghlemfokpfngaaQ19

namespace Go.Proofs
open Go.PW
section wal
variable {H : HMap} {A : AMap} {lid did : Nat} {κm κc κr κ' : Tok} {d : Dk} {l : Lg}
theorem writeE_turn {d : Dk} {f t b : Nat} (hin : f + 1 < d.n) : writeE d ((f + t % 2 : Nat) : Int) (turnB t b) = if burnt d = true then 6 else 0 := by
  have h1 : dkRight d ((f + t % 2 : Nat) : Int) = 0 := by unfold dkRight; rw [if_neg (by omega), if_neg (by omega)]
  have h2 : (turnB t b).length ≤ 128 := sealB_len _
  unfold writeE
  rw [if_neg (by simpa using h1), if_neg (by omega)]
set_option maxRecDepth 8000 in
set_option maxHeartbeats 16000000 in
theorem Try.kNextB0 (off : Nat) (hw : Wf H A) (hl : LgAt H A lid did κr l) (hd : DkAt H A did κm κc d) (b : Nat) (hb : b < 9223372036854775808) (ht : l.turn + 1 < 9223372036854775808) (hin : l.from_ + 1 < d.n) (hdn : d.n ≤ 4096) (hb1 : burnt d = true) :
    EffOK Try.prog 47 off H A [.c (.ptr lid 0), pD (.lit (.int .i64 b))] (pD (.lit (.int .i64 6))) H A := by
  refine effr_ok (E := envOf Try.prog [56, 60] off [] []) (envOf_ok Try.mixed) Try.func47 rfl Try.call47 (by kernel_rfl) (by exact Nat.le_of_ble_eq_true rfl) (fun hab => ?_)
  have hlh := hl.h
  unfold encLg at hlh
  have c1 : IntKind.i64.wrap ((l.turn : Int) + 1) = ((l.turn + 1 : Nat) : Int) := Go.IntWalk.i64_in _ (by omega)
  have c2 : Int.tmod ((l.turn + 1 : Nat) : Int) 2 = (((l.turn + 1) % 2 : Nat) : Int) := tmod_nat (l.turn + 1) 2
  have c3 : IntKind.i64.wrap ((l.from_ : Int) + (((l.turn + 1) % 2 : Nat) : Int)) = ((l.from_ + (l.turn + 1) % 2 : Nat) : Int) := by rw [Go.IntWalk.i64_in _ (by omega)]; omega
  have kn1 := Try.kNumber (l.turn + 1) ht
  have kn2 := Try.kNumber b hb
  have l1 := uintB_len (l.turn + 1)
  have l2 := uintB_len b
  have ks := Try.kSeal ([83] ++ uintB (l.turn + 1) ++ uintB b) (by simp; omega)
  have hwe : writeE d ((l.from_ + (l.turn + 1) % 2 : Nat) : Int) (turnB (l.turn + 1) b) = 6 := by rw [writeE_turn hin, if_pos hb1]
  have kw := Try.kWriteNo (off + 1000) hw hd ((l.from_ + (l.turn + 1) % 2 : Nat) : Int) (turnB (l.turn + 1) b) (by omega) (by rw [hwe]; decide)
  rw [hwe] at kw
  have htb : sealB ([83] ++ uintB (l.turn + 1) ++ uintB b) = turnB (l.turn + 1) b := rfl
  rw [htb] at ks
  generalize turnB (l.turn + 1) b = tb at *
  generalize uintB (l.turn + 1) = u1 at *
  generalize uintB b = u2 at *
  have s1 : (1 + u1.length ≤ 9223372036854775807) = True := eq_true (by omega)
  have s2 : (u1.length + 1 + u2.length ≤ 9223372036854775807) = True := eq_true (by omega)
  repeat' (first
   |with_reducible first|refine vSq fun K hK=>?_|refine vRg ?_|refine vBl ?_|refine vSc ?_|refine vIf ?_|refine vSk ?_|refine vEx ?_|refine vRt ?_
   |(with_reducible first|refine gNt (fun h=>?_) (fun h=>?_)|refine gCs (fun h=>?_) (fun h=>?_))<;>(try simp only[h])
   |refine C_pure kn1 rfl rfl (fun k => (hab _ (Nat.le_add_right _ _)).2 k) ?_
   |refine C_pure kn2 rfl rfl (fun k => (hab _ (Nat.le_add_right _ _)).2 k) ?_
   |refine C_pure ks rfl rfl (fun k => (hab _ (Nat.le_add_right _ _)).2 k) ?_
   |refine C_call rfl kw rfl (Above_mono hab (by omega)) ?_
   |with_reducible first|(refine hK _ ?_;clear hK K)|(clear hK K;refine hK _ ?_;clear hK K)|(clear hK K;clear hK K;refine hK _ ?_;clear hK K)|(clear hK K;clear hK K;clear hK K;refine hK _ ?_;clear hK K)
   |(with_reducible refine todo ?_;simp +decide only[go_sem, hlh, c1, c2, c3, z60, s1, s2]))
  exact RetR_same rfl (by simp +decide only [go_sem]) True.intro hw kp_refl (fun _ _ => rfl)
set_option maxRecDepth 8000 in
set_option maxHeartbeats 16000000 in
theorem Try.kNextB1 (off : Nat) (hw : Wf H A) (hl : LgAt H A lid did κr l) (hd : DkAt H A did κm κc d) (b : Nat) (hb : b < 9223372036854775808) (ht : l.turn + 1 < 9223372036854775808) (hin : l.from_ + 1 < d.n) (hdn : d.n ≤ 4096) (hcl : d.cache.length + 1 ≤ 1000000)
    (hb1 : burnt d = false) (hb2 : burnt (wrD d ((l.from_ + (l.turn + 1) % 2 : Nat) : Int) (turnB (l.turn + 1) b)) = true) :
    EffOK Try.prog 47 off H A [.c (.ptr lid 0), pD (.lit (.int .i64 b))] (pD (.lit (.int .i64 6)))
      (upd H did (some (encDk κm κc (wrD d ((l.from_ + (l.turn + 1) % 2 : Nat) : Int) (turnB (l.turn + 1) b))))) (upd A κc (some (.co 2 (d.cache.length + 1)))) := by
  refine effr_ok (E := envOf Try.prog [56, 60] off [] []) (envOf_ok Try.mixed) Try.func47 rfl Try.call47 (by kernel_rfl) (by exact Nat.le_of_ble_eq_true rfl) (fun hab => ?_)
  have hlh := hl.h
  unfold encLg at hlh
  have hne := hl.ne hd
  have hlt := hd.lt hab
  have c1 : IntKind.i64.wrap ((l.turn : Int) + 1) = ((l.turn + 1 : Nat) : Int) := Go.IntWalk.i64_in _ (by omega)
  have c2 : Int.tmod ((l.turn + 1 : Nat) : Int) 2 = (((l.turn + 1) % 2 : Nat) : Int) := tmod_nat (l.turn + 1) 2
  have c3 : IntKind.i64.wrap ((l.from_ : Int) + (((l.turn + 1) % 2 : Nat) : Int)) = ((l.from_ + (l.turn + 1) % 2 : Nat) : Int) := by rw [Go.IntWalk.i64_in _ (by omega)]; omega
  have kn1 := Try.kNumber (l.turn + 1) ht
  have kn2 := Try.kNumber b hb
  have l1 := uintB_len (l.turn + 1)
  have l2 := uintB_len b
  have ks := Try.kSeal ([83] ++ uintB (l.turn + 1) ++ uintB b) (by simp; omega)
  have hwe : writeE d ((l.from_ + (l.turn + 1) % 2 : Nat) : Int) (turnB (l.turn + 1) b) = 0 := by rw [writeE_turn hin, hb1]; rfl
  have kw := Try.kWrite (off + 1000) hw hd ((l.from_ + (l.turn + 1) % 2 : Nat) : Int) (turnB (l.turn + 1) b) (by omega) (by omega) hwe
  have hw1 := DkAt.wf (d' := wrD d ((l.from_ + (l.turn + 1) % 2 : Nat) : Int) (turnB (l.turn + 1) b)) hw hd (A' := upd A κc (some (.co 2 (d.cache.length + 1)))) upd_keep
  have hd1 : DkAt (upd H did (some (encDk κm κc (wrD d ((l.from_ + (l.turn + 1) % 2 : Nat) : Int) (turnB (l.turn + 1) b))))) (upd A κc (some (.co 2 (d.cache.length + 1)))) did κm κc (wrD d ((l.from_ + (l.turn + 1) % 2 : Nat) : Int) (turnB (l.turn + 1) b)) :=
    ⟨upd_same _ _ _, by rw [upd_other _ _ hd.ne.symm]; exact hd.m, by rw [upd_same]; simp [wrD]⟩
  have kf := Try.kFlushNo (off + 1000) hw1 hd1 (by show 0 < d.n; omega) hb2
  have htb : sealB ([83] ++ uintB (l.turn + 1) ++ uintB b) = turnB (l.turn + 1) b := rfl
  rw [htb] at ks
  have hm : Above (off + 1000) (upd H did (some (encDk κm κc (wrD d ((l.from_ + (l.turn + 1) % 2 : Nat) : Int) (turnB (l.turn + 1) b))))) (upd A κc (some (.co 2 (d.cache.length + 1)))) := Above_updA (Above_updH (Above_mono hab (by omega)) (by omega)) (by omega)
  generalize wrD d ((l.from_ + (l.turn + 1) % 2 : Nat) : Int) (turnB (l.turn + 1) b) = dw at *
  generalize turnB (l.turn + 1) b = tb at *
  generalize uintB (l.turn + 1) = u1 at *
  generalize uintB b = u2 at *
  have s1 : (1 + u1.length ≤ 9223372036854775807) = True := eq_true (by omega)
  have s2 : (u1.length + 1 + u2.length ≤ 9223372036854775807) = True := eq_true (by omega)
  repeat' (first
   |with_reducible first|refine vSq fun K hK=>?_|refine vRg ?_|refine vBl ?_|refine vSc ?_|refine vIf ?_|refine vSk ?_|refine vEx ?_|refine vRt ?_
   |(with_reducible first|refine gNt (fun h=>?_) (fun h=>?_)|refine gCs (fun h=>?_) (fun h=>?_))<;>(try simp only[h])
   |refine C_pure kn1 rfl rfl (fun k => (hab _ (Nat.le_add_right _ _)).2 k) ?_
   |refine C_pure kn2 rfl rfl (fun k => (hab _ (Nat.le_add_right _ _)).2 k) ?_
   |refine C_pure ks rfl rfl (fun k => (hab _ (Nat.le_add_right _ _)).2 k) ?_
   |refine C_call rfl kw rfl (Above_mono hab (by omega)) ?_
   |refine C_call rfl kf rfl hm ?_
   |with_reducible first|(refine hK _ ?_;clear hK K)|(clear hK K;refine hK _ ?_;clear hK K)|(clear hK K;clear hK K;refine hK _ ?_;clear hK K)|(clear hK K;clear hK K;clear hK K;refine hK _ ?_;clear hK K)
   |(with_reducible refine todo ?_;simp +decide only[go_sem, hlh, c1, c2, c3, zne, z60, s1, s2, hne]))
  exact RetR_eq rfl (wk_c (.inr (.inl ⟨rfl, True.intro⟩))) True.intro hw1 (fun _ _ => rfl) rfl upd_keepH upd_keep
set_option maxRecDepth 8000 in
set_option maxHeartbeats 16000000 in
theorem Try.kResetB0 (off : Nat) (hw : Wf H A) (hl : LgAt H A lid did κr l) (hd : DkAt H A did κm κc d) (hh : l.halted = false) (ht : l.turn + 1 < 9223372036854775807) (hin : l.from_ + 1 < d.n) (hdn : d.n ≤ 4096) (hb1 : burnt d = true) :
    EffOK Try.prog 61 off H A [.c (.ptr lid 0)] (pD (.lit (.int .i64 6))) (upd H lid (some (encLg did κr { l with halted := true }))) A := by
  refine effr_ok (E := envOf Try.prog [53, 55, 47] off [] []) (envOf_ok Try.mixed) Try.func61 rfl Try.call61 (by kernel_rfl) (by exact Nat.le_of_ble_eq_true rfl) (fun hab => ?_)
  have hlh := hl.h
  have hdid : H did ≠ none := by rw [hd.h]; simp
  have ks := Try.kState (off + 1000) hw hl hh
  have kn := Try.kNextB0 (off + 1000) hw hl hd (l.turn + 1) (by omega) (by omega) hin hdn hb1
  have c1 : IntKind.i64.wrap ((l.turn : Int) + 1) = ((l.turn + 1 : Nat) : Int) := Go.IntWalk.i64_in _ (by omega)
  have kt := Try.kTook (off + 1000) hw hl hdid 6
  rw [show (l.halted || ((6 : Int) != 0)) = true by rw [hh]; rfl] at kt
  have hwE : Wf (upd H lid (some (encLg did κr { l with halted := true }))) A := Wf_set hw (LgAt.ok (upd_keepH _ hdid) (by rw [hl.r]; simp)) (fun _ h => h)
  unfold encLg at hlh
  repeat' (first
   |with_reducible first|refine vSq fun K hK=>?_|refine vRg ?_|refine vBl ?_|refine vSc ?_|refine vIf ?_|refine vSk ?_|refine vEx ?_|refine vRt ?_
   |(with_reducible first|refine gNt (fun h=>?_) (fun h=>?_)|refine gCs (fun h=>?_) (fun h=>?_))<;>(try simp only[h])
   |refine C_call rfl ks rfl (Above_mono hab (by omega)) ?_
   |refine C_call rfl kn rfl (Above_mono hab (by omega)) ?_
   |refine C_call rfl kt rfl (Above_mono hab (by omega)) ?_
   |with_reducible first|(refine hK _ ?_;clear hK K)|(clear hK K;refine hK _ ?_;clear hK K)|(clear hK K;clear hK K;refine hK _ ?_;clear hK K)|(clear hK K;clear hK K;clear hK K;refine hK _ ?_;clear hK K)
   |(with_reducible refine todo ?_;simp +decide only[go_sem, hlh, c1, zne, z60]))
  exact RetR_eq rfl (wk_c (.inr (.inl ⟨rfl, True.intro⟩))) True.intro hwE (fun _ _ => rfl) rfl upd_keepH (fun _ h => h)
set_option maxRecDepth 8000 in
set_option maxHeartbeats 16000000 in
theorem Try.kResetB1 (off : Nat) (hw : Wf H A) (hl : LgAt H A lid did κr l) (hd : DkAt H A did κm κc d) (hh : l.halted = false) (ht : l.turn + 1 < 9223372036854775807) (hin : l.from_ + 1 < d.n) (hdn : d.n ≤ 4096) (hcl : d.cache.length + 1 ≤ 1000000)
    (hb1 : burnt d = false) (hb2 : burnt (wrD d ((l.from_ + (l.turn + 1) % 2 : Nat) : Int) (turnB (l.turn + 1) (l.turn + 1))) = true) :
    EffOK Try.prog 61 off H A [.c (.ptr lid 0)] (pD (.lit (.int .i64 6)))
      (upd (upd H did (some (encDk κm κc (wrD d ((l.from_ + (l.turn + 1) % 2 : Nat) : Int) (turnB (l.turn + 1) (l.turn + 1)))))) lid (some (encLg did κr { l with halted := true }))) (upd A κc (some (.co 2 (d.cache.length + 1)))) := by
  refine effr_ok (E := envOf Try.prog [53, 55, 47] off [] []) (envOf_ok Try.mixed) Try.func61 rfl Try.call61 (by kernel_rfl) (by exact Nat.le_of_ble_eq_true rfl) (fun hab => ?_)
  have hlh := hl.h
  have hlt := hd.lt hab
  have hlt2 := hl.lt hab
  have ks := Try.kState (off + 1000) hw hl hh
  have kn := Try.kNextB1 (off + 1000) hw hl hd (l.turn + 1) (by omega) (by omega) hin hdn hcl hb1 hb2
  generalize wrD d ((l.from_ + (l.turn + 1) % 2 : Nat) : Int) (turnB (l.turn + 1) (l.turn + 1)) = dw at *
  have c1 : IntKind.i64.wrap ((l.turn : Int) + 1) = ((l.turn + 1 : Nat) : Int) := Go.IntWalk.i64_in _ (by omega)
  have hw2 : Wf (upd H did (some (encDk κm κc dw))) (upd A κc (some (.co 2 (d.cache.length + 1)))) := DkAt.wf hw hd _ upd_keep
  have hl2 : LgAt (upd H did (some (encDk κm κc dw))) (upd A κc (some (.co 2 (d.cache.length + 1)))) lid did κr l := ⟨by rw [upd_other _ _ (hl.ne hd)]; exact hl.h, by rw [upd_other _ _ (hl.nc hd)]; exact hl.r⟩
  have hdid : upd H did (some (encDk κm κc dw)) did ≠ none := by rw [upd_same]; simp
  have kt := Try.kTook (off + 1000) hw2 hl2 hdid 6
  rw [show (l.halted || ((6 : Int) != 0)) = true by rw [hh]; rfl] at kt
  have hm : Above (off + 1000) (upd H did (some (encDk κm κc dw))) (upd A κc (some (.co 2 (d.cache.length + 1)))) := Above_updA (Above_updH (Above_mono hab (by omega)) (by omega)) (by omega)
  have hwE : Wf (upd (upd H did (some (encDk κm κc dw))) lid (some (encLg did κr { l with halted := true }))) (upd A κc (some (.co 2 (d.cache.length + 1)))) := Wf_set hw2 (LgAt.ok (upd_keepH _ hdid) (by rw [hl2.r]; simp)) (fun _ h => h)
  unfold encLg at hlh
  repeat' (first
   |with_reducible first|refine vSq fun K hK=>?_|refine vRg ?_|refine vBl ?_|refine vSc ?_|refine vIf ?_|refine vSk ?_|refine vEx ?_|refine vRt ?_
   |(with_reducible first|refine gNt (fun h=>?_) (fun h=>?_)|refine gCs (fun h=>?_) (fun h=>?_))<;>(try simp only[h])
   |refine C_call rfl ks rfl (Above_mono hab (by omega)) ?_
   |refine C_call rfl kn rfl (Above_mono hab (by omega)) ?_
   |refine C_call rfl kt rfl hm ?_
   |with_reducible first|(refine hK _ ?_;clear hK K)|(clear hK K;refine hK _ ?_;clear hK K)|(clear hK K;clear hK K;refine hK _ ?_;clear hK K)|(clear hK K;clear hK K;clear hK K;refine hK _ ?_;clear hK K)
   |(with_reducible refine todo ?_;simp +decide only[go_sem, hlh, c1, zne, z60]))
  exact RetR_eq rfl (wk_c (.inr (.inl ⟨rfl, True.intro⟩))) True.intro hwE (fun _ _ => rfl) rfl (fun i h => upd_keepH i (upd_keepH i h)) upd_keep
end wal
end Go.Proofs

namespace Go.Proofs
open Go.PW
structure Pg where
  logs : Nat
  ch : List (Int × List UInt8)
  halted : Bool
def encPg (did lid : Nat) (κp : Tok) (p : Pg) : List CV := [.ptr did 0, .ptr lid 0, .d (.lit (.int .i64 p.logs)), .mpr κp, .d (.lit (.bool p.halted))]
structure PgAt (H : HMap) (A : AMap) (pid did lid : Nat) (κp : Tok) (p : Pg) : Prop where
  h : H pid = some (encPg did lid κp p)
  m : A κp = some (.mp (encNS p.ch))
theorem Try.mk128p : mksS Try.prog 88 (.c (.d (.lit (.int .i64 128)))) (.c (.d (.lit (.int .i64 128)))) = some (.c (.full (bytesEls zeros))) := by kernel_rfl
set_option maxRecDepth 8000 in
set_option maxHeartbeats 4000000 in
theorem Try.kEmptyP : PureOK Try.prog 40 [] (.one (.d (dS zeros))) := by
  refine Try.pure (md := []) Try.func40 rfl Try.call40 (by kernel_rfl) (by rfl) (by exact Nat.le_of_ble_eq_true rfl) ?_
  repeat' (first
   |with_reducible first|refine vSq fun K hK=>?_|refine vRg ?_|refine vBl ?_|refine vSc ?_|refine vIf ?_|refine vSk ?_|refine vEx ?_|refine vRt ?_
   |(with_reducible first|refine gNt (fun h=>?_) (fun h=>?_)|refine gCs (fun h=>?_) (fun h=>?_))<;>(try simp only[h])
   |with_reducible first|(refine hK _ ?_;clear hK K)|(clear hK K;refine hK _ ?_;clear hK K)|(clear hK K;clear hK K;refine hK _ ?_;clear hK K)|(clear hK K;clear hK K;clear hK K;refine hK _ ?_;clear hK K)
   |(with_reducible refine todo ?_;simp +decide only[go_sem, Try.mk128p]))
  exact Ret_d rfl rfl
set_option maxRecDepth 8000 in
set_option maxHeartbeats 8000000 in
theorem Try.kFull (s : List UInt8) (hs : s.length ≤ 128) : PureOK Try.prog 42 [pD (dS s)] (.one (.d (dS (pad s)))) := by
  refine Try.pure (md := []) Try.func42 rfl Try.call42 (by kernel_rfl) (by rfl) (by exact Nat.le_of_ble_eq_true rfl) ?_
  have ke := Try.kEmptyP
  have hz := zeros_len
  have hp : pad s = s ++ zeros.drop s.length := rfl
  have hd : (zeros.drop s.length).take (128 - s.length) = zeros.drop s.length := List.take_of_length_le (by rw [List.length_drop, hz]; exact Nat.le_refl _)
  have hl : (zeros.drop s.length).length ≤ 128 := by rw [List.length_drop, hz]; omega
  rw [hp]
  generalize hzz : zeros = z at *
  generalize hdd : z.drop s.length = zd at *
  have s1 : (s.length + zd.length ≤ 9223372036854775807) = True := eq_true (by omega)
  repeat' (first
   |with_reducible first|refine vSq fun K hK=>?_|refine vRg ?_|refine vBl ?_|refine vSc ?_|refine vIf ?_|refine vSk ?_|refine vEx ?_|refine vRt ?_
   |(with_reducible first|refine gNt (fun h=>?_) (fun h=>?_)|refine gCs (fun h=>?_) (fun h=>?_))<;>(try simp only[h])
   |refine C_pure ke rfl rfl (fun _ => rfl) ?_
   |refine W_slcS (a := z) (l := s.length) (h := 128) Try.underlying9 rfl (by simp [optNat, natOf?, intOf?]) (by simp [optNat, hz]) (by omega) (by omega) ?_
   |with_reducible first|(refine hK _ ?_;clear hK K)|(clear hK K;refine hK _ ?_;clear hK K)|(clear hK K;clear hK K;refine hK _ ?_;clear hK K)|(clear hK K;clear hK K;clear hK K;refine hK _ ?_;clear hK K)
   |(with_reducible refine todo ?_;simp +decide only[go_sem, hdd, hd, s1]))
  exact Ret_d rfl rfl
section pg
variable {H : HMap} {A : AMap} {pid did lid : Nat} {κm κc κp : Tok} {d : Dk} {p : Pg}
theorem PgAt.ptr (hp : PgAt H A pid did lid κp p) {A1 A2 : AMap} : PV.wk (hOver [] H) A1 A2 (.c (.ptr pid 0)) (.c (.ptr pid 0)) = True := eq_true (wkP_ptr (by show H pid ≠ none; rw [hp.h]; simp))
set_option maxRecDepth 8000 in
set_option maxHeartbeats 4000000 in
theorem Try.kThere (off : Nat) (hw : Wf H A) (hp : PgAt H A pid did lid κp p) : EffOK Try.prog 29 off H A [.c (.ptr pid 0)] (pD (.lit (.bool true))) H A := by
  refine effr_ok (E := envOf Try.prog [] off [] []) (envOf_ok Try.mixed) Try.func29 rfl Try.call29 (by kernel_rfl) (by exact Nat.le_of_ble_eq_true rfl) (fun hab => ?_)
  have hph := hp.h
  unfold encPg at hph
  repeat' (first
   |with_reducible first|refine vSq fun K hK=>?_|refine vRg ?_|refine vBl ?_|refine vSc ?_|refine vIf ?_|refine vSk ?_|refine vEx ?_|refine vRt ?_
   |(with_reducible first|refine gNt (fun h=>?_) (fun h=>?_)|refine gCs (fun h=>?_) (fun h=>?_))<;>(try simp only[h])
   |with_reducible first|(refine hK _ ?_;clear hK K)|(clear hK K;refine hK _ ?_;clear hK K)|(clear hK K;clear hK K;refine hK _ ?_;clear hK K)|(clear hK K;clear hK K;clear hK K;refine hK _ ?_;clear hK K)
   |(with_reducible refine todo ?_;simp +decide only[go_sem, hph]))
  exact RetR_same rfl (by simp +decide only [go_sem]) True.intro hw kp_refl (fun _ _ => rfl)
def pgN (d : Dk) (p : Pg) : Nat := d.n - p.logs
set_option maxRecDepth 8000 in
set_option maxHeartbeats 8000000 in
theorem Try.kPgLen (off : Nat) (hw : Wf H A) (hp : PgAt H A pid did lid κp p) (hd : DkAt H A did κm κc d) (hl : p.logs ≤ d.n) (hn : d.n ≤ 4096) : EffOK Try.prog 24 off H A [.c (.ptr pid 0)] (pD (.lit (.int .i64 (pgN d p)))) H A := by
  refine effr_ok (E := envOf Try.prog [29, 2000000 + 26] off [] []) (envOf_ok Try.mixed) Try.func24 rfl Try.call24 (by kernel_rfl) (by exact Nat.le_of_ble_eq_true rfl) (fun hab => ?_)
  have hph := hp.h
  have kt := Try.kThere (off + 1000) hw hp
  have kl := Try.kLen (off + 1000) hw hd
  unfold encPg at hph
  have c1 : IntKind.i64.wrap ((d.n : Int) - (p.logs : Int)) = ((pgN d p : Nat) : Int) := by unfold pgN; rw [Go.IntWalk.i64_in _ (by omega)]; omega
  repeat' (first
   |with_reducible first|refine vSq fun K hK=>?_|refine vRg ?_|refine vBl ?_|refine vSc ?_|refine vIf ?_|refine vSk ?_|refine vEx ?_|refine vRt ?_
   |(with_reducible first|refine gNt (fun h=>?_) (fun h=>?_)|refine gCs (fun h=>?_) (fun h=>?_))<;>(try simp only[h])
   |refine C_call rfl kt rfl (Above_mono hab (by omega)) ?_
   |refine C_quiet rfl rfl kl rfl (Above_mono hab (by omega)) ?_
   |with_reducible first|(refine hK _ ?_;clear hK K)|(clear hK K;refine hK _ ?_;clear hK K)|(clear hK K;clear hK K;refine hK _ ?_;clear hK K)|(clear hK K;clear hK K;clear hK K;refine hK _ ?_;clear hK K)
   |(with_reducible refine todo ?_;simp +decide only[go_sem, hph, c1]))
  exact RetR_same rfl (by simp +decide only [go_sem]) True.intro hw kp_refl (fun _ _ => rfl)
def pgRight (n : Nat) (page : Int) : Int := if page < 0 ∨ (n : Int) ≤ page then 2 else 0
set_option maxRecDepth 8000 in
set_option maxHeartbeats 8000000 in
theorem Try.kPgRight (off : Nat) (hw : Wf H A) (hp : PgAt H A pid did lid κp p) (hd : DkAt H A did κm κc d) (hl : p.logs ≤ d.n) (hn : d.n ≤ 4096) (page : Int) : EffOK Try.prog 41 off H A [.c (.ptr pid 0), pD (.lit (.int .i64 page))] (pD (.lit (.int .i64 (pgRight (pgN d p) page)))) H A := by
  refine effr_ok (E := envOf Try.prog [29, 24] off [] []) (envOf_ok Try.mixed) Try.func41 rfl Try.call41 (by kernel_rfl) (by exact Nat.le_of_ble_eq_true rfl) (fun hab => ?_)
  have kt := Try.kThere (off + 1000) hw hp
  have kl := Try.kPgLen (off + 1000) hw hp hd hl hn
  unfold pgRight
  by_cases h0 : page < 0
  · have f0 : (page < 0) = True := eq_true h0
    rw [if_pos (.inl h0)]
    repeat' (first
     |with_reducible first|refine vSq fun K hK=>?_|refine vRg ?_|refine vBl ?_|refine vSc ?_|refine vIf ?_|refine vSk ?_|refine vEx ?_|refine vRt ?_
     |(with_reducible first|refine gNt (fun h=>?_) (fun h=>?_)|refine gCs (fun h=>?_) (fun h=>?_))<;>(try simp only[h])
     |refine C_call rfl kt rfl (Above_mono hab (by omega)) ?_
     |refine C_call rfl kl rfl (Above_mono hab (by omega)) ?_
     |with_reducible first|(refine hK _ ?_;clear hK K)|(clear hK K;refine hK _ ?_;clear hK K)|(clear hK K;clear hK K;refine hK _ ?_;clear hK K)|(clear hK K;clear hK K;clear hK K;refine hK _ ?_;clear hK K)
     |(with_reducible refine todo ?_;simp +decide only[go_sem, f0]))
    exact RetR_same rfl (by simp +decide only [go_sem]) True.intro hw kp_refl (fun _ _ => rfl)
  · have f0 : (page < 0) = False := eq_false h0
    by_cases h1 : ((pgN d p : Nat) : Int) ≤ page
    · have f1 : (((pgN d p : Nat) : Int) ≤ page) = True := eq_true h1
      rw [if_pos (.inr h1)]
      repeat' (first
       |with_reducible first|refine vSq fun K hK=>?_|refine vRg ?_|refine vBl ?_|refine vSc ?_|refine vIf ?_|refine vSk ?_|refine vEx ?_|refine vRt ?_
       |(with_reducible first|refine gNt (fun h=>?_) (fun h=>?_)|refine gCs (fun h=>?_) (fun h=>?_))<;>(try simp only[h])
       |refine C_call rfl kt rfl (Above_mono hab (by omega)) ?_
       |refine C_call rfl kl rfl (Above_mono hab (by omega)) ?_
       |with_reducible first|(refine hK _ ?_;clear hK K)|(clear hK K;refine hK _ ?_;clear hK K)|(clear hK K;clear hK K;refine hK _ ?_;clear hK K)|(clear hK K;clear hK K;clear hK K;refine hK _ ?_;clear hK K)
       |(with_reducible refine todo ?_;simp +decide only[go_sem, f0, f1]))
      exact RetR_same rfl (by simp +decide only [go_sem]) True.intro hw kp_refl (fun _ _ => rfl)
    · have f1 : (((pgN d p : Nat) : Int) ≤ page) = False := eq_false h1
      rw [if_neg (by omega)]
      repeat' (first
       |with_reducible first|refine vSq fun K hK=>?_|refine vRg ?_|refine vBl ?_|refine vSc ?_|refine vIf ?_|refine vSk ?_|refine vEx ?_|refine vRt ?_
       |(with_reducible first|refine gNt (fun h=>?_) (fun h=>?_)|refine gCs (fun h=>?_) (fun h=>?_))<;>(try simp only[h])
       |refine C_call rfl kt rfl (Above_mono hab (by omega)) ?_
       |refine C_call rfl kl rfl (Above_mono hab (by omega)) ?_
       |with_reducible first|(refine hK _ ?_;clear hK K)|(clear hK K;refine hK _ ?_;clear hK K)|(clear hK K;clear hK K;refine hK _ ?_;clear hK K)|(clear hK K;clear hK K;clear hK K;refine hK _ ?_;clear hK K)
       |(with_reducible refine todo ?_;simp +decide only[go_sem, f0, f1]))
      exact RetR_same rfl (by simp +decide only [go_sem]) True.intro hw kp_refl (fun _ _ => rfl)
def pgRd (d : Dk) (p : Pg) (page : Nat) : List UInt8 := match findN (page : Int) p.ch 0 with
  | some r => r.2
  | none => rd d ((p.logs + page : Nat) : Int)
set_option maxRecDepth 8000 in
set_option maxHeartbeats 8000000 in
theorem Try.kPgRead (off : Nat) (hw : Wf H A) (hp : PgAt H A pid did lid κp p) (hd : DkAt H A did κm κc d) (hl : p.logs ≤ d.n) (hn : d.n ≤ 4096) (hcl : d.cache.length ≤ 1000000) (page : Nat) (hpg : page < pgN d p) :
    EffOK Try.prog 19 off H A [.c (.ptr pid 0), pD (.lit (.int .i64 page))] (.tup [.c (.d (dS (pgRd d p page))), .c (.d (.lit (.int .i64 0)))]) H A := by
  refine effr_ok (E := envOf Try.prog [41, 2000000 + 43] off [] []) (envOf_ok Try.mixed) Try.func19 rfl Try.call19 (by kernel_rfl) (by exact Nat.le_of_ble_eq_true rfl) (fun hab => ?_)
  have hph := hp.h
  unfold encPg at hph
  have kr := Try.kPgRight (off + 1000) hw hp hd hl hn page
  have e0 : pgRight (pgN d p) page = 0 := by unfold pgRight; rw [if_neg (by omega)]
  rw [e0] at kr
  have hpn : pgN d p = d.n - p.logs := rfl
  have c1 : IntKind.i64.wrap ((p.logs : Int) + (page : Int)) = ((p.logs + page : Nat) : Int) := by rw [Go.IntWalk.i64_in _ (by omega)]; omega
  have kd := Try.kRead (off + 1000) hw hd ((p.logs + page : Nat) : Int) (by omega) hcl
  have e1 : dkRight d ((p.logs + page : Nat) : Int) = 0 := by unfold dkRight; rw [if_neg (by omega), if_neg (by omega)]
  unfold readPV at kd
  rw [if_pos e1] at kd
  cases hf : findN (page : Int) p.ch 0 with
  | none =>
    have e : pgRd d p page = rd d ((p.logs + page : Nat) : Int) := by unfold pgRd; rw [hf]
    rw [e]
    repeat' (first
     |with_reducible first|refine vSq fun K hK=>?_|refine vRg ?_|refine vBl ?_|refine vSc ?_|refine vIf ?_|refine vSk ?_|refine vEx ?_|refine vRt ?_
     |(with_reducible first|refine gNt (fun h=>?_) (fun h=>?_)|refine gCs (fun h=>?_) (fun h=>?_))<;>(try simp only[h])
     |refine C_call rfl kr rfl (Above_mono hab (by omega)) ?_
     |refine C_quiet rfl rfl kd rfl (Above_mono hab (by omega)) ?_
     |with_reducible first|(refine hK _ ?_;clear hK K)|(clear hK K;refine hK _ ?_;clear hK K)|(clear hK K;clear hK K;refine hK _ ?_;clear hK K)|(clear hK K;clear hK K;clear hK K;refine hK _ ?_;clear hK K)
     |(with_reducible refine todo ?_;simp +decide only[go_sem, hph, zne, c1, mapOf_mpr hp.m, mfind_N, hf]))
    exact RetR_same rfl wk_pair oks_pair hw kp_refl (fun _ _ => rfl)
  | some r =>
    have e : pgRd d p page = r.2 := by unfold pgRd; rw [hf]
    rw [e]
    repeat' (first
     |with_reducible first|refine vSq fun K hK=>?_|refine vRg ?_|refine vBl ?_|refine vSc ?_|refine vIf ?_|refine vSk ?_|refine vEx ?_|refine vRt ?_
     |(with_reducible first|refine gNt (fun h=>?_) (fun h=>?_)|refine gCs (fun h=>?_) (fun h=>?_))<;>(try simp only[h])
     |refine C_call rfl kr rfl (Above_mono hab (by omega)) ?_
     |with_reducible first|(refine hK _ ?_;clear hK K)|(clear hK K;refine hK _ ?_;clear hK K)|(clear hK K;clear hK K;refine hK _ ?_;clear hK K)|(clear hK K;clear hK K;clear hK K;refine hK _ ?_;clear hK K)
     |(with_reducible refine todo ?_;simp +decide only[go_sem, hph, zne, mapOf_mpr hp.m, mfind_N, hf]))
    exact RetR_same rfl wk_pair oks_pair hw kp_refl (fun _ _ => rfl)
end pg
end Go.Proofs

namespace Go.Proofs
open Go.PW
def bitV (page : Nat) : Int := iShl .u8 1 (page % 8)
set_option maxRecDepth 8000 in
set_option maxHeartbeats 4000000 in
theorem Try.kBit (page : Nat) : PureOK Try.prog 44 [pD (.lit (.int .i64 page))] (.one (.d (.lit (.int .u8 (bitV page))))) := by
  refine Try.pure (md := []) Try.func44 rfl Try.call44 (by kernel_rfl) (by rfl) (by exact Nat.le_of_ble_eq_true rfl) ?_
  have c1 : Int.tmod (page : Int) 8 = ((page % 8 : Nat) : Int) := tmod_nat page 8
  have c2 : ((0 : Int) ≤ ((page % 8 : Nat) : Int)) = True := eq_true (by omega)
  have c3 : (((page % 8 : Nat) : Int)).toNat = page % 8 := Int.toNat_natCast _
  repeat' (first
   |with_reducible first|refine vSq fun K hK=>?_|refine vRg ?_|refine vBl ?_|refine vSc ?_|refine vIf ?_|refine vSk ?_|refine vEx ?_|refine vRt ?_
   |(with_reducible first|refine gNt (fun h=>?_) (fun h=>?_)|refine gCs (fun h=>?_) (fun h=>?_))<;>(try simp only[h])
   |with_reducible first|(refine hK _ ?_;clear hK K)|(clear hK K;refine hK _ ?_;clear hK K)|(clear hK K;clear hK K;refine hK _ ?_;clear hK K)|(clear hK K;clear hK K;clear hK K;refine hK _ ?_;clear hK K)
   |(with_reducible refine todo ?_;simp +decide only[go_sem, c1, c2, c3]))
  exact Ret_d rfl rfl
def freeB (s : List UInt8) (page : Nat) : Bool := iAnd .u8 ((s.getD (page / 8) 0).toNat : Nat) (bitV page) == 0
section pg
variable {H : HMap} {A : AMap} {pid did lid : Nat} {κm κc κp : Tok} {d : Dk} {p : Pg}
set_option maxRecDepth 8000 in
set_option maxHeartbeats 8000000 in
theorem Try.kIsFree (off : Nat) (hw : Wf H A) (hp : PgAt H A pid did lid κp p) (hd : DkAt H A did κm κc d) (hl : p.logs ≤ d.n) (hn : d.n ≤ 4096) (hcl : d.cache.length ≤ 1000000) (page : Nat) (h0 : page ≠ 0) (hpg : page < pgN d p) (hlen : page / 8 < (pgRd d p 0).length) :
    EffOK Try.prog 22 off H A [.c (.ptr pid 0), pD (.lit (.int .i64 page))] (pD (.lit (.bool (freeB (pgRd d p 0) page)))) H A := by
  refine effr_ok (E := envOf Try.prog [41, 19] off [] []) (envOf_ok Try.mixed) Try.func22 rfl Try.call22 (by kernel_rfl) (by exact Nat.le_of_ble_eq_true rfl) (fun hab => ?_)
  have hpn : pgN d p = d.n - p.logs := rfl
  have kr := Try.kPgRight (off + 1000) hw hp hd hl hn page
  have e0 : pgRight (pgN d p) page = 0 := by unfold pgRight; rw [if_neg (by omega)]
  rw [e0] at kr
  have kd := Try.kPgRead (off + 1000) hw hp hd hl hn hcl 0 (by omega)
  have kb := Try.kBit page
  have z : ((page : Int) == 0) = false := by rw [beq_eq_false_iff_ne]; omega
  have c1 : IntKind.i64.wrap (Int.tdiv (page : Int) 8) = ((page / 8 : Nat) : Int) := by rw [show Int.tdiv (page : Int) 8 = ((page / 8 : Nat) : Int) from tdiv_nat page 8, Go.IntWalk.i64_in _ (by omega)]
  have hfr : freeB (pgRd d p 0) page = (iAnd .u8 (((pgRd d p 0)[page / 8]).toNat : Nat) (bitV page) == 0) := by
    unfold freeB
    rw [List.getD_eq_getElem?_getD, List.getElem?_eq_getElem hlen]; rfl
  have hg : (pgRd d p 0)[page / 8]? = some (pgRd d p 0)[page / 8] := List.getElem?_eq_getElem hlen
  rw [hfr]
  generalize (pgRd d p 0)[page / 8] = x at *
  repeat' (first
   |with_reducible first|refine vSq fun K hK=>?_|refine vRg ?_|refine vBl ?_|refine vSc ?_|refine vIf ?_|refine vSk ?_|refine vEx ?_|refine vRt ?_
   |(with_reducible first|refine gNt (fun h=>?_) (fun h=>?_)|refine gCs (fun h=>?_) (fun h=>?_))<;>(try simp only[h])
   |refine C_call rfl kr rfl (Above_mono hab (by omega)) ?_
   |refine C_call rfl kd rfl (Above_mono hab (by omega)) ?_
   |refine C_pure kb rfl rfl (fun k => (hab _ (Nat.le_add_right _ _)).2 k) ?_
   |with_reducible first|(refine hK _ ?_;clear hK K)|(clear hK K;refine hK _ ?_;clear hK K)|(clear hK K;clear hK K;refine hK _ ?_;clear hK K)|(clear hK K;clear hK K;clear hK K;refine hK _ ?_;clear hK K)
   |(with_reducible refine todo ?_;simp +decide only[go_sem, zne, z, c1, hg]))
  exact RetR_same rfl (by simp +decide only [go_sem]) True.intro hw kp_refl (fun _ _ => rfl)
set_option maxRecDepth 8000 in
set_option maxHeartbeats 8000000 in
theorem Try.kIsFree0 (off : Nat) (hw : Wf H A) : EffOK Try.prog 22 off H A [.c (.ptr pid 0), pD (.lit (.int .i64 0))] (pD (.lit (.bool false))) H A := by
  refine effr_ok (E := envOf Try.prog [41, 19] off [] []) (envOf_ok Try.mixed) Try.func22 rfl Try.call22 (by kernel_rfl) (by exact Nat.le_of_ble_eq_true rfl) (fun hab => ?_)
  repeat' (first
   |with_reducible first|refine vSq fun K hK=>?_|refine vRg ?_|refine vBl ?_|refine vSc ?_|refine vIf ?_|refine vSk ?_|refine vEx ?_|refine vRt ?_
   |(with_reducible first|refine gNt (fun h=>?_) (fun h=>?_)|refine gCs (fun h=>?_) (fun h=>?_))<;>(try simp only[h])
   |with_reducible first|(refine hK _ ?_;clear hK K)|(clear hK K;refine hK _ ?_;clear hK K)|(clear hK K;clear hK K;refine hK _ ?_;clear hK K)|(clear hK K;clear hK K;clear hK K;refine hK _ ?_;clear hK K)
   |(with_reducible refine todo ?_;simp +decide only[go_sem]))
  exact RetR_same rfl (by simp +decide only [go_sem]) True.intro hw kp_refl (fun _ _ => rfl)
set_option maxRecDepth 8000 in
set_option maxHeartbeats 8000000 in
theorem Try.kPgWrite (off : Nat) (hw : Wf H A) (hp : PgAt H A pid did lid κp p) (hd : DkAt H A did κm κc d) (hl : p.logs ≤ d.n) (hn : d.n ≤ 4096) (page : Nat) (h0 : page ≠ 0) (hpg : page < pgN d p) (s : List UInt8) (hs : s.length ≤ 128) :
    EffOK Try.prog 16 off H A [.c (.ptr pid 0), pD (.lit (.int .i64 page)), pD (dS s)] (pD (.lit (.int .i64 0))) H (upd A κp (some (.mp (encNS (putN p.ch page (pad s)))))) := by
  refine effr_ok (E := envOf Try.prog [41] off [] []) (envOf_ok Try.mixed) Try.func16 rfl Try.call16 (by kernel_rfl) (by exact Nat.le_of_ble_eq_true rfl) (fun hab => ?_)
  have hph := hp.h
  unfold encPg at hph
  have kr := Try.kPgRight (off + 1000) hw hp hd hl hn page
  have e0 : pgRight (pgN d p) page = 0 := by unfold pgRight; rw [if_neg (by omega)]
  rw [e0] at kr
  have kf := Try.kFull s hs
  have z : ((page : Int) == 0) = false := by rw [beq_eq_false_iff_ne]; omega
  have f1 : ((128 : Int) < (s.length : Int)) = False := eq_false (by omega)
  rw [← encNS_put]
  repeat' (first
   |with_reducible first|refine vSq fun K hK=>?_|refine vRg ?_|refine vBl ?_|refine vSc ?_|refine vIf ?_|refine vSk ?_|refine vEx ?_|refine vRt ?_
   |(with_reducible first|refine gNt (fun h=>?_) (fun h=>?_)|refine gCs (fun h=>?_) (fun h=>?_))<;>(try simp only[h])
   |refine C_call rfl kr rfl (Above_mono hab (by omega)) ?_
   |refine C_pure kf rfl rfl (fun k => (hab _ (Nat.le_add_right _ _)).2 k) ?_
   |with_reducible first|(refine hK _ ?_;clear hK K)|(clear hK K;refine hK _ ?_;clear hK K)|(clear hK K;clear hK K;refine hK _ ?_;clear hK K)|(clear hK K;clear hK K;clear hK K;refine hK _ ?_;clear hK K)
   |(with_reducible refine todo ?_;simp +decide only[go_sem, hph, zne, z, f1, mapOf_mpr hp.m, mfind_N]))
  exact RetR_arr rfl (by simp +decide only [go_sem]) True.intro hw kp_refl (by simp +decide only [go_sem]) upd_keep
def pgWrE (n : Nat) (page : Int) (s : List UInt8) : Int := if pgRight n page ≠ 0 then pgRight n page else if page = 0 then 1 else if 128 < s.length then 19 else 0
set_option maxRecDepth 8000 in
set_option maxHeartbeats 8000000 in
theorem Try.kPgWriteE (off : Nat) (hw : Wf H A) (hp : PgAt H A pid did lid κp p) (hd : DkAt H A did κm κc d) (hl : p.logs ≤ d.n) (hn : d.n ≤ 4096) (page : Int) (s : List UInt8) (he : pgWrE (pgN d p) page s ≠ 0) :
    EffOK Try.prog 16 off H A [.c (.ptr pid 0), pD (.lit (.int .i64 page)), pD (dS s)] (pD (.lit (.int .i64 (pgWrE (pgN d p) page s)))) H A := by
  refine effr_ok (E := envOf Try.prog [41] off [] []) (envOf_ok Try.mixed) Try.func16 rfl Try.call16 (by kernel_rfl) (by exact Nat.le_of_ble_eq_true rfl) (fun hab => ?_)
  have kr := Try.kPgRight (off + 1000) hw hp hd hl hn page
  unfold pgWrE at he ⊢
  by_cases h1 : pgRight (pgN d p) page = 0
  · rw [if_neg (by simpa using h1)] at he ⊢
    rw [h1] at kr
    by_cases h2 : page = 0
    · rw [if_pos h2]
      subst h2
      repeat' (first
       |with_reducible first|refine vSq fun K hK=>?_|refine vRg ?_|refine vBl ?_|refine vSc ?_|refine vIf ?_|refine vSk ?_|refine vEx ?_|refine vRt ?_
       |(with_reducible first|refine gNt (fun h=>?_) (fun h=>?_)|refine gCs (fun h=>?_) (fun h=>?_))<;>(try simp only[h])
       |refine C_call rfl kr rfl (Above_mono hab (by omega)) ?_
       |with_reducible first|(refine hK _ ?_;clear hK K)|(clear hK K;refine hK _ ?_;clear hK K)|(clear hK K;clear hK K;refine hK _ ?_;clear hK K)|(clear hK K;clear hK K;clear hK K;refine hK _ ?_;clear hK K)
       |(with_reducible refine todo ?_;simp +decide only[go_sem, zne]))
      exact RetR_same rfl (by simp +decide only [go_sem]) True.intro hw kp_refl (fun _ _ => rfl)
    · have z : (page == 0) = false := by simpa using h2
      rw [if_neg h2] at he ⊢
      by_cases h3 : 128 < s.length
      · have f1 : ((128 : Int) < (s.length : Int)) = True := eq_true (by omega)
        rw [if_pos h3]
        repeat' (first
         |with_reducible first|refine vSq fun K hK=>?_|refine vRg ?_|refine vBl ?_|refine vSc ?_|refine vIf ?_|refine vSk ?_|refine vEx ?_|refine vRt ?_
         |(with_reducible first|refine gNt (fun h=>?_) (fun h=>?_)|refine gCs (fun h=>?_) (fun h=>?_))<;>(try simp only[h])
         |refine C_call rfl kr rfl (Above_mono hab (by omega)) ?_
         |with_reducible first|(refine hK _ ?_;clear hK K)|(clear hK K;refine hK _ ?_;clear hK K)|(clear hK K;clear hK K;refine hK _ ?_;clear hK K)|(clear hK K;clear hK K;clear hK K;refine hK _ ?_;clear hK K)
         |(with_reducible refine todo ?_;simp +decide only[go_sem, zne, z, f1]))
        exact RetR_same rfl (by simp +decide only [go_sem]) True.intro hw kp_refl (fun _ _ => rfl)
      · rw [if_neg h3] at he
        exact (he rfl).elim
  · rw [if_pos (by simpa using h1)]
    have z : (pgRight (pgN d p) page != 0) = true := by simpa using h1
    repeat' (first
     |with_reducible first|refine vSq fun K hK=>?_|refine vRg ?_|refine vBl ?_|refine vSc ?_|refine vIf ?_|refine vSk ?_|refine vEx ?_|refine vRt ?_
     |(with_reducible first|refine gNt (fun h=>?_) (fun h=>?_)|refine gCs (fun h=>?_) (fun h=>?_))<;>(try simp only[h])
     |refine C_call rfl kr rfl (Above_mono hab (by omega)) ?_
     |with_reducible first|(refine hK _ ?_;clear hK K)|(clear hK K;refine hK _ ?_;clear hK K)|(clear hK K;clear hK K;refine hK _ ?_;clear hK K)|(clear hK K;clear hK K;clear hK K;refine hK _ ?_;clear hK K)
     |(with_reducible refine todo ?_;simp +decide only[go_sem, z]))
    exact RetR_same rfl (by simp +decide only [go_sem]) True.intro hw kp_refl (fun _ _ => rfl)
end pg
end Go.Proofs
