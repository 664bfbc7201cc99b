/-
  Parts of the proof, laid together: PwPa, PwPb, PwPc, PwPd, PwPe, PwPf, PwPg, PwPh, PwPi, PwPj.
-/
import Derived.Test.YtjmempllnfonkaaGreatQ19
import Derived.Test.YtjmempllnfonkaaGreatQ24

namespace Go.Proofs
open Go.PW
structure Pg where
  logs : Nat
  ch : List (Int × List UInt8)
  halted : Bool
def encPg (did lid : Nat) (κp : Tok) (p : Pg) : List CV := [.ptr did 0, .ptr lid 0, .d (.lit (.int .i64 p.logs)), .mpr κp, .d (.lit (.bool p.halted))]
structure PgAt (H : HMap) (A : AMap) (pid did lid : Nat) (κp : Tok) (p : Pg) : Prop where
  h : H pid = some (encPg did lid κp p)
  m : A κp = some (.mp (encNS p.ch))
theorem Tryz.mk128p : mksS Tryz.prog 84 (.c (.d (.lit (.int .i64 128)))) (.c (.d (.lit (.int .i64 128)))) = some (.c (.full (bytesEls zeros))) := by kernel_rfl
set_option maxRecDepth 8000 in
set_option maxHeartbeats 4000000 in
theorem Tryz.kEmptyP : PureOK Tryz.prog 33 [] (.one (.d (dS zeros))) := by
  refine Tryz.pure (md := []) Tryz.func33 rfl Tryz.call33 (by kernel_rfl) (by rfl) (by exact Nat.le_of_ble_eq_true rfl) ?_
  repeat' (first
   |with_reducible first|refine vSq fun K hK=>?_|refine vRg ?_|refine vBl ?_|refine vSc ?_|refine vIf ?_|refine vSk ?_|refine vEx ?_|refine vRt ?_
   |(with_reducible first|refine gNt (fun h=>?_) (fun h=>?_)|refine gCs (fun h=>?_) (fun h=>?_))<;>(try simp only[h])
   |with_reducible first|(refine hK _ ?_;clear hK K)|(clear hK K;refine hK _ ?_;clear hK K)|(clear hK K;clear hK K;refine hK _ ?_;clear hK K)|(clear hK K;clear hK K;clear hK K;refine hK _ ?_;clear hK K)
   |(with_reducible refine todo ?_;simp +decide only[go_sem, Tryz.mk128p]))
  exact Ret_d rfl rfl
set_option maxRecDepth 8000 in
set_option maxHeartbeats 8000000 in
theorem Tryz.kFull (s : List UInt8) (hs : s.length ≤ 128) : PureOK Tryz.prog 39 [pD (dS s)] (.one (.d (dS (pad s)))) := by
  refine Tryz.pure (md := []) Tryz.func39 rfl Tryz.call39 (by kernel_rfl) (by rfl) (by exact Nat.le_of_ble_eq_true rfl) ?_
  have ke := Tryz.kEmptyP
  have hz := zeros_len
  have hp : pad s = s ++ zeros.drop s.length := rfl
  have hd : (zeros.drop s.length).take (128 - s.length) = zeros.drop s.length := List.take_of_length_le (by rw [List.length_drop, hz]; exact Nat.le_refl _)
  have hl : (zeros.drop s.length).length ≤ 128 := by rw [List.length_drop, hz]; omega
  rw [hp]
  generalize hzz : zeros = z at *
  generalize hdd : z.drop s.length = zd at *
  have s1 : (s.length + zd.length ≤ 9223372036854775807) = True := eq_true (by omega)
  repeat' (first
   |with_reducible first|refine vSq fun K hK=>?_|refine vRg ?_|refine vBl ?_|refine vSc ?_|refine vIf ?_|refine vSk ?_|refine vEx ?_|refine vRt ?_
   |(with_reducible first|refine gNt (fun h=>?_) (fun h=>?_)|refine gCs (fun h=>?_) (fun h=>?_))<;>(try simp only[h])
   |refine C_pure ke rfl rfl (fun _ => rfl) ?_
   |refine W_slcS (a := z) (l := s.length) (h := 128) Tryz.underlying9 rfl (by simp [optNat, natOf?, intOf?]) (by simp [optNat, hz]) (by omega) (by omega) ?_
   |with_reducible first|(refine hK _ ?_;clear hK K)|(clear hK K;refine hK _ ?_;clear hK K)|(clear hK K;clear hK K;refine hK _ ?_;clear hK K)|(clear hK K;clear hK K;clear hK K;refine hK _ ?_;clear hK K)
   |(with_reducible refine todo ?_;simp +decide only[go_sem, hdd, hd, s1]))
  exact Ret_d rfl rfl
section pg
variable {H : HMap} {A : AMap} {pid did lid : Nat} {κm κc κp : Tok} {d : Dk} {p : Pg}
theorem PgAt.ptr (hp : PgAt H A pid did lid κp p) {A1 A2 : AMap} : PV.wk (hOver [] H) A1 A2 (.c (.ptr pid 0)) (.c (.ptr pid 0)) = True := eq_true (wkP_ptr (by show H pid ≠ none; rw [hp.h]; simp))
set_option maxRecDepth 8000 in
set_option maxHeartbeats 4000000 in
theorem Tryz.kThere (off : Nat) (hw : Wf H A) (hp : PgAt H A pid did lid κp p) : EffOK Tryz.prog 29 off H A [.c (.ptr pid 0)] (pD (.lit (.bool true))) H A := by
  refine effr_ok (E := envOf Tryz.prog [] off [] []) (envOf_ok Tryz.mixed) Tryz.func29 rfl Tryz.call29 (by kernel_rfl) (by exact Nat.le_of_ble_eq_true rfl) (fun hab => ?_)
  have hph := hp.h
  unfold encPg at hph
  repeat' (first
   |with_reducible first|refine vSq fun K hK=>?_|refine vRg ?_|refine vBl ?_|refine vSc ?_|refine vIf ?_|refine vSk ?_|refine vEx ?_|refine vRt ?_
   |(with_reducible first|refine gNt (fun h=>?_) (fun h=>?_)|refine gCs (fun h=>?_) (fun h=>?_))<;>(try simp only[h])
   |with_reducible first|(refine hK _ ?_;clear hK K)|(clear hK K;refine hK _ ?_;clear hK K)|(clear hK K;clear hK K;refine hK _ ?_;clear hK K)|(clear hK K;clear hK K;clear hK K;refine hK _ ?_;clear hK K)
   |(with_reducible refine todo ?_;simp +decide only[go_sem, hph]))
  exact RetR_same rfl (by simp +decide only [go_sem]) True.intro hw kp_refl (fun _ _ => rfl)
def pgN (d : Dk) (p : Pg) : Nat := d.n - p.logs
set_option maxRecDepth 8000 in
set_option maxHeartbeats 8000000 in
theorem Tryz.kPgLen (off : Nat) (hw : Wf H A) (hp : PgAt H A pid did lid κp p) (hd : DkAt H A did κm κc d) (hl : p.logs ≤ d.n) (hn : d.n ≤ 4096) : EffOK Tryz.prog 30 off H A [.c (.ptr pid 0)] (pD (.lit (.int .i64 (pgN d p)))) H A := by
  refine effr_ok (E := envOf Tryz.prog [29, 2000000 + 21] off [] []) (envOf_ok Tryz.mixed) Tryz.func30 rfl Tryz.call30 (by kernel_rfl) (by exact Nat.le_of_ble_eq_true rfl) (fun hab => ?_)
  have hph := hp.h
  have kt := Tryz.kThere (off + 1000) hw hp
  have kl := Tryz.kLen (off + 1000) hw hd
  unfold encPg at hph
  have c1 : IntKind.i64.wrap ((d.n : Int) - (p.logs : Int)) = ((pgN d p : Nat) : Int) := by unfold pgN; rw [Go.IntWalk.i64_in _ (by omega)]; omega
  repeat' (first
   |with_reducible first|refine vSq fun K hK=>?_|refine vRg ?_|refine vBl ?_|refine vSc ?_|refine vIf ?_|refine vSk ?_|refine vEx ?_|refine vRt ?_
   |(with_reducible first|refine gNt (fun h=>?_) (fun h=>?_)|refine gCs (fun h=>?_) (fun h=>?_))<;>(try simp only[h])
   |refine C_call rfl kt rfl (Above_mono hab (by omega)) ?_
   |refine C_quiet rfl rfl kl rfl (Above_mono hab (by omega)) ?_
   |with_reducible first|(refine hK _ ?_;clear hK K)|(clear hK K;refine hK _ ?_;clear hK K)|(clear hK K;clear hK K;refine hK _ ?_;clear hK K)|(clear hK K;clear hK K;clear hK K;refine hK _ ?_;clear hK K)
   |(with_reducible refine todo ?_;simp +decide only[go_sem, hph, c1]))
  exact RetR_same rfl (by simp +decide only [go_sem]) True.intro hw kp_refl (fun _ _ => rfl)
def pgRight (n : Nat) (page : Int) : Int := if page < 0 ∨ (n : Int) ≤ page then 2 else 0
set_option maxRecDepth 8000 in
set_option maxHeartbeats 8000000 in
theorem Tryz.kPgRight (off : Nat) (hw : Wf H A) (hp : PgAt H A pid did lid κp p) (hd : DkAt H A did κm κc d) (hl : p.logs ≤ d.n) (hn : d.n ≤ 4096) (page : Int) : EffOK Tryz.prog 38 off H A [.c (.ptr pid 0), pD (.lit (.int .i64 page))] (pD (.lit (.int .i64 (pgRight (pgN d p) page)))) H A := by
  refine effr_ok (E := envOf Tryz.prog [29, 30] off [] []) (envOf_ok Tryz.mixed) Tryz.func38 rfl Tryz.call38 (by kernel_rfl) (by exact Nat.le_of_ble_eq_true rfl) (fun hab => ?_)
  have kt := Tryz.kThere (off + 1000) hw hp
  have kl := Tryz.kPgLen (off + 1000) hw hp hd hl hn
  unfold pgRight
  by_cases h0 : page < 0
  · have f0 : (page < 0) = True := eq_true h0
    rw [if_pos (.inl h0)]
    repeat' (first
     |with_reducible first|refine vSq fun K hK=>?_|refine vRg ?_|refine vBl ?_|refine vSc ?_|refine vIf ?_|refine vSk ?_|refine vEx ?_|refine vRt ?_
     |(with_reducible first|refine gNt (fun h=>?_) (fun h=>?_)|refine gCs (fun h=>?_) (fun h=>?_))<;>(try simp only[h])
     |refine C_call rfl kt rfl (Above_mono hab (by omega)) ?_
     |refine C_call rfl kl rfl (Above_mono hab (by omega)) ?_
     |with_reducible first|(refine hK _ ?_;clear hK K)|(clear hK K;refine hK _ ?_;clear hK K)|(clear hK K;clear hK K;refine hK _ ?_;clear hK K)|(clear hK K;clear hK K;clear hK K;refine hK _ ?_;clear hK K)
     |(with_reducible refine todo ?_;simp +decide only[go_sem, f0]))
    exact RetR_same rfl (by simp +decide only [go_sem]) True.intro hw kp_refl (fun _ _ => rfl)
  · have f0 : (page < 0) = False := eq_false h0
    by_cases h1 : ((pgN d p : Nat) : Int) ≤ page
    · have f1 : (((pgN d p : Nat) : Int) ≤ page) = True := eq_true h1
      rw [if_pos (.inr h1)]
      repeat' (first
       |with_reducible first|refine vSq fun K hK=>?_|refine vRg ?_|refine vBl ?_|refine vSc ?_|refine vIf ?_|refine vSk ?_|refine vEx ?_|refine vRt ?_
       |(with_reducible first|refine gNt (fun h=>?_) (fun h=>?_)|refine gCs (fun h=>?_) (fun h=>?_))<;>(try simp only[h])
       |refine C_call rfl kt rfl (Above_mono hab (by omega)) ?_
       |refine C_call rfl kl rfl (Above_mono hab (by omega)) ?_
       |with_reducible first|(refine hK _ ?_;clear hK K)|(clear hK K;refine hK _ ?_;clear hK K)|(clear hK K;clear hK K;refine hK _ ?_;clear hK K)|(clear hK K;clear hK K;clear hK K;refine hK _ ?_;clear hK K)
       |(with_reducible refine todo ?_;simp +decide only[go_sem, f0, f1]))
      exact RetR_same rfl (by simp +decide only [go_sem]) True.intro hw kp_refl (fun _ _ => rfl)
    · have f1 : (((pgN d p : Nat) : Int) ≤ page) = False := eq_false h1
      rw [if_neg (by omega)]
      repeat' (first
       |with_reducible first|refine vSq fun K hK=>?_|refine vRg ?_|refine vBl ?_|refine vSc ?_|refine vIf ?_|refine vSk ?_|refine vEx ?_|refine vRt ?_
       |(with_reducible first|refine gNt (fun h=>?_) (fun h=>?_)|refine gCs (fun h=>?_) (fun h=>?_))<;>(try simp only[h])
       |refine C_call rfl kt rfl (Above_mono hab (by omega)) ?_
       |refine C_call rfl kl rfl (Above_mono hab (by omega)) ?_
       |with_reducible first|(refine hK _ ?_;clear hK K)|(clear hK K;refine hK _ ?_;clear hK K)|(clear hK K;clear hK K;refine hK _ ?_;clear hK K)|(clear hK K;clear hK K;clear hK K;refine hK _ ?_;clear hK K)
       |(with_reducible refine todo ?_;simp +decide only[go_sem, f0, f1]))
      exact RetR_same rfl (by simp +decide only [go_sem]) True.intro hw kp_refl (fun _ _ => rfl)
def pgRd (d : Dk) (p : Pg) (page : Nat) : List UInt8 := match findN (page : Int) p.ch 0 with
  | some r => r.2
  | none => rd d ((p.logs + page : Nat) : Int)
set_option maxRecDepth 8000 in
set_option maxHeartbeats 8000000 in
theorem Tryz.kPgRead (off : Nat) (hw : Wf H A) (hp : PgAt H A pid did lid κp p) (hd : DkAt H A did κm κc d) (hl : p.logs ≤ d.n) (hn : d.n ≤ 4096) (hcl : d.cache.length ≤ 1000000) (page : Nat) (hpg : page < pgN d p) :
    EffOK Tryz.prog 18 off H A [.c (.ptr pid 0), pD (.lit (.int .i64 page))] (.tup [.c (.d (dS (pgRd d p page))), .c (.d (.lit (.int .i64 0)))]) H A := by
  refine effr_ok (E := envOf Tryz.prog [38, 2000000 + 53] off [] []) (envOf_ok Tryz.mixed) Tryz.func18 rfl Tryz.call18 (by kernel_rfl) (by exact Nat.le_of_ble_eq_true rfl) (fun hab => ?_)
  have hph := hp.h
  unfold encPg at hph
  have kr := Tryz.kPgRight (off + 1000) hw hp hd hl hn page
  have e0 : pgRight (pgN d p) page = 0 := by unfold pgRight; rw [if_neg (by omega)]
  rw [e0] at kr
  have hpn : pgN d p = d.n - p.logs := rfl
  have c1 : IntKind.i64.wrap ((p.logs : Int) + (page : Int)) = ((p.logs + page : Nat) : Int) := by rw [Go.IntWalk.i64_in _ (by omega)]; omega
  have kd := Tryz.kRead (off + 1000) hw hd ((p.logs + page : Nat) : Int) (by omega) hcl
  have e1 : dkRight d ((p.logs + page : Nat) : Int) = 0 := by unfold dkRight; rw [if_neg (by omega), if_neg (by omega)]
  unfold readPV at kd
  rw [if_pos e1] at kd
  cases hf : findN (page : Int) p.ch 0 with
  | none =>
    have e : pgRd d p page = rd d ((p.logs + page : Nat) : Int) := by unfold pgRd; rw [hf]
    rw [e]
    repeat' (first
     |with_reducible first|refine vSq fun K hK=>?_|refine vRg ?_|refine vBl ?_|refine vSc ?_|refine vIf ?_|refine vSk ?_|refine vEx ?_|refine vRt ?_
     |(with_reducible first|refine gNt (fun h=>?_) (fun h=>?_)|refine gCs (fun h=>?_) (fun h=>?_))<;>(try simp only[h])
     |refine C_call rfl kr rfl (Above_mono hab (by omega)) ?_
     |refine C_quiet rfl rfl kd rfl (Above_mono hab (by omega)) ?_
     |with_reducible first|(refine hK _ ?_;clear hK K)|(clear hK K;refine hK _ ?_;clear hK K)|(clear hK K;clear hK K;refine hK _ ?_;clear hK K)|(clear hK K;clear hK K;clear hK K;refine hK _ ?_;clear hK K)
     |(with_reducible refine todo ?_;simp +decide only[go_sem, hph, zne, c1, mapOf_mpr hp.m, mfind_N, hf]))
    exact RetR_same rfl wk_pair oks_pair hw kp_refl (fun _ _ => rfl)
  | some r =>
    have e : pgRd d p page = r.2 := by unfold pgRd; rw [hf]
    rw [e]
    repeat' (first
     |with_reducible first|refine vSq fun K hK=>?_|refine vRg ?_|refine vBl ?_|refine vSc ?_|refine vIf ?_|refine vSk ?_|refine vEx ?_|refine vRt ?_
     |(with_reducible first|refine gNt (fun h=>?_) (fun h=>?_)|refine gCs (fun h=>?_) (fun h=>?_))<;>(try simp only[h])
     |refine C_call rfl kr rfl (Above_mono hab (by omega)) ?_
     |with_reducible first|(refine hK _ ?_;clear hK K)|(clear hK K;refine hK _ ?_;clear hK K)|(clear hK K;clear hK K;refine hK _ ?_;clear hK K)|(clear hK K;clear hK K;clear hK K;refine hK _ ?_;clear hK K)
     |(with_reducible refine todo ?_;simp +decide only[go_sem, hph, zne, mapOf_mpr hp.m, mfind_N, hf]))
    exact RetR_same rfl wk_pair oks_pair hw kp_refl (fun _ _ => rfl)
end pg
end Go.Proofs

namespace Go.Proofs
open Go.PW
def bitV (page : Nat) : Int := iShl .u8 1 (page % 8)
set_option maxRecDepth 8000 in
set_option maxHeartbeats 4000000 in
theorem Tryz.kBit (page : Nat) : PureOK Tryz.prog 72 [pD (.lit (.int .i64 page))] (.one (.d (.lit (.int .u8 (bitV page))))) := by
  refine Tryz.pure (md := []) Tryz.func72 rfl Tryz.call72 (by kernel_rfl) (by rfl) (by exact Nat.le_of_ble_eq_true rfl) ?_
  have c1 : Int.tmod (page : Int) 8 = ((page % 8 : Nat) : Int) := tmod_nat page 8
  have c2 : ((0 : Int) ≤ ((page % 8 : Nat) : Int)) = True := eq_true (by omega)
  have c3 : (((page % 8 : Nat) : Int)).toNat = page % 8 := Int.toNat_natCast _
  repeat' (first
   |with_reducible first|refine vSq fun K hK=>?_|refine vRg ?_|refine vBl ?_|refine vSc ?_|refine vIf ?_|refine vSk ?_|refine vEx ?_|refine vRt ?_
   |(with_reducible first|refine gNt (fun h=>?_) (fun h=>?_)|refine gCs (fun h=>?_) (fun h=>?_))<;>(try simp only[h])
   |with_reducible first|(refine hK _ ?_;clear hK K)|(clear hK K;refine hK _ ?_;clear hK K)|(clear hK K;clear hK K;refine hK _ ?_;clear hK K)|(clear hK K;clear hK K;clear hK K;refine hK _ ?_;clear hK K)
   |(with_reducible refine todo ?_;simp +decide only[go_sem, c1, c2, c3]))
  exact Ret_d rfl rfl
def freeB (s : List UInt8) (page : Nat) : Bool := iAnd .u8 ((s.getD (page / 8) 0).toNat : Nat) (bitV page) == 0
section pg
variable {H : HMap} {A : AMap} {pid did lid : Nat} {κm κc κp : Tok} {d : Dk} {p : Pg}
set_option maxRecDepth 8000 in
set_option maxHeartbeats 8000000 in
theorem Tryz.kIsFree (off : Nat) (hw : Wf H A) (hp : PgAt H A pid did lid κp p) (hd : DkAt H A did κm κc d) (hl : p.logs ≤ d.n) (hn : d.n ≤ 4096) (hcl : d.cache.length ≤ 1000000) (page : Nat) (h0 : page ≠ 0) (hpg : page < pgN d p) (hlen : page / 8 < (pgRd d p 0).length) :
    EffOK Tryz.prog 31 off H A [.c (.ptr pid 0), pD (.lit (.int .i64 page))] (pD (.lit (.bool (freeB (pgRd d p 0) page)))) H A := by
  refine effr_ok (E := envOf Tryz.prog [38, 18] off [] []) (envOf_ok Tryz.mixed) Tryz.func31 rfl Tryz.call31 (by kernel_rfl) (by exact Nat.le_of_ble_eq_true rfl) (fun hab => ?_)
  have hpn : pgN d p = d.n - p.logs := rfl
  have kr := Tryz.kPgRight (off + 1000) hw hp hd hl hn page
  have e0 : pgRight (pgN d p) page = 0 := by unfold pgRight; rw [if_neg (by omega)]
  rw [e0] at kr
  have kd := Tryz.kPgRead (off + 1000) hw hp hd hl hn hcl 0 (by omega)
  have kb := Tryz.kBit page
  have z : ((page : Int) == 0) = false := by rw [beq_eq_false_iff_ne]; omega
  have c1 : IntKind.i64.wrap (Int.tdiv (page : Int) 8) = ((page / 8 : Nat) : Int) := by rw [show Int.tdiv (page : Int) 8 = ((page / 8 : Nat) : Int) from tdiv_nat page 8, Go.IntWalk.i64_in _ (by omega)]
  have hfr : freeB (pgRd d p 0) page = (iAnd .u8 (((pgRd d p 0)[page / 8]).toNat : Nat) (bitV page) == 0) := by
    unfold freeB
    rw [List.getD_eq_getElem?_getD, List.getElem?_eq_getElem hlen]; rfl
  have hg : (pgRd d p 0)[page / 8]? = some (pgRd d p 0)[page / 8] := List.getElem?_eq_getElem hlen
  rw [hfr]
  generalize (pgRd d p 0)[page / 8] = x at *
  repeat' (first
   |with_reducible first|refine vSq fun K hK=>?_|refine vRg ?_|refine vBl ?_|refine vSc ?_|refine vIf ?_|refine vSk ?_|refine vEx ?_|refine vRt ?_
   |(with_reducible first|refine gNt (fun h=>?_) (fun h=>?_)|refine gCs (fun h=>?_) (fun h=>?_))<;>(try simp only[h])
   |refine C_call rfl kr rfl (Above_mono hab (by omega)) ?_
   |refine C_call rfl kd rfl (Above_mono hab (by omega)) ?_
   |refine C_pure kb rfl rfl (fun k => (hab _ (Nat.le_add_right _ _)).2 k) ?_
   |with_reducible first|(refine hK _ ?_;clear hK K)|(clear hK K;refine hK _ ?_;clear hK K)|(clear hK K;clear hK K;refine hK _ ?_;clear hK K)|(clear hK K;clear hK K;clear hK K;refine hK _ ?_;clear hK K)
   |(with_reducible refine todo ?_;simp +decide only[go_sem, zne, z, c1, hg]))
  exact RetR_same rfl (by simp +decide only [go_sem]) True.intro hw kp_refl (fun _ _ => rfl)
set_option maxRecDepth 8000 in
set_option maxHeartbeats 8000000 in
theorem Tryz.kIsFree0 (off : Nat) (hw : Wf H A) : EffOK Tryz.prog 31 off H A [.c (.ptr pid 0), pD (.lit (.int .i64 0))] (pD (.lit (.bool false))) H A := by
  refine effr_ok (E := envOf Tryz.prog [38, 18] off [] []) (envOf_ok Tryz.mixed) Tryz.func31 rfl Tryz.call31 (by kernel_rfl) (by exact Nat.le_of_ble_eq_true rfl) (fun hab => ?_)
  repeat' (first
   |with_reducible first|refine vSq fun K hK=>?_|refine vRg ?_|refine vBl ?_|refine vSc ?_|refine vIf ?_|refine vSk ?_|refine vEx ?_|refine vRt ?_
   |(with_reducible first|refine gNt (fun h=>?_) (fun h=>?_)|refine gCs (fun h=>?_) (fun h=>?_))<;>(try simp only[h])
   |with_reducible first|(refine hK _ ?_;clear hK K)|(clear hK K;refine hK _ ?_;clear hK K)|(clear hK K;clear hK K;refine hK _ ?_;clear hK K)|(clear hK K;clear hK K;clear hK K;refine hK _ ?_;clear hK K)
   |(with_reducible refine todo ?_;simp +decide only[go_sem]))
  exact RetR_same rfl (by simp +decide only [go_sem]) True.intro hw kp_refl (fun _ _ => rfl)
set_option maxRecDepth 8000 in
set_option maxHeartbeats 8000000 in
theorem Tryz.kPgWrite (off : Nat) (hw : Wf H A) (hp : PgAt H A pid did lid κp p) (hd : DkAt H A did κm κc d) (hl : p.logs ≤ d.n) (hn : d.n ≤ 4096) (page : Nat) (h0 : page ≠ 0) (hpg : page < pgN d p) (s : List UInt8) (hs : s.length ≤ 128) :
    EffOK Tryz.prog 10 off H A [.c (.ptr pid 0), pD (.lit (.int .i64 page)), pD (dS s)] (pD (.lit (.int .i64 0))) H (upd A κp (some (.mp (encNS (putN p.ch page (pad s)))))) := by
  refine effr_ok (E := envOf Tryz.prog [38] off [] []) (envOf_ok Tryz.mixed) Tryz.func10 rfl Tryz.call10 (by kernel_rfl) (by exact Nat.le_of_ble_eq_true rfl) (fun hab => ?_)
  have hph := hp.h
  unfold encPg at hph
  have kr := Tryz.kPgRight (off + 1000) hw hp hd hl hn page
  have e0 : pgRight (pgN d p) page = 0 := by unfold pgRight; rw [if_neg (by omega)]
  rw [e0] at kr
  have kf := Tryz.kFull s hs
  have z : ((page : Int) == 0) = false := by rw [beq_eq_false_iff_ne]; omega
  have f1 : ((128 : Int) < (s.length : Int)) = False := eq_false (by omega)
  rw [← encNS_put]
  repeat' (first
   |with_reducible first|refine vSq fun K hK=>?_|refine vRg ?_|refine vBl ?_|refine vSc ?_|refine vIf ?_|refine vSk ?_|refine vEx ?_|refine vRt ?_
   |(with_reducible first|refine gNt (fun h=>?_) (fun h=>?_)|refine gCs (fun h=>?_) (fun h=>?_))<;>(try simp only[h])
   |refine C_call rfl kr rfl (Above_mono hab (by omega)) ?_
   |refine C_pure kf rfl rfl (fun k => (hab _ (Nat.le_add_right _ _)).2 k) ?_
   |with_reducible first|(refine hK _ ?_;clear hK K)|(clear hK K;refine hK _ ?_;clear hK K)|(clear hK K;clear hK K;refine hK _ ?_;clear hK K)|(clear hK K;clear hK K;clear hK K;refine hK _ ?_;clear hK K)
   |(with_reducible refine todo ?_;simp +decide only[go_sem, hph, zne, z, f1, mapOf_mpr hp.m, mfind_N]))
  exact RetR_arr rfl (by simp +decide only [go_sem]) True.intro hw kp_refl (by simp +decide only [go_sem]) upd_keep
def pgWrE (n : Nat) (page : Int) (s : List UInt8) : Int := if pgRight n page ≠ 0 then pgRight n page else if page = 0 then 1 else if 128 < s.length then 19 else 0
set_option maxRecDepth 8000 in
set_option maxHeartbeats 8000000 in
theorem Tryz.kPgWriteE (off : Nat) (hw : Wf H A) (hp : PgAt H A pid did lid κp p) (hd : DkAt H A did κm κc d) (hl : p.logs ≤ d.n) (hn : d.n ≤ 4096) (page : Int) (s : List UInt8) (he : pgWrE (pgN d p) page s ≠ 0) :
    EffOK Tryz.prog 10 off H A [.c (.ptr pid 0), pD (.lit (.int .i64 page)), pD (dS s)] (pD (.lit (.int .i64 (pgWrE (pgN d p) page s)))) H A := by
  refine effr_ok (E := envOf Tryz.prog [38] off [] []) (envOf_ok Tryz.mixed) Tryz.func10 rfl Tryz.call10 (by kernel_rfl) (by exact Nat.le_of_ble_eq_true rfl) (fun hab => ?_)
  have kr := Tryz.kPgRight (off + 1000) hw hp hd hl hn page
  unfold pgWrE at he ⊢
  by_cases h1 : pgRight (pgN d p) page = 0
  · rw [if_neg (by simpa using h1)] at he ⊢
    rw [h1] at kr
    by_cases h2 : page = 0
    · rw [if_pos h2]
      subst h2
      repeat' (first
       |with_reducible first|refine vSq fun K hK=>?_|refine vRg ?_|refine vBl ?_|refine vSc ?_|refine vIf ?_|refine vSk ?_|refine vEx ?_|refine vRt ?_
       |(with_reducible first|refine gNt (fun h=>?_) (fun h=>?_)|refine gCs (fun h=>?_) (fun h=>?_))<;>(try simp only[h])
       |refine C_call rfl kr rfl (Above_mono hab (by omega)) ?_
       |with_reducible first|(refine hK _ ?_;clear hK K)|(clear hK K;refine hK _ ?_;clear hK K)|(clear hK K;clear hK K;refine hK _ ?_;clear hK K)|(clear hK K;clear hK K;clear hK K;refine hK _ ?_;clear hK K)
       |(with_reducible refine todo ?_;simp +decide only[go_sem, zne]))
      exact RetR_same rfl (by simp +decide only [go_sem]) True.intro hw kp_refl (fun _ _ => rfl)
    · have z : (page == 0) = false := by simpa using h2
      rw [if_neg h2] at he ⊢
      by_cases h3 : 128 < s.length
      · have f1 : ((128 : Int) < (s.length : Int)) = True := eq_true (by omega)
        rw [if_pos h3]
        repeat' (first
         |with_reducible first|refine vSq fun K hK=>?_|refine vRg ?_|refine vBl ?_|refine vSc ?_|refine vIf ?_|refine vSk ?_|refine vEx ?_|refine vRt ?_
         |(with_reducible first|refine gNt (fun h=>?_) (fun h=>?_)|refine gCs (fun h=>?_) (fun h=>?_))<;>(try simp only[h])
         |refine C_call rfl kr rfl (Above_mono hab (by omega)) ?_
         |with_reducible first|(refine hK _ ?_;clear hK K)|(clear hK K;refine hK _ ?_;clear hK K)|(clear hK K;clear hK K;refine hK _ ?_;clear hK K)|(clear hK K;clear hK K;clear hK K;refine hK _ ?_;clear hK K)
         |(with_reducible refine todo ?_;simp +decide only[go_sem, zne, z, f1]))
        exact RetR_same rfl (by simp +decide only [go_sem]) True.intro hw kp_refl (fun _ _ => rfl)
      · rw [if_neg h3] at he
        exact (he rfl).elim
  · rw [if_pos (by simpa using h1)]
    have z : (pgRight (pgN d p) page != 0) = true := by simpa using h1
    repeat' (first
     |with_reducible first|refine vSq fun K hK=>?_|refine vRg ?_|refine vBl ?_|refine vSc ?_|refine vIf ?_|refine vSk ?_|refine vEx ?_|refine vRt ?_
     |(with_reducible first|refine gNt (fun h=>?_) (fun h=>?_)|refine gCs (fun h=>?_) (fun h=>?_))<;>(try simp only[h])
     |refine C_call rfl kr rfl (Above_mono hab (by omega)) ?_
     |with_reducible first|(refine hK _ ?_;clear hK K)|(clear hK K;refine hK _ ?_;clear hK K)|(clear hK K;clear hK K;refine hK _ ?_;clear hK K)|(clear hK K;clear hK K;clear hK K;refine hK _ ?_;clear hK K)
     |(with_reducible refine todo ?_;simp +decide only[go_sem, z]))
    exact RetR_same rfl (by simp +decide only [go_sem]) True.intro hw kp_refl (fun _ _ => rfl)
end pg
end Go.Proofs

namespace Go.Proofs
open Go.PW
theorem ints_app (a b : List Int) : ints (a ++ b) = ints a ++ ints b := List.map_append
section pg
variable {H : HMap} {A : AMap} {pid did lid : Nat} {κm κc κp : Tok} {d : Dk} {p : Pg}
end pg
end Go.Proofs

namespace Go.Proofs
open Go.PW
section pg
variable {H : HMap} {A : AMap} {pid did lid : Nat} {κm κc κp : Tok} {d : Dk} {p : Pg}
def freesK (s : List UInt8) : Nat → Nat
  | 0 => 0
  | k + 1 => freesK s k + if k ≠ 0 ∧ freeB s k = true then 1 else 0
theorem freesK_le (s : List UInt8) : ∀ k, freesK s k ≤ k
  | 0 => Nat.le_refl _
  | k + 1 => by
    have ih := freesK_le s k
    unfold freesK
    split <;> omega
set_option maxRecDepth 8000 in
set_option maxHeartbeats 16000000 in
theorem Tryz.kFrees (off : Nat) (hw : Wf H A) (hp : PgAt H A pid did lid κp p) (hd : DkAt H A did κm κc d) (hl : p.logs ≤ d.n) (hn : d.n ≤ 4096) (hcl : d.cache.length ≤ 1000000) (hlen : pgN d p ≤ 8 * (pgRd d p 0).length) :
    EffOK Tryz.prog 47 off H A [.c (.ptr pid 0)] (pD (.lit (.int .i64 (freesK (pgRd d p 0) (pgN d p))))) H A := by
  refine effr_ok (E := envOf Tryz.prog [30, 31] off [] []) (envOf_ok Tryz.mixed) Tryz.func47 rfl Tryz.call47 (by kernel_rfl) (by exact Nat.le_of_ble_eq_true rfl) (fun hab => ?_)
  have kl := Tryz.kPgLen (off + 1000) hw hp hd hl hn
  have hN : pgN d p ≤ 4096 := by unfold pgN; omega
  have hptr := fun {X Y : AMap} => hp.ptr (A1 := X) (A2 := Y)
  have hzf := Tryz.kIsFree0 (pid := pid) (off + 1000) hw
  have hif := fun (i : Nat) h0 h1 h2 => Tryz.kIsFree (off + 1000) hw hp hd hl hn hcl i h0 h1 h2
  repeat' (first
   |with_reducible first|refine vSq fun K hK=>?_|refine vRg ?_|refine vBl ?_|refine vSc ?_|refine vIf ?_|refine vSk ?_|refine vEx ?_|refine vRt ?_
   |(with_reducible first|refine gNt (fun h=>?_) (fun h=>?_)|refine gCs (fun h=>?_) (fun h=>?_))<;>(try simp only[h])
   |refine C_call rfl kl rfl (Above_mono hab (by omega)) ?_
   |with_reducible first|(refine hK _ ?_;clear hK K)|(clear hK K;refine hK _ ?_;clear hK K)|(clear hK K;clear hK K;refine hK _ ?_;clear hK K)|(clear hK K;clear hK K;clear hK K;refine hK _ ?_;clear hK K)
   |(with_reducible refine todo ?_;simp +decide only[go_sem]))
  refine VC_range (pgN d p) (fun _ => True) (fun i => over [(0, .c (.ptr pid 0)), (3, pD (.lit (.int .i64 (freesK (pgRd d p 0) i)))), (6, pD (.lit (.int .i64 (pgN d p)))), (7, pD (.lit (.int .i64 i)))] [] H A) True.intro ?_ ?_
  · refine Weak_overG hw (fun _ _ => rfl) rfl ?_ ?_ (fun i hi => hi) (fun _ h => h)
    · simp +decide only [go_sem, hptr, freesK]
    · simp +decide only [go_sem]
  · intro i hi _
    rcases Nat.lt_or_ge i (pgN d p) with hi2 | hi2
    · have hc := int_lt_true hi2
      have hnx := int_next hi2 (by omega)
      have hle := freesK_le (pgRd d p 0) i
      have c1 : IntKind.i64.wrap ((freesK (pgRd d p 0) i : Int) + 1) = ((freesK (pgRd d p 0) i + 1 : Nat) : Int) := Go.IntWalk.i64_in _ (by omega)
      by_cases h0 : i = 0
      · have kf : EffOK Tryz.prog 31 (off + 1000) H A [.c (.ptr pid 0), pD (.lit (.int .i64 i))] (pD (.lit (.bool false))) H A := by rw [h0]; exact hzf
        have e : freesK (pgRd d p 0) (i + 1) = freesK (pgRd d p 0) i := by rw [freesK, if_neg (by rw [h0]; simp)]; rfl
        repeat' (first
         |with_reducible first|refine vSq fun K hK=>?_|refine vRg ?_|refine vBl ?_|refine vSc ?_|refine vIf ?_|refine vSk ?_|refine vEx ?_|refine vRt ?_
         |(with_reducible first|refine gNt (fun h=>?_) (fun h=>?_)|refine gCs (fun h=>?_) (fun h=>?_))<;>(try simp only[h])
         |refine C_call rfl kf rfl (Above_mono hab (by omega)) ?_
         |with_reducible first|(refine hK _ ?_;clear hK K)|(clear hK K;refine hK _ ?_;clear hK K)|(clear hK K;clear hK K;refine hK _ ?_;clear hK K)|(clear hK K;clear hK K;clear hK K;refine hK _ ?_;clear hK K)
         |(with_reducible refine todo ?_;simp +decide only[go_sem, hc, hnx]))
        refine Next_of hi2 True.intro (Weak_overG hw kp_nil rfl ?_ ?_ (fun i hi => hi) (fun _ h => h))
        · simp +decide only [go_sem, hptr, e]
        · simp +decide only [go_sem]
      · have kf := hif i h0 hi2 (by omega)
        cases hb : freeB (pgRd d p 0) i with
        | true =>
          rw [hb] at kf
          have e : freesK (pgRd d p 0) (i + 1) = freesK (pgRd d p 0) i + 1 := by rw [freesK, if_pos ⟨h0, hb⟩]
          repeat' (first
           |with_reducible first|refine vSq fun K hK=>?_|refine vRg ?_|refine vBl ?_|refine vSc ?_|refine vIf ?_|refine vSk ?_|refine vEx ?_|refine vRt ?_
           |(with_reducible first|refine gNt (fun h=>?_) (fun h=>?_)|refine gCs (fun h=>?_) (fun h=>?_))<;>(try simp only[h])
           |refine C_call rfl kf rfl (Above_mono hab (by omega)) ?_
           |with_reducible first|(refine hK _ ?_;clear hK K)|(clear hK K;refine hK _ ?_;clear hK K)|(clear hK K;clear hK K;refine hK _ ?_;clear hK K)|(clear hK K;clear hK K;clear hK K;refine hK _ ?_;clear hK K)
           |(with_reducible refine todo ?_;simp +decide only[go_sem, hc, hnx, c1]))
          refine Next_of hi2 True.intro (Weak_overG hw kp_nil rfl ?_ ?_ (fun i hi => hi) (fun _ h => h))
          · simp +decide only [go_sem, hptr, e]
          · simp +decide only [go_sem]
        | false =>
          rw [hb] at kf
          have e : freesK (pgRd d p 0) (i + 1) = freesK (pgRd d p 0) i := by rw [freesK, if_neg (by rw [hb]; simp)]; rfl
          repeat' (first
           |with_reducible first|refine vSq fun K hK=>?_|refine vRg ?_|refine vBl ?_|refine vSc ?_|refine vIf ?_|refine vSk ?_|refine vEx ?_|refine vRt ?_
           |(with_reducible first|refine gNt (fun h=>?_) (fun h=>?_)|refine gCs (fun h=>?_) (fun h=>?_))<;>(try simp only[h])
           |refine C_call rfl kf rfl (Above_mono hab (by omega)) ?_
           |with_reducible first|(refine hK _ ?_;clear hK K)|(clear hK K;refine hK _ ?_;clear hK K)|(clear hK K;clear hK K;refine hK _ ?_;clear hK K)|(clear hK K;clear hK K;clear hK K;refine hK _ ?_;clear hK K)
           |(with_reducible refine todo ?_;simp +decide only[go_sem, hc, hnx]))
          refine Next_of hi2 True.intro (Weak_overG hw kp_nil rfl ?_ ?_ (fun i hi => hi) (fun _ h => h))
          · simp +decide only [go_sem, hptr, e]
          · simp +decide only [go_sem]
    · have hc := int_lt_false hi2
      have hie : i = pgN d p := by omega
      subst hie
      repeat' (first
       |with_reducible first|refine vSq fun K hK=>?_|refine vRg ?_|refine vBl ?_|refine vSc ?_|refine vIf ?_|refine vSk ?_|refine vEx ?_|refine vRt ?_
       |(with_reducible first|refine gNt (fun h=>?_) (fun h=>?_)|refine gCs (fun h=>?_) (fun h=>?_))<;>(try simp only[h])
       |with_reducible first|(refine hK _ ?_;clear hK K)|(clear hK K;refine hK _ ?_;clear hK K)|(clear hK K;clear hK K;refine hK _ ?_;clear hK K)|(clear hK K;clear hK K;clear hK K;refine hK _ ?_;clear hK K)
       |(with_reducible refine todo ?_;simp +decide only[go_sem, hc]))
      exact RetR_same rfl (by simp +decide only [go_sem]) True.intro hw kp_nil (fun _ _ => rfl)
end pg
end Go.Proofs

namespace Go.Proofs
open Go.PW
end Go.Proofs

namespace Go.Proofs
open Go.PW
section pg
variable {H : HMap} {A : AMap} {pid did lid : Nat} {κm κc κp κ : Tok} {d : Dk} {p : Pg} {m : List (Int × List UInt8)}
end pg
end Go.Proofs

namespace Go.Proofs
open Go.PW
def SOK (off : Nat) (P : Program) (f : FuncId) (H : HMap) (A : AMap) (args : List PV) (v : PV) (R : HMap → AMap → Prop) : Prop := ∃ H' A', EffOK P f off H A args v H' A' ∧ R H' A'
section wal
variable {H : HMap} {A : AMap} {k did : Nat} {κm κc : Tok} {d : Dk}
theorem Tryz.tOpen (off : Nat) (hL : LW H A k did κm κc d) (hk : k < off + 1000) {f n t0 b0 t1 b1 : Nat} {pl : Nat → Option Pc} (ho : OpAt d f n t0 b0 t1 b1 pl) (hf : d.fused = false) :
    SOK off Tryz.prog 22 H A [.c (.ptr did 0), pD (.lit (.int .i64 f)), pD (.lit (.int .i64 n))] (.tup [.c (.ptr k 0), .c (.d (.lit (.int .i64 0)))]) fun H' A' =>
      LW H' A' (k + 1) did κm (k, 1) (nextD d f (opT t0 t1 + 1) (opB t0 b0 t1 b1)) ∧ LgAt H' A' k did (k, 0) (opL f n t0 b0 t1 b1 pl) ∧ (∀ lid κr l, LgAt H A lid did κr l → LgAt H' A' lid did κr l) ∧ (∀ j, j ≠ did → j ≠ k → H' j = H j) ∧ (∀ τ, τ ≠ κm → τ ≠ κc → τ.1 < k → A' τ = A τ) ∧ ∀ τ, A τ ≠ none → A' τ ≠ none := by
  obtain ⟨n1, n2, n3⟩ := hL.ne
  have nk : ((k, 1) : Tok) ≠ (k, 0) := fun e => by cases e
  have nm0 : κm ≠ (k, 0) := tok_ne (by show κm.1 ≠ k; omega)
  have nm1 : κm ≠ (k, 1) := tok_ne (by show κm.1 ≠ k; omega)
  have nc0 : κc ≠ (k, 0) := tok_ne (by show κc.1 ≠ k; omega)
  have nc1 : κc ≠ (k, 1) := tok_ne (by show κc.1 ≠ k; omega)
  have ko := Tryz.kOpen (id := k) (κr := (k, 0)) (κ' := (k, 1)) off hL.wf hL.dk ho (burnt_no hf) (burnt_no hf) (hL.new 0).1 (hL.new 0).2 (by show k < off + 1000; omega) (hL.new 1).2 nk
  have hdc : (nextD d f (opT t0 t1 + 1) (opB t0 b0 t1 b1)).cache.length = 0 := rfl
  generalize nextD d f (opT t0 t1 + 1) (opB t0 b0 t1 b1) = dn at *
  generalize opL f n t0 b0 t1 b1 pl = l' at *
  have kA : ∀ τ, A τ ≠ none → upd (upd (upd (upd A (k, 0) (some (.co 1 l'.recs.length))) κc (some (.co 2 (d.cache.length + 1)))) κm (some (.mp (encNS dn.stays)))) (k, 1) (some (.co 2 0)) τ ≠ none := fun τ h => upd_keep _ (upd_keep _ (upd_keep _ (upd_keep _ h)))
  have rκ : upd (upd (upd (upd A (k, 0) (some (.co 1 l'.recs.length))) κc (some (.co 2 (d.cache.length + 1)))) κm (some (.mp (encNS dn.stays)))) (k, 1) (some (.co 2 0)) (k, 0) = some (.co 1 l'.recs.length) := by
    rw [upd_other _ _ nk.symm, upd_other _ _ nm0.symm, upd_other _ _ nc0.symm, upd_same]
  refine ⟨_, _, ko, ⟨?_, ?_, ?_⟩, ⟨upd_same _ _ _, rκ⟩, ?_, fun j q1 q2 => by rw [upd_other _ _ q2, upd_other _ _ q1], fun τ q1 q2 q3 => by rw [upd_other _ _ (tok_ne (by show τ.1 ≠ k; omega)), upd_other _ _ q1, upd_other _ _ q2, upd_other _ _ (tok_ne (by show τ.1 ≠ k; omega))], kA⟩
  · exact Wf_set (A := upd (upd (upd (upd A (k, 0) (some (.co 1 l'.recs.length))) κc (some (.co 2 (d.cache.length + 1)))) κm (some (.mp (encNS dn.stays)))) (k, 1) (some (.co 2 0))) (Wf_set hL.wf (DkAt.ok (kA κm (by rw [hL.dk.m]; simp)) (by rw [upd_same]; simp)) kA)
      (LgAt.ok (upd_keepH _ (by rw [upd_same]; simp)) (by rw [rκ]; simp)) (fun _ h => h)
  · exact Above_updA (Above_updA (Above_updA (Above_updA (Above_updH (Above_updH (Above_mono hL.ab (by omega)) (by omega)) (by omega)) (by show k < k + 1; omega)) (by omega)) (by omega)) (by show k < k + 1; omega)
  · refine ⟨by rw [upd_other _ _ (by omega), upd_same], by rw [upd_other _ _ nm1, upd_same], by rw [upd_same, hdc]⟩
  · intro lid κr l hl
    obtain ⟨m1, m2⟩ := hl.lt hL.ab
    exact hl.mv (by rw [upd_other _ _ (by omega), upd_other _ _ (hl.ne hL.dk)]) (by rw [upd_other _ _ (tok_ne (by show κr.1 ≠ k; omega)), upd_other _ _ (hl.nm hL.dk), upd_other _ _ (hl.nc hL.dk), upd_other _ _ (tok_ne (by show κr.1 ≠ k; omega))])
end wal
end Go.Proofs

namespace Go.Proofs
open Go.PW
section wal
variable {H : HMap} {A : AMap} {k did : Nat} {κm κc : Tok} {d : Dk}
theorem PgAt.lt {pid lid : Nat} {κp : Tok} {p : Pg} (hp : PgAt H A pid did lid κp p) {off : Nat} (hab : Above off H A) : pid < off ∧ κp.1 < off := by
  refine ⟨Nat.lt_of_not_le fun h => ?_, Nat.lt_of_not_le fun h => ?_⟩
  · have := hp.h; rw [(hab pid h).1] at this; cases this
  · have := hp.m; rw [(hab κp.1 h).2 κp.2] at this; cases this
end wal
end Go.Proofs

namespace Go.Proofs
open Go.PW
section pg
variable {H : HMap} {A : AMap} {k pid did lid : Nat} {κm κc κp κr : Tok} {d : Dk} {p : Pg} {l : Lg}
end pg
end Go.Proofs

namespace Go.Proofs
open Go.PW
section pg
variable {H : HMap} {A : AMap} {pid did lid : Nat} {κp κr : Tok} {p : Pg} {l : Lg}
set_option maxRecDepth 8000 in
set_option maxHeartbeats 8000000 in
theorem Tryz.kRedo0 (off : Nat) (hw : Wf H A) (hp : PgAt H A pid did lid κp p) (hl : LgAt H A lid did κr l) (hr : l.recs = []) : EffOK Tryz.prog 23 off H A [.c (.ptr pid 0)] (pD (.lit (.int .i64 0))) H A := by
  refine effr_ok (E := envOf Tryz.prog [58] off [] []) (envOf_ok Tryz.mixed) Tryz.func23 rfl Tryz.call23 (by kernel_rfl) (by exact Nat.le_of_ble_eq_true rfl) (fun hab => ?_)
  have hph := hp.h
  unfold encPg at hph
  have kr := Tryz.kRecords (off + 1000) hw hl (by rw [hr]; exact Nat.zero_le _)
  rw [hr] at kr
  have v3 : (((textsD []).length : Int) == 0) = true := rfl
  repeat' (first
   |with_reducible first|refine vSq fun K hK=>?_|refine vRg ?_|refine vBl ?_|refine vSc ?_|refine vIf ?_|refine vSk ?_|refine vEx ?_|refine vRt ?_
   |(with_reducible first|refine gNt (fun h=>?_) (fun h=>?_)|refine gCs (fun h=>?_) (fun h=>?_))<;>(try simp only[h])
   |refine C_call rfl kr rfl (Above_mono hab (by omega)) ?_
   |with_reducible first|(refine hK _ ?_;clear hK K)|(clear hK K;refine hK _ ?_;clear hK K)|(clear hK K;clear hK K;refine hK _ ?_;clear hK K)|(clear hK K;clear hK K;clear hK K;refine hK _ ?_;clear hK K)
   |(with_reducible refine todo ?_;simp +decide only[go_sem, hph, v3]))
  exact RetR_same rfl (by simp +decide only [go_sem]) True.intro hw kp_refl (fun _ _ => rfl)
end pg
end Go.Proofs
