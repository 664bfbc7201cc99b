/-
  Parts of the proof, laid together: PwHa, PwHb, PwHc, PwHd, PwHe, PwHf, PwHg, PwHh, PwHi, PwHj.
-/
import Derived.Test.YtjmempllnfonkaaGreatQ21

namespace Go.Proofs
open Go.PW
structure Lg where
  from_ : Nat
  places : Nat
  turn : Nat
  base : Nat
  used : Nat
  recs : List (List UInt8)
  halted : Bool
def textsD (l : List (List UInt8)) : List (List D) := l.map fun s => [dS s]
def encLg (did : Nat) (κr : Tok) (l : Lg) : List CV :=
  [.ptr did 0, .d (.lit (.int .i64 l.from_)), .d (.lit (.int .i64 l.places)), .d (.lit (.int .i64 l.turn)), .d (.lit (.int .i64 l.base)), .d (.lit (.int .i64 l.used)), .own κr (textsD l.recs), .d (.lit (.bool l.halted))]
def encLgC (did : Nat) (c6 : CV) (l : Lg) : List CV :=
  [.ptr did 0, .d (.lit (.int .i64 l.from_)), .d (.lit (.int .i64 l.places)), .d (.lit (.int .i64 l.turn)), .d (.lit (.int .i64 l.base)), .d (.lit (.int .i64 l.used)), c6, .d (.lit (.bool l.halted))]
structure LgAt (H : HMap) (A : AMap) (lid did : Nat) (κr : Tok) (l : Lg) : Prop where
  h : H lid = some (encLg did κr l)
  r : A κr = some (.co 1 l.recs.length)
def TellCase (s : List UInt8) (t b : Nat) : Prop := (unsealB s = some ([83] ++ (uintB t ++ uintB b)) ∧ t ≤ 1099511627776 ∧ b ≤ t) ∨ ((unsealB s = some [] ∨ unsealB s = none) ∧ t = 0 ∧ b = 0)
section wal
variable {H : HMap} {A : AMap} {lid did : Nat} {κm κc κr : Tok} {d : Dk} {l : Lg}
set_option maxRecDepth 8000 in
set_option maxHeartbeats 16000000 in
theorem Tryz.kTells {c6 : CV} (off : Nat) (hw : Wf H A) (hlh : H lid = some (encLgC did c6 l)) (hd : DkAt H A did κm κc d) (hn : 0 < d.n) (hcl : d.cache.length ≤ 1000000) (slot t b : Nat) (hin : l.from_ + slot < d.n) (hdn : d.n ≤ 4096) (hs : (rd d ((l.from_ + slot : Nat) : Int)).length ≤ 128) (hc : TellCase (rd d ((l.from_ + slot : Nat) : Int)) t b) :
    EffOK Tryz.prog 55 off H A [.c (.ptr lid 0), pD (.lit (.int .i64 slot))] (.tup [.c (.d (.lit (.int .i64 t))), .c (.d (.lit (.int .i64 b)))]) H A := by
  refine effr_ok (E := envOf Tryz.prog [53, 89, 90, 91, 92] off [] []) (envOf_ok Tryz.mixed) Tryz.func55 rfl Tryz.call55 (by kernel_rfl) (by exact Nat.le_of_ble_eq_true rfl) (fun hab => ?_)
  unfold encLgC at hlh
  have hadd : IntKind.i64.wrap ((l.from_ : Int) + (slot : Int)) = ((l.from_ + slot : Nat) : Int) := by rw [Go.IntWalk.i64_in _ (by omega)]; omega
  have hrt : dkRight d ((l.from_ + slot : Nat) : Int) = 0 := by unfold dkRight; rw [if_neg (by omega), if_neg (by omega)]
  have kr := Tryz.kRead (off + 1000) hw hd ((l.from_ + slot : Nat) : Int) hn hcl
  unfold readPV at kr
  rw [if_pos hrt] at kr
  generalize rd d ((l.from_ + slot : Nat) : Int) = s at *
  have ku := Tryz.kUnseal s (by omega)
  have hx : H (off + 40) = none := (hab _ (Nat.le_add_right _ _)).1
  rcases hc with ⟨h1, h2, h3⟩ | ⟨h1, rfl, rfl⟩
  · rw [h1] at ku
    simp only [optS] at ku
    have kb := Tryz.kBehind ([83] ++ (uintB t ++ uintB b)) [83]
    have hbe : behindL ([83] ++ (uintB t ++ uintB b)) [83] = some (uintB t ++ uintB b) := rfl
    unfold behRV at kb
    rw [hbe] at kb
    simp only at kb
    have l1 := uintB_len t
    have l2 := uintB_len b
    have kn := Tryz.kRdNew (id := off + 40) (off + 1000) hw (uintB t ++ uintB b) hx
    have hw1 : Wf (upd H (off + 40) (some (encRd ⟨uintB t ++ uintB b, 0, 0⟩))) A := Wf_upd hw (encRd_D _)
    have k1 := Tryz.kUint48 (H := upd H (off + 40) (some (encRd ⟨uintB t ++ uintB b, 0, 0⟩))) (A := A) (id := off + 40) (n := t) (res := t) (off + 1000) hw1 (upd_same _ _ _) rfl (by simp; omega) (.inl ⟨uintB b, rfl, by omega, rfl, rfl⟩)
    rw [upd_twice] at k1
    have hw2 : Wf (upd H (off + 40) (some (encRd ⟨uintB t ++ uintB b, 0 + (uintB t).length, 0⟩))) A := Wf_upd hw (encRd_D _)
    have k2 := Tryz.kUint48 (H := upd H (off + 40) (some (encRd ⟨uintB t ++ uintB b, 0 + (uintB t).length, 0⟩))) (A := A) (id := off + 40) (n := b) (res := b) (off + 1000) hw2 (upd_same _ _ _) rfl (by simp; omega) (.inl ⟨[], by simp, by omega, rfl, rfl⟩)
    rw [upd_twice] at k2
    have hw3 : Wf (upd H (off + 40) (some (encRd ⟨uintB t ++ uintB b, 0 + (uintB t).length + (uintB b).length, 0⟩))) A := Wf_upd hw (encRd_D _)
    have k3 := Tryz.kErr (H := upd H (off + 40) (some (encRd ⟨uintB t ++ uintB b, 0 + (uintB t).length + (uintB b).length, 0⟩))) (A := A) (off + 1000) hw3 (upd_same _ _ _)
    have k4 := Tryz.kLeft (H := upd H (off + 40) (some (encRd ⟨uintB t ++ uintB b, 0 + (uintB t).length + (uintB b).length, 0⟩))) (A := A) (off + 1000) hw3 (upd_same _ _ _) (by simp) (by simp; omega)
    have hz : (uintB t ++ uintB b).length - (0 + (uintB t).length + (uintB b).length) = 0 := by simp
    simp only at k3 k4
    rw [hz] at k4
    simp only [Nat.zero_add] at k1 k2 k3 k4
    have ha : ∀ x, Above (off + 1000) (upd H (off + 40) (some x)) A := fun x => Above_updH (Above_mono hab (by omega)) (by omega)
    have c1 : IntKind.i64.wrap (t : Int) = (t : Int) := Go.IntWalk.i64_in _ (by omega)
    have c2 : IntKind.i64.wrap (b : Int) = (b : Int) := Go.IntWalk.i64_in _ (by omega)
    have g1 : ((1099511627776 : Int) < (t : Int)) = False := eq_false (by omega)
    have g2 : ((t : Int) < (b : Int)) = False := eq_false (by omega)
    generalize uintB t = ut at *
    generalize uintB b = ub at *
    repeat' (first
     |with_reducible first|refine vSq fun K hK=>?_|refine vRg ?_|refine vBl ?_|refine vSc ?_|refine vIf ?_|refine vSk ?_|refine vEx ?_|refine vRt ?_
     |(with_reducible first|refine gNt (fun h=>?_) (fun h=>?_)|refine gCs (fun h=>?_) (fun h=>?_))<;>(try simp only[h])
     |refine C_call rfl kr rfl (Above_mono hab (by omega)) ?_
     |refine C_pure ku rfl rfl (fun k => (hab _ (Nat.le_add_right _ _)).2 k) ?_
     |refine C_pure kb rfl rfl (fun k => (hab _ (Nat.le_add_right _ _)).2 k) ?_
     |refine C_call rfl kn rfl (Above_mono hab (by omega)) ?_
     |refine C_call rfl k1 rfl (ha _) ?_
     |refine C_call rfl k2 rfl (ha _) ?_
     |refine C_call rfl k3 rfl (ha _) ?_
     |refine C_call rfl k4 rfl (ha _) ?_
     |with_reducible first|(refine hK _ ?_;clear hK K)|(clear hK K;refine hK _ ?_;clear hK K)|(clear hK K;clear hK K;refine hK _ ?_;clear hK K)|(clear hK K;clear hK K;clear hK K;refine hK _ ?_;clear hK K)
     |(with_reducible refine todo ?_;simp +decide only[go_sem, hlh, hadd, zne, c1, c2, g1, g2]))
    exact RetR_same rfl wk_pair oks_pair hw (fun i hi => by show upd _ _ _ i = _; rw [upd_other _ _ (fun e => hi (by rw [e]; exact hx))]) (fun _ _ => rfl)
  · have kb := Tryz.kBehind [] [83]
    have hbe : behindL [] [83] = none := rfl
    unfold behRV at kb
    rw [hbe] at kb
    simp only at kb
    have kn := Tryz.kRdNew (id := off + 40) (off + 1000) hw [] hx
    have hw1 : Wf (upd H (off + 40) (some (encRd ⟨[], 0, 0⟩))) A := Wf_upd hw (encRd_D _)
    have k1 := Tryz.kUint48 (H := upd H (off + 40) (some (encRd ⟨[], 0, 0⟩))) (A := A) (id := off + 40) (n := 0) (res := 0) (off + 1000) hw1 (upd_same _ _ _) rfl (by simp) (.inr ⟨Nat.le_refl _, rfl, rfl⟩)
    rw [upd_twice] at k1
    have hw2 : Wf (upd H (off + 40) (some (encRd ⟨[], 0, 8⟩))) A := Wf_upd hw (encRd_D _)
    have k2 := Tryz.kUint48E (H := upd H (off + 40) (some (encRd ⟨[], 0, 8⟩))) (A := A) (id := off + 40) (off + 1000) hw2 (upd_same _ _ _) (by decide)
    have ha : ∀ x, Above (off + 1000) (upd H (off + 40) (some x)) A := fun x => Above_updH (Above_mono hab (by omega)) (by omega)
    rcases h1 with h1 | h1 <;> rw [h1] at ku <;> simp only [optS] at ku
    · repeat' (first
       |with_reducible first|refine vSq fun K hK=>?_|refine vRg ?_|refine vBl ?_|refine vSc ?_|refine vIf ?_|refine vSk ?_|refine vEx ?_|refine vRt ?_
       |(with_reducible first|refine gNt (fun h=>?_) (fun h=>?_)|refine gCs (fun h=>?_) (fun h=>?_))<;>(try simp only[h])
       |refine C_call rfl kr rfl (Above_mono hab (by omega)) ?_
       |refine C_pure ku rfl rfl (fun k => (hab _ (Nat.le_add_right _ _)).2 k) ?_
       |refine C_pure kb rfl rfl (fun k => (hab _ (Nat.le_add_right _ _)).2 k) ?_
       |refine C_call rfl kn rfl (Above_mono hab (by omega)) ?_
       |refine C_call rfl k1 rfl (ha _) ?_
       |refine C_call rfl k2 rfl (ha _) ?_
       |with_reducible first|(refine hK _ ?_;clear hK K)|(clear hK K;refine hK _ ?_;clear hK K)|(clear hK K;clear hK K;refine hK _ ?_;clear hK K)|(clear hK K;clear hK K;clear hK K;refine hK _ ?_;clear hK K)
       |(with_reducible refine todo ?_;simp +decide only[go_sem, hlh, hadd]))
      exact RetR_same rfl wk_pair oks_pair hw (fun i hi => by show upd _ _ _ i = _; rw [upd_other _ _ (fun e => hi (by rw [e]; exact hx))]) (fun _ _ => rfl)
    · repeat' (first
       |with_reducible first|refine vSq fun K hK=>?_|refine vRg ?_|refine vBl ?_|refine vSc ?_|refine vIf ?_|refine vSk ?_|refine vEx ?_|refine vRt ?_
       |(with_reducible first|refine gNt (fun h=>?_) (fun h=>?_)|refine gCs (fun h=>?_) (fun h=>?_))<;>(try simp only[h])
       |refine C_call rfl kr rfl (Above_mono hab (by omega)) ?_
       |refine C_pure ku rfl rfl (fun k => (hab _ (Nat.le_add_right _ _)).2 k) ?_
       |refine C_pure kb rfl rfl (fun k => (hab _ (Nat.le_add_right _ _)).2 k) ?_
       |refine C_call rfl kn rfl (Above_mono hab (by omega)) ?_
       |refine C_call rfl k1 rfl (ha _) ?_
       |refine C_call rfl k2 rfl (ha _) ?_
       |with_reducible first|(refine hK _ ?_;clear hK K)|(clear hK K;refine hK _ ?_;clear hK K)|(clear hK K;clear hK K;refine hK _ ?_;clear hK K)|(clear hK K;clear hK K;clear hK K;refine hK _ ?_;clear hK K)
       |(with_reducible refine todo ?_;simp +decide only[go_sem, hlh, hadd]))
      exact RetR_same rfl wk_pair oks_pair hw (fun i hi => by show upd _ _ _ i = _; rw [upd_other _ _ (fun e => hi (by rw [e]; exact hx))]) (fun _ _ => rfl)
end wal
end Go.Proofs

namespace Go.Proofs
open Go.PW
section wal
variable {H : HMap} {A : AMap} {lid did : Nat} {κm κc κr : Tok} {d : Dk} {l : Lg}
end wal
end Go.Proofs

namespace Go.PW
theorem RetR_eq {P : Program} {fn : Func} {H : HMap} {A : AMap} {v p : PV} {H' : HMap} {A' : AMap} {S : St} (hp : resPVs P S fn.results.toList = some p) (hv : PV.wk H' A' A' v p) (hok : v.oks (fun i => H' i ≠ none) (fun κ => A' κ ≠ none)) (hw : Wf H' A')
    (h1 : ∀ i, H' i ≠ none → S.H i = H' i) (h2 : S.A = A') (kH : ∀ id, H id ≠ none → H' id ≠ none) (kA : ∀ κ, A κ ≠ none → A' κ ≠ none) : RetR P fn H A v H' A' S := by
  subst h2
  exact RetR_of hp hv hok hw (fun i cs hi => ⟨cs, by rw [h1 i (by rw [hi]; simp), hi], wkC_same fun c hc => ok_mono (fun _ h => h) (fun κ h => ⟨h, rfl⟩) (hw i cs c hi hc)⟩) (fun κ => .inr (.inl rfl)) kH kA
theorem upd_keepH {H : HMap} {u : Nat} {cs : List CV} : ∀ i, H i ≠ none → upd H u (some cs) i ≠ none := fun i hi => by
  rw [upd_apply']; split
  · simp
  · exact hi
end Go.PW
namespace Go.Proofs
open Go.PW
theorem Tryz.appT : AppT Tryz.prog 57 9 1 16 := ⟨Tryz.underlying57, Tryz.cl9, Tryz.by9, Tryz.zo9, by decide, by decide⟩
theorem szd_texts (l : List (List UInt8)) : Szd 1 (textsD l) := fun e he => by
  obtain ⟨w, _, rfl⟩ := List.mem_map.1 he
  rfl
section wal
variable {H : HMap} {A : AMap} {lid did : Nat} {κm κc κr κ' : Tok} {d : Dk} {l : Lg}
theorem LgAt.ne (hl : LgAt H A lid did κr l) (hd : DkAt H A did κm κc d) : lid ≠ did := fun e => by
  have h1 := hl.h
  rw [e, hd.h] at h1
  have := congrArg List.length (Option.some.inj h1)
  cases this
theorem LgAt.nc (hl : LgAt H A lid did κr l) (hd : DkAt H A did κm κc d) : κr ≠ κc := fun e => by
  have h1 := hl.r
  rw [e, hd.c] at h1
  cases h1
theorem LgAt.nm (hl : LgAt H A lid did κr l) (hd : DkAt H A did κm κc d) : κr ≠ κm := fun e => by
  have h1 := hl.r
  rw [e, hd.m] at h1
  cases h1
theorem LgAt.lt (hl : LgAt H A lid did κr l) {off : Nat} (hab : Above off H A) : lid < off ∧ κr.1 < off := by
  refine ⟨?_, ?_⟩
  · refine Nat.lt_of_not_le fun h => ?_
    have := hl.h; rw [(hab lid h).1] at this; cases this
  · refine Nat.lt_of_not_le fun h => ?_
    have := hl.r; rw [(hab κr.1 h).2 κr.2] at this; cases this
theorem LgAt.ok (hdid : H did ≠ none) (hr : A κr ≠ none) : ∀ c ∈ encLg did κr l, c.ok (fun i => H i ≠ none) (fun κ => A κ ≠ none) := fun c h => by
  simp only [encLg, List.mem_cons, List.not_mem_nil, or_false] at h
  rcases h with rfl | rfl | rfl | rfl | rfl | rfl | rfl | rfl <;> first | exact True.intro | exact hdid | exact hr
set_option maxRecDepth 8000 in
set_option maxHeartbeats 8000000 in
theorem Tryz.kRecords (off : Nat) (hw : Wf H A) (hl : LgAt H A lid did κr l) (hb : l.recs.length ≤ 1000000) : EffOK Tryz.prog 58 off H A [.c (.ptr lid 0)] (.c (.d (.sl (textsD l.recs)))) H A := by
  refine effr_ok (E := envOf Tryz.prog [] off [] []) (envOf_ok Tryz.mixed) Tryz.func58 rfl Tryz.call58 (by kernel_rfl) (by exact Nat.le_of_ble_eq_true rfl) (fun hab => ?_)
  have hlh := hl.h
  unfold encLg at hlh
  have hll : (textsD l.recs).length = l.recs.length := by simp [textsD]
  have hap : [] ++ textsD l.recs = textsD l.recs := rfl
  repeat' (first
   |with_reducible first|refine vSq fun K hK=>?_|refine vRg ?_|refine vBl ?_|refine vSc ?_|refine vIf ?_|refine vSk ?_|refine vEx ?_|refine vRt ?_
   |(with_reducible first|refine gNt (fun h=>?_) (fun h=>?_)|refine gCs (fun h=>?_) (fun h=>?_))<;>(try simp only[h])
   |(refine W_full Tryz.appT rfl rfl szNil (szd_texts _) (by rw [hll]; simp only [List.length_nil]; omega) ((hab _ (Nat.le_add_right _ _)).2 _) ?_)
   |with_reducible first|(refine hK _ ?_;clear hK K)|(clear hK K;refine hK _ ?_;clear hK K)|(clear hK K;clear hK K;refine hK _ ?_;clear hK K)|(clear hK K;clear hK K;clear hK K;refine hK _ ?_;clear hK K)
   |(with_reducible refine todo ?_;simp +decide only[go_sem, hlh, hap]))
  refine RetR_same rfl (by simp +decide only [go_sem]) True.intro hw kp_refl (fun κ hκ => ?_)
  show upd _ _ _ κ = _
  rw [upd_other _ _ (fun e => hκ (by rw [e]; exact (hab _ (Nat.le_add_right _ _)).2 _))]
end wal
end Go.Proofs

namespace Go.Proofs
open Go.PW
def turnB (t b : Nat) : List UInt8 := sealB ([83] ++ uintB t ++ uintB b)
def nextD (d : Dk) (from_ t b : Nat) : Dk := flD (wrD d ((from_ + t % 2 : Nat) : Int) (turnB t b))
section wal
variable {H : HMap} {A : AMap} {lid did : Nat} {κm κc κr κ' : Tok} {d : Dk} {l : Lg}
set_option maxRecDepth 8000 in
set_option maxHeartbeats 16000000 in
theorem Tryz.kNext (off : Nat) (hw : Wf H A) (hl : LgAt H A lid did κr l) (hd : DkAt H A did κm κc d) (b : Nat) (hb : b < 9223372036854775808) (ht : l.turn + 1 < 9223372036854775808) (hin : l.from_ + 1 < d.n) (hdn : d.n ≤ 4096) (hcl : d.cache.length + 1 ≤ 1000000)
    (hb1 : burnt d = false) (hb2 : burnt (wrD d ((l.from_ + (l.turn + 1) % 2 : Nat) : Int) (turnB (l.turn + 1) b)) = false) (hκ : A κ' = none) :
    EffOK Tryz.prog 57 off H A [.c (.ptr lid 0), pD (.lit (.int .i64 b))] (pD (.lit (.int .i64 0)))
      (upd (upd H did (some (encDk κm κ' (nextD d l.from_ (l.turn + 1) b)))) lid (some (encLg did κr { l with turn := l.turn + 1, base := b })))
      (upd (upd (upd A κc (some (.co 2 (d.cache.length + 1)))) κm (some (.mp (encNS (nextD d l.from_ (l.turn + 1) b).stays)))) κ' (some (.co 2 0))) := by
  refine effr_ok (E := envOf Tryz.prog [95, 98] off [] []) (envOf_ok Tryz.mixed) Tryz.func57 rfl Tryz.call57 (by kernel_rfl) (by exact Nat.le_of_ble_eq_true rfl) (fun hab => ?_)
  have hlh := hl.h
  unfold encLg at hlh
  have hne := hl.ne hd
  have hnc := hl.nc hd
  have hnm := hl.nm hd
  have hlt := hd.lt hab
  have hlt2 := hl.lt hab
  have hid := hd.h
  have c1 : IntKind.i64.wrap ((l.turn : Int) + 1) = ((l.turn + 1 : Nat) : Int) := Go.IntWalk.i64_in _ (by omega)
  have c2 : Int.tmod ((l.turn + 1 : Nat) : Int) 2 = (((l.turn + 1) % 2 : Nat) : Int) := tmod_nat (l.turn + 1) 2
  have c3 : IntKind.i64.wrap ((l.from_ : Int) + (((l.turn + 1) % 2 : Nat) : Int)) = ((l.from_ + (l.turn + 1) % 2 : Nat) : Int) := by rw [Go.IntWalk.i64_in _ (by omega)]; omega
  have kn1 := Tryz.kNumber (l.turn + 1) ht
  have kn2 := Tryz.kNumber b hb
  have l1 := uintB_len (l.turn + 1)
  have l2 := uintB_len b
  have ks := Tryz.kSeal ([83] ++ uintB (l.turn + 1) ++ uintB b) (by simp; omega)
  have hwe : writeE d ((l.from_ + (l.turn + 1) % 2 : Nat) : Int) (turnB (l.turn + 1) b) = 0 := by
    have h1 : dkRight d ((l.from_ + (l.turn + 1) % 2 : Nat) : Int) = 0 := by unfold dkRight; rw [if_neg (by omega), if_neg (by omega)]
    have h2 : (turnB (l.turn + 1) b).length ≤ 128 := sealB_len _
    unfold writeE
    rw [if_neg (by simpa using h1), if_neg (by omega), hb1]
    rfl
  have kw := Tryz.kWrite (off + 1000) hw hd ((l.from_ + (l.turn + 1) % 2 : Nat) : Int) (turnB (l.turn + 1) b) (by omega) (by omega) hwe
  have hw1 := DkAt.wf (d' := wrD d ((l.from_ + (l.turn + 1) % 2 : Nat) : Int) (turnB (l.turn + 1) b)) hw hd (A' := upd A κc (some (.co 2 (d.cache.length + 1)))) upd_keep
  have hd1 : DkAt (upd H did (some (encDk κm κc (wrD d ((l.from_ + (l.turn + 1) % 2 : Nat) : Int) (turnB (l.turn + 1) b))))) (upd A κc (some (.co 2 (d.cache.length + 1)))) did κm κc (wrD d ((l.from_ + (l.turn + 1) % 2 : Nat) : Int) (turnB (l.turn + 1) b)) :=
    ⟨upd_same _ _ _, by rw [upd_other _ _ hd.ne.symm]; exact hd.m, by rw [upd_same]; simp [wrD]⟩
  have hκ1 : upd A κc (some (.co 2 (d.cache.length + 1))) κ' = none := by rw [upd_other _ _ (fun e => by rw [e, hd.c] at hκ; cases hκ)]; exact hκ
  have kf := Tryz.kFlush (κ' := κ') (off + 1000) hw1 hd1 (by show 0 < d.n; omega) (by simp [wrD]; omega) hb2 hκ1
  have hnx : flD (wrD d ((l.from_ + (l.turn + 1) % 2 : Nat) : Int) (turnB (l.turn + 1) b)) = nextD d l.from_ (l.turn + 1) b := rfl
  rw [hnx] at kf
  have htb : sealB ([83] ++ uintB (l.turn + 1) ++ uintB b) = turnB (l.turn + 1) b := rfl
  rw [htb] at ks
  have hm : Above (off + 1000) (upd H did (some (encDk κm κc (wrD d ((l.from_ + (l.turn + 1) % 2 : Nat) : Int) (turnB (l.turn + 1) b))))) (upd A κc (some (.co 2 (d.cache.length + 1)))) := Above_updA (Above_updH (Above_mono hab (by omega)) (by omega)) (by omega)
  have kA2 : ∀ κ, A κ ≠ none → upd (upd (upd A κc (some (.co 2 (d.cache.length + 1)))) κm (some (.mp (encNS (nextD d l.from_ (l.turn + 1) b).stays)))) κ' (some (.co 2 0)) κ ≠ none := fun κ h => upd_keep _ (upd_keep _ (upd_keep _ h))
  have hwE : Wf (upd (upd H did (some (encDk κm κ' (nextD d l.from_ (l.turn + 1) b)))) lid (some (encLg did κr { l with turn := l.turn + 1, base := b }))) (upd (upd (upd A κc (some (.co 2 (d.cache.length + 1)))) κm (some (.mp (encNS (nextD d l.from_ (l.turn + 1) b).stays)))) κ' (some (.co 2 0))) := by
    refine Wf_set (A := upd (upd (upd A κc (some (.co 2 (d.cache.length + 1)))) κm (some (.mp (encNS (nextD d l.from_ (l.turn + 1) b).stays)))) κ' (some (.co 2 0))) (Wf_set hw (DkAt.ok (kA2 κm (by rw [hd.m]; simp)) (by rw [upd_same]; simp)) kA2) (LgAt.ok (upd_keepH _ (by rw [upd_same]; simp)) (kA2 κr (by rw [hl.r]; simp))) (fun _ h => h)
  generalize hD : nextD d l.from_ (l.turn + 1) b = dn at *
  generalize hW : wrD d ((l.from_ + (l.turn + 1) % 2 : Nat) : Int) (turnB (l.turn + 1) b) = dw at *
  generalize turnB (l.turn + 1) b = tb at *
  generalize uintB (l.turn + 1) = u1 at *
  generalize uintB b = u2 at *
  have s1 : (1 + u1.length ≤ 9223372036854775807) = True := eq_true (by omega)
  have s2 : (u1.length + 1 + u2.length ≤ 9223372036854775807) = True := eq_true (by omega)
  repeat' (first
   |with_reducible first|refine vSq fun K hK=>?_|refine vRg ?_|refine vBl ?_|refine vSc ?_|refine vIf ?_|refine vSk ?_|refine vEx ?_|refine vRt ?_
   |(with_reducible first|refine gNt (fun h=>?_) (fun h=>?_)|refine gCs (fun h=>?_) (fun h=>?_))<;>(try simp only[h])
   |refine C_pure kn1 rfl rfl (fun k => (hab _ (Nat.le_add_right _ _)).2 k) ?_
   |refine C_pure kn2 rfl rfl (fun k => (hab _ (Nat.le_add_right _ _)).2 k) ?_
   |refine C_pure ks rfl rfl (fun k => (hab _ (Nat.le_add_right _ _)).2 k) ?_
   |refine C_call rfl kw rfl (Above_mono hab (by omega)) ?_
   |refine C_call rfl kf rfl hm ?_
   |with_reducible first|(refine hK _ ?_;clear hK K)|(clear hK K;refine hK _ ?_;clear hK K)|(clear hK K;clear hK K;refine hK _ ?_;clear hK K)|(clear hK K;clear hK K;clear hK K;refine hK _ ?_;clear hK K)
   |(with_reducible refine todo ?_;simp +decide only[go_sem, hlh, c1, c2, c3, zne, s1, s2, hne]))
  refine RetR_eq rfl (wk_c (.inr (.inl ⟨rfl, True.intro⟩))) True.intro hwE ?_ rfl (fun i h => upd_keepH i (upd_keepH i h)) kA2
  intro i _
  show upd (upd (upd (upd H did _) did _) lid _) lid _ i = _
  by_cases e : i = lid
  · subst e
    rw [upd_same, upd_same]
    rfl
  · rw [upd_other _ _ e, upd_other _ _ e, upd_other _ _ e]
    by_cases e2 : i = did
    · subst e2
      rw [upd_same, upd_same]
    · rw [upd_other _ _ e2, upd_other _ _ e2, upd_other _ _ e2]
end wal
end Go.Proofs

namespace Go.Proofs
open Go.PW
def partsK : Nat → List UInt8 → List (List UInt8)
  | 0, s => [s]
  | k + 1, s => if 100 < s.length then s.take 100 :: partsK k (s.drop 100) else [s]
def partsL (s : List UInt8) : List (List UInt8) := partsK s.length s
theorem textsD_app (a b : List (List UInt8)) : textsD (a ++ b) = textsD a ++ textsD b := List.map_append
theorem textsD_len (a : List (List UInt8)) : (textsD a).length = a.length := by simp [textsD]
end Go.Proofs

namespace Go.Proofs
open Go.PW
section wal
variable {H : HMap} {A : AMap} {lid did : Nat} {κm κc κr κ' : Tok} {d : Dk} {l : Lg}
end wal
end Go.Proofs

namespace Go.Proofs
open Go.PW
section wal
variable {H : HMap} {A : AMap} {lid did : Nat} {κm κc κr κ' : Tok} {d : Dk} {l : Lg}
end wal
end Go.Proofs

namespace Go.Proofs
open Go.PW
end Go.Proofs

namespace Go.Proofs
open Go.PW
def pieceC (t : Nat) (sm pt : List UInt8) (more : Bool) : List CV := [.d (.lit (.int .i64 t)), .d (dS sm), .d (dS pt), .d (.lit (.bool more))]
def pieceV (t : Nat) (sm pt : List UInt8) (more ok : Bool) : PV := .tup [.agg (pieceC t sm pt more), .c (.d (.lit (.bool ok)))]
theorem wk_piece {H' : HMap} {A A' : AMap} {t : Nat} {sm pt : List UInt8} {more ok : Bool} : PV.wk H' A A' (pieceV t sm pt more ok) (pieceV t sm pt more ok) := by
  refine ⟨rfl, fun k a b h1 h2 => ?_⟩
  rw [h1] at h2
  cases h2
  match k, h1 with
  | 0, e =>
    cases e
    refine ⟨rfl, fun j c d h3 h4 => ?_⟩
    rw [h3] at h4
    cases h4
    match j, h3 with
    | 0, e => cases e; exact .inr (.inl ⟨rfl, True.intro⟩)
    | 1, e => cases e; exact .inr (.inl ⟨rfl, True.intro⟩)
    | 2, e => cases e; exact .inr (.inl ⟨rfl, True.intro⟩)
    | 3, e => cases e; exact .inr (.inl ⟨rfl, True.intro⟩)
  | 1, e => cases e; exact .inr (.inl ⟨rfl, True.intro⟩)
theorem oks_piece {hk : Nat → Prop} {tk : Tok → Prop} {t : Nat} {sm pt : List UInt8} {more ok : Bool} : PV.oks hk tk (pieceV t sm pt more ok) := fun z hz => by
  rcases List.mem_cons.1 hz with rfl | hz
  · intro c hc
    simp only [pieceC, List.mem_cons, List.not_mem_nil, or_false] at hc
    rcases hc with rfl | rfl | rfl | rfl <;> exact True.intro
  · rw [List.mem_singleton.1 hz]; exact True.intro
theorem beq_r1 : ((1 : Nat) == 19004) = false := rfl
theorem beq_r17 : ((17 : Nat) == 19004) = false := rfl
theorem beq_r18 : ((18 : Nat) == 19004) = false := rfl
section wal
variable {H : HMap} {A : AMap} {lid did : Nat} {κm κc κr : Tok} {d : Dk} {l : Lg}
set_option maxRecDepth 8000 in
set_option maxHeartbeats 16000000 in
theorem Tryz.kAtE (off : Nat) (hw : Wf H A) (hl : LgAt H A lid did κr l) (hd : DkAt H A did κm κc d) (hcl : d.cache.length ≤ 1000000) (i : Nat) (hin : l.from_ + 2 + i < d.n) (hdn : d.n ≤ 4096) (hs : (rd d ((l.from_ + 2 + i : Nat) : Int)).length ≤ 128)
    (hc : unsealB (rd d ((l.from_ + 2 + i : Nat) : Int)) = some [] ∨ unsealB (rd d ((l.from_ + 2 + i : Nat) : Int)) = none) :
    EffOK Tryz.prog 93 off H A [.c (.ptr lid 0), pD (.lit (.int .i64 i))] (pieceV 0 [] [] false false) H A := by
  refine effr_ok (E := envOf Tryz.prog [53, 89, 90, 91] off [] [19004]) (envOf_ok Tryz.mixed) Tryz.func93 rfl Tryz.call93 (by kernel_rfl) (by exact Nat.le_of_ble_eq_true rfl) (fun hab => ?_)
  have hlh := hl.h
  unfold encLg at hlh
  have hlt := hd.lt hab
  have hlt2 := hl.lt hab
  have n4 : lid ≠ off + 4 := by omega
  have nd4 : did ≠ off + 4 := by omega
  have hx4 : H (off + 4) = none := (hab _ (Nat.le_add_right _ _)).1
  have c1 : IntKind.i64.wrap ((l.from_ : Int) + 2) = ((l.from_ + 2 : Nat) : Int) := Go.IntWalk.i64_in _ (by omega)
  have c2 : IntKind.i64.wrap (((l.from_ + 2 : Nat) : Int) + (i : Int)) = ((l.from_ + 2 + i : Nat) : Int) := by rw [Go.IntWalk.i64_in _ (by omega)]; omega
  have hrt : dkRight d ((l.from_ + 2 + i : Nat) : Int) = 0 := by unfold dkRight; rw [if_neg (by omega), if_neg (by omega)]
  have hw4 : Wf (upd H (off + 4) (some (pieceC 0 [] [] false))) A := Wf_upd hw rfl
  have kr := Tryz.kRead (off + 1000) hw4 (hd.updH nd4) ((l.from_ + 2 + i : Nat) : Int) (by omega) hcl
  unfold readPV at kr
  rw [if_pos hrt] at kr
  generalize rd d ((l.from_ + 2 + i : Nat) : Int) = s at *
  have ku := Tryz.kUnseal s (by omega)
  have hm4 : Above (off + 1000) (upd H (off + 4) (some (pieceC 0 [] [] false))) A := Above_updH (Above_mono hab (by omega)) (by omega)
  rcases hc with h1 | h1 <;> rw [h1] at ku <;> simp only [optS] at ku
  · have kb := Tryz.kBehind [] [76]
    have hbe : behindL [] [76] = none := rfl
    unfold behRV at kb
    rw [hbe] at kb
    simp only at kb
    have hx47 : H (off + 47) = none := (hab _ (Nat.le_add_right _ _)).1
    have hy47 : upd H (off + 4) (some (pieceC 0 [] [] false)) (off + 47) = none := by rw [upd_other _ _ (by omega)]; exact hx47
    have kn := Tryz.kRdNew (id := off + 47) (off + 1000) hw4 [] hy47
    have hw5 : Wf (upd (upd H (off + 4) (some (pieceC 0 [] [] false))) (off + 47) (some (encRd ⟨[], 0, 0⟩))) A := Wf_upd hw4 (encRd_D _)
    have k1 := Tryz.kUint48 (H := upd (upd H (off + 4) (some (pieceC 0 [] [] false))) (off + 47) (some (encRd ⟨[], 0, 0⟩))) (A := A) (id := off + 47) (n := 0) (res := 0) (off + 1000) hw5 (upd_same _ _ _) rfl (by simp) (.inr ⟨Nat.le_refl _, rfl, rfl⟩)
    rw [upd_twice] at k1
    have hw6 : Wf (upd (upd H (off + 4) (some (pieceC 0 [] [] false))) (off + 47) (some (encRd ⟨[], 0, 8⟩))) A := Wf_upd hw4 (encRd_D _)
    have k2 := Tryz.kErr (H := upd (upd H (off + 4) (some (pieceC 0 [] [] false))) (off + 47) (some (encRd ⟨[], 0, 8⟩))) (A := A) (off + 1000) hw6 (upd_same _ _ _)
    simp only at k2
    have e8 : ((8 : Int) != 0) = true := rfl
    have e47 : (off + 4 = off + 47) = False := eq_false (by omega)
    have ha : ∀ x, Above (off + 1000) (upd (upd H (off + 4) (some (pieceC 0 [] [] false))) (off + 47) (some x)) A := fun x => Above_updH hm4 (by omega)
    repeat' (first
     |with_reducible first|refine vSq fun K hK=>?_|refine vRg ?_|refine vBl ?_|refine vSc ?_|refine vIf ?_|refine vSk ?_|refine vEx ?_|refine vRt ?_
     |(with_reducible first|refine gNt (fun h=>?_) (fun h=>?_)|refine gCs (fun h=>?_) (fun h=>?_))<;>(try simp only[h])
     |refine And.intro hx4 ?_
     |refine C_call rfl kr rfl hm4 ?_
     |refine C_pure ku rfl rfl (fun k => (hab _ (Nat.le_add_right _ _)).2 k) ?_
     |refine C_pure kb rfl rfl (fun k => (hab _ (Nat.le_add_right _ _)).2 k) ?_
     |refine C_call rfl kn rfl hm4 ?_
     |refine C_call rfl k1 rfl (ha _) ?_
     |refine C_call rfl k2 rfl (ha _) ?_
     |with_reducible first|(refine hK _ ?_;clear hK K)|(clear hK K;refine hK _ ?_;clear hK K)|(clear hK K;clear hK K;refine hK _ ?_;clear hK K)|(clear hK K;clear hK K;clear hK K;refine hK _ ?_;clear hK K)
     |(with_reducible refine todo ?_;simp +decide only[go_sem, hlh, n4, c1, c2, beq_r1, e8, e47]))
    · refine RetR_same (p := pieceV 0 [] [] false false) ?_ wk_piece oks_piece hw (fun j hj => ?_) (fun _ _ => rfl)
      · show resPVs _ _ [.cell 4 133, .tmp 5] = _
        simp +decide only [go_sem, resPVs, resPs, resOne, joinP, toTVs, PV.tv, pieceV, pieceC, e47]
      · have j4 : j ≠ off + 4 := fun e => hj (by rw [e]; exact hx4)
        have j47 : j ≠ off + 47 := fun e => hj (by rw [e]; exact hx47)
        simp +decide only [go_sem, j4, j47]
  · repeat' (first
     |with_reducible first|refine vSq fun K hK=>?_|refine vRg ?_|refine vBl ?_|refine vSc ?_|refine vIf ?_|refine vSk ?_|refine vEx ?_|refine vRt ?_
     |(with_reducible first|refine gNt (fun h=>?_) (fun h=>?_)|refine gCs (fun h=>?_) (fun h=>?_))<;>(try simp only[h])
     |refine And.intro hx4 ?_
     |refine C_call rfl kr rfl hm4 ?_
     |refine C_pure ku rfl rfl (fun k => (hab _ (Nat.le_add_right _ _)).2 k) ?_
     |with_reducible first|(refine hK _ ?_;clear hK K)|(clear hK K;refine hK _ ?_;clear hK K)|(clear hK K;clear hK K;refine hK _ ?_;clear hK K)|(clear hK K;clear hK K;clear hK K;refine hK _ ?_;clear hK K)
     |(with_reducible refine todo ?_;simp +decide only[go_sem, hlh, n4, c1, c2, beq_r1]))
    · refine RetR_same (p := pieceV 0 [] [] false false) ?_ wk_piece oks_piece hw (fun j hj => ?_) (fun _ _ => rfl)
      · show resPVs _ _ [.cell 4 133, .tmp 5] = _
        simp +decide only [go_sem, resPVs, resPs, resOne, joinP, toTVs, PV.tv, pieceV, pieceC]
      · have j4 : j ≠ off + 4 := fun e => hj (by rw [e]; exact hx4)
        simp +decide only [go_sem, j4]
end wal
end Go.Proofs

namespace Go.Proofs
open Go.PW
theorem behindL_app (h r : List UInt8) : behindL (h ++ r) h = some r := by
  unfold behindL
  rw [List.take_left, if_pos rfl, List.drop_left]
theorem headL_one (t i : Nat) (r : List UInt8) : behindL (headL t i 0 ++ r) (headL t i 1) = none := by
  have hl : (headL t i 1).length = (headL t i 0).length := by
    simp only [headL, List.length_append]
    rfl
  unfold behindL
  rw [hl, List.take_left, if_neg]
  intro e
  unfold headL at e
  have := List.append_cancel_left e
  cases this
section wal
variable {H : HMap} {A : AMap} {lid did : Nat} {κm κc κr : Tok} {d : Dk} {l : Lg}
set_option maxRecDepth 8000 in
set_option maxHeartbeats 32000000 in
theorem Tryz.kAtP (off : Nat) (hw : Wf H A) (hl : LgAt H A lid did κr l) (hd : DkAt H A did κm κc d) (hcl : d.cache.length ≤ 1000000) (i : Nat) (hin : l.from_ + 2 + i < d.n) (hdn : d.n ≤ 4096) (hs : (rd d ((l.from_ + 2 + i : Nat) : Int)).length ≤ 128)
    (t : Nat) (sm pt : List UInt8) (more : Bool) (ht : t ≤ 1099511627776) (hsm : sm.length = 4) (hpt : pt.length ≤ 100) (hpm : more = true → pt.length = 100)
    (hc : unsealB (rd d ((l.from_ + 2 + i : Nat) : Int)) = some (headL t i (if more = true then 1 else 0) ++ (sm ++ pt))) :
    EffOK Tryz.prog 93 off H A [.c (.ptr lid 0), pD (.lit (.int .i64 i))] (pieceV t sm pt more true) H A := by
  refine effr_ok (E := envOf Tryz.prog [53, 89, 90, 91] off [] [19004]) (envOf_ok Tryz.mixed) Tryz.func93 rfl Tryz.call93 (by kernel_rfl) (by exact Nat.le_of_ble_eq_true rfl) (fun hab => ?_)
  have hlh := hl.h
  unfold encLg at hlh
  have hlt := hd.lt hab
  have hlt2 := hl.lt hab
  have n4 : lid ≠ off + 4 := by omega
  have nd4 : did ≠ off + 4 := by omega
  have hx4 : H (off + 4) = none := (hab _ (Nat.le_add_right _ _)).1
  have hx17 : H (off + 17) = none := (hab _ (Nat.le_add_right _ _)).1
  have hx47 : H (off + 47) = none := (hab _ (Nat.le_add_right _ _)).1
  have c1 : IntKind.i64.wrap ((l.from_ : Int) + 2) = ((l.from_ + 2 : Nat) : Int) := Go.IntWalk.i64_in _ (by omega)
  have c2 : IntKind.i64.wrap (((l.from_ + 2 : Nat) : Int) + (i : Int)) = ((l.from_ + 2 + i : Nat) : Int) := by rw [Go.IntWalk.i64_in _ (by omega)]; omega
  have c3 : IntKind.i64.wrap (t : Int) = (t : Int) := Go.IntWalk.i64_in _ (by omega)
  have g1 : ((1099511627776 : Int) < (t : Int)) = False := eq_false (by omega)
  have hrt : dkRight d ((l.from_ + 2 + i : Nat) : Int) = 0 := by unfold dkRight; rw [if_neg (by omega), if_neg (by omega)]
  have hw4 : Wf (upd H (off + 4) (some (pieceC 0 [] [] false))) A := Wf_upd hw rfl
  have kr := Tryz.kRead (off + 1000) hw4 (hd.updH nd4) ((l.from_ + 2 + i : Nat) : Int) (by omega) hcl
  unfold readPV at kr
  rw [if_pos hrt] at kr
  generalize rd d ((l.from_ + 2 + i : Nat) : Int) = s at *
  have ku := Tryz.kUnseal s (by omega)
  have hm4 : Above (off + 1000) (upd H (off + 4) (some (pieceC 0 [] [] false))) A := Above_updH (Above_mono hab (by omega)) (by omega)
  rw [hc] at ku
  simp only [optS] at ku
  have kb := Tryz.kBehind (headL t i (if more = true then 1 else 0) ++ (sm ++ pt)) [76]
  have hbe : behindL (headL t i (if more = true then 1 else 0) ++ (sm ++ pt)) [76] = some (uintB t ++ (uintB i ++ uintB (if more = true then 1 else 0) ++ (sm ++ pt))) := by
    have : headL t i (if more = true then 1 else 0) ++ (sm ++ pt) = [76] ++ (uintB t ++ (uintB i ++ uintB (if more = true then 1 else 0) ++ (sm ++ pt))) := by simp [headL]
    rw [this, behindL_app]
  unfold behRV at kb
  rw [hbe] at kb
  simp only at kb
  have hy47 : upd H (off + 4) (some (pieceC 0 [] [] false)) (off + 47) = none := by rw [upd_other _ _ (by omega)]; exact hx47
  have l1 := uintB_len t
  have l2 := uintB_len i
  have l3 := uintB_len (if more = true then 1 else 0)
  generalize hR : uintB i ++ uintB (if more = true then 1 else 0) ++ (sm ++ pt) = R at *
  have lR : R.length ≤ 126 := by rw [← hR]; simp; omega
  have kn := Tryz.kRdNew (id := off + 47) (off + 1000) hw4 (uintB t ++ R) hy47
  have hw5 : Wf (upd (upd H (off + 4) (some (pieceC 0 [] [] false))) (off + 47) (some (encRd ⟨uintB t ++ R, 0, 0⟩))) A := Wf_upd hw4 (encRd_D _)
  have k1 := Tryz.kUint48 (H := upd (upd H (off + 4) (some (pieceC 0 [] [] false))) (off + 47) (some (encRd ⟨uintB t ++ R, 0, 0⟩))) (A := A) (id := off + 47) (n := t) (res := t) (off + 1000) hw5 (upd_same _ _ _) rfl (by simp; omega) (.inl ⟨R, rfl, by omega, rfl, rfl⟩)
  rw [upd_twice] at k1
  simp only [Nat.zero_add] at k1
  have hw6 : Wf (upd (upd H (off + 4) (some (pieceC 0 [] [] false))) (off + 47) (some (encRd ⟨uintB t ++ R, (uintB t).length, 0⟩))) A := Wf_upd hw4 (encRd_D _)
  have k2 := Tryz.kErr (H := upd (upd H (off + 4) (some (pieceC 0 [] [] false))) (off + 47) (some (encRd ⟨uintB t ++ R, (uintB t).length, 0⟩))) (A := A) (off + 1000) hw6 (upd_same _ _ _)
  simp only at k2
  have kh1 := Tryz.kHead t i 1 (by omega) (by omega) (by omega)
  have kh0 := Tryz.kHead t i 0 (by omega) (by omega) (by omega)
  have e47 : (off + 4 = off + 47) = False := eq_false (by omega)
  have e17 : (off + 17 = off + 47) = False := eq_false (by omega)
  have e174 : (off + 17 = off + 4) = False := eq_false (by omega)
  have e417 : (off + 4 = off + 17) = False := eq_false (by omega)
  have q4 : (sm ++ pt).length = 4 + pt.length := by rw [List.length_append, hsm]
  have qq : (((4 + pt.length : Nat) : Int) < 4) = False := eq_false (by omega)
  have q100 : ((pt.length : Int) ≤ 100) = True := eq_true (by omega)
  have ha : ∀ x, Above (off + 1000) (upd (upd H (off + 4) (some (pieceC 0 [] [] false))) (off + 47) (some x)) A := fun x => Above_updH hm4 (by omega)
  have m4 : 19004 % 1000 = 4 := rfl
  have b1 : ([off + 4] : List Nat).contains (off + 17) = false := by simp
  have b2 : ([off + 4] : List Nat).contains (off + 4) = true := by simp
  have ft : List.take (4 - 0) (sm ++ pt) = sm := by rw [show 4 - 0 = sm.length by omega, List.take_left]
  have fp : List.take (4 + pt.length - 4) (List.drop 4 (sm ++ pt)) = pt := by
    rw [show List.drop 4 (sm ++ pt) = pt by rw [← hsm, List.drop_left], show 4 + pt.length - 4 = pt.length by omega, List.take_length]
  generalize uintB t = ut at *
  cases more with
  | true =>
    simp only [if_true] at kb ku
    have kc := Tryz.kBehind (headL t i 1 ++ (sm ++ pt)) (headL t i 1)
    unfold behRV at kc
    rw [behindL_app] at kc
    simp only at kc
    generalize headL t i 1 = h1 at *
    have qe : ((pt.length : Int) == 100) = true := by rw [beq_iff_eq, hpm rfl]; rfl
    generalize hT : sm ++ pt = T at *
    repeat' (first
     |with_reducible first|refine vSq fun K hK=>?_|refine vRg ?_|refine vBl ?_|refine vSc ?_|refine vIf ?_|refine vSk ?_|refine vEx ?_|refine vRt ?_
     |(with_reducible first|refine gNt (fun h=>?_) (fun h=>?_)|refine gCs (fun h=>?_) (fun h=>?_))<;>(try simp only[h])
     |refine W_slcS (a := T) (l := 0) (h := 4) Tryz.underlying9 rfl rfl (by simp [optNat, natOf?, intOf?]) (by omega) (by omega) ?_
     |refine W_slcS (a := T) (l := 4) (h := T.length) Tryz.underlying9 rfl (by simp [optNat, natOf?, intOf?]) rfl (by omega) (Nat.le_refl _) ?_
     |refine And.intro hx4 ?_
     |refine And.intro hx17 ?_
     |refine C_call rfl kr rfl hm4 ?_
     |refine C_pure ku rfl rfl (fun k => (hab _ (Nat.le_add_right _ _)).2 k) ?_
     |refine C_pure kb rfl rfl (fun k => (hab _ (Nat.le_add_right _ _)).2 k) ?_
     |refine C_pure kc rfl rfl (fun k => (hab _ (Nat.le_add_right _ _)).2 k) ?_
     |refine C_pure kh1 rfl rfl (fun k => (hab _ (Nat.le_add_right _ _)).2 k) ?_
     |refine C_call rfl kn rfl hm4 ?_
     |refine C_call rfl k1 rfl (ha _) ?_
     |refine C_call rfl k2 rfl (ha _) ?_
     |with_reducible first|(refine hK _ ?_;clear hK K)|(clear hK K;refine hK _ ?_;clear hK K)|(clear hK K;clear hK K;refine hK _ ?_;clear hK K)|(clear hK K;clear hK K;clear hK K;refine hK _ ?_;clear hK K)
     |(with_reducible refine todo ?_;simp +decide only[go_sem, hlh, n4, c1, c2, c3, g1, zne, beq_r1, beq_r17, beq_r18, e47, e17, e174, e417, q4, qq, q100, m4, b1, b2, ft, fp, qe]))
    refine RetR_same (p := pieceV t sm pt true true) ?_ wk_piece oks_piece hw (fun j hj => ?_) (fun _ _ => rfl)
    · show resPVs _ _ [.cell 4 133, .tmp 5] = _
      simp +decide only [go_sem, resPVs, resPs, resOne, joinP, toTVs, PV.tv, pieceV, pieceC]
    · have j4 : j ≠ off + 4 := fun e => hj (by rw [e]; exact hx4)
      have j17 : j ≠ off + 17 := fun e => hj (by rw [e]; exact hx17)
      have j47 : j ≠ off + 47 := fun e => hj (by rw [e]; exact hx47)
      simp +decide only [go_sem, j4, j17, j47]
  | false =>
    have ef : (if false = true then 1 else 0) = 0 := rfl
    simp only [ef] at kb ku
    have kc1 := Tryz.kBehind (headL t i 0 ++ (sm ++ pt)) (headL t i 1)
    unfold behRV at kc1
    rw [headL_one] at kc1
    simp only at kc1
    have kc := Tryz.kBehind (headL t i 0 ++ (sm ++ pt)) (headL t i 0)
    unfold behRV at kc
    rw [behindL_app] at kc
    simp only at kc
    generalize headL t i 1 = h1 at *
    generalize headL t i 0 = h0 at *
    generalize hT : sm ++ pt = T at *
    repeat' (first
     |with_reducible first|refine vSq fun K hK=>?_|refine vRg ?_|refine vBl ?_|refine vSc ?_|refine vIf ?_|refine vSk ?_|refine vEx ?_|refine vRt ?_
     |(with_reducible first|refine gNt (fun h=>?_) (fun h=>?_)|refine gCs (fun h=>?_) (fun h=>?_))<;>(try simp only[h])
     |refine W_slcS (a := T) (l := 0) (h := 4) Tryz.underlying9 rfl rfl (by simp [optNat, natOf?, intOf?]) (by omega) (by omega) ?_
     |refine W_slcS (a := T) (l := 4) (h := T.length) Tryz.underlying9 rfl (by simp [optNat, natOf?, intOf?]) rfl (by omega) (Nat.le_refl _) ?_
     |refine And.intro hx4 ?_
     |refine And.intro hx17 ?_
     |refine C_call rfl kr rfl hm4 ?_
     |refine C_pure ku rfl rfl (fun k => (hab _ (Nat.le_add_right _ _)).2 k) ?_
     |refine C_pure kb rfl rfl (fun k => (hab _ (Nat.le_add_right _ _)).2 k) ?_
     |refine C_pure kc1 rfl rfl (fun k => (hab _ (Nat.le_add_right _ _)).2 k) ?_
     |refine C_pure kh0 rfl rfl (fun k => (hab _ (Nat.le_add_right _ _)).2 k) ?_
     |refine C_pure kc rfl rfl (fun k => (hab _ (Nat.le_add_right _ _)).2 k) ?_
     |refine C_pure kh1 rfl rfl (fun k => (hab _ (Nat.le_add_right _ _)).2 k) ?_
     |refine C_call rfl kn rfl hm4 ?_
     |refine C_call rfl k1 rfl (ha _) ?_
     |refine C_call rfl k2 rfl (ha _) ?_
     |with_reducible first|(refine hK _ ?_;clear hK K)|(clear hK K;refine hK _ ?_;clear hK K)|(clear hK K;clear hK K;refine hK _ ?_;clear hK K)|(clear hK K;clear hK K;clear hK K;refine hK _ ?_;clear hK K)
     |(with_reducible refine todo ?_;simp +decide only[go_sem, hlh, n4, c1, c2, c3, g1, zne, beq_r1, beq_r17, beq_r18, e47, e17, e174, e417, q4, qq, q100, m4, b1, b2, ft, fp]))
    refine RetR_same (p := pieceV t sm pt false true) ?_ wk_piece oks_piece hw (fun j hj => ?_) (fun _ _ => rfl)
    · show resPVs _ _ [.cell 4 133, .tmp 5] = _
      simp +decide only [go_sem, resPVs, resPs, resOne, joinP, toTVs, PV.tv, pieceV, pieceC]
    · have j4 : j ≠ off + 4 := fun e => hj (by rw [e]; exact hx4)
      have j17 : j ≠ off + 17 := fun e => hj (by rw [e]; exact hx17)
      have j47 : j ≠ off + 47 := fun e => hj (by rw [e]; exact hx47)
      simp +decide only [go_sem, j4, j17, j47]
end wal
end Go.Proofs
