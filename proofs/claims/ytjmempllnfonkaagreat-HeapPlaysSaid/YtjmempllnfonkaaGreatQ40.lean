/-
  Parts of the proof, laid together: PwOa, PwOb, PwOc, PwOd.
-/
import Derived.Test.YtjmempllnfonkaaGreatQ39
import Derived.Test.YtjmempllnfonkaaGreatQ31

namespace Go.Proofs
open Go.PW
section bw
variable {H : HMap} {A : AMap} {k did pid hid N logs T m top : Nat} {gs : List (List UInt8)} {I : RI} {xid : Nat} {x : RS}
set_option maxRecDepth 8000 in
set_option maxHeartbeats 16000000 in
theorem Tryz.bPlay0 (off : Nat) (h : BW H A k did pid hid N logs T m top gs I xid x) (ht : top ≤ off) (hkt : hid < off) (hx : x.1 = gs) (n : Int) (s : List UInt8) :
    ∃ H' A' m' gs' y, EffOK Tryz.prog 17 off H A [.c (.ptr hid 0), .c (.ptr xid 0), .agg [.d (.lit (.int .i64 0)), .d (.lit (.int .i64 n)), .d (dS s)]] (pD (.lit (.bool true))) H' A' ∧ BW H' A' k did pid hid N logs T m' top gs' I xid y ∧ y.1 = gs' ∧ (∀ j, H j ≠ none → H' j ≠ none) ∧ ∀ τ, A τ ≠ none → A' τ ≠ none := by
  obtain ⟨hw, hab0, hrh, hn, hp, hg⟩ := h.nums
  have hab := Above_mono hab0 ht
  obtain ⟨H1, A1, e1, b1, k1, k2⟩ := h.prog (off := off + 1000) (l := [dS s]) (.inr rfl) (fun H0 A0 hy => Tryz.hPut (off + 1000) hy (by omega) s)
  obtain ⟨hw1, hab1, hrh1, hn1, hp1, hg1⟩ := b1.nums
  have e2 := Tryz.rHPut (off + 1000) hw1 hrh1 s
  have b2 := b1.doc (y := putS x s) (fun L M hx => hx.put s)
  obtain ⟨hw2, hab2, hrh2, hn2, hp2, hg2⟩ := b2.nums
  rw [hx] at e2
  have u0 : H (off + 5) = none := (hab _ (Nat.le_add_right _ _)).1
  have u1 : H1 (off + 5) = none := (hab1 _ (by omega)).1
  have u2 : I.up H1 (putS x s) (off + 5) = none := (hab2 _ (by omega)).1
  have e1' := eff_frame (id := off + 5) (cs := [.d (.lit (.int .i64 0)), .d (.lit (.int .i64 n)), .d (dS s)]) e1 hw (oksP (l := [dS s]) hn) u0 u1
  have e2' := eff_frame (id := off + 5) (cs := [.d (.lit (.int .i64 0)), .d (.lit (.int .i64 n)), .d (dS s)]) e2 hw1 (oksP (l := [dS s]) hrh1.h0) u1 u2
  refine ⟨_, A1, _, _, _, ?_, b2, by rw [putS_1, hx], fun j hj => I.up_keep _ (k1 j hj), k2⟩
  refine effr_ok (E := envOf Tryz.prog [41, 48] off [] []) (envOf_ok Tryz.mixed) Tryz.func17 rfl Tryz.call17 (by kernel_rfl) (by exact Nat.le_of_ble_eq_true rfl) (fun _ => ?_)
  unfold putV at e1' e2'
  have a0 : ∀ c, Above (off + 1000) (upd H (off + 5) (some c)) A := fun c => Above_updH (Above_mono hab (by omega)) (by omega)
  have a1 : ∀ c, Above (off + 1000) (upd H1 (off + 5) (some c)) A1 := fun c => Above_updH (Above_mono hab1 (by omega)) (by omega)
  have kH : ∀ j, H j ≠ none → I.up H1 (putS x s) j ≠ none := fun j hj => I.up_keep _ (k1 j hj)
  have hS : ∀ i, I.up H1 (putS x s) i ≠ none → ∀ c, upd (I.up H1 (putS x s)) (off + 5) (some c) i = I.up H1 (putS x s) i := fun i hi c => upd_other _ _ fun e => hi (by rw [e]; exact u2)
  generalize putG gs s = R at *
  obtain ⟨id, er, g1⟩ := R
  simp only at e1' e2'
  have q1 : ((id : Int) == (id : Int)) = true := beq_self_eq_true _
  have q2 : (er == er) = true := beq_self_eq_true _
  generalize I.up H1 (putS x s) = H2 at *
  repeat' (first
   |with_reducible first|refine vSq fun K hK=>?_|refine vRg ?_|refine vBl ?_|refine vSc ?_|refine vIf ?_|refine vSk ?_|refine vEx ?_|refine vRt ?_
   |(with_reducible first|refine gNt (fun h=>?_) (fun h=>?_)|refine gCs (fun h=>?_) (fun h=>?_))<;>(try simp only[h])
   |refine And.intro u0 ?_
   |refine C_call rfl e1' rfl (a0 _) ?_
   |refine C_call rfl e2' rfl (a1 _) ?_
   |with_reducible first|(refine hK _ ?_;clear hK K)|(clear hK K;refine hK _ ?_;clear hK K)|(clear hK K;clear hK K;refine hK _ ?_;clear hK K)|(clear hK K;clear hK K;clear hK K;refine hK _ ?_;clear hK K)
   |(with_reducible refine todo ?_;simp +decide only[go_sem, q1, q2]))
  exact RetR_sub rfl (by simp +decide only [go_sem]) True.intro hw2 (fun i hi => hS i hi _) (fun _ _ => rfl) kH k2
set_option maxRecDepth 8000 in
set_option maxHeartbeats 16000000 in
theorem Tryz.bPlay1 (off : Nat) (h : BW H A k did pid hid N logs T m top gs I xid x) (ht : top ≤ off) (hx : x.1 = gs) (n : Int) (s : List UInt8) :
    EffOK Tryz.prog 17 off H A [.c (.ptr hid 0), .c (.ptr xid 0), .agg [.d (.lit (.int .i64 1)), .d (.lit (.int .i64 n)), .d (dS s)]] (pD (.lit (.bool true))) H A := by
  obtain ⟨hw, hab0, hrh, hn, hp, hg⟩ := h.nums
  have hab := Above_mono hab0 ht
  have e1 := h.tell (off := off + 1000) (l := [.lit (.int .i64 n)]) (.inr rfl) (fun H0 A0 hy => Tryz.hGet (off + 1000) hy n)
  have e2 := Tryz.rGet (off + 1000) hw hrh n
  rw [hx] at e2
  have u0 : H (off + 5) = none := (hab _ (Nat.le_add_right _ _)).1
  have e1' := eff_frame (id := off + 5) (cs := [.d (.lit (.int .i64 1)), .d (.lit (.int .i64 n)), .d (dS s)]) e1 hw (oksP (l := [.lit (.int .i64 n)]) hn) u0 u0
  have e2' := eff_frame (id := off + 5) (cs := [.d (.lit (.int .i64 1)), .d (.lit (.int .i64 n)), .d (dS s)]) e2 hw (oksP (l := [.lit (.int .i64 n)]) hrh.h0) u0 u0
  refine effr_ok (E := envOf Tryz.prog [45, 49] off [] []) (envOf_ok Tryz.mixed) Tryz.func17 rfl Tryz.call17 (by kernel_rfl) (by exact Nat.le_of_ble_eq_true rfl) (fun _ => ?_)
  unfold getV at e1' e2'
  have a0 : ∀ c, Above (off + 1000) (upd H (off + 5) (some c)) A := fun c => Above_updH (Above_mono hab (by omega)) (by omega)
  have hS : ∀ i, H i ≠ none → ∀ c, upd H (off + 5) (some c) i = H i := fun i hi c => upd_other _ _ fun e => hi (by rw [e]; exact u0)
  generalize rowG gs n = R at *
  obtain ⟨ids, t, er⟩ := R
  simp only at e1' e2'
  have q1 : (t == t) = true := beq_self_eq_true _
  have q2 : (er == er) = true := beq_self_eq_true _
  have z0 : ((1 : Int) == 0) = false := rfl
  repeat' (first
   |with_reducible first|refine vSq fun K hK=>?_|refine vRg ?_|refine vBl ?_|refine vSc ?_|refine vIf ?_|refine vSk ?_|refine vEx ?_|refine vRt ?_
   |(with_reducible first|refine gNt (fun h=>?_) (fun h=>?_)|refine gCs (fun h=>?_) (fun h=>?_))<;>(try simp only[h])
   |refine And.intro u0 ?_
   |refine C_call rfl e1' rfl (a0 _) ?_
   |refine C_call rfl e2' rfl (a0 _) ?_
   |with_reducible first|(refine hK _ ?_;clear hK K)|(clear hK K;refine hK _ ?_;clear hK K)|(clear hK K;clear hK K;refine hK _ ?_;clear hK K)|(clear hK K;clear hK K;clear hK K;refine hK _ ?_;clear hK K)
   |(with_reducible refine todo ?_;simp +decide only[go_sem, q1, q2, z0]))
  exact RetR_sub rfl (by simp +decide only [go_sem]) True.intro hw (fun i hi => hS i hi _) (fun _ _ => rfl) (fun _ h => h) (fun _ h => h)
set_option maxRecDepth 8000 in
set_option maxHeartbeats 16000000 in
theorem Tryz.bPlay4 (off : Nat) (h : BW H A k did pid hid N logs T m top gs I xid x) (ht : top ≤ off) (hx : x.1 = gs) (n : Int) (s : List UInt8) :
    EffOK Tryz.prog 17 off H A [.c (.ptr hid 0), .c (.ptr xid 0), .agg [.d (.lit (.int .i64 4)), .d (.lit (.int .i64 n)), .d (dS s)]] (pD (.lit (.bool true))) H A := by
  obtain ⟨hw, hab0, hrh, hn, hp, hg⟩ := h.nums
  have hab := Above_mono hab0 ht
  have e1 := h.tell (off := off + 1000) (l := []) (.inr rfl) (fun H0 A0 hy => Tryz.hRoot (off + 1000) hy)
  have e2 := Tryz.rRoot (off + 1000) hw hrh
  rw [hx] at e2
  have u0 : H (off + 5) = none := (hab _ (Nat.le_add_right _ _)).1
  have e1' := eff_frame (id := off + 5) (cs := [.d (.lit (.int .i64 4)), .d (.lit (.int .i64 n)), .d (dS s)]) e1 hw (oksP (l := []) hn) u0 u0
  have e2' := eff_frame (id := off + 5) (cs := [.d (.lit (.int .i64 4)), .d (.lit (.int .i64 n)), .d (dS s)]) e2 hw (oksP (l := []) hrh.h0) u0 u0
  refine effr_ok (E := envOf Tryz.prog [43, 52] off [] []) (envOf_ok Tryz.mixed) Tryz.func17 rfl Tryz.call17 (by kernel_rfl) (by exact Nat.le_of_ble_eq_true rfl) (fun _ => ?_)
  have a0 : ∀ c, Above (off + 1000) (upd H (off + 5) (some c)) A := fun c => Above_updH (Above_mono hab (by omega)) (by omega)
  have hS : ∀ i, H i ≠ none → ∀ c, upd H (off + 5) (some c) i = H i := fun i hi c => upd_other _ _ fun e => hi (by rw [e]; exact u0)
  obtain ⟨t, er, hR⟩ : ∃ t er, rootV gs = .tup [.c (.d (dS t)), .c (.d (.lit (.int .i64 er)))] := by
    unfold rootV getV
    split
    · exact ⟨_, _, rfl⟩
    · exact ⟨_, _, rfl⟩
  rw [hR] at e1' e2'
  have q1 : (t == t) = true := beq_self_eq_true _
  have q2 : (er == er) = true := beq_self_eq_true _
  have z0 : ((4 : Int) == 0) = false := rfl
  have z1 : ((4 : Int) == 1) = false := rfl
  have z2 : ((4 : Int) == 2) = false := rfl
  have z3 : ((4 : Int) == 3) = false := rfl
  repeat' (first
   |with_reducible first|refine vSq fun K hK=>?_|refine vRg ?_|refine vBl ?_|refine vSc ?_|refine vIf ?_|refine vSk ?_|refine vEx ?_|refine vRt ?_
   |(with_reducible first|refine gNt (fun h=>?_) (fun h=>?_)|refine gCs (fun h=>?_) (fun h=>?_))<;>(try simp only[h])
   |refine And.intro u0 ?_
   |refine C_call rfl e1' rfl (a0 _) ?_
   |refine C_call rfl e2' rfl (a0 _) ?_
   |with_reducible first|(refine hK _ ?_;clear hK K)|(clear hK K;refine hK _ ?_;clear hK K)|(clear hK K;clear hK K;refine hK _ ?_;clear hK K)|(clear hK K;clear hK K;clear hK K;refine hK _ ?_;clear hK K)
   |(with_reducible refine todo ?_;simp +decide only[go_sem, q1, q2, z0, z1, z2, z3]))
  exact RetR_sub rfl (by simp +decide only [go_sem]) True.intro hw (fun i hi => hS i hi _) (fun _ _ => rfl) (fun _ h => h) (fun _ h => h)
end bw
end Go.Proofs

namespace Go.Proofs
open Go.PW
theorem keep1 {H H' : HMap} {a : Nat} {c : Option (List CV)} : ∀ id ∈ [a], upd H' a c id = upd H a c id := fun id h => by
  rw [List.mem_singleton.1 h, upd_same, upd_same]
section bw
variable {H : HMap} {A : AMap} {k did pid hid N logs T m top : Nat} {gs : List (List UInt8)} {I : RI} {xid : Nat} {x : RS}
set_option maxRecDepth 8000 in
set_option maxHeartbeats 16000000 in
theorem Tryz.bPlay2 (off : Nat) (h : BW H A k did pid hid N logs T m top gs I xid x) (ht : top ≤ off) (hkt : hid < off) (hx : x.1 = gs) (n : Int) (s : List UInt8) :
    ∃ H' A' m' gs' y, EffOK Tryz.prog 17 off H A [.c (.ptr hid 0), .c (.ptr xid 0), .agg [.d (.lit (.int .i64 2)), .d (.lit (.int .i64 n)), .d (dS s)]] (pD (.lit (.bool true))) H' A' ∧ BW H' A' k did pid hid N logs T m' top gs' I xid y ∧ y.1 = gs' ∧ (∀ j, H j ≠ none → H' j ≠ none) ∧ ∀ τ, A τ ≠ none → A' τ ≠ none := by
  obtain ⟨hw, hab0, hrh, hn, hp, hg⟩ := h.nums
  have hab := Above_mono hab0 ht
  obtain ⟨H1, A1, e1, b1, k1, k2⟩ := h.prog (off := off + 1000) (l := [.lit (.int .i64 n)]) (.inr rfl) (fun H0 A0 hy => Tryz.hDrop (off + 1000) hy (by omega) n)
  obtain ⟨hw1, hab1, hrh1, hn1, hp1, hg1⟩ := b1.nums
  have e2 := Tryz.rDrop (off + 1000) hw1 hrh1 n
  have b2 := b1.doc (y := (dropS x n)) (fun L M hx => hx.drop n)
  obtain ⟨hw2, hab2, hrh2, hn2, hp2, hg2⟩ := b2.nums
  rw [hx] at e2
  have u0 : H (off + 5) = none := (hab _ (Nat.le_add_right _ _)).1
  have u1 : H1 (off + 5) = none := (hab1 _ (by omega)).1
  have u2 : I.up H1 ((dropS x n)) (off + 5) = none := (hab2 _ (by omega)).1
  have e1' := eff_frame (id := off + 5) (cs := [.d (.lit (.int .i64 2)), .d (.lit (.int .i64 n)), .d (dS s)]) e1 hw (oksP (l := [.lit (.int .i64 n)]) hn) u0 u1
  have e2' := eff_frame (id := off + 5) (cs := [.d (.lit (.int .i64 2)), .d (.lit (.int .i64 n)), .d (dS s)]) e2 hw1 (oksP (l := [.lit (.int .i64 n)]) hrh1.h0) u1 u2
  refine ⟨_, A1, _, _, _, ?_, b2, by rw [dropS_1, hx], fun j hj => I.up_keep _ (k1 j hj), k2⟩
  refine effr_ok (E := envOf Tryz.prog [46, 50] off [] [1012005]) (envOf_ok Tryz.mixed) Tryz.func17 rfl Tryz.call17 (by kernel_rfl) (by exact Nat.le_of_ble_eq_true rfl) (fun _ => ?_)
  have a0 : ∀ c, Above (off + 1000) (upd H (off + 5) (some c)) A := fun c => Above_updH (Above_mono hab (by omega)) (by omega)
  have a1 : ∀ c, Above (off + 1000) (upd H1 (off + 5) (some c)) A1 := fun c => Above_updH (Above_mono hab1 (by omega)) (by omega)
  have kH : ∀ j, H j ≠ none → I.up H1 ((dropS x n)) j ≠ none := fun j hj => I.up_keep _ (k1 j hj)
  have hS : ∀ i, I.up H1 ((dropS x n)) i ≠ none → ∀ c, upd (I.up H1 ((dropS x n))) (off + 5) (some c) i = I.up H1 ((dropS x n)) i := fun i hi c => upd_other _ _ fun e => hi (by rw [e]; exact u2)
  generalize (rowG gs n).2.2 = er at *
  have q2 : (er == er) = true := beq_self_eq_true _
  have y1 : ((11 : Nat) == 1012005) = false := rfl
  have y2 : 1012005 % 1000 = 5 := rfl
  have y3 : [off + 5].contains (off + 5) = true := by simp
  have z0 : ((2 : Int) == 0) = false := rfl
  have z1 : ((2 : Int) == 1) = false := rfl
  generalize I.up H1 ((dropS x n)) = H2 at *
  repeat' (first
   |with_reducible first|refine vSq fun K hK=>?_|refine vRg ?_|refine vBl ?_|refine vSc ?_|refine vIf ?_|refine vSk ?_|refine vEx ?_|refine vRt ?_
   |(with_reducible first|refine gNt (fun h=>?_) (fun h=>?_)|refine gCs (fun h=>?_) (fun h=>?_))<;>(try simp only[h])
   |refine A_intro keep1 ?_
   |refine And.intro u0 ?_
   |refine C_call rfl e1' rfl (a0 _) ?_
   |refine C_call rfl e2' rfl (a1 _) ?_
   |with_reducible first|(refine hK _ ?_;clear hK K)|(clear hK K;refine hK _ ?_;clear hK K)|(clear hK K;clear hK K;refine hK _ ?_;clear hK K)|(clear hK K;clear hK K;clear hK K;refine hK _ ?_;clear hK K)
   |(with_reducible refine todo ?_;simp +decide only[go_sem, y1, y2, y3, q2, z0, z1]))
  exact RetR_sub rfl (by simp +decide only [go_sem]) True.intro hw2 (fun i hi => hS i hi _) (fun _ _ => rfl) kH k2
set_option maxRecDepth 8000 in
set_option maxHeartbeats 16000000 in
theorem Tryz.bPlay3 (off : Nat) (h : BW H A k did pid hid N logs T m top gs I xid x) (ht : top ≤ off) (hkt : hid < off) (hx : x.1 = gs) (n : Int) (s : List UInt8) :
    ∃ H' A' m' gs' y, EffOK Tryz.prog 17 off H A [.c (.ptr hid 0), .c (.ptr xid 0), .agg [.d (.lit (.int .i64 3)), .d (.lit (.int .i64 n)), .d (dS s)]] (pD (.lit (.bool true))) H' A' ∧ BW H' A' k did pid hid N logs T m' top gs' I xid y ∧ y.1 = gs' ∧ (∀ j, H j ≠ none → H' j ≠ none) ∧ ∀ τ, A τ ≠ none → A' τ ≠ none := by
  obtain ⟨hw, hab0, hrh, hn, hp, hg⟩ := h.nums
  have hab := Above_mono hab0 ht
  obtain ⟨H1, A1, e1, b1, k1, k2⟩ := h.prog (off := off + 1000) (l := [dS s]) (.inr rfl) (fun H0 A0 hy => Tryz.hSetRoot (off + 1000) hy (by omega) s)
  obtain ⟨hw1, hab1, hrh1, hn1, hp1, hg1⟩ := b1.nums
  have e2 := Tryz.rSetRoot (off + 1000) hw1 hrh1 s
  have b2 := b1.doc (y := (setRootS x s)) (fun L M hx => hx.setRoot s)
  obtain ⟨hw2, hab2, hrh2, hn2, hp2, hg2⟩ := b2.nums
  rw [hx] at e2
  have u0 : H (off + 5) = none := (hab _ (Nat.le_add_right _ _)).1
  have u1 : H1 (off + 5) = none := (hab1 _ (by omega)).1
  have u2 : I.up H1 ((setRootS x s)) (off + 5) = none := (hab2 _ (by omega)).1
  have e1' := eff_frame (id := off + 5) (cs := [.d (.lit (.int .i64 3)), .d (.lit (.int .i64 n)), .d (dS s)]) e1 hw (oksP (l := [dS s]) hn) u0 u1
  have e2' := eff_frame (id := off + 5) (cs := [.d (.lit (.int .i64 3)), .d (.lit (.int .i64 n)), .d (dS s)]) e2 hw1 (oksP (l := [dS s]) hrh1.h0) u1 u2
  refine ⟨_, A1, _, _, _, ?_, b2, by rw [setRootS_1, hx], fun j hj => I.up_keep _ (k1 j hj), k2⟩
  refine effr_ok (E := envOf Tryz.prog [44, 51] off [] [1014005]) (envOf_ok Tryz.mixed) Tryz.func17 rfl Tryz.call17 (by kernel_rfl) (by exact Nat.le_of_ble_eq_true rfl) (fun _ => ?_)
  have a0 : ∀ c, Above (off + 1000) (upd H (off + 5) (some c)) A := fun c => Above_updH (Above_mono hab (by omega)) (by omega)
  have a1 : ∀ c, Above (off + 1000) (upd H1 (off + 5) (some c)) A1 := fun c => Above_updH (Above_mono hab1 (by omega)) (by omega)
  have kH : ∀ j, H j ≠ none → I.up H1 ((setRootS x s)) j ≠ none := fun j hj => I.up_keep _ (k1 j hj)
  have hS : ∀ i, I.up H1 ((setRootS x s)) i ≠ none → ∀ c, upd (I.up H1 ((setRootS x s))) (off + 5) (some c) i = I.up H1 ((setRootS x s)) i := fun i hi c => upd_other _ _ fun e => hi (by rw [e]; exact u2)
  generalize (setRootG gs s).1 = er at *
  have q2 : (er == er) = true := beq_self_eq_true _
  have y1 : ((13 : Nat) == 1014005) = false := rfl
  have y2 : 1014005 % 1000 = 5 := rfl
  have y3 : [off + 5].contains (off + 5) = true := by simp
  have z0 : ((3 : Int) == 0) = false := rfl
  have z1 : ((3 : Int) == 1) = false := rfl
  have z2 : ((3 : Int) == 2) = false := rfl
  generalize I.up H1 ((setRootS x s)) = H2 at *
  repeat' (first
   |with_reducible first|refine vSq fun K hK=>?_|refine vRg ?_|refine vBl ?_|refine vSc ?_|refine vIf ?_|refine vSk ?_|refine vEx ?_|refine vRt ?_
   |(with_reducible first|refine gNt (fun h=>?_) (fun h=>?_)|refine gCs (fun h=>?_) (fun h=>?_))<;>(try simp only[h])
   |refine A_intro keep1 ?_
   |refine And.intro u0 ?_
   |refine C_call rfl e1' rfl (a0 _) ?_
   |refine C_call rfl e2' rfl (a1 _) ?_
   |with_reducible first|(refine hK _ ?_;clear hK K)|(clear hK K;refine hK _ ?_;clear hK K)|(clear hK K;clear hK K;refine hK _ ?_;clear hK K)|(clear hK K;clear hK K;clear hK K;refine hK _ ?_;clear hK K)
   |(with_reducible refine todo ?_;simp +decide only[go_sem, y1, y2, y3, q2, z0, z1, z2]))
  exact RetR_sub rfl (by simp +decide only [go_sem]) True.intro hw2 (fun i hi => hS i hi _) (fun _ _ => rfl) kH k2
end bw
end Go.Proofs

namespace Go.Proofs
open Go.PW
theorem layH_no (H : HMap) : layH H noH = H := rfl
theorem layA_no (A : AMap) : layA A noA = A := rfl
theorem layA_upd (A M : AMap) (κ : Tok) (c : Arr) : upd (layA A M) κ (some c) = layA A (upd M κ (some c)) := by
  funext j
  by_cases e : j = κ
  · subst e
    rw [upd_same]
    unfold layA
    rw [upd_same]
  · rw [upd_other _ _ e]
    unfold layA
    rw [upd_other _ _ e]
theorem upd_keepA {A : AMap} {u : Tok} {ar : Arr} : ∀ κ, A κ ≠ none → upd A u (some ar) κ ≠ none := fun κ h => by
  by_cases e : κ = u
  · subst e; rw [upd_same]; simp
  · rw [upd_other _ _ e]; exact h
def BP (H : HMap) (A : AMap) (k did pid hid N logs T m top : Nat) (gs : List (List UInt8)) (I : RI) (x : RS) : Prop :=
  ∃ H0 A0 L M, PY H0 A0 k did pid N logs T m gs ∧ RAt L M I x ∧ Wf L M ∧ Above top L M ∧ (∀ i, L i ≠ none → k ≤ i ∧ i ≠ hid) ∧ (∀ τ : Tok, M τ ≠ none → k ≤ τ.1) ∧ (k ≤ hid ∧ hid < top) ∧ H = layH H0 L ∧ A = layA A0 M
theorem lay_lo {H0 L : HMap} {A0 M : AMap} {k : Nat} (hk : 200 ≤ k) (lo : ∀ j, j < 200 → H0 j = none ∧ ∀ q, A0 (j, q) = none) (hL : ∀ i, L i ≠ none → k ≤ i) (hM : ∀ τ : Tok, M τ ≠ none → k ≤ τ.1) : ∀ j, j < 200 → layH H0 L j = none ∧ ∀ q, layA A0 M (j, q) = none := fun j hj => by
  have h1 : L j = none := by
    cases h : L j with
    | none => rfl
    | some c => have := hL j (by rw [h]; simp); omega
  refine ⟨by rw [layH_h h1]; exact (lo j hj).1, fun q => ?_⟩
  have h2 : M (j, q) = none := by
    cases h : M (j, q) with
    | none => rfl
    | some c => have := hM (j, q) (by rw [h]; simp); simp only at this; omega
  rw [layA_h h2]
  exact (lo j hj).2 q
section bw
variable {H : HMap} {A : AMap} {k did pid hid N logs T m top : Nat} {gs : List (List UInt8)} {I : RI} {xid : Nat} {x : RS}
theorem BW.lo (h : BW H A k did pid hid N logs T m top gs I xid x) (hk : 200 ≤ k) : ∀ j, j < 200 → H j = none ∧ ∀ q, A (j, q) = none := by
  obtain ⟨H0, A0, L, M, hy, hx, hw, hab, hL, hM, ht, rfl, rfl⟩ := h
  have hkh : k ≤ hid := hy.nums.2.2.2.2.2.2.1
  exact lay_lo hk (hy.lo (by omega)) (fun i hi => (hL i hi).1) hM
theorem BP.nums (h : BP H A k did pid hid N logs T m top gs I x) (hk : 200 ≤ k) : Wf H A ∧ Above top H A ∧ RAt H A I x ∧ H pid ≠ none ∧ (∀ j, j < 200 → H j = none ∧ ∀ q, A (j, q) = none) ∧ pid < top := by
  obtain ⟨H0, A0, L, M, hy, hx, hw, hab, hL, hM, ⟨h1, h2⟩, rfl, rfl⟩ := h
  obtain ⟨hw0, hab0, hp, _, _, _, lo, hpk, _⟩ := hy.nums
  exact ⟨Wf_lay hw0 hw, Above_lay (Above_mono hab0 (by omega)) hab, hx.lay, layH_keep hp, lay_lo hk lo (fun i hi => (hL i hi).1) hM, by omega⟩
theorem BP.prog {P : Program} {f : FuncId} {off m' : Nat} {l : List D} {v : PV} {gs' : List (List UInt8)} (h : BP H A k did pid hid N logs T m top gs I x)
    (hs : ∀ H0 A0, PY H0 A0 k did pid N logs T m gs → ∃ H' A', EffOK P f off H0 A0 (.c (.ptr pid 0) :: l.map fun d => (.c (.d d) : PV)) v H' A' ∧ PY H' A' k did pid N logs T m' gs' ∧ (∀ j, H0 j ≠ none → H' j ≠ none) ∧ ∀ τ, A0 τ ≠ none → A' τ ≠ none) :
    ∃ H' A', EffOK P f off H A (.c (.ptr pid 0) :: l.map fun d => (.c (.d d) : PV)) v H' A' ∧ BP H' A' k did pid hid N logs T m' top gs' I x := by
  obtain ⟨H0, A0, L, M, hy, hx, hw, hab, hL, hM, ht, rfl, rfl⟩ := h
  obtain ⟨H', A', e, hy', kh, ka⟩ := hs H0 A0 hy
  obtain ⟨hw0, hab0, hp, _⟩ := hy.nums
  have hab1 := hy'.nums.2.1
  exact ⟨layH H' L, layA A' M, eff_over e hw0 (fun tk => oksP hp) (fun i hl => ⟨(hab0 i (hL i hl).1).1, (hab1 i (hL i hl).1).1⟩) (fun τ hl => ⟨(hab0 τ.1 (hM τ hl)).2 τ.2, (hab1 τ.1 (hM τ hl)).2 τ.2⟩), ⟨H', A', L, M, hy', hx, hw, hab, hL, hM, ht, rfl, rfl⟩⟩
theorem BP.doc {y : RS} (h : BP H A k did pid hid N logs T m top gs I x) (hy : ∀ L M, RAt L M I x → RAt (I.up L y) M I y) : BP (I.up H y) A k did pid hid N logs T m top gs I y := by
  obtain ⟨H0, A0, L, M, hy0, hx, hw, hab, hL, hM, ht, rfl, rfl⟩ := h
  have hp := hx.p0
  refine ⟨H0, A0, I.up L y, M, hy0, hy L M hx, hx.wf hw y, Above_updH hab (hx.lt hab), fun i hi => ?_, hM, ht, I.up_lay y, rfl⟩
  by_cases e : i = I.pid
  · subst e; exact hL _ hp
  · rw [I.up_other _ e] at hi
    exact hL i hi
end bw
theorem Tryz.bBegin (many : Nat) (h1 : 1 ≤ many) (h2 : many ≤ 40) : ∃ H1 A1 H2 A2 H3 A3 H4 A4,
    EffOK Tryz.prog 4 1000 noH noA [pD (.lit (.int .i64 ((10 + many : Nat) : Int)))] (.tup [.c (.ptr 200 0), .c (.d (.lit (.int .i64 0)))]) H1 A1 ∧
    EffOK Tryz.prog 5 1000 H1 A1 [pD (.lit (.int .i64 ((10 + many : Nat) : Int)))] (.tup [.c (.ptr 300 0), .c (.d (.lit (.int .i64 0)))]) H2 A2 ∧
    EffOK Tryz.prog 6 1000 H2 A2 [.c (.ptr 200 0), pD (.lit (.int .i64 10))] (.tup [.c (.ptr 202 0), .c (.d (.lit (.int .i64 0)))]) H3 A3 ∧
    EffOK Tryz.prog 7 1000 H3 A3 [.c (.ptr 300 0), pD (.lit (.int .i64 10))] (.tup [.c (.ptr 302 0), .c (.d (.lit (.int .i64 0)))]) H4 A4 ∧
    Above 1000 H1 A1 ∧ Above 1000 H2 A2 ∧ Above 1000 H3 A3 ∧
    BP H4 A4 203 200 202 250 (10 + many) 10 1 0 303 (newG many) (newI 302 300 301 many (300, 0) (300, 2)) (newG many, []) := by
  obtain ⟨H1, A1, e1, L1, lo1, lo2⟩ := Tryz.sNew 200 (10 + many) (by omega) (by omega)
  have D1 := DX.new (logs := 10) L1 (by omega) (by omega) (by omega) (by omega) (by omega) (fun j hj => ⟨lo1 j (by omega), fun q => lo2 _ (by show j ≠ 200; omega)⟩)
  obtain ⟨H3, A3, e3, P3⟩ := Tryz.pOpen 1000 D1 (by omega)
  have hln := newG_len many
  have Y3 : PY H3 A3 203 200 202 (10 + many) 10 1 0 (newG many) := ⟨[], _, P3, Nat.le_refl _, by omega, fun j hj => by rw [ct_nil, newG_at (by omega)]⟩
  obtain ⟨hw3, hab3, _⟩ := Y3.nums
  have e2 := Tryz.rDNew 1000 L1.wf (10 + many) (by omega) (by omega) (id := 300) (κl := (300, 0)) (κw := (300, 1)) (lo1 _ (by omega)) (lo2 _ (by decide)) (lo2 _ (by decide)) (by decide)
  -- the document's world ahead of Open
  obtain ⟨L2, hL2⟩ : ∃ L2 : HMap, L2 = upd noH 300 (some (encRk (300, 0) (300, 1) (newD (10 + many)))) := ⟨_, rfl⟩
  obtain ⟨M2, hM2⟩ : ∃ M2 : AMap, M2 = upd (upd noA (300, 0) (some (.mu 1 (rdL (newD (10 + many)))))) (300, 1) (some (.co 2 0)) := ⟨_, rfl⟩
  rw [show upd H1 300 (some (encRk (300, 0) (300, 1) (newD (10 + many)))) = layH H1 L2 by rw [hL2, ← layH_upd, layH_no],
    show upd (upd A1 (300, 0) (some (.mu 1 (rdL (newD (10 + many)))))) (300, 1) (some (.co 2 0)) = layA A1 M2 by rw [hM2, ← layA_upd, ← layA_upd, layA_no]] at e2
  have l2 : ∀ i, L2 i ≠ none → i = 300 := fun i hi => by
    by_cases e : i = 300
    · exact e
    · rw [hL2, upd_other _ _ e] at hi
      exact (hi rfl).elim
  have m2 : ∀ τ, M2 τ ≠ none → τ.1 = 300 := fun τ hτ => by
    by_cases e : τ = (300, 1)
    · rw [e]
    · rw [hM2, upd_other _ _ e] at hτ
      by_cases e2 : τ = (300, 0)
      · rw [e2]
      · rw [upd_other _ _ e2] at hτ
        exact (hτ rfl).elim
  have ml : M2 (300, 0) = some (.mu 1 (rdL (newD (10 + many)))) := by rw [hM2, upd_other _ _ (by decide), upd_same]
  have mw : M2 (300, 1) = some (.co 2 0) := by rw [hM2, upd_same]
  have w2 : Wf L2 M2 := by
    rw [hL2]
    exact Wf_set (A := M2) (fun i cs c h => by cases h) (encRk_ok (by rw [ml]; simp) (by rw [mw]; simp)) (fun _ h => h)
  have e3' := eff_over (L := L2) (M := M2) e3 L1.wf (fun tk => oksP (l := [.lit (.int .i64 10)]) (by rw [L1.dk.h]; simp)) (fun i hi => by rw [l2 i hi]; exact ⟨lo1 _ (by omega), (hab3 _ (by omega)).1⟩)
    (fun τ hτ => ⟨lo2 _ (by rw [m2 τ hτ]; decide), by have := hab3 300 (by omega); rw [show τ = (300, τ.2) by rw [← m2 τ hτ]]; exact this.2 _⟩)
  have hd3 : RkAt (layH H3 L2) (layA A3 M2) 300 (300, 0) (300, 1) (newD (10 + many)) := ⟨layH_l (by rw [hL2, upd_same]), layA_l ml, layA_l mw⟩
  have h301 : layH H3 L2 301 = none := by rw [layH_h (by rw [hL2, upd_other _ _ (by omega)]; rfl)]; exact (hab3 _ (by omega)).1
  have h302 : layH H3 L2 302 = none := by rw [layH_h (by rw [hL2, upd_other _ _ (by omega)]; rfl)]; exact (hab3 _ (by omega)).1
  have m302 : M2 (300, 2) = none := by rw [hM2, upd_other _ _ (by decide), upd_other _ _ (by decide)]; rfl
  have e4 := Tryz.rPagerOpen0 1000 (n := 10) (pid := 302) (lid := 301) (κ' := (300, 2)) (Wf_lay hw3 w2) h302 h301 (by omega) (by omega) hd3 (by omega) (by omega) (by show 10 + 1 ≤ 10 + many; omega) (by show 10 + many ≤ 10 + 1024; omega) (by show 10 + many ≤ 4096; omega) (DkG_new _) rfl rfl
    (by rw [layA_h m302]; exact (hab3 _ (by omega)).2 _) (rd_new _ _) (rd_new _ _) (rd_new _ _)
  rw [layH_upd, layH_upd, layH_upd, layA_upd, layA_upd, layA_upd] at e4
  have R4 := RAt.new (H := L2) (A := M2) (pid := 302) (rid := 300) (lid := 301) (many := many) (κl := (300, 0)) (κw := (300, 1)) (κ' := (300, 2)) h1 (by omega) (by omega) (by omega) (by omega) (by decide)
  refine ⟨H1, A1, _, _, _, _, _, _, e1, e2, e3', e4, Above_mono L1.ab (by omega), ?_, ?_, _, _, _, _, Y3, R4, ?_, ?_, ?_, ?_, ⟨by omega, by omega⟩, rfl, rfl⟩
  · exact Above_lay (Above_mono L1.ab (by omega)) (fun i hi => ⟨by rw [hL2, upd_other _ _ (by omega)]; rfl, fun q => by
      cases h : M2 (i, q) with
      | none => rfl
      | some c => have := m2 (i, q) (by rw [h]; simp); simp only at this; omega⟩)
  · exact Above_lay (Above_mono hab3 (by omega)) (fun i hi => ⟨by rw [hL2, upd_other _ _ (by omega)]; rfl, fun q => by
      cases h : M2 (i, q) with
      | none => rfl
      | some c => have := m2 (i, q) (by rw [h]; simp); simp only at this; omega⟩)
  · have k1 : ∀ κ, M2 κ ≠ none → upd (upd (upd M2 (300, 1) (some (.co 2 1))) (300, 0) (some (.mu 1 (rdL (slotD (newD (10 + many))))))) (300, 2) (some (.co 2 0)) κ ≠ none := fun κ h => upd_keepA _ (upd_keepA _ (upd_keepA _ h))
    refine Wf_set (Wf_set (Wf_set w2 (encRk_ok ?_ ?_) k1) (encRl_ok ?_) (fun _ h => h)) (encRp_ok ?_ ?_) (fun _ h => h)
    · exact k1 _ (by rw [ml]; simp)
    · rw [upd_same]; simp
    · rw [upd_other _ _ (by omega), upd_same]; simp
    · rw [upd_other _ _ (by omega), upd_other _ _ (by omega), upd_same]; simp
    · rw [upd_other _ _ (by omega), upd_same]; simp
  · intro i hi
    refine ⟨by rw [upd_other _ _ (by omega), upd_other _ _ (by omega), upd_other _ _ (by omega), hL2, upd_other _ _ (by omega)]; rfl, fun q => ?_⟩
    have hne : ∀ z, ((i, q) : Tok) ≠ (300, z) := fun z e => by cases e; omega
    rw [upd_other _ _ (hne _), upd_other _ _ (hne _), upd_other _ _ (hne _), hM2, upd_other _ _ (hne _), upd_other _ _ (hne _)]
    rfl
  · intro i hi
    by_cases c2 : i = 302
    · omega
    · by_cases c1 : i = 301
      · omega
      · by_cases c0 : i = 300
        · omega
        · rw [upd_other _ _ c2, upd_other _ _ c1, upd_other _ _ c0] at hi
          have := l2 i hi
          omega
  · intro τ hτ
    by_cases c2 : τ = (300, 2)
    · rw [c2]; decide
    · by_cases c1 : τ = (300, 0)
      · rw [c1]; decide
      · by_cases c0 : τ = (300, 1)
        · rw [c0]; decide
        · rw [upd_other _ _ c2, upd_other _ _ c1, upd_other _ _ c0] at hτ
          rw [m2 τ hτ]; decide
end Go.Proofs

namespace Go.Proofs
open Go.PW
section bw
variable {H : HMap} {A : AMap} {k did pid hid N logs T m top many : Nat} {gs : List (List UInt8)} {I : RI} {x : RS}
theorem one_set (h1 : 2 ≤ many) (h2 : many ≤ 40) (c : List UInt8) : isFG ((allocG (newG many) 1).set 1 c) 1 = false := by
  have hr := (openG_new (n := many) h1 (by omega)).one
  have hf : isFG (newG many) 1 = true := by rw [newG_free h1]; rfl
  have hl : (allocG (newG many) 1).length = many := by unfold allocG; rw [List.length_set, List.length_set]; exact newG_len many
  unfold openG at hr
  rw [if_pos hf, isFG_set (by omega) (by omega)] at hr
  rw [isFG_set (by omega) (by omega)]
  exact hr
theorem Tryz.bLay (h : BP H A k did pid hid N logs T m top (newG many) I (newG many, [])) (hk : 200 ≤ k) (ht : top ≤ 1000) (h1 : 1 ≤ many) (h2 : many ≤ 40) :
    ∃ a er w w' H1 A1 H2 A2 H3 A3 H4 A4 gs x m', EffOK Tryz.prog 8 1000 H A [.c (.ptr pid 0)] (.tup [.c (.d (.lit (.int .i64 a))), .c (.d (.lit (.int .i64 er)))]) H1 A1 ∧
    EffOK Tryz.prog 9 1000 H1 A1 [.c (.ptr I.pid 0)] (.tup [.c (.d (.lit (.int .i64 a))), .c (.d (.lit (.int .i64 er)))]) H2 A2 ∧
    EffOK Tryz.prog 10 1000 H2 A2 [.c (.ptr pid 0), pD (.lit (.int .i64 a)), pD (dS [120])] (pD (.lit (.int .i64 w))) H3 A3 ∧
    EffOK Tryz.prog 11 1000 H3 A3 [.c (.ptr I.pid 0), pD (.lit (.int .i64 a)), pD (dS [120])] (pD (.lit (.int .i64 w'))) H4 A4 ∧
    Above 1000 H A ∧ Above 1000 H1 A1 ∧ Above 1000 H2 A2 ∧ Above 1000 H3 A3 ∧ BP H4 A4 k did pid hid N logs T m' top gs I x ∧ x.1 = gs ∧
    (gs.length < 2 ∨ (2 ≤ gs.length ∧ isFG gs 1 = false ∧ (pgAt gs 1).getD 0 0 ≠ 82)) := by
  have hl := newG_len many
  have fin : ∀ {a er : Int} {H1 : HMap} {A1 : AMap} {m1 : Nat} {g1 : List (List UInt8)} {y : RS}, BP H1 A1 k did pid hid N logs T m1 top g1 I (newG many, []) → y.1 = g1 → 1 ≤ g1.length →
      (∀ {H1 : HMap} {A1 : AMap}, Wf H1 A1 → RAt H1 A1 I (newG many, []) → EffOK Tryz.prog 9 1000 H1 A1 [.c (.ptr I.pid 0)] (.tup [.c (.d (.lit (.int .i64 a))), .c (.d (.lit (.int .i64 er)))]) (I.up H1 y) A1) →
      (∀ L M, RAt L M I (newG many, []) → RAt (I.up L y) M I y) → (writeG g1 a [120]).length < 2 ∨ (2 ≤ (writeG g1 a [120]).length ∧ isFG (writeG g1 a [120]) 1 = false ∧ (pgAt (writeG g1 a [120]) 1).getD 0 0 ≠ 82) →
      ∃ w w' H2 A2 H3 A3 H4 A4 gs x m', EffOK Tryz.prog 9 1000 H1 A1 [.c (.ptr I.pid 0)] (.tup [.c (.d (.lit (.int .i64 a))), .c (.d (.lit (.int .i64 er)))]) H2 A2 ∧
      EffOK Tryz.prog 10 1000 H2 A2 [.c (.ptr pid 0), pD (.lit (.int .i64 a)), pD (dS [120])] (pD (.lit (.int .i64 w))) H3 A3 ∧
      EffOK Tryz.prog 11 1000 H3 A3 [.c (.ptr I.pid 0), pD (.lit (.int .i64 a)), pD (dS [120])] (pD (.lit (.int .i64 w'))) H4 A4 ∧
      Above 1000 H1 A1 ∧ Above 1000 H2 A2 ∧ Above 1000 H3 A3 ∧ BP H4 A4 k did pid hid N logs T m' top gs I x ∧ x.1 = gs ∧ (gs.length < 2 ∨ (2 ≤ gs.length ∧ isFG gs 1 = false ∧ (pgAt gs 1).getD 0 0 ≠ 82)) := fun {a er H1 A1 m1 g1 y} b1 hy hg1 e2 hd hfin => by
    obtain ⟨w1, ab1, r1, _⟩ := b1.nums hk
    have b2 := b1.doc hd
    obtain ⟨w2, ab2, r2, _⟩ := b2.nums hk
    obtain ⟨H3, A3, e3, b3⟩ := b2.prog (l := [.lit (.int .i64 a), dS [120]]) (fun H0 A0 py => Tryz.yWriteAny 1000 py a [120])
    obtain ⟨w3, ab3, r3, _⟩ := b3.nums hk
    have e4 := Tryz.nWrite 1000 w3 r3 a [120] (by decide)
    have b4 := b3.doc (y := writeS y a [120]) (fun L M q => q.write a [120])
    exact ⟨_, _, _, _, _, _, _, _, _, _, _, e2 w1 r1, e3, e4, Above_mono ab1 ht, Above_mono ab2 ht, Above_mono ab3 ht, b4, by rw [writeS_1, hy], hfin⟩
  obtain ⟨w0, ab0, r0, _⟩ := h.nums hk
  by_cases hm : many = 1
  · have hno : ∀ i, i < (newG many).length → isFG (newG many) i = false := fun i hi => by rw [show i = 0 by omega]; rfl
    obtain ⟨H1, A1, e1, b1⟩ := h.prog (l := []) (fun H0 A0 py => ⟨H0, A0, Tryz.yAllocN 1000 py hno, py, fun _ h => h, fun _ h => h⟩)
    obtain ⟨w, w', H2, A2, H3, A3, H4, A4, gs, x, m', f1, f2, f3, f4, f5, f6, f7⟩ := fin (a := 0) (er := 3) (y := (newG many, [])) b1 rfl (by omega) (fun {H1 A1} hw q => by rw [RI.up_self q]; exact Tryz.nAllocN 1000 hw q hno) (fun L M q => by rw [RI.up_self q]; exact q) (.inl (by rw [writeG_len]; omega))
    exact ⟨_, _, w, w', H1, A1, H2, A2, H3, A3, H4, A4, gs, x, m', e1, f1, f2, f3, Above_mono ab0 ht, f4, f5, f6, f7⟩
  · have hf : isFG (newG many) 1 = true := by rw [newG_free (by omega)]; rfl
    have hno : ∀ i, i < 1 → isFG (newG many) i = false := fun i hi => by rw [show i = 0 by omega]; rfl
    have ha : (allocG (newG many) 1).length = many := by unfold allocG; rw [List.length_set, List.length_set]; exact newG_len many
    obtain ⟨H1, A1, e1, b1⟩ := h.prog (l := []) (fun H0 A0 py => Tryz.yAlloc 1000 py 1 (by omega) hf hno)
    have hwe : writeG (allocG (newG many) 1) ((1 : Nat) : Int) [120] = (allocG (newG many) 1).set 1 (pad [120]) := by
      unfold writeG pgWrE pgRight
      rw [ha, if_neg (show ¬ (((1 : Nat) : Int) < 0 ∨ (many : Int) ≤ ((1 : Nat) : Int)) by omega)]
      rfl
    obtain ⟨w, w', H2, A2, H3, A3, H4, A4, gs, x, m', f1, f2, f3, f4, f5, f6, f7⟩ := fin (a := ((1 : Nat) : Int)) (er := 0) (y := allocS (newG many, []) 1) b1 rfl (by omega) (fun {H1 A1} hw q => Tryz.nAlloc 1000 hw q 1 (by show 1 < (newG many).length; omega) hf hno)
      (fun L M q => q.alloc (by show 1 < (newG many).length; omega)) (.inr (by
        rw [hwe]
        refine ⟨by rw [List.length_set]; omega, one_set (by omega) h2 _, ?_⟩
        rw [pgAt_set _ _ _ _ (by omega), if_pos rfl]
        decide +kernel))
    exact ⟨_, _, w, w', H1, A1, H2, A2, H3, A3, H4, A4, gs, x, m', e1, f1, f2, f3, Above_mono ab0 ht, f4, f5, f6, f7⟩
theorem Tryz.bOpenN (h : BP H A k did pid hid N logs T m top gs I x) (hk : 200 ≤ k) (ht : top < 1000) (hx : x.1 = gs) (hg : gs.length < 2 ∨ (2 ≤ gs.length ∧ isFG gs 1 = false ∧ (pgAt gs 1).getD 0 0 ≠ 82)) :
    ∃ er H1 A1 H2, er ≠ 0 ∧ EffOK Tryz.prog 12 1000 H A [.c (.ptr pid 0)] (.tup [.c (.d (.lit (.pointer none))), .c (.d (.lit (.int .i64 er)))]) H1 A1 ∧
    EffOK Tryz.prog 13 1000 H1 A1 [.c (.ptr I.pid 0)] (.tup [.c (.ptr top 0), .c (.d (.lit (.int .i64 er)))]) H2 A1 ∧ Above 1000 H A ∧ Above 1000 H1 A1 ∧ ∀ j, j < 200 → ∀ q, A1 (j, q) = none := by
  obtain ⟨w0, ab0, r0, _⟩ := h.nums hk
  rcases hg with h2 | ⟨h2, hf, hr⟩
  · obtain ⟨H1, A1, e1, b1⟩ := h.prog (l := []) (fun H0 A0 py => ⟨H0, A0, Tryz.hOpenS 1000 py h2, py, fun _ h => h, fun _ h => h⟩)
    obtain ⟨w1, ab1, r1, _, lo, _⟩ := b1.nums hk
    have e2 := Tryz.rHOpen 1000 w1 r1 (hid := top) (ab1 _ (Nat.le_refl _)).1
    have he : openE x = 1 := by unfold openE; rw [hx, if_pos h2]
    rw [he] at e2
    exact ⟨1, H1, A1, _, by decide, e1, e2, Above_mono ab0 (by omega), Above_mono ab1 (by omega), fun j hj => (lo j hj).2⟩
  · obtain ⟨H1, A1, e1, b1⟩ := h.prog (l := []) (fun H0 A0 py => ⟨H0, A0, Tryz.hOpenF 1000 py h2 hf hr, py, fun _ h => h, fun _ h => h⟩)
    obtain ⟨w1, ab1, r1, _, lo, _⟩ := b1.nums hk
    have e2 := Tryz.rHOpen 1000 w1 r1 (hid := top) (ab1 _ (Nat.le_refl _)).1
    have he : openE x = 7 := by unfold openE; rw [hx, if_neg (by omega), if_neg (by rw [hf]; simp), if_neg hr]
    rw [he] at e2
    exact ⟨7, H1, A1, _, by decide, e1, e2, Above_mono ab0 (by omega), Above_mono ab1 (by omega), fun j hj => (lo j hj).2⟩
theorem Tryz.bOpenY (h : BP H A k did pid hid N logs T m top (newG many) I (newG many, [])) (hk : 200 ≤ k) (ht : top < 1000) (h1 : 2 ≤ many) (h2 : many ≤ 40) :
    ∃ H1 A1 H2, EffOK Tryz.prog 12 1000 H A [.c (.ptr pid 0)] (.tup [.c (.ptr hid 0), .c (.d (.lit (.int .i64 0)))]) H1 A1 ∧
    EffOK Tryz.prog 13 1000 H1 A1 [.c (.ptr I.pid 0)] (.tup [.c (.ptr top 0), .c (.d (.lit (.int .i64 0)))]) H2 A1 ∧ Above 1000 H A ∧ Above 1000 H1 A1 ∧
    BW H2 A1 k did pid hid N logs T (m + 3) (top + 1) (openG (newG many)) I top (openS (newG many, [])) := by
  obtain ⟨w0, ab0, r0, _⟩ := h.nums hk
  have hl := newG_len many
  have hr := openG_new (n := many) h1 (by omega)
  have hf : isFG (newG many) 1 = true := by rw [newG_free h1]; rfl
  obtain ⟨H0, A0, L, M, hy, hx, hw, hab, hL, hM, ⟨t1, t2⟩, rfl, rfl⟩ := h
  obtain ⟨H', A', e1, hy', kh, ka⟩ := Tryz.hOpen 1000 hy (by omega) hid t1 (by omega) hr.root.1
  obtain ⟨hw0, hab0, hp, _⟩ := hy.nums
  obtain ⟨n3, n4⟩ := hy'.names
  have e1' := eff_over (L := L) (M := M) e1 hw0 (fun tk => oksP (l := []) hp) (fun i hl => ⟨(hab0 i (hL i hl).1).1, n3 i (hL i hl).1 (hL i hl).2⟩) (fun τ hl => ⟨(hab0 τ.1 (hM τ hl)).2 τ.2, n4 τ (hM τ hl)⟩)
  obtain ⟨hw1, hab1, _⟩ := hy'.nums
  have W1 : Wf (layH H' L) (layA A' M) := Wf_lay hw1 hw
  have B1 : Above top (layH H' L) (layA A' M) := Above_lay (Above_mono hab1 (by omega)) hab
  have e2 := Tryz.rHOpen 1000 W1 hx.lay (hid := top) (B1 _ (Nat.le_refl _)).1
  have he : openE (newG many, []) = 0 := by unfold openE; rw [if_neg (by show ¬ (newG many).length < 2; omega), if_pos hf]
  rw [he, I.up_lay, layH_upd] at e2
  have ho := hx.open_
  have hLt : L top = none := (hab _ (Nat.le_refl _)).1
  have hpt : I.pid ≠ top := fun e => hx.p0 (by rw [e]; exact hLt)
  have hUt : I.up L (openS (newG many, [])) top = none := by rw [I.up_other _ hpt.symm]; exact hLt
  refine ⟨_, _, _, e1', e2, Above_mono ab0 (by omega), Above_mono B1 (by omega), H', A', _, M, hy', ⟨ho.beside hUt, upd_same _ _ _, ?_⟩, ?_, ?_, ?_, hM, by omega, rfl, rfl⟩
  · rw [openS_1 (by show 2 ≤ (newG many).length; omega)]
    show 2 ≤ (openG (newG many)).length
    rw [hr.len]
    exact h1
  · exact Wf_set (hx.wf hw _) (fun c hc => by rw [List.mem_singleton.1 hc]; exact upd_keepH _ ho.p0) (fun _ h => h)
  · exact Above_updH (Above_mono (Above_updH hab (hx.lt hab)) (by omega)) (by omega)
  · intro i hi
    by_cases c1 : i = top
    · omega
    · rw [upd_other _ _ c1] at hi
      by_cases c2 : i = I.pid
      · rw [c2]; exact hL _ hx.p0
      · rw [I.up_other _ c2] at hi
        exact hL i hi
end bw
end Go.Proofs
