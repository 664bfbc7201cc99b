/-
  Parts of the proof, laid together: PwGd, PwGe, PwGf, PwGg.
-/
import Derived.Test.YtghlemfokpfngaaQ20

namespace Go.Proofs
open Go.PW
theorem or_shift {a x k : Nat} (h : a < 128 ^ k) (hx : a + x * 128 ^ k < 18446744073709551616) (hk : k ≤ 9) : iOr .u64 (a : Int) (iShl .u64 (x : Int) (7 * k)) = ((a + x * 128 ^ k : Nat) : Int) := by
  have hp : (128 : Nat) ^ k = 2 ^ (7 * k) := by rw [Nat.pow_mul]
  rw [hp] at h hx ⊢
  have e1 : iShl .u64 (x : Int) (7 * k) = ((x * 2 ^ (7 * k) : Nat) : Int) := by
    show IntKind.u64.wrap ((x : Int) * 2 ^ min (7 * k) 64) = _
    rw [show min (7 * k) 64 = 7 * k by omega]
    have e : (x : Int) * 2 ^ (7 * k) = ((x * 2 ^ (7 * k) : Nat) : Int) := by push_cast; rfl
    rw [e, Go.IntWalk.u64_in _ (by omega)]
  rw [e1]
  have ev : ∀ y : Nat, y < 18446744073709551616 → (BitVec.ofInt 64 (y : Int)).toNat = y := fun y hy => by
    rw [BitVec.toNat_ofInt]
    have : ((y : Int) % ((2 ^ 64 : Nat) : Int)).toNat = y % 2 ^ 64 := by
      rw [← Int.natCast_emod]; rfl
    rw [this, Nat.mod_eq_of_lt (by omega)]
  show IntKind.u64.wrap (((BitVec.ofInt 64 (a : Int) ||| BitVec.ofInt 64 ((x * 2 ^ (7 * k) : Nat) : Int)).toNat : Nat) : Int) = _
  rw [BitVec.toNat_or, ev a (by omega), ev _ (by omega)]
  have eo : a ||| x * 2 ^ (7 * k) = a + x * 2 ^ (7 * k) := by
    have := Nat.two_pow_add_eq_or_of_lt h x
    rw [Nat.or_comm, Nat.mul_comm x, ← this, Nat.add_comm]
  rw [eo, Go.IntWalk.u64_in _ (by omega)]
section rd
variable {H : HMap} {A : AMap} {id : Nat} {r : Rd}
structure UI (r : Rd) (n : Nat) (rest : List UInt8) (k acc m : Nat) : Prop where
  h1 : acc + m * 128 ^ k = n
  h2 : acc < 128 ^ k
  h3 : r.s.drop (r.at_ + k) = uintK (10 - k) m ++ rest
  h4 : k ≤ 9
  h5 : 0 < k → 0 < m
  h6 : (uintB n).length = k + (uintK (10 - k) m).length
set_option maxRecDepth 8000 in
set_option maxHeartbeats 16000000 in
theorem Try.kUintR (off : Nat) (hw : Wf H A) (hr : H id = some (encRd r)) (n : Nat) (hn : n < 18446744073709551616) (rest : List UInt8) (hs : r.s.drop r.at_ = uintB n ++ rest) (hsl : r.s.length ≤ 1000000) :
    EffOK Try.prog 78 off H A [.c (.ptr id 0)] (pD (.lit (.int .u64 n))) (upd H id (some (encRd { r with at_ := r.at_ + (uintB n).length }))) A := by
  refine effr_ok (E := envOf Try.prog [84] off [] []) (envOf_ok Try.mixed) Try.func78 rfl Try.call78 (by kernel_rfl) (by exact Nat.le_of_ble_eq_true rfl) (fun hab => ?_)
  have hlt : id < off := Nat.lt_of_not_le fun h => by rw [(hab id h).1] at hr; cases hr
  have hptr : ∀ {A1 A2 : AMap} {x : List CV}, PV.wk (hOver [] (upd H id (some x))) A1 A2 (.c (.ptr id 0)) (.c (.ptr id 0)) = True := eq_true (wkP_ptr (by show upd _ _ _ _ ≠ none; rw [upd_same]; simp))
  have hwk : ∀ k, Wf (upd H id (some (encRd { r with at_ := r.at_ + k }))) A := fun k => Wf_upd hw (encRd_D _)
  have hkk : ∀ k i, H i ≠ none → upd H id (some (encRd { r with at_ := r.at_ + k })) i ≠ none := fun k i hi => by
    rw [upd_apply']; split
    · simp
    · exact hi
  repeat' (first
   |with_reducible first|refine vSq fun K hK=>?_|refine vRg ?_|refine vBl ?_|refine vSc ?_|refine vIf ?_|refine vSk ?_|refine vEx ?_|refine vRt ?_
   |(with_reducible first|refine gNt (fun h=>?_) (fun h=>?_)|refine gCs (fun h=>?_) (fun h=>?_))<;>(try simp only[h])
   |with_reducible first|(refine hK _ ?_;clear hK K)|(clear hK K;refine hK _ ?_;clear hK K)|(clear hK K;clear hK K;refine hK _ ?_;clear hK K)|(clear hK K;clear hK K;clear hK K;refine hK _ ?_;clear hK K)
   |(with_reducible refine todo ?_;simp +decide only[go_sem]))
  refine VC_while (ι := Nat × Nat × Nat) (fun x => UI r n rest x.1 x.2.1 x.2.2) (fun x => over [(0, .c (.ptr id 0)), (3, pD (.lit (.int .u64 x.2.1))), (6, pD (.lit (.int .i64 x.1)))] []
    (upd H id (some (encRd { r with at_ := r.at_ + x.1 }))) A) (fun x => 10 - x.1) (0, 0, n) ⟨by simp, by simp, hs, by omega, fun h => by omega, by simp [uintB]⟩ ?_ ?_
  · have e : upd H id (some (encRd { r with at_ := r.at_ + 0 })) = H := upd_self hr
    refine Weak_overG (hwk 0) ?_ rfl ?_ ?_ (hkk 0) (fun _ h => h)
    · rw [e]; exact kp_refl
    · simp +decide only [go_sem, hptr]
    · simp +decide only [go_sem]
  · rintro ⟨k, acc, m⟩ ⟨h1, h2, h3, h4, h5, h6⟩
    simp only at h1 h2 h3 h4 h5 h6
    have hc : ((k : Int) < 10) = True := eq_true (by omega)
    have hk10 : 10 - k = (9 - k) + 1 := by omega
    have hmul : IntKind.i64.wrap (7 * (k : Int)) = ((7 * k : Nat) : Int) := by rw [Go.IntWalk.i64_in _ (by omega)]; push_cast; rfl
    have hpos : 0 < 128 ^ k := Nat.pow_pos (by decide)
    have hmn : m * 128 ^ k ≤ n := by omega
    have h9 : k = 9 → m < 2 := fun e => by subst e; omega
    rw [hk10] at h3 h6
    rcases Nat.lt_or_ge m 128 with hm | hm
    · rw [uintK_small hm] at h3 h6
      have hbv : (UInt8.ofNat (m % 256)).toNat = m := by rw [UInt8.toNat_ofNat']; omega
      have hb : r.s[r.at_ + k]? = some (UInt8.ofNat (m % 256)) := by
        have := congrArg (·[0]?) h3
        simpa using this
      have kn := Try.kNextB (H := upd H id (some (encRd { r with at_ := r.at_ + k }))) (r := { r with at_ := r.at_ + k }) (off + 1000) (hwk k) (upd_same _ _ _) _ hb hsl
      rw [hbv] at kn
      have e6 : r.at_ + (uintB n).length = r.at_ + k + 1 := by rw [h6]; rfl
      have ht : Int.tmod (m : Int) 128 = (m : Int) := by have := tmod_nat m 128; rw [Nat.mod_eq_of_lt hm] at this; exact this
      have hcv : IntKind.u64.wrap (m : Int) = (m : Int) := Go.IntWalk.u64_in _ (by omega)
      have hor := or_shift h2 (x := m) (by omega) h4
      have hacc : acc + m * 128 ^ k = n := h1
      have hl : ((m : Int) < 128) = True := eq_true (by omega)
      rcases Nat.eq_zero_or_pos m with h0 | h0
      · have hk : k = 0 := by omega
        have hc0 : ((m : Int) == 0) = true := by rw [beq_iff_eq]; omega
        have hk0 : ((0 : Int) < (k : Int)) = False := eq_false (by omega)
        have hk9 : ((k : Int) == 9) = false := by rw [beq_eq_false_iff_ne]; omega
        repeat' (first
         |with_reducible first|refine vSq fun K hK=>?_|refine vRg ?_|refine vBl ?_|refine vSc ?_|refine vIf ?_|refine vSk ?_|refine vEx ?_|refine vRt ?_
         |(with_reducible first|refine gNt (fun h=>?_) (fun h=>?_)|refine gCs (fun h=>?_) (fun h=>?_))<;>(try simp only[h])
         |refine C_call rfl kn rfl (Above_updH (Above_mono hab (by omega)) (by omega)) ?_
         |with_reducible first|(refine hK _ ?_;clear hK K)|(clear hK K;refine hK _ ?_;clear hK K)|(clear hK K;clear hK K;refine hK _ ?_;clear hK K)|(clear hK K;clear hK K;clear hK K;refine hK _ ?_;clear hK K)
         |(with_reducible refine todo ?_;simp +decide only[go_sem, hc, hmul, ht, hcv, hor, hl, hc0, hk0, hk9]))
        rw [e6, ← hacc]
        refine RetR_rd hw (by rw [hr]; simp) (encRd_D _) rfl (by simp +decide only [go_sem]) True.intro ?_ ?_ rfl
        · simp +decide only [go_sem]
        · intro i hi
          simp +decide only [go_sem, hi]
      · have hc0 : ((m : Int) == 0) = false := by rw [beq_eq_false_iff_ne]; omega
        by_cases hk : k = 9
        · have hk9 : ((k : Int) == 9) = true := by rw [beq_iff_eq]; omega
          have hm1 : ((1 : Int) < (m : Int)) = False := eq_false (by have := h9 hk; omega)
          repeat' (first
           |with_reducible first|refine vSq fun K hK=>?_|refine vRg ?_|refine vBl ?_|refine vSc ?_|refine vIf ?_|refine vSk ?_|refine vEx ?_|refine vRt ?_
           |(with_reducible first|refine gNt (fun h=>?_) (fun h=>?_)|refine gCs (fun h=>?_) (fun h=>?_))<;>(try simp only[h])
           |refine C_call rfl kn rfl (Above_updH (Above_mono hab (by omega)) (by omega)) ?_
           |with_reducible first|(refine hK _ ?_;clear hK K)|(clear hK K;refine hK _ ?_;clear hK K)|(clear hK K;clear hK K;refine hK _ ?_;clear hK K)|(clear hK K;clear hK K;clear hK K;refine hK _ ?_;clear hK K)
           |(with_reducible refine todo ?_;simp +decide only[go_sem, hc, hmul, ht, hcv, hor, hl, hc0, hk9, hm1]))
          rw [e6, ← hacc]
          refine RetR_rd hw (by rw [hr]; simp) (encRd_D _) rfl (by simp +decide only [go_sem]) True.intro ?_ ?_ rfl
          · simp +decide only [go_sem]
          · intro i hi
            simp +decide only [go_sem, hi]
        · have hk9 : ((k : Int) == 9) = false := by rw [beq_eq_false_iff_ne]; omega
          repeat' (first
           |with_reducible first|refine vSq fun K hK=>?_|refine vRg ?_|refine vBl ?_|refine vSc ?_|refine vIf ?_|refine vSk ?_|refine vEx ?_|refine vRt ?_
           |(with_reducible first|refine gNt (fun h=>?_) (fun h=>?_)|refine gCs (fun h=>?_) (fun h=>?_))<;>(try simp only[h])
           |refine C_call rfl kn rfl (Above_updH (Above_mono hab (by omega)) (by omega)) ?_
           |with_reducible first|(refine hK _ ?_;clear hK K)|(clear hK K;refine hK _ ?_;clear hK K)|(clear hK K;clear hK K;refine hK _ ?_;clear hK K)|(clear hK K;clear hK K;clear hK K;refine hK _ ?_;clear hK K)
           |(with_reducible refine todo ?_;simp +decide only[go_sem, hc, hmul, ht, hcv, hor, hl, hc0, hk9]))
          rw [e6, ← hacc]
          refine RetR_rd hw (by rw [hr]; simp) (encRd_D _) rfl (by simp +decide only [go_sem]) True.intro ?_ ?_ rfl
          · simp +decide only [go_sem]
          · intro i hi
            simp +decide only [go_sem, hi]
    · have hk9' : k ≠ 9 := fun e => by have := h9 e; omega
      have hu : uintK ((9 - k) + 1) m = UInt8.ofNat ((m % 128 + 128) % 256) :: uintK (9 - k) (m / 128) := by
        show (if m < 128 then _ else _) = _
        rw [if_neg (by omega)]
      rw [hu] at h3 h6
      have hbv : (UInt8.ofNat ((m % 128 + 128) % 256)).toNat = m % 128 + 128 := by rw [UInt8.toNat_ofNat']; omega
      have hb : r.s[r.at_ + k]? = some (UInt8.ofNat ((m % 128 + 128) % 256)) := by
        have := congrArg (·[0]?) h3
        simpa using this
      have kn := Try.kNextB (H := upd H id (some (encRd { r with at_ := r.at_ + k }))) (r := { r with at_ := r.at_ + k }) (off + 1000) (hwk k) (upd_same _ _ _) _ hb hsl
      rw [hbv] at kn
      have hsplit : m = m % 128 + 128 * (m / 128) := by omega
      have hnext : acc + (m % 128) * 128 ^ k + (m / 128) * 128 ^ (k + 1) = n := by
        rw [Nat.pow_succ, Nat.mul_comm (128 ^ k) 128, ← Nat.mul_assoc, Nat.add_assoc, ← Nat.add_mul]
        rw [show m % 128 + m / 128 * 128 = m by omega]
        exact h1
      have hlow : (m % 128) * 128 ^ k ≤ m * 128 ^ k := Nat.mul_le_mul_right _ (Nat.mod_le _ _)
      have haccn : acc + (m % 128) * 128 ^ k < 128 ^ (k + 1) := by
        have : (m % 128) * 128 ^ k ≤ 127 * 128 ^ k := Nat.mul_le_mul_right _ (by omega)
        rw [Nat.pow_succ]
        omega
      have h3' : r.s.drop (r.at_ + (k + 1)) = uintK (9 - k) (m / 128) ++ rest := by
        have := congrArg (List.drop 1) h3
        rw [List.drop_drop] at this
        rw [show r.at_ + (k + 1) = r.at_ + k + 1 by omega, this]
        rfl
      generalize hq : m % 128 + 128 = q at *
      have hqm : q % 128 = m % 128 := by omega
      have ht : Int.tmod (q : Int) 128 = ((m % 128 : Nat) : Int) := by rw [← hqm]; exact tmod_nat q 128
      have hcv : IntKind.u64.wrap ((m % 128 : Nat) : Int) = ((m % 128 : Nat) : Int) := Go.IntWalk.u64_in _ (by omega)
      have hor := or_shift h2 (x := m % 128) (by omega) h4
      have hl : ((q : Int) < 128) = False := eq_false (by omega)
      have hc0 : ((q : Int) == 0) = false := by rw [beq_eq_false_iff_ne]; omega
      have hk9 : ((k : Int) == 9) = false := by rw [beq_eq_false_iff_ne]; omega
      have hnx : IntKind.i64.wrap ((k : Int) + 1) = ((k + 1 : Nat) : Int) := Go.IntWalk.i64_in _ (by omega)
      repeat' (first
       |with_reducible first|refine vSq fun K hK=>?_|refine vRg ?_|refine vBl ?_|refine vSc ?_|refine vIf ?_|refine vSk ?_|refine vEx ?_|refine vRt ?_
       |(with_reducible first|refine gNt (fun h=>?_) (fun h=>?_)|refine gCs (fun h=>?_) (fun h=>?_))<;>(try simp only[h])
       |refine C_call rfl kn rfl (Above_updH (Above_mono hab (by omega)) (by omega)) ?_
       |with_reducible first|(refine hK _ ?_;clear hK K)|(clear hK K;refine hK _ ?_;clear hK K)|(clear hK K;clear hK K;refine hK _ ?_;clear hK K)|(clear hK K;clear hK K;clear hK K;refine hK _ ?_;clear hK K)
       |(with_reducible refine todo ?_;simp +decide only[go_sem, hc, hmul, ht, hcv, hor, hl, hc0, hk9, hnx]))
      refine ⟨⟨(k + 1, acc + m % 128 * 128 ^ k, m / 128), ⟨hnext, haccn, ?_, by show k + 1 ≤ 9; omega, fun _ => by show 0 < m / 128; omega, ?_⟩⟩, Weak_overG (hwk (k + 1)) ?_ rfl ?_ ?_ (hkk (k + 1)) (fun _ h => h), by show 10 - (k + 1) < 10 - k; omega⟩
      · show r.s.drop (r.at_ + (k + 1)) = uintK (10 - (k + 1)) (m / 128) ++ rest
        rw [show 10 - (k + 1) = 9 - k by omega]; exact h3'
      · show (uintB n).length = k + 1 + (uintK (10 - (k + 1)) (m / 128)).length
        rw [show 10 - (k + 1) = 9 - k by omega, h6, List.length_cons]; omega
      · show ∀ i, upd H id (some (encRd { r with at_ := r.at_ + (k + 1) })) i ≠ none → _
        intro i _
        show upd (upd _ _ _) _ _ i = _
        rw [upd_twice]; rfl
      · simp +decide only [go_sem, hptr]
      · simp +decide only [go_sem]
end rd
end Go.Proofs

namespace Go.PW
variable {D : List Deferred} {P : Program} {n : Nat} {g0 : Gh} {A0 : AMap} {w0 : World} {S : St} {a : Act} {w : World} {ops : Array Oper} {Q : Exit → Act → World → Prop}
theorem raw_op {o : Oper} {rest : List Oper} {u : Value} {x : PV} (hr : RS D n g0 A0 w0 S a w) (hg : o.guard = none) (hrun : (execOp a.eval o).run P w = .ok (.value u) w) (hdst : ∀ d, o.dst = some d → d < n) (hx : ∀ g, PRep g S.A x u)
    (hK : ∀ a', RS D n g0 A0 w0 ⟨put S.ρ o.dst x, S.H, S.A⟩ a' w → wpList P ops Q rest a' w) : wpList P ops Q (o :: rest) a w := by
  obtain ⟨g, hm, hd, hf, he, hn, hdf⟩ := hr
  unfold wpList
  rw [show Region.wanted o (yielded ops a.tmps) = true by unfold Region.wanted; rw [hg], if_pos rfl]
  exact .inl (wp_value hrun (hK _ (.step hm hd hf he (.refl _ _ _) hn hdf (hx g) hdst)))
theorem RS.lit (hr : RS D n g0 A0 w0 S a w) {t : Nat} {v : Value} (h : S.ρ t = .c (.d (.lit v))) : a.eval (.tmp t) = v := by
  obtain ⟨g, hm, hd, hf, he, hn, hdf⟩ := hr
  have := hf t
  rw [h] at this
  exact PRep_lit_inv this
def VY (P : Program) (D : List Deferred) (n : Nat) (g0 : Gh) (A0 : AMap) (w0 : World) (c : Code) (X : Exit → Act → World → Prop) (S : St) : Prop := ∀ a w, RS D n g0 A0 w0 S a w → c.wp P X a w
theorem VY_seq {E : Env} {H0 : HMap} (hd : DomOK g0 H0) {x y : Code} {X : Exit → Act → World → Prop} (h : ∀ K : St → Prop, (∀ S, VY E.P D n g0 A0 w0 y X S → K S) → VX E D n H0 A0 x ⟨K, fun _ => False, fun _ _ => False⟩ (fun _ _ => False) S) : VY E.P D n g0 A0 w0 (.seq x y) X S := fun a w hr => by
  refine wp_seq (wp_mono (h _ (fun _ h => h) g0 w0 a w hd hr) fun e a' w' hq => ?_)
  cases e with
  | normal => obtain ⟨S', hr', h'⟩ := hq; exact h' a' w' hr'
  | ret => obtain ⟨_, _, h'⟩ := hq; exact h'.elim
  | exit id => obtain ⟨_, _, h'⟩ := hq; exact h'.elim
  | panic ch => obtain ⟨_, _, _, _, h'⟩ := hq; exact h'.elim
  | _ => exact hq.elim
theorem VY_last {E : Env} {H0 : HMap} (hd : DomOK g0 H0) {x : Code} {X : Exit → Act → World → Prop} (h : ∀ K : St → Prop, (∀ S, (∀ a w, RS D n g0 A0 w0 S a w → X .normal a w) → K S) → VX E D n H0 A0 x ⟨K, fun _ => False, fun _ _ => False⟩ (fun _ _ => False) S) : VY E.P D n g0 A0 w0 x X S := fun a w hr => by
  refine wp_mono (h _ (fun _ h => h) g0 w0 a w hd hr) fun e a' w' hq => ?_
  cases e with
  | normal => obtain ⟨S', hr', h'⟩ := hq; exact h' a' w' hr'
  | ret => obtain ⟨_, _, h'⟩ := hq; exact h'.elim
  | exit id => obtain ⟨_, _, h'⟩ := hq; exact h'.elim
  | panic ch => obtain ⟨_, _, _, _, h'⟩ := hq; exact h'.elim
  | _ => exact hq.elim
theorem RS_entry {fn : Func} {g : Gh} {H : HMap} {A : AMap} {args : List PV} {vals : Array Value} (hm : MRel g H A w) (hd : DomOK g H) (har : ArgsRep g A args vals.toList) (hn : args.length ≤ fn.ntmps) :
    RS [] fn.ntmps g A w ⟨entry args, H, A⟩ { tmps := vals ++ Array.replicate (fn.ntmps - vals.size) undef, defers := [] } w := by
  have hvl : vals.size = args.length := by rw [← Array.length_toList]; exact har.1
  refine ⟨g, hm, hd, fun t => ?_, .refl _ _ _, by simp; omega, rfl⟩
  show PRep g A ((args[t]?).getD (.c .any)) _
  cases ht : args[t]? with
  | none => exact True.intro
  | some x =>
    obtain ⟨v, hv, hp⟩ := har.2 t x ht
    have hlt := (List.getElem?_eq_some_iff.1 ht).1
    rw [Array.getD_eq_getD_getElem?, Array.getElem?_append, if_pos (by omega)]
    rw [Array.getElem?_toList] at hv
    rw [hv]
    exact hp
end Go.PW
namespace Go.Proofs
open Go.PW
theorem Try.eqNil (v : Value) (b : Bool) (h : (v = .nilIface ∧ b = true) ∨ (v = short ∧ b = false)) (w : World) : (do eqGuard .eql 20 (.tmp 7) (.const .nilIface) v .nilIface; binOp .eql 20 v .nilIface : Sem Value).run Try.prog w = .ok (.bool b) w := by
  have hu : Try.prog.underlying 20 = some (.interface #[]) := Try.underlying20
  have e2 : (Op.equal 20 v .nilIface).run Try.prog w = .ok b w := by
    unfold Op.equal
    rw [show Op.maxDepth = 9999 + 1 from rfl]
    rcases h with ⟨rfl, rfl⟩ | ⟨rfl, rfl⟩
    · rw [Op.equalIn]
      simp only [Sem.run_bind, run_underlying hu, Result.andThen_ok]
      rfl
    · unfold short
      rw [Op.equalIn]
      simp only [Sem.run_bind, run_underlying hu, Result.andThen_ok]
      rfl
  have e1 : (eqGuard .eql 20 (.tmp 7) (.const .nilIface) v .nilIface).run Try.prog w = .ok () w := by
    rcases h with ⟨rfl, rfl⟩ | ⟨rfl, rfl⟩ <;> rfl
  have e3 : binOp .eql 20 v .nilIface = ((Op.equal 20 v .nilIface) >>= fun b => Pure.pure (Value.bool b) : Sem Value) := by
    rcases h with ⟨rfl, rfl⟩ | ⟨rfl, rfl⟩ <;> rfl
  rw [Sem.run_bind, e1, Result.andThen_ok, e3, Sem.run_bind, e2]
  rfl
theorem noRes {tmps : Array Value} {w : World} : (results Try.f83 tmps).run Try.prog w = .ok (.tuple #[]) w := by
  have := run_results (P := Try.prog) (w := w) Try.f83 tmps (us := []) rfl
  exact this
set_option maxRecDepth 8000 in
set_option maxHeartbeats 4000000 in
theorem Try.catchIdle {g : Gh} {H : HMap} {A : AMap} (vals : Array Value) (w : World) (hv : vals.size = 3) (hm : MRel g H A w) (hd : DomOK g H) :
    CallsD Try.prog 83 vals .returning w fun e u' w' => e = .returned (.tuple #[]) ∧ u' = .returning ∧ w' = w := by
  refine callsD_of_wpS Try.func83 rfl fun c₀ cs hu => ?_
  have hr := RS_entry (fn := Try.f83) (args := [.c .any, .c .any, .c .any]) (vals := vals) hm hd ⟨by simpa using hv, fun k x hk => by
    have hlt := (List.getElem?_eq_some_iff.1 hk).1
    refine ⟨vals.toList[k]'(by simp at hlt ⊢; omega), List.getElem?_eq_getElem _, ?_⟩
    match k, hk with
    | 0, e => cases e; exact True.intro
    | 1, e => cases e; exact True.intro
    | 2, e => cases e; exact True.intro⟩ (by decide)
  apply wpS_seq
  apply wpS_region
  simp [wpOpsS, go_sem, recoverD, hu, Exit.thenS]
  have hr2 : RS [] Try.f83.ntmps g A w ⟨put (entry [.c .any, .c .any, .c .any]) (some 7) (.c (.d (.lit .nilIface))), H, A⟩ { tmps := (vals ++ Array.replicate (23 - vals.size) undef).setIfInBounds 7 .nilIface, defers := [] } w := by
    obtain ⟨g1, m1, m2, m3, m4, m5, m6⟩ := hr
    exact .step (dst := some 7) m1 m2 m3 m4 (.refl _ _ _) m5 m6 (PRep_lit rfl) (fun d e => by cases e; decide)
  generalize ({ tmps := (vals ++ Array.replicate (23 - vals.size) undef).setIfInBounds 7 .nilIface, defers := [] } : Act) = a2 at *
  refine wpS_of_wp (wp_block (wp_seq (wp_region_list ?_)))
  have ht := hr2.lit (t := 7) rfl
  refine raw_op (n := Try.f83.ntmps) (x := .c (.d (.lit (.bool true)))) hr2 rfl (u := .bool true) ?_ (fun d e => by cases e; decide) (fun _ => PRep_lit rfl) (fun a3 hr3 => ?_)
  · have e : a2.eval (.const .nilIface) = .nilIface := rfl
    simp only [execOp, ht, e]
    rw [Sem.run_bind, Try.eqNil .nilIface true (.inl ⟨rfl, rfl⟩) w]
    rfl
  · refine wp_cond (t := true) (hr3.lit (t := 9) rfl) ?_
    refine wp_region_list ?_
    refine raw_op (n := Try.f83.ntmps) (x := .c .any) hr3 rfl (u := a3.eval (.tmp 7)) rfl (fun d e => by cases e; decide) (fun _ => True.intro) (fun a4 hr4 => ?_)
    obtain ⟨g1, m1, m2, m3, m4, m5, m6⟩ := hr4
    exact ⟨m6, _, by rw [← hu], _, noRes, rfl, rfl, rfl⟩
theorem Try.assertF (w : World) : (Instr.typeAssert short 20 107 true).run Try.prog w = .ok (.tuple #[.agg #[.int .i64 8], .bool true]) w := by
  unfold Instr.typeAssert short
  simp only [Sem.run_bind, run_underlying Try.underlying107, Result.andThen_ok]
  rfl
theorem PRep_agg1 {g : Gh} {A : AMap} {x : Value} (h : x.oneCell' = true) : PRep g A (.agg [.d (.lit x)]) (.agg #[x]) :=
  ⟨#[x], rfl, rfl, fun k c hk => by
    match k, hk with
    | 0, e => cases e; exact ⟨x, rfl, PRep_lit (A := A) h⟩⟩
theorem PRep_tup2 {g : Gh} {A : AMap} {x y : Value} (h : x.oneCell' = true) (h' : y.oneCell' = true) : PRep g A (.tup [.agg [.d (.lit x)], .c (.d (.lit y))]) (.tuple #[.agg #[x], y]) :=
  ⟨#[.agg #[x], y], rfl, rfl, fun k c hk => by
    match k, hk with
    | 0, e => cases e; exact ⟨_, rfl, PRep_agg1 (g := g) (A := A) h⟩
    | 1, e => cases e; exact ⟨_, rfl, PRep_lit (A := A) h'⟩⟩
end Go.Proofs

namespace Go.PW
theorem any_states {E : Env} {fb : Option (List Nat)} {ops : Array Oper} {K : St → Prop} (F : (Nat → Bool) → St)
    (hext : ∀ d d' : Nat → Bool, (∀ i, i < ops.size → d i = d' i) → F d = F d') (hback : ∀ i o, ops[i]? = some o → ∀ e ∈ o.after, Region.binds .any e = true → e.on < i)
    (hstep : ∀ (d : Nat → Bool) (i : Nat) (o : Oper), ops[i]? = some o → d i = false → (∀ e ∈ o.after, Region.binds .any e = true → d e.on = true) →
      ∃ v H' A', Yld E fb ops o (F d) v H' A' ∧ (⟨put (F d).ρ o.dst v, H', A'⟩ : St) = F (upd d i true)) (hend : K (F fun _ => true)) :
    ∀ (fuel : Nat) (listed : Array Bool), listed.size = ops.size → (∃ l : List Nat, l.Nodup ∧ l.length = fuel ∧ ∀ i, i ∈ l ↔ i < ops.size ∧ listed.getD i false = false) → anyA E fb ops K fuel listed (F fun i => listed.getD i false) := by
  have gd : ∀ (listed : Array Bool) (i : Nat), i < listed.size → listed.getD i true = listed.getD i false := fun listed i hi => by
    rw [Array.getD_eq_getD_getElem?, Array.getD_eq_getD_getElem?, Array.getElem?_eq_getElem hi]; rfl
  have done : ∀ (listed : Array Bool), listed.size = ops.size → Region.ready .any ops listed = [] → ∀ i, i < ops.size → listed.getD i false = true := by
    intro listed hsz h i
    induction i using Nat.strongRecOn with
    | ind i ih =>
      intro hi
      cases hl : listed.getD i false with
      | true => rfl
      | false =>
        have : i ∈ Region.ready .any ops listed := mem_ready.2 ⟨(gd listed i (by omega)).trans hl, ops[i], by simp [hi], fun e he hb => ih e.on (hback i _ (by simp [hi]) e he hb) (Nat.lt_trans (hback i _ (by simp [hi]) e he hb) hi)⟩
        rw [h] at this
        cases this
  have fin : ∀ (listed : Array Bool), listed.size = ops.size → Region.ready .any ops listed = [] → K (F fun i => listed.getD i false) := fun listed hsz h => by
    rw [hext _ (fun _ => true) (done listed hsz h)]
    exact hend
  intro fuel
  induction fuel with
  | zero =>
    rintro listed hsz ⟨l, hl, h0, hm⟩
    have h0 := List.length_eq_zero_iff.1 h0
    subst h0
    have hr : Region.ready .any ops listed = [] := List.eq_nil_iff_forall_not_mem.2 fun i hi => by
      obtain ⟨h1, o, h2, _⟩ := mem_ready.1 hi
      have hlt := (Array.getElem?_eq_some_iff.1 h2).1
      have := (hm i).2 ⟨hlt, (gd listed i (by omega)).symm.trans h1⟩
      cases this
    exact ⟨hr, fin listed hsz hr⟩
  | succ fuel ih =>
    rintro listed hsz ⟨l, hl, hlen, hm⟩
    refine ⟨fin listed hsz, fun i hi => ?_⟩
    obtain ⟨h1, o, h2, h3⟩ := mem_ready.1 hi
    have hlt := (Array.getElem?_eq_some_iff.1 h2).1
    have h1 : listed.getD i false = false := (gd listed i (by omega)).symm.trans h1
    unfold AOp
    simp only [h2]
    obtain ⟨v, H', A', hy, e⟩ := hstep (fun i => listed.getD i false) i o h2 h1 h3
    refine ⟨v, H', A', hy, ?_⟩
    rw [e]
    have e2 : F (upd (fun i => listed.getD i false) i true) = F (fun j => (listed.setIfInBounds i true).getD j false) := hext _ _ fun j hj => by
      by_cases hij : j = i
      · subst hij
        rw [upd_same, Array.getD_eq_getD_getElem?, Array.getElem?_setIfInBounds_self_of_lt (by omega)]
        rfl
      · rw [upd_other _ _ hij, Array.getD_eq_getD_getElem?, Array.getD_eq_getD_getElem?, Array.getElem?_setIfInBounds_ne (Ne.symm hij)]
    rw [e2]
    refine ih _ (by simpa using hsz) ⟨l.erase i, hl.erase i, ?_, fun j => ?_⟩
    · rw [List.length_erase_of_mem ((hm i).2 ⟨hlt, h1⟩), hlen]; rfl
    · rw [hl.mem_erase_iff, hm j]
      by_cases hij : j = i
      · subst hij
        have q : (listed.setIfInBounds j true).getD j false = true := by
          rw [Array.getD_eq_getD_getElem?, Array.getElem?_setIfInBounds_self_of_lt (by omega)]
          rfl
        rw [q]
        simp
      · have q : (listed.setIfInBounds i true).getD j false = listed.getD j false := by
          rw [Array.getD_eq_getD_getElem?, Array.getD_eq_getD_getElem?, Array.getElem?_setIfInBounds_ne (Ne.symm hij)]
        rw [q]
        simp [hij]
theorem VX_states {E : Env} (hE : EnvOK E) {D : List Deferred} {n : Nat} {H0 : HMap} {A0 : AMap} {id : Nat} {l : List Oper} {Q : Post} {R : Value → St → Prop} {S : St} (F : (Nat → Bool) → St) (hd : dstsOK n l.toArray = true) (h0 : F (fun _ => false) = S)
    (hext : ∀ d d' : Nat → Bool, (∀ i, i < l.length → d i = d' i) → F d = F d') (hback : (l.zipIdx.all fun p => p.1.after.toList.all fun e => !Region.binds .any e || decide (e.on < p.2)) = true)
    (hstep : ∀ (d : Nat → Bool) (i : Nat) (o : Oper), l[i]? = some o → d i = false → (∀ e ∈ o.after, Region.binds .any e = true → d e.on = true) →
      ∃ v H' A', Yld E (some []) l.toArray o (F d) v H' A' ∧ (⟨put (F d).ρ o.dst v, H', A'⟩ : St) = F (upd d i true)) (hend : Q.nrm (F fun _ => true)) : VX E D n H0 A0 (.region id l.toArray true) Q R S := fun g0 w0 a w hd0 hr => by
  subst h0
  have hsz : l.toArray.size = l.length := by simp
  refine wp_region_any hE.mixed (any_real (fb := some []) (K := Q.nrm) hE (fun i o ho => dstsOK_spec hd o (by rw [← Array.getElem?_toList] at ho; exact List.mem_of_getElem? ho)) (fun S a w hr h => ⟨S, hr, h⟩) _ _ (F fun _ => false) a _ ?_ hr.drew)
  have e : F (fun _ => false) = F (fun i => (Array.replicate l.toArray.size false).getD i false) := hext _ _ fun i hi => by
    rw [Array.getD_eq_getD_getElem?, Array.getElem?_replicate]
    split <;> rfl
  rw [e]
  refine any_states F (fun d d' h => hext d d' (by simpa using h)) (fun i o ho e he hb => ?_) (fun d i o ho => hstep d i o (by simpa using ho)) hend _ _ (by simp) ⟨List.range l.length, List.nodup_range, by simp, fun i => ?_⟩
  · have h1 : (o, i) ∈ l.zipIdx := by
      rw [List.mem_zipIdx_iff_getElem?]
      simpa using ho
    have h2 := List.all_eq_true.1 (List.all_eq_true.1 hback _ h1) e (by simpa using he)
    simp only [hb, Bool.not_true, Bool.false_or, decide_eq_true_eq] at h2
    exact h2
  · rw [List.mem_range, Array.getD_eq_getD_getElem?, Array.getElem?_replicate, hsz]
    constructor
    · intro h; exact ⟨h, by rw [if_pos h]; rfl⟩
    · intro h; exact h.1
end Go.PW

namespace Go.Proofs
open Go.PW
structure R8 where
  ρ : Nat → PV
  H : HMap
  A : AMap
  i5 : Nat
  i4 : Nat
  i2 : Nat
  iN : Nat
  id : Nat
  r : Rd
  at0 : Nat
  x0 : Int
def R8.rho (z : R8) (d : Nat → Bool) (t : Nat) : PV :=
  if t = 13 then (if d 0 = true then .c (.ptr z.id 0) else z.ρ 13) else
  if t = 14 then (if d 1 = true then .c (.ptr z.id 0) else z.ρ 14) else
  if t = 15 then (if d 2 = true then .c (.d (.lit (.int .u64 0))) else z.ρ 15) else
  if t = 16 then (if d 3 = true then .c (.d (.lit (.int .i64 z.at0))) else z.ρ 16) else
  if t = 17 then (if d 4 = true then .c (.ptr z.iN 0) else z.ρ 17) else
  if t = 18 then (if d 5 = true then .c (.d (.lit (.int .i64 8))) else z.ρ 18) else
  if t = 19 then (if d 7 = true then .c (.ptr z.id 0) else z.ρ 19) else
  if t = 20 then (if d 8 = true then .c (.ptr z.id 1) else z.ρ 20) else
  if t = 21 then (if d 10 = true then .c (.ptr z.id 0) else z.ρ 21) else
  if t = 22 then (if d 11 = true then .c (.ptr z.id 2) else z.ρ 22) else
  z.ρ t
def R8.cells (z : R8) (d : Nat → Bool) : List CV := [.d (dS z.r.s), .d (.lit (.int .i64 (if d 9 = true then z.at0 else z.r.at_))), .d (.lit (.int .i64 (if d 12 = true then 8 else z.r.e)))]
def R8.heap (z : R8) (d : Nat → Bool) (i : Nat) : Option (List CV) :=
  if i = z.i4 then some [.d (.lit (.int .u64 (if d 6 = true then 0 else z.x0)))] else if i = z.id then some (z.cells d) else z.H i
def R8.F (z : R8) (d : Nat → Bool) : St := ⟨z.rho d, z.heap d, z.A⟩
structure R8.OK (z : R8) : Prop where
  r0 : z.ρ 0 = .c (.ptr z.i5 0)
  r1 : z.ρ 1 = .c (.ptr z.i4 0)
  r2 : z.ρ 2 = .c (.ptr z.i2 0)
  r4 : z.ρ 4 = .c (.ptr z.iN 0)
  r5 : z.ρ 5 = .c (.d (.lit (.int .u64 0)))
  h5 : z.H z.i5 = some [.d (.lit (.int .i64 z.at0))]
  h4 : z.H z.i4 = some [.d (.lit (.int .u64 z.x0))]
  h2 : z.H z.i2 = some [.ptr z.id 0]
  hN : z.H z.iN = some [.d (.lit (.int .i64 8))]
  hr : z.H z.id = some (encRd z.r)
  n4 : z.i4 ≠ z.id
  n5 : z.i5 ≠ z.id
  n54 : z.i5 ≠ z.i4
  n2 : z.i2 ≠ z.id
  n24 : z.i2 ≠ z.i4
  nN : z.iN ≠ z.id
  nN4 : z.iN ≠ z.i4
theorem R8.ext (z : R8) (d d' : Nat → Bool) (h : ∀ i, i < 13 → d i = d' i) : z.F d = z.F d' := by
  have e : z.rho d = z.rho d' := by
    funext t
    unfold R8.rho
    rw [h 0 (by omega), h 1 (by omega), h 2 (by omega), h 3 (by omega), h 4 (by omega), h 5 (by omega), h 7 (by omega), h 8 (by omega), h 10 (by omega), h 11 (by omega)]
  have e2 : z.heap d = z.heap d' := by
    funext i
    unfold R8.heap R8.cells
    rw [h 6 (by omega), h 9 (by omega), h 12 (by omega)]
  unfold R8.F
  rw [e, e2]
theorem R8.zero (z : R8) (h : z.OK) : z.F (fun _ => false) = ⟨z.ρ, z.H, z.A⟩ := by
  have e : z.rho (fun _ => false) = z.ρ := by
    funext t
    unfold R8.rho
    simp only [Bool.false_eq_true, if_false]
    repeat' split
    all_goals first | rfl | (rename_i e; rw [e])
  have e2 : z.heap (fun _ => false) = z.H := by
    funext i
    unfold R8.heap R8.cells
    simp only [Bool.false_eq_true, if_false]
    split
    · rename_i e; rw [e, h.h4]
    · split
      · rename_i e; rw [e, h.hr]; rfl
      · rfl
  unfold R8.F
  rw [e, e2]
theorem R8.slot (z : R8) (d : Nat → Bool) (i s : Nat) (v : PV) (hv : z.rho (upd d i true) s = v) (ho : ∀ t, t ≠ s → z.rho (upd d i true) t = z.rho d t) (hh : z.heap (upd d i true) = z.heap d) : (⟨put (z.rho d) (some s) v, z.heap d, z.A⟩ : St) = z.F (upd d i true) := by
  unfold R8.F
  rw [hh]
  congr 1
  funext t
  by_cases e : t = s
  · subst e
    show upd _ _ _ _ = _
    rw [upd_same, hv]
  · show upd _ _ _ _ = _
    rw [upd_other _ _ e, ho t e]
theorem R8.sto (z : R8) (d : Nat → Bool) (i : Nat) (v : PV) (H' : HMap) (hv : z.rho (upd d i true) = z.rho d) (hh : z.heap (upd d i true) = H') : (⟨put (z.rho d) none v, H', z.A⟩ : St) = z.F (upd d i true) := by
  unfold R8.F
  rw [hv, hh]
  rfl
section
variable {z : R8} {d : Nat → Bool}
@[go_sem] theorem R8.Fp : (z.F d).ρ = z.rho d := rfl
@[go_sem] theorem R8.FH : (z.F d).H = z.heap d := rfl
@[go_sem] theorem R8.FA : (z.F d).A = z.A := rfl
theorem R8.heap4 : z.heap (upd d 6 true) = upd (z.heap d) z.i4 (some [.d (.lit (.int .u64 0))]) := by
  funext i
  rw [upd_apply']
  unfold R8.heap
  by_cases e : i = z.i4
  · rw [if_pos e, if_pos e, upd_same, if_pos rfl]
  · rw [if_neg e, if_neg e, if_neg e]
    rfl
theorem R8.heap9 (n4 : z.i4 ≠ z.id) : z.heap (upd d 9 true) = upd (z.heap d) z.id (some [.d (dS z.r.s), .d (.lit (.int .i64 z.at0)), .d (.lit (.int .i64 (if d 12 = true then 8 else z.r.e)))]) := by
  funext i
  rw [upd_apply']
  unfold R8.heap R8.cells
  by_cases e : i = z.id
  · rw [if_neg (fun e' => n4 (e'.symm.trans e)), if_pos e, if_pos e, upd_same, if_pos rfl]
    rfl
  · rw [if_neg e, if_neg e, if_neg e]
    rfl
theorem R8.heap12 (n4 : z.i4 ≠ z.id) : z.heap (upd d 12 true) = upd (z.heap d) z.id (some [.d (dS z.r.s), .d (.lit (.int .i64 (if d 9 = true then z.at0 else z.r.at_))), .d (.lit (.int .i64 8))]) := by
  funext i
  rw [upd_apply']
  unfold R8.heap R8.cells
  by_cases e : i = z.id
  · rw [if_neg (fun e' => n4 (e'.symm.trans e)), if_pos e, if_pos e, upd_same, if_pos rfl]
    rfl
  · rw [if_neg e, if_neg e, if_neg e]
    rfl
theorem R8.OK.g4 (_h : z.OK) : z.heap d z.i4 = some [.d (.lit (.int .u64 (if d 6 = true then 0 else z.x0)))] := if_pos rfl
theorem R8.OK.gi (h : z.OK) : z.heap d z.id = some [.d (dS z.r.s), .d (.lit (.int .i64 (if d 9 = true then z.at0 else z.r.at_))), .d (.lit (.int .i64 (if d 12 = true then 8 else z.r.e)))] := by
  unfold R8.heap; rw [if_neg h.n4.symm, if_pos rfl]; rfl
theorem R8.OK.g2 (h : z.OK) : z.heap d z.i2 = some [.ptr z.id 0] := by unfold R8.heap; rw [if_neg h.n24, if_neg h.n2]; exact h.h2
theorem R8.OK.g5 (h : z.OK) : z.heap d z.i5 = some [.d (.lit (.int .i64 z.at0))] := by unfold R8.heap; rw [if_neg h.n54, if_neg h.n5]; exact h.h5
theorem R8.OK.gN (h : z.OK) : z.heap d z.iN = some [.d (.lit (.int .i64 8))] := by unfold R8.heap; rw [if_neg h.nN4, if_neg h.nN]; exact h.hN
theorem R8.OK.q0 (h : z.OK) : z.rho d 0 = .c (.ptr z.i5 0) := h.r0
theorem R8.OK.q1 (h : z.OK) : z.rho d 1 = .c (.ptr z.i4 0) := h.r1
theorem R8.OK.q2 (h : z.OK) : z.rho d 2 = .c (.ptr z.i2 0) := h.r2
theorem R8.OK.q4 (h : z.OK) : z.rho d 4 = .c (.ptr z.iN 0) := h.r4
theorem R8.OK.q5 (h : z.OK) : z.rho d 5 = .c (.d (.lit (.int .u64 0))) := h.r5
theorem R8.p13 (h : d 0 = true) : z.rho d 13 = .c (.ptr z.id 0) := by
  show (if d 0 = true then _ else _) = _
  rw [if_pos h]
theorem R8.p14 (h : d 1 = true) : z.rho d 14 = .c (.ptr z.id 0) := by
  show (if d 1 = true then _ else _) = _
  rw [if_pos h]
theorem R8.p15 (h : d 2 = true) : z.rho d 15 = .c (.d (.lit (.int .u64 0))) := by
  show (if d 2 = true then _ else _) = _
  rw [if_pos h]
theorem R8.p16 (h : d 3 = true) : z.rho d 16 = .c (.d (.lit (.int .i64 z.at0))) := by
  show (if d 3 = true then _ else _) = _
  rw [if_pos h]
theorem R8.p17 (h : d 4 = true) : z.rho d 17 = .c (.ptr z.iN 0) := by
  show (if d 4 = true then _ else _) = _
  rw [if_pos h]
theorem R8.p18 (h : d 5 = true) : z.rho d 18 = .c (.d (.lit (.int .i64 8))) := by
  show (if d 5 = true then _ else _) = _
  rw [if_pos h]
theorem R8.p19 (h : d 7 = true) : z.rho d 19 = .c (.ptr z.id 0) := by
  show (if d 7 = true then _ else _) = _
  rw [if_pos h]
theorem R8.p20 (h : d 8 = true) : z.rho d 20 = .c (.ptr z.id 1) := by
  show (if d 8 = true then _ else _) = _
  rw [if_pos h]
theorem R8.p21 (h : d 10 = true) : z.rho d 21 = .c (.ptr z.id 0) := by
  show (if d 10 = true then _ else _) = _
  rw [if_pos h]
theorem R8.p22 (h : d 11 = true) : z.rho d 22 = .c (.ptr z.id 2) := by
  show (if d 11 = true then _ else _) = _
  rw [if_pos h]
theorem R8.s13 : (⟨put (z.rho d) (some 13) (.c (.ptr z.id 0)), z.heap d, z.A⟩ : St) = z.F (upd d 0 true) := by
  refine z.slot d 0 13 _ (R8.p13 (upd_same _ _ _)) (fun t ht => ?_) rfl
  unfold R8.rho
  simp only [ht, if_false]
  rfl
theorem R8.s14 : (⟨put (z.rho d) (some 14) (.c (.ptr z.id 0)), z.heap d, z.A⟩ : St) = z.F (upd d 1 true) := by
  refine z.slot d 1 14 _ (R8.p14 (upd_same _ _ _)) (fun t ht => ?_) rfl
  unfold R8.rho
  simp only [ht, if_false]
  rfl
theorem R8.s15 : (⟨put (z.rho d) (some 15) (.c (.d (.lit (.int .u64 0)))), z.heap d, z.A⟩ : St) = z.F (upd d 2 true) := by
  refine z.slot d 2 15 _ (R8.p15 (upd_same _ _ _)) (fun t ht => ?_) rfl
  unfold R8.rho
  simp only [ht, if_false]
  rfl
theorem R8.s16 : (⟨put (z.rho d) (some 16) (.c (.d (.lit (.int .i64 z.at0)))), z.heap d, z.A⟩ : St) = z.F (upd d 3 true) := by
  refine z.slot d 3 16 _ (R8.p16 (upd_same _ _ _)) (fun t ht => ?_) rfl
  unfold R8.rho
  simp only [ht, if_false]
  rfl
theorem R8.s17 : (⟨put (z.rho d) (some 17) (.c (.ptr z.iN 0)), z.heap d, z.A⟩ : St) = z.F (upd d 4 true) := by
  refine z.slot d 4 17 _ (R8.p17 (upd_same _ _ _)) (fun t ht => ?_) rfl
  unfold R8.rho
  simp only [ht, if_false]
  rfl
theorem R8.s18 : (⟨put (z.rho d) (some 18) (.c (.d (.lit (.int .i64 8)))), z.heap d, z.A⟩ : St) = z.F (upd d 5 true) := by
  refine z.slot d 5 18 _ (R8.p18 (upd_same _ _ _)) (fun t ht => ?_) rfl
  unfold R8.rho
  simp only [ht, if_false]
  rfl
theorem R8.s19 : (⟨put (z.rho d) (some 19) (.c (.ptr z.id 0)), z.heap d, z.A⟩ : St) = z.F (upd d 7 true) := by
  refine z.slot d 7 19 _ (R8.p19 (upd_same _ _ _)) (fun t ht => ?_) rfl
  unfold R8.rho
  simp only [ht, if_false]
  rfl
theorem R8.s20 : (⟨put (z.rho d) (some 20) (.c (.ptr z.id 1)), z.heap d, z.A⟩ : St) = z.F (upd d 8 true) := by
  refine z.slot d 8 20 _ (R8.p20 (upd_same _ _ _)) (fun t ht => ?_) rfl
  unfold R8.rho
  simp only [ht, if_false]
  rfl
theorem R8.s21 : (⟨put (z.rho d) (some 21) (.c (.ptr z.id 0)), z.heap d, z.A⟩ : St) = z.F (upd d 10 true) := by
  refine z.slot d 10 21 _ (R8.p21 (upd_same _ _ _)) (fun t ht => ?_) rfl
  unfold R8.rho
  simp only [ht, if_false]
  rfl
theorem R8.s22 : (⟨put (z.rho d) (some 22) (.c (.ptr z.id 2)), z.heap d, z.A⟩ : St) = z.F (upd d 11 true) := by
  refine z.slot d 11 22 _ (R8.p22 (upd_same _ _ _)) (fun t ht => ?_) rfl
  unfold R8.rho
  simp only [ht, if_false]
  rfl
end
end Go.Proofs
