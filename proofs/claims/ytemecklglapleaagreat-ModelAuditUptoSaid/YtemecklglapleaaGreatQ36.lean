/-
  Parts of the proof, laid together: PwEc, PwEd, PwKa.
-/
import Derived.Test.YtemecklglapleaaGreatQ35
import Derived.Test.YtemecklglapleaaGreatQ24

set_option maxRecDepth 30000
set_option maxHeartbeats 16000000
namespace Go.Proofs
open Go.PW
structure Do2OK {σ : Type} (P : Program) (f : FuncId) (caps : List (Nat × Nat)) (off : Nat) (A : AMap) (W : σ → HMap) (I : Nat → σ → Prop) (B : Nat) (ok : Chg → Prop) (step : σ → List UInt8 → Chg → σ) : Prop where
 ok : ∀ n s k x, n < B → I n s → ok x → zqf P f (off + 3000) (W s) A (pD (dS k) :: pA x.enc :: caps.map z60) (.c .any) (W (step s k x)) A ∧ I (n + 1) (step s k x)
 mono : ∀ n s, I n s → I (n + 1) s
 wf : ∀ n s, I n s → Wf (W s) A
 fr : ∀ s id, off ≤ id → W s id = none
 cap : ∀ n s, I n s → ∀ p ∈ caps, W s p.1 ≠ none
 kp : ∀ s s' id, W s id ≠ none → W s' id ≠ none
section
variable {σ : Type}
def zw3 (s0 : Option Sch) : Int := (s0.getD zvc).keys
def zwy (s0 : Option Sch) (x : Chg) : List UInt8 := if ((sErr s0 != 0) || decide ((x.row.length : Int) < zw3 s0)) = true then [] else keyB (x.row.take (zw3 s0).toNat)
def zqp (s0 : Option Sch) (step : σ → List UInt8 → Chg → σ) (s : σ) (x : Chg) : σ := if (x.op == 3) = true then s else step s (zwy s0 x) x
def zxk (off : Nat) (f : FuncId) (caps : List (Nat × Nat)) (s0 : Option Sch) (W : HMap) : HMap := zzy [(off + 7, [.fn f caps]), (off + 8, (s0.getD zvc).enc.map .d), (off + 9, [.d (dI (sErr s0))])] W
variable {P : Program} {f : FuncId} {caps : List (Nat × Nat)} {off B : Nat} {A : AMap} {W : σ → HMap} {I : Nat → σ → Prop} {ok : Chg → Prop} {step : σ → List UInt8 → Chg → σ}
theorem z42 {s0 : Option Sch} {W : HMap} {id : Nat} (h : id < off) : zxk off f caps s0 W id = W id := by
 unfold zxk
 simp only [zzy, show (id = off + 7) = False from eq_false (by omega), show (id = off + 8) = False from eq_false (by omega), show (id = off + 9) = False from eq_false (by omega), if_false]
theorem z9j {s0 : Option Sch} {W : HMap} (hW : ∀ id, off ≤ id → W id = none) {id : Nat} (h : off + 1000 ≤ id) : zxk off f caps s0 W id = none := by
 unfold zxk
 simp only [zzy, show (id = off + 7) = False from eq_false (by omega), show (id = off + 8) = False from eq_false (by omega), show (id = off + 9) = False from eq_false (by omega), if_false]
 exact hW id (by omega)
theorem yv7 {s0 : Option Sch} {W W' : HMap} {id : Nat} (hW' : ∀ id, off ≤ id → W id = W' id) (h : off ≤ id) : zxk off f caps s0 W id = zxk off f caps s0 W' id := by
 unfold zxk
 simp only [zzy]
 split
 · rfl
 · split
   · rfl
   · split
     · rfl
     · exact hW' id h
theorem ykn {s0 : Option Sch} {W W' : HMap} (h : ∀ id, W id ≠ none → W' id ≠ none) (id : Nat) (hi : zxk off f caps s0 W id ≠ none) : zxk off f caps s0 W' id ≠ none := by
 unfold zxk at hi ⊢
 simp only [zzy] at hi ⊢
 split
 · simp
 · rename_i h7
   rw [if_neg h7] at hi
   split
   · simp
   · rename_i h8
     rw [if_neg h8] at hi
     split
     · simp
     · rename_i h9
       rw [if_neg h9] at hi
       exact h id hi
theorem z9k {s0 : Option Sch} {W : HMap} (hw : Wf W A) (hc : ∀ p ∈ caps, W p.1 ≠ none) : Wf (zxk off f caps s0 W) A := by
 have hold : ∀ i, W i ≠ none → zxk off f caps s0 W i ≠ none := fun i hi => by unfold zxk; exact zx8 hi
 intro id cs c h hcm
 unfold zxk at h
 simp only [zzy] at h
 split at h
 · cases h
   rw [List.mem_singleton.1 hcm]
   exact fun p hp => hold _ (hc p hp)
 · split at h
   · cases h
     obtain ⟨d, _, rfl⟩ := List.mem_map.1 hcm
     exact Zti
   · split at h
     · cases h
       rw [List.mem_singleton.1 hcm]
       exact Zti
     · exact zwl hold (fun _ h => h) (hw id cs c h hcm)
theorem Tryz.clDo : Tryz.prog.cellsOf 77 = 1 := by kernel_rfl
theorem Tryz.kRows1 (hd : Do2OK Tryz.prog f caps off A W I B ok step) (s0 : Option Sch) (hk : 0 ≤ zw3 s0) (n : Nat) (s : σ) (x : Chg) (hn : n < B) (hI : I n s) (hx : ok x) (hr : x.row.length ≤ 1048576) (hbits : zwv x.row) :
 zqf Tryz.prog 51 (off + 2000) (zxk off f caps s0 (W s)) A [pA x.enc, .c (.ptr (off + 9) 0), .c (.ptr (off + 8) 0), .c (.ptr (off + 7) 0)] (.c .any) (zxk off f caps s0 (W (zqp s0 step s x))) A := by
 refine zqh (E := envOf Tryz.prog [9000000 + 7] (off + 2000) [] [1]) (zzx Tryz.mixed) Tryz.func51 rfl Tryz.call51 (by kernel_rfl) (by exact Zle rfl) (fun hab => ?_)
 have h4 : zxk off f caps s0 (W s) (off + 2000 + 4) = none := (hab _ (by omega)).1
 have h7 : zxk off f caps s0 (W s) (off + 7) = some [.fn f caps] := by unfold zxk; simp [zzy]
 have h8 : zxk off f caps s0 (W s) (off + 8) = some ((s0.getD zvc).enc.map .d) := by unfold zxk; simp [zzy]
 have h9 : zxk off f caps s0 (W s) (off + 9) = some [.d (dI (sErr s0))] := by unfold zxk; simp [zzy]
 have o7 : (off + 7 = off + 2000 + 4) = False := eq_false (by omega)
 have o8 : (off + 8 = off + 2000 + 4) = False := eq_false (by omega)
 have o9 : (off + 9 = off + 2000 + 4) = False := eq_false (by omega)
 cases hop : (x.op == 3) with
 | true =>
   have es : zqp s0 step s x = s := by unfold zqp; rw [hop]; rfl
   rw [es]
   repeat' (first|(with_reducible first|refine vSq fun K hK=>?_|apply vRg|apply vBl|apply vSc|apply vIf|apply vSk|apply vEx|apply vRt|((first|apply gNt|apply gCs)<;>(intro h;try simp only[h]))|((first|apply hK|(clear hK K;first|apply hK|(clear hK K;first|apply hK|(clear hK K;apply hK))));clear hK K)|(refine todo ?_;simp +decide only[go_sem, h4, hop])))
   exact z16 rfl (z9k (hd.wf _ _ hI) (hd.cap _ _ hI)) (fun i hi => zza _ _ (fun e => hi (by rw [e]; exact h4))) rfl (fun _ h => h)
 | false =>
   have es : zqp s0 step s x = step s (zwy s0 x) x := by unfold zqp; rw [hop]; rfl
   rw [es]
   have hdo := fun k => hd.ok n s k x hn hI hx
   have hko : ∀ k, ∀ y ∈ pD (dS k) :: pA x.enc :: caps.map z60, y.oks (fun i => W s i ≠ none) (fun κ => A κ ≠ none) := fun k y hy => by
    rcases List.mem_cons.1 hy with rfl | hy
    · exact Zti
    · rcases List.mem_cons.1 hy with rfl | hy
      · exact yki
      · obtain ⟨z, hz, rfl⟩ := List.mem_map.1 hy
        exact hd.cap _ _ hI z hz
   have hxe : ∀ id X Y, id < off → upd (upd (zxk off f caps s0 (W s)) (off + 2000 + 4) X) (off + 2000 + 4) Y id = W s id := fun id X Y hid => by
    rw [zza _ _ (by omega), zza _ _ (by omega), z42 hid]
   have hxe1 : ∀ id X, id < off → upd (zxk off f caps s0 (W s)) (off + 2000 + 4) X id = W s id := fun id X hid => by
    rw [zza _ _ (by omega), z42 hid]
   have ab : ∀ X, Above (off + 2000 + 1000) (upd (zxk off f caps s0 (W s)) (off + 2000 + 4) X) A := fun X i hi => ⟨by rw [zza _ _ (by omega)]; exact (hab i (by omega)).1, (hab i (by omega)).2⟩
   have fin : ∀ k S, (∃ X, S.H = ownH (upd (zxk off f caps s0 (W s)) (off + 2000 + 4) X) (W (step s k x)) off) → S.A = A → RetR Tryz.prog Tryz.f51 (zxk off f caps s0 (W s)) A (.c .any) (zxk off f caps s0 (W (step s k x))) A S := fun k S h1 h2 => by
    obtain ⟨X, h1⟩ := h1
    have hI' := (hdo k).2
    refine z16 rfl (z9k (hd.wf _ _ hI') (hd.cap _ _ hI')) (fun i hi => ?_) h2 (fun i hi => ykn (fun j hj => hd.kp _ _ j hj) i hi)
    rw [h1]
    rcases Zlg i off with hlt | hge
    · rw [yx6 hlt, z42 hlt]
    · have hne : i ≠ off + 2000 + 4 := fun e => hi (by rw [e]; exact z9j (hd.fr _) (by omega))
      rw [yx5 hge, zza _ _ hne]
      exact yv7 (fun j hj => by rw [hd.fr _ j hj, hd.fr _ j hj]) hge
   cases hse : (sErr s0 != 0) with
   | true =>
     have ek : zwy s0 x = [] := by unfold zwy; rw [hse]; rfl
     rw [ek]
     repeat' (first|(with_reducible first|refine vSq fun K hK=>?_|apply vRg|apply vBl|apply vSc|apply vIf|apply vSk|apply vEx|apply vRt|((first|apply gNt|apply gCs)<;>(intro h;try simp only[h]))|((first|apply hK|(clear hK K;first|apply hK|(clear hK K;first|apply hK|(clear hK K;apply hK))));clear hK K)|(refine todo ?_;simp +decide only[go_sem, h4, h7, h9, o7, o9, hop, hse, Tryz.underlying77, Tryz.clDo, List.take_succ_cons, List.take_zero]))|refine z4e (z8u (hdo []).1 (hd.wf _ _ hI) (hko []) (hd.fr _) (hd.fr _) (fun id hid => hxe1 id _ hid)) rfl (ab _) ?_)
     refine fin [] _ ?_ ?_
     · exact ⟨_, rfl⟩
     · rfl
   | false =>
     cases hlt : decide ((x.row.length : Int) < zw3 s0) with
     | true =>
       have ek : zwy s0 x = [] := by unfold zwy; rw [hse, hlt]; rfl
       rw [ek]
       have hlt' : decide ((x.row.length : Int) < (s0.getD zvc).keys) = true := hlt
       repeat' (first|(with_reducible first|refine vSq fun K hK=>?_|apply vRg|apply vBl|apply vSc|apply vIf|apply vSk|apply vEx|apply vRt|((first|apply gNt|apply gCs)<;>(intro h;try simp only[h]))|((first|apply hK|(clear hK K;first|apply hK|(clear hK K;first|apply hK|(clear hK K;apply hK))));clear hK K)|(refine todo ?_;simp +decide only[go_sem, h4, h7, h8, h9, o7, o8, o9, hop, hse, hlt', Tryz.underlying77, Tryz.clDo, List.take_succ_cons, List.take_zero]))|refine z4e (z8u (hdo []).1 (hd.wf _ _ hI) (hko []) (hd.fr _) (hd.fr _) (fun id hid => hxe1 id _ hid)) rfl (ab _) ?_)
       refine fin [] _ ?_ ?_
       · exact ⟨_, rfl⟩
       · rfl
     | false =>
       have ek : zwy s0 x = keyB (x.row.take (zw3 s0).toNat) := by unfold zwy; rw [hse, hlt]; rfl
       rw [ek]
       have hlt' : decide ((x.row.length : Int) < (s0.getD zvc).keys) = false := hlt
       obtain ⟨m, hm⟩ : ∃ m : Nat, zw3 s0 = (m : Int) := ⟨(zw3 s0).toNat, by omega⟩
       have hm' : (s0.getD zvc).keys = (m : Int) := hm
       have hml : m ≤ x.row.length := by have := of_decide_eq_false hlt; omega
       rw [hm'] at hlt'
       rw [hm, Int.toNat_natCast]
       have tk : List.take (m - 0) (x.row.map Val.enc) = (x.row.take m).map Val.enc := by rw [Nat.sub_zero, List.map_take]
       have kk := Tryz.kKeyOf (x.row.take m) (by rw [Zlt]; omega) (fun v hv => hbits v (List.mem_of_mem_take hv))
       repeat' (first|(with_reducible first|refine vSq fun K hK=>?_|apply vRg|apply vBl|apply vSc|apply vIf|apply vSk|apply vEx|apply vRt|((first|apply gNt|apply gCs)<;>(intro h;try simp only[h]))|((first|apply hK|(clear hK K;first|apply hK|(clear hK K;first|apply hK|(clear hK K;apply hK))));clear hK K)|(refine todo ?_;simp +decide only[go_sem, h4, h7, h8, h9, o7, o8, o9, hop, hse, hlt', hm', tk, Tryz.underlying77, Tryz.clDo, List.take_succ_cons, List.take_zero]))|refine z4e (z8u (hdo (keyB (x.row.take m))).1 (hd.wf _ _ hI) (hko _) (hd.fr _) (hd.fr _) (fun id hid => hxe1 id _ hid)) rfl (ab _) ?_|refine zzq kk rfl rfl rfl rfl ?_|(refine zvh Tryz.appVals rfl (l := 0) (h := m) rfl (by simp [zz0, natOf?, intOf?]) (Nat.zero_le _) (by simp; omega) (yq3 _) ?_))
       refine fin (keyB (x.row.take m)) _ ?_ ?_
       · exact ⟨_, rfl⟩
       · rfl
theorem xq2 (hd : Do2OK P f caps off A W I B ok step) {s0 : Option Sch} {n : Nat} {s : σ} {x : Chg} (hn : n < B) (hI : I n s) (hx : ok x) : I (n + 1) (zqp s0 step s x) := by
 unfold zqp
 split
 · exact hd.mono _ _ hI
 · exact (hd.ok n s _ x hn hI hx).2
theorem Tryz.rowDo (hd : Do2OK Tryz.prog f caps off A W I B ok step) (s0 : Option Sch) (hk : 0 ≤ zw3 s0) : DoOK Tryz.prog 51 [(off + 9, 0), (off + 8, 0), (off + 7, 0)] (off + 1000) A (fun s => zxk off f caps s0 (W s)) I B (fun x => ok x ∧ x.row.length ≤ 1048576 ∧ zwv x.row) (zqp s0 step) :=
 ⟨fun n s x hn hI hx => ⟨Tryz.kRows1 hd s0 hk n s x hn hI hx.1 hx.2.1 hx.2.2, xq2 hd hn hI hx.1⟩, fun n s hI => z9k (hd.wf _ _ hI) (hd.cap _ _ hI), fun s id h => z9j (hd.fr _) h, fun n s hI p hp => by
   have h7 : zxk off f caps s0 (W s) (off + 7) ≠ none := by unfold zxk; simp [zzy]
   have h8 : zxk off f caps s0 (W s) (off + 8) ≠ none := by unfold zxk; simp [zzy]
   have h9 : zxk off f caps s0 (W s) (off + 9) ≠ none := by unfold zxk; simp [zzy]
   simp only [List.mem_cons, List.not_mem_nil, or_false] at hp
   rcases hp with rfl | rfl | rfl
   · exact h9
   · exact h8
   · exact h7, fun s s' id h => ykn (fun j hj => hd.kp _ _ j hj) id h⟩
def z0g (l : List Txn) (tab : List UInt8) (t : Int) (step : σ → List UInt8 → Chg → σ) (p : Nat × σ) : Nat × σ := zxv l tab t (zqp (schS l tab 1099511627776) step) p
theorem Tryz.kMRows (hd : Do2OK Tryz.prog f caps off A W I B ok step) (l : List Txn) (tab : List UInt8) (t : Int) (n0 : Nat) (s0 : σ) (hI : I n0 s0) (hB : n0 + tot l ≤ B) (hl : l.length ≤ 1048576) (hk : 0 ≤ zw3 (schS l tab 1099511627776))
 (hc : ∀ x ∈ l, x.chs.length ≤ 1048576 ∧ ∀ c ∈ x.chs, c.d.cols.length ≤ 1048576 ∧ ok c ∧ c.row.length ≤ 1048576 ∧ zwv c.row) :
 zqf Tryz.prog 26 off (W s0) A [pD (zq1 l), pD (dS tab), pD (dI t), .c (.fn f caps)] (.c .any) (W (z0g l tab t step (n0, s0)).2) A := by
 have ks := Tryz.kSchema l tab 1099511627776 hl (fun x hx => ⟨(hc x hx).1, fun c hc' => ((hc x hx).2 c hc').1⟩)
 have ke := Tryz.kEach (Tryz.rowDo hd (schS l tab 1099511627776) hk) l tab t n0 s0 hI hB hl (fun x hx => ⟨(hc x hx).1, fun c hc' => ((hc x hx).2 c hc').2⟩)
 have hI' := z3d (Tryz.rowDo hd (schS l tab 1099511627776) hk) (tab := tab) (t := t) l (p := (n0, s0)) hI hB (fun x hx c hc' => ((hc x hx).2 c hc').2)
 have es : zxv l tab t (zqp (schS l tab 1099511627776) step) (n0, s0) = z0g l tab t step (n0, s0) := rfl
 rw [es] at ke hI'
 generalize schS l tab 1099511627776 = sc at ks ke
 generalize z0g l tab t step (n0, s0) = r at ke hI' ⊢
 refine zqh (E := envOf Tryz.prog [29] off [] []) (zzx Tryz.mixed) Tryz.func26 rfl Tryz.call26 (by kernel_rfl) (by exact Zle rfl) (fun hab => ?_)
 have h7 : W s0 (off + 7) = none := hd.fr _ _ (by omega)
 have h8 : W s0 (off + 8) = none := hd.fr _ _ (by omega)
 have h9 : W s0 (off + 9) = none := hd.fr _ _ (by omega)
 have o1 : (off + 8 = off + 7) = False := eq_false (by omega)
 have o2 : (off + 9 = off + 7) = False := eq_false (by omega)
 have o3 : (off + 9 = off + 8) = False := eq_false (by omega)
 have o4 : (off + 8 = off + 9) = False := eq_false (by omega)
 have h0 : ∀ X Y, upd (upd (upd (upd (upd (W s0) (off + 7) (some [.fn f caps])) (off + 8) X) (off + 9) Y) (off + 8) (some ((sc.getD zvc).enc.map .d))) (off + 9) (some [.d (dI (sErr sc))]) = zxk off f caps sc (W s0) := fun X Y => by
  funext i
  unfold zxk
  simp only [upd, zzy]
  by_cases e9 : i = off + 9
  · subst e9; simp
  · by_cases e8 : i = off + 8
    · subst e8; simp
    · by_cases e7 : i = off + 7
      · subst e7; simp
      · simp only [e9, e8, e7, if_false]
 simp only [go_sem] at h0
 have ab : Above (off + 1000) (zxk off f caps sc (W s0)) A := fun i hi => ⟨z9j (hd.fr _) hi, (hab i (by omega)).2⟩
 repeat' (first|(with_reducible first|refine vSq fun K hK=>?_|apply vRg|apply vBl|apply vSc|apply vIf|apply vSk|apply vEx|apply vRt|((first|apply gNt|apply gCs)<;>(intro h;try simp only[h]))|((first|apply hK|(clear hK K;first|apply hK|(clear hK K;first|apply hK|(clear hK K;apply hK))));clear hK K)|(refine todo ?_;simp +decide only[go_sem, h7, h8, h9, o1, o2, o3, o4]))|refine zzd ks rfl rfl (fun j => (hab _ (by omega)).2 j) ?_|(rw [h0]; refine zz7 rfl ke rfl ab ?_))
 exact z16 rfl (hd.wf _ _ hI') (fun i hi => z42 (Nat.lt_of_not_le fun e => hi (hd.fr _ _ e))) rfl (fun i hi => hd.kp _ _ i hi)
end
end Go.Proofs
namespace Go.Proofs
open Go.PW
def zx9 (k : List UInt8) (s : Option (List Piece)) (k' : List UInt8) (x : Chg) : Option (List Piece) := if (k' == k) = true then (if (x.op == 1) = true then some (putP (s.getD []) (x.lo, x.hi) x.row) else some (drop (s.getD []) (x.lo, x.hi))) else s
def z2x : Option (List Piece) → CV
 | none => .full []
 | some p => .d (zzk p)
def zxq (k : List UInt8) (s : Option (List Piece)) : HMap := zzy [(6, [.d (dS k)]), (9, [z2x s])] noH
def stI (n : Nat) (s : Option (List Piece)) : Prop := (s.getD []).length ≤ 2 * n ∧ ∀ p ∈ s.getD [], p.row.length ≤ 1048576
def zq4 (l : List Txn) (tab k : List UInt8) (t : Int) : List Piece := (z0g l tab t (zx9 k) (0, none)).2.getD []
theorem z0j (k : List UInt8) (s : Option (List Piece)) (id : Nat) (h : 1000 ≤ id) : zxq k s id = none := by
 unfold zxq
 simp only [zzy, show (id = 6) = False from eq_false (by omega), show (id = 9) = False from eq_false (by omega), if_false]
 rfl
theorem z6n (k : List UInt8) (s : Option (List Piece)) : Wf (zxq k s) noA := by
 intro id cs c h hc
 unfold zxq at h
 simp only [zzy] at h
 split at h
 · cases h
   rw [List.mem_singleton.1 hc]
   exact Zti
 · split at h
   · cases h
     rw [List.mem_singleton.1 hc]
     cases s <;> exact Zti
   · cases h
theorem yq1 (k : List UInt8) (s s' : Option (List Piece)) (id : Nat) (h : zxq k s id ≠ none) : zxq k s' id ≠ none := by
 unfold zxq at h ⊢
 simp only [zzy] at h ⊢
 split
 · simp
 · rename_i h6
   rw [if_neg h6] at h
   split
   · simp
   · rename_i h9
     rw [if_neg h9] at h
     exact h
theorem y43 {n : Nat} {k k' : List UInt8} {s : Option (List Piece)} {x : Chg} (h : stI n s) (hx : x.row.length ≤ 1048576) : stI (n + 1) (zx9 k s k' x) := by
 have h0 : stI (n + 1) s := ⟨by have := h.1; omega, h.2⟩
 unfold zx9
 split
 · split
   · refine ⟨?_, fun p hp => ?_⟩
     · have := yqf (s.getD []) (x.lo, x.hi) x.row
       have := h.1
       show (putP _ _ _).length ≤ _
       omega
     · rcases ykk (show p ∈ putP (s.getD []) (x.lo, x.hi) x.row from hp) with e | ⟨q, hq, e⟩
       · rw [e]; exact hx
       · rw [e]; exact h.2 q hq
   · refine ⟨?_, fun p hp => ?_⟩
     · have := yzn (s.getD []) (x.lo, x.hi)
       have := h.1
       show (drop _ _).length ≤ _
       omega
     · obtain ⟨q, hq, e⟩ := z4o (show p ∈ drop (s.getD []) (x.lo, x.hi) from hp)
       rw [e]; exact h.2 q hq
 · exact h0
theorem z06 {P : Program} {fn : Func} {k : List UInt8} {s : Option (List Piece)} {p : List Piece} {S : St} {X : Option (List CV)} {κ : Tok} (hr : fn.results.toList = []) (hH : S.H = upd (upd (zxq k s) (4000 + 5) X) 9 (some [.own κ (p.map Piece.enc)])) : RetR P fn (zxq k s) noA (.c .any) (zxq k (some p)) noA S := by
 refine zqq (p := .c .any) (by rw [hr]; rfl) Zti Zti (z6n _ _) (fun id cs h => ?_) (fun κ => .inl rfl) (fun id h => yq1 _ _ _ id h) (fun _ h => h)
 have hl : id < 1000 := Nat.lt_of_not_le fun e => by rw [z0j _ _ _ e] at h; cases h
 rw [hH]
 by_cases e9 : id = 9
 · subst e9
   have e : zxq k (some p) 9 = some [.d (zzk p)] := rfl
   rw [e] at h
   cases h
   exact ⟨_, zzc _ _ _, ⟨.inr (.inr (.inl ⟨_, rfl, .inr ⟨_, rfl⟩⟩)), Zti⟩⟩
 · by_cases e6 : id = 6
   · subst e6
     have e : zxq k (some p) 6 = some [.d (dS k)] := rfl
     rw [e] at h
     cases h
     refine ⟨[.d (dS k)], by rw [zza _ _ (by decide), zza _ _ (by decide)]; rfl, ⟨.inr (.inl ⟨rfl, Zti⟩), Zti⟩⟩
   · exfalso
     unfold zxq at h
     simp only [zzy, e6, e9, if_false] at h
     cases h
theorem Tryz.kState1 (k : List UInt8) (n : Nat) (s : Option (List Piece)) (k' : List UInt8) (x : Chg) (hn : n < 65536) (hI : stI n s) (hx : x.row.length ≤ 1048576) :
 zqf Tryz.prog 27 4000 (zxq k s) noA [pD (dS k'), pA x.enc, .c (.ptr 6 0), .c (.ptr 9 0)] (.c .any) (zxq k (zx9 k s k' x)) noA := by
 refine zqh (E := envOf Tryz.prog [] 4000 [] []) (zzx Tryz.mixed) Tryz.func27 rfl Tryz.call27 (by kernel_rfl) (by exact Zle rfl) (fun hab => ?_)
 have h5 : zxq k s 4005 = none := z0j k s _ (by omega)
 have h6 : zxq k s 6 = some [.d (dS k)] := rfl
 have h9 : zxq k s 9 = some [z2x s] := rfl
 have kp := Tryz.kPut (s.getD []) (x.lo, x.hi) x.row (by have := hI.1; omega) hI.2 hx
 have kd := Tryz.kDrop (s.getD []) (x.lo, x.hi) (by have := hI.1; omega) hI.2
 cases hk : (k' == k) with
 | false =>
   have es : zx9 k s k' x = s := by unfold zx9; rw [hk]; rfl
   rw [es]
   have hk2 : (k' != k) = true := by unfold bne; rw [hk]; rfl
   repeat' (first|(with_reducible first|refine vSq fun K hK=>?_|apply vRg|apply vBl|apply vSc|apply vIf|apply vSk|apply vEx|apply vRt|((first|apply gNt|apply gCs)<;>(intro h;try simp only[h]))|((first|apply hK|(clear hK K;first|apply hK|(clear hK K;first|apply hK|(clear hK K;apply hK))));clear hK K)|(refine todo ?_;simp +decide only[go_sem, h5, h6, hk2])))
   exact z16 rfl (z6n _ _) (fun i hi => zza _ _ (fun e => hi (by rw [e]; exact z0j _ _ _ (by omega)))) rfl (fun _ h => h)
 | true =>
   have hk2 : (k' != k) = false := by unfold bne; rw [hk]; rfl
   cases hop : (x.op == 1) with
   | true =>
     have es : zx9 k s k' x = some (putP (s.getD []) (x.lo, x.hi) x.row) := by unfold zx9; rw [hk, hop]; rfl
     rw [es]
     cases s with
     | none =>
       repeat' (first|(with_reducible first|refine vSq fun K hK=>?_|apply vRg|apply vBl|apply vSc|apply vIf|apply vSk|apply vEx|apply vRt|((first|apply gNt|apply gCs)<;>(intro h;try simp only[h]))|((first|apply hK|(clear hK K;first|apply hK|(clear hK K;first|apply hK|(clear hK K;apply hK))));clear hK K)|(refine todo ?_;simp +decide only[go_sem, h5, h6, h9, hk2, hop, z2x]))|refine zzd kp rfl rfl (fun _ => rfl) ?_)
       exact z06 rfl rfl
     | some p =>
       repeat' (first|(with_reducible first|refine vSq fun K hK=>?_|apply vRg|apply vBl|apply vSc|apply vIf|apply vSk|apply vEx|apply vRt|((first|apply gNt|apply gCs)<;>(intro h;try simp only[h]))|((first|apply hK|(clear hK K;first|apply hK|(clear hK K;first|apply hK|(clear hK K;apply hK))));clear hK K)|(refine todo ?_;simp +decide only[go_sem, h5, h6, h9, hk2, hop, z2x]))|refine zzd kp rfl rfl (fun _ => rfl) ?_)
       exact z06 rfl rfl
   | false =>
     have es : zx9 k s k' x = some (drop (s.getD []) (x.lo, x.hi)) := by unfold zx9; rw [hk, hop]; rfl
     rw [es]
     cases s with
     | none =>
       repeat' (first|(with_reducible first|refine vSq fun K hK=>?_|apply vRg|apply vBl|apply vSc|apply vIf|apply vSk|apply vEx|apply vRt|((first|apply gNt|apply gCs)<;>(intro h;try simp only[h]))|((first|apply hK|(clear hK K;first|apply hK|(clear hK K;first|apply hK|(clear hK K;apply hK))));clear hK K)|(refine todo ?_;simp +decide only[go_sem, h5, h6, h9, hk2, hop, z2x]))|refine zzd kd rfl rfl (fun _ => rfl) ?_)
       exact z06 rfl rfl
     | some p =>
       repeat' (first|(with_reducible first|refine vSq fun K hK=>?_|apply vRg|apply vBl|apply vSc|apply vIf|apply vSk|apply vEx|apply vRt|((first|apply gNt|apply gCs)<;>(intro h;try simp only[h]))|((first|apply hK|(clear hK K;first|apply hK|(clear hK K;first|apply hK|(clear hK K;apply hK))));clear hK K)|(refine todo ?_;simp +decide only[go_sem, h5, h6, h9, hk2, hop, z2x]))|refine zzd kd rfl rfl (fun _ => rfl) ?_)
       exact z06 rfl rfl
theorem Tryz.stDo (k : List UInt8) (B : Nat) (hB : B ≤ 65536) : Do2OK Tryz.prog 27 [(6, 0), (9, 0)] 1000 noA (zxq k) stI B (fun x => x.row.length ≤ 1048576) (zx9 k) :=
 ⟨fun n s k' x hn hI hx => ⟨Tryz.kState1 k n s k' x (by omega) hI hx, y43 hI hx⟩, fun n s h => ⟨by have := h.1; omega, h.2⟩, fun _ s _ => z6n k s, fun s id h => z0j k s id h, fun _ s _ p hp => by
   rcases List.mem_cons.1 hp with rfl | hp
   · show zxq k s 6 ≠ none
     exact Option.some_ne_none _
   · rw [List.mem_singleton.1 hp]
     show zxq k s 9 ≠ none
     exact Option.some_ne_none _, fun s s' id h => yq1 k s s' id h⟩
structure LSm (l : List Txn) (tab : List UInt8) : Prop where
 len : l.length ≤ 1048576
 cs : ∀ x ∈ l, x.chs.length ≤ 1048576 ∧ ∀ c ∈ x.chs, c.d.cols.length ≤ 1048576 ∧ c.row.length ≤ 1048576 ∧ c.row.length ≤ 1048576 ∧ zwv c.row
 ks : 0 ≤ zw3 (schS l tab 1099511627776)
 cnt : tot l ≤ 65536
theorem Tryz.kState (l : List Txn) (tab k : List UInt8) (t : Int) (h : LSm l tab) : zzr Tryz.prog 8 [pD (zq1 l), pD (dS tab), pD (dS k), pD (dI t)] (.one (.d (zzk (zq4 l tab k t)))) := by
 have h00 : stI 0 none := ⟨Nat.zero_le _, fun p hp => by cases hp⟩
 have ke := Tryz.kMRows (Tryz.stDo k (tot l) h.cnt) l tab t 0 none h00 (by omega) h.len h.ks h.cs
 refine zvs (E := envOf Tryz.prog [26] 0 [] []) (zzx Tryz.mixed) Tryz.func8 rfl Tryz.call8 (by kernel_rfl) (by rfl) (by exact Zle rfl) ?_
 have h0 : upd (upd noH 6 (some [.d (dS k)])) 9 (some [.full []]) = zxq k none := by
  funext i
  unfold zxq
  simp only [upd, zzy]
  by_cases h9 : i = 9
  · subst h9; rfl
  · by_cases h6 : i = 6
    · subst h6; rfl
    · simp only [h9, h6, if_false]
 simp only [go_sem] at h0
 have ab : Above 1000 (zxq k none) noA := fun i hi => ⟨z0j _ _ _ hi, fun _ => rfl⟩
 have es : zq4 l tab k t = (z0g l tab t (zx9 k) (0, none)).2.getD [] := rfl
 rw [es]
 have hv9 : zxq k (z0g l tab t (zx9 k) (0, none)).2 9 = some [z2x (z0g l tab t (zx9 k) (0, none)).2] := rfl
 generalize (z0g l tab t (zx9 k) (0, none)).2 = s at *
 cases s with
 | none =>
   repeat' (first|(with_reducible first|refine vSq fun K hK=>?_|apply vRg|apply vBl|apply vSc|apply vIf|apply vSk|apply vEx|apply vRt|((first|apply gNt|apply gCs)<;>(intro h;try simp only[h]))|((first|apply hK|(clear hK K;first|apply hK|(clear hK K;first|apply hK|(clear hK K;apply hK))));clear hK K)|(refine todo ?_;simp +decide only[go_sem, hv9, z2x]))|(rw [h0]; refine zz7 rfl ke rfl ab ?_))
   refine zzs rfl ?_
   simp +decide only [go_sem]
 | some p =>
   repeat' (first|(with_reducible first|refine vSq fun K hK=>?_|apply vRg|apply vBl|apply vSc|apply vIf|apply vSk|apply vEx|apply vRt|((first|apply gNt|apply gCs)<;>(intro h;try simp only[h]))|((first|apply hK|(clear hK K;first|apply hK|(clear hK K;first|apply hK|(clear hK K;apply hK))));clear hK K)|(refine todo ?_;simp +decide only[go_sem, hv9, z2x]))|(rw [h0]; refine zz7 rfl ke rfl ab ?_))
   refine zzs rfl ?_
   simp +decide only [go_sem]
def gtB (a b : List UInt8) : Bool := !(Go.Op.bytesLess a b || a == b)
@[go_sem] theorem xjb {P : Program} {T : TypeId} {a b : List UInt8} : binS P .gtr T (.c (.d (.lit (.string ⟨a.toArray⟩)))) (.c (.d (.lit (.string ⟨b.toArray⟩)))) = some (lit (.bool (gtB a b))) := by
  show (zks (Op.stringOp .gtr ⟨a.toArray⟩ ⟨b.toArray⟩)).map lit = _
  unfold Op.stringOp
  simp only [zk3]
  rfl
def kTo (l : List (List UInt8)) (k : List UInt8) : Nat := (l.reverse.dropWhile fun y => gtB y k).length
def kIns (l : List (List UInt8)) (k : List UInt8) : List (List UInt8) := if l[kTo l k - 1]? = some k ∧ 0 < kTo l k then l else l.take (kTo l k) ++ k :: l.drop (kTo l k)
theorem y5t (l : List (List UInt8)) (k : List UInt8) : kTo l k ≤ l.length := by
 have := congrArg List.length (List.takeWhile_append_dropWhile (p := fun y => gtB y k) (l := l.reverse))
 rw [Zla, List.length_reverse] at this
 unfold kTo
 omega
theorem y32 (l : List (List UInt8)) (k : List UInt8) : (kIns l k).length ≤ l.length + 1 := by
 unfold kIns
 split
 · omega
 · have := y5t l k
   rw [Zla, List.length_cons, Zlt, List.length_drop]
   omega
theorem yj8 {l : List (List UInt8)} {k : List UInt8} {n : Nat} (hn : n ≤ l.length) (h : (l.drop n).all (fun y => gtB y k) = true) (hs : ∀ y, n ≠ 0 → l[n - 1]? = some y → gtB y k = false) : kTo l k = n := by
 have e1 : l.reverse.take (l.length - n) = (l.drop n).reverse := by rw [List.take_reverse, show l.length - (l.length - n) = n by omega]
 have e2 : l.reverse.drop (l.length - n) = (l.take n).reverse := by rw [List.drop_reverse, show l.length - (l.length - n) = n by omega]
 obtain ⟨_, k2⟩ := zji (l := l.reverse) (i := l.length - n) (f := fun y => gtB y k) (by rw [e1, List.all_reverse]; exact h) (fun y hy => by
  rcases Nat.eq_zero_or_pos n with h0 | h0
  · rw [List.getElem?_eq_none (by simp; omega)] at hy; cases hy
  · rw [List.getElem?_reverse (by omega), show l.length - 1 - (l.length - n) = n - 1 by omega] at hy
    exact hs y (by omega) hy)
 unfold kTo
 rw [k2, e2, List.length_reverse, Zlt]
 omega
def zjy (s : Option (List (List UInt8))) (k : List UInt8) (_x : Chg) : Option (List (List UInt8)) := if (s.getD [])[kTo (s.getD []) k - 1]? = some k ∧ 0 < kTo (s.getD []) k then s else some (kIns (s.getD []) k)
def z3z : Option (List (List UInt8)) → CV
 | none => .full []
 | some l => .d (zxu l)
def zq3 (s : Option (List (List UInt8))) : HMap := zzy [(7, [z3z s])] noH
def kyI (n : Nat) (s : Option (List (List UInt8))) : Prop := (s.getD []).length ≤ n
def zw1 (l : List Txn) (tab : List UInt8) (t : Int) : List (List UInt8) := (z0g l tab t zjy (0, none)).2.getD []
theorem z7y (s : Option (List (List UInt8))) (k : List UInt8) (x : Chg) : (zjy s k x).getD [] = kIns (s.getD []) k := by
 unfold zjy
 split
 · unfold kIns; rw [if_pos (by assumption)]
 · rfl
theorem z51 (s : Option (List (List UInt8))) (id : Nat) (h : 1000 ≤ id) : zq3 s id = none := by
 unfold zq3
 simp only [zzy, show (id = 7) = False from eq_false (by omega), if_false]
 rfl
theorem zv4 (s : Option (List (List UInt8))) : Wf (zq3 s) noA := by
 intro id cs c h hc
 unfold zq3 at h
 simp only [zzy] at h
 split at h
 · cases h
   rw [List.mem_singleton.1 hc]
   cases s <;> exact Zti
 · cases h
theorem yz6 (s s' : Option (List (List UInt8))) (id : Nat) (h : zq3 s id ≠ none) : zq3 s' id ≠ none := by
 unfold zq3 at h ⊢
 simp only [zzy] at h ⊢
 split
 · simp
 · rename_i h7
   rw [if_neg h7] at h
   exact h
theorem z3g {P : Program} {fn : Func} {s : Option (List (List UInt8))} {p : List (List UInt8)} {S : St} {κ : Tok} (hr : fn.results.toList = []) (hH : S.H = upd (zq3 s) 7 (some [.own κ (p.map fun s => [dS s])])) : RetR P fn (zq3 s) noA (.c .any) (zq3 (some p)) noA S := by
 refine zqq (p := .c .any) (by rw [hr]; rfl) Zti Zti (zv4 _) (fun id cs h => ?_) (fun κ => .inl rfl) (fun id h => yz6 _ _ id h) (fun _ h => h)
 rw [hH]
 by_cases e7 : id = 7
 · subst e7
   have e : zq3 (some p) 7 = some [.d (zxu p)] := rfl
   rw [e] at h
   cases h
   exact ⟨_, zzc _ _ _, ⟨.inr (.inr (.inl ⟨_, rfl, .inr ⟨_, rfl⟩⟩)), Zti⟩⟩
 · exfalso
   unfold zq3 at h
   simp only [zzy, e7, if_false] at h
   cases h
theorem zws (l : List (List UInt8)) : Szd 1 (l.map fun s => [dS s]) := fun e he => by
 obtain ⟨p, _, rfl⟩ := List.mem_map.1 he
 rfl
theorem Tryz.appTexts : AppT Tryz.prog 64 9 1 16 := ⟨Tryz.underlying64, Tryz.cl9, Tryz.by9, Tryz.zo9, by decide, by decide⟩
theorem Tryz.kKeys1 (n : Nat) (s : Option (List (List UInt8))) (k : List UInt8) (x : Chg) (hn : n < 65536) (hI : kyI n s) :
 zqf Tryz.prog 41 4000 (zq3 s) noA [pD (dS k), pA x.enc, .c (.ptr 7 0)] (.c .any) (zq3 (zjy s k x)) noA := by
 refine zqh (E := envOf Tryz.prog [] 4000 [] []) (zzx Tryz.mixed) Tryz.func41 rfl Tryz.call41 (by kernel_rfl) (by exact Zle rfl) (fun hab => ?_)
 have h4 : zq3 s 4004 = none := z51 s _ (by omega)
 have h7 : zq3 s 7 = some [z3z s] := rfl
 have hl := hI
 unfold kyI at hl
 cases s with
 | none =>
   have es : zjy none k x = some [k] := rfl
   rw [es]
   have hd0 : ((0 : Int) < ((0 : Nat) : Int)) = False := eq_false (by omega)
   repeat' (first|(with_reducible first|refine vSq fun K hK=>?_|apply vRg|apply vBl|apply vSc|apply vIf|apply vSk|apply vEx|apply vRt|((first|apply gNt|apply gCs)<;>(intro h;try simp only[h]))|((first|apply hK|(clear hK K;first|apply hK|(clear hK K;first|apply hK|(clear hK K;apply hK))));clear hK K)|(refine todo ?_;simp +decide only[go_sem, h7, z3z])))
   refine z4n (ι := Unit) (fun _ => True) (fun _ => over [(0, pD (dS k)), (2, .c (.ptr 7 0)), (5, pD (dI 0))] [] (zq3 none) noA) (fun _ => 0) () Zti ?_ ?_
   · refine zxg (zv4 _) (fun id hid => ?_) rfl ?_ ?_ <;> simp +decide only [go_sem]
     · rw [if_neg (fun e => hid (by rw [e]; exact h4))]
     · exact zzh (by rw [show zzy [] (zq3 none) = zq3 none from rfl, h7]; simp)
   · intro _ _
     repeat' (first|(with_reducible first|refine vSq fun K hK=>?_|apply vRg|apply vBl|apply vSc|apply vIf|apply vSk|apply vEx|apply vRt|((first|apply gNt|apply gCs)<;>(intro h;try simp only[h]))|((first|apply hK|(clear hK K;first|apply hK|(clear hK K;first|apply hK|(clear hK K;apply hK))));clear hK K)|(refine todo ?_;simp +decide only[go_sem, h7, z3z]))|refine ywx Tryz.appTexts rfl (l := 0) (h := 0) rfl (by simp [zz0, natOf?, intOf?]) rfl (by simp [natOf?, intOf?]) (by omega) (Nat.zero_le _) zvw ?_|refine zvh Tryz.appTexts rfl (l := 0) (h := 0) (by simp [zz0, natOf?, intOf?]) (by simp [zz0]) (by omega) (by simp) zvw ?_|(refine zx2 Tryz.appTexts rfl rfl (zqk rfl) zvw (by simp; try omega) rfl ?_)|(refine zx2 Tryz.appTexts rfl rfl zvw (z0l (zqk rfl) zvw) (by simp; try omega) rfl ?_))
     exact z3g (p := [k]) rfl rfl
 | some l =>
   have hlen : l.length ≤ n := hl
   have hc : z3z (some l) = .d (.sl (l.map fun s => [dS s])) := rfl
   simp only [go_sem] at hc
   repeat' (first|(with_reducible first|refine vSq fun K hK=>?_|apply vRg|apply vBl|apply vSc|apply vIf|apply vSk|apply vEx|apply vRt|((first|apply gNt|apply gCs)<;>(intro h;try simp only[h]))|((first|apply hK|(clear hK K;first|apply hK|(clear hK K;first|apply hK|(clear hK K;apply hK))));clear hK K)|(refine todo ?_;simp +decide only[go_sem, h4, h7, hc])))
   refine z4n (ι := Nat) (fun n => n ≤ l.length ∧ (l.drop n).all (fun y => gtB y k) = true) (fun n => over [(0, pD (dS k)), (2, .c (.ptr 7 0)), (5, pD (dI n))] [] (zq3 (some l)) noA) (fun n => n) l.length ⟨Zlr _, by simp⟩ ?_ ?_
   · refine zxg (zv4 _) (fun id hid => ?_) rfl ?_ ?_ <;> simp +decide only [go_sem]
     · rw [if_neg (fun e => hid (by rw [e]; exact h4))]
     · exact zzh (by rw [show zzy [] (zq3 (some l)) = zq3 (some l) from rfl, h7]; simp)
   · intro n hI
     rcases Nat.eq_zero_or_pos n with hn0 | hn0
     · subst hn0
       have hq0 : List.take (l.length - 0) (l.map fun s => [dS s]) = l.map fun s => [dS s] := Ztl (by simp)
       simp only [go_sem] at hq0
       have e0 : kTo l k = 0 := yj8 hI.1 hI.2 (fun y h0 => absurd rfl h0)
       have es : zjy (some l) k x = some (l.take 0 ++ k :: l.drop 0) := by
        have h : ¬(l[kTo l k - 1]? = some k ∧ 0 < kTo l k) := fun h => by omega
        show (if _ then _ else some (kIns l k)) = _
        unfold kIns
        rw [Option.getD_some, if_neg h, if_neg h, e0]
       repeat' (first|(with_reducible first|refine vSq fun K hK=>?_|apply vRg|apply vBl|apply vSc|apply vIf|apply vSk|apply vEx|apply vRt|((first|apply gNt|apply gCs)<;>(intro h;try simp only[h]))|((first|apply hK|(clear hK K;first|apply hK|(clear hK K;first|apply hK|(clear hK K;apply hK))));clear hK K)|(refine todo ?_;simp +decide only[go_sem, h7, hc, hq0]))|refine ywx Tryz.appTexts rfl (l := 0) (h := 0) rfl (by simp [zz0, natOf?, intOf?]) rfl (by simp [natOf?, intOf?]) (by omega) (Nat.zero_le _) (zws _) ?_|refine zvh Tryz.appTexts rfl (l := 0) (h := l.length) (by simp [zz0, natOf?, intOf?]) (by simp [zz0]) (by omega) (by simp) (zws _) ?_|(refine zx2 Tryz.appTexts rfl rfl (zqk rfl) (zws l) (by simp; try omega) rfl ?_)|(refine zx2 Tryz.appTexts rfl rfl zvw (z0l (zqk rfl) (zws l)) (by simp; try omega) rfl ?_))
       rw [es]
       refine z3g (κ := (4042, 0)) (p := l.take 0 ++ k :: l.drop 0) rfl ?_
       simp +decide only [go_sem, List.take_zero, List.drop_zero, Nat.sub_self]
       rfl
     · have hd0 : ((0 : Int) < (n : Int)) = True := eq_true (by omega)
       have hw1 : IntKind.i64.wrap ((n : Int) - 1) = ((n - 1 : Nat) : Int) := by rw [Go.IntWalk.i64_in _ (by omega)]; omega
       have hgy := Zge (show n - 1 < l.length by omega)
       generalize hyy : l[n - 1] = y at hgy
       have hq2 : List.take (l.length - n) (l.drop n) = l.drop n := Ztl (by simp)
       cases hgt : gtB y k with
       | true =>
         repeat' (first|(with_reducible first|refine vSq fun K hK=>?_|apply vRg|apply vBl|apply vSc|apply vIf|apply vSk|apply vEx|apply vRt|((first|apply gNt|apply gCs)<;>(intro h;try simp only[h]))|((first|apply hK|(clear hK K;first|apply hK|(clear hK K;first|apply hK|(clear hK K;apply hK))));clear hK K)|(refine todo ?_;simp +decide only[go_sem, h7, hc, hd0, hw1, hgy, hgt])))
         refine ⟨⟨n - 1, by omega, ?_⟩, zxg (zv4 _) (fun id _ => rfl) rfl ?_ ?_, by show n - 1 < n; omega⟩ <;> try simp +decide only [go_sem]
         · rw [List.drop_eq_getElem_cons (show n - 1 < l.length by omega), hyy, show n - 1 + 1 = n by omega, List.all_cons, hI.2, Bool.and_true]
           exact hgt
         · exact zzh (by rw [show zzy [] (zq3 (some l)) = zq3 (some l) from rfl, h7]; simp)
       | false =>
         have e0 : kTo l k = n := yj8 hI.1 hI.2 (fun z _ hz => by rw [hgy] at hz; cases hz; exact hgt)
         cases hyk : (y == k) with
         | true =>
           have es : zjy (some l) k x = some l := by
            have hyk' : y = k := by simpa using hyk
            show (if _ then _ else some (kIns l k)) = _
            rw [Option.getD_some, if_pos ⟨by rw [e0, hgy, hyk'], by omega⟩]
           repeat' (first|(with_reducible first|refine vSq fun K hK=>?_|apply vRg|apply vBl|apply vSc|apply vIf|apply vSk|apply vEx|apply vRt|((first|apply gNt|apply gCs)<;>(intro h;try simp only[h]))|((first|apply hK|(clear hK K;first|apply hK|(clear hK K;first|apply hK|(clear hK K;apply hK))));clear hK K)|(refine todo ?_;simp +decide only[go_sem, h7, hc, hd0, hw1, hgy, hgt, hyk])))
           rw [es]
           exact z16 rfl (zv4 _) (fun i hi => rfl) rfl (fun _ h => h)
         | false =>
           have es : zjy (some l) k x = some (l.take n ++ k :: l.drop n) := by
            have h : ¬(l[kTo l k - 1]? = some k ∧ 0 < kTo l k) := fun h => by
             rw [e0, hgy] at h
             have := Option.some.inj h.1
             rw [this] at hyk; simp at hyk
            show (if _ then _ else some (kIns l k)) = _
            unfold kIns
            rw [Option.getD_some, if_neg h, if_neg h, e0]
           repeat' (first|(with_reducible first|refine vSq fun K hK=>?_|apply vRg|apply vBl|apply vSc|apply vIf|apply vSk|apply vEx|apply vRt|((first|apply gNt|apply gCs)<;>(intro h;try simp only[h]))|((first|apply hK|(clear hK K;first|apply hK|(clear hK K;first|apply hK|(clear hK K;apply hK))));clear hK K)|(refine todo ?_;simp +decide only[go_sem, h7, hc, hd0, hw1, hgy, hgt, hyk, ← List.map_take, ← List.map_drop, Nat.sub_zero]))|(refine ywx Tryz.appTexts rfl (l := 0) (h := n) rfl (by simp [zz0, natOf?, intOf?]) rfl (by simp [natOf?, intOf?]) (by omega) (by simp; try omega) (zws _) ?_)|refine zvh Tryz.appTexts rfl (l := n) (h := l.length) (by simp [zz0, natOf?, intOf?]) (by simp [zz0]) (by omega) (by simp) (zws _) ?_|(refine zx2 Tryz.appTexts rfl rfl (zqk rfl) (zws _) (by simp; try omega) rfl ?_)|(refine zx2 Tryz.appTexts rfl rfl (zws _) (z0l (zqk rfl) (zws _)) (by simp; try omega) rfl ?_))
           rw [es]
           refine z3g (κ := (4042, 0)) (p := l.take n ++ k :: l.drop n) rfl ?_
           simp +decide only [go_sem, hq2]
           rfl
theorem y39 {n : Nat} {k : List UInt8} {s : Option (List (List UInt8))} {x : Chg} (h : kyI n s) : kyI (n + 1) (zjy s k x) := by
 unfold kyI at h ⊢
 rw [z7y]
 have := y32 (s.getD []) k
 omega
theorem Tryz.kyDo (B : Nat) (hB : B ≤ 65536) : Do2OK Tryz.prog 41 [(7, 0)] 1000 noA zq3 kyI B (fun _ => True) zjy :=
 ⟨fun n s k x hn hI hx => ⟨Tryz.kKeys1 n s k x (by omega) hI, y39 hI⟩, fun n s h => by unfold kyI at h ⊢; omega, fun _ s _ => zv4 s, fun s id h => z51 s id h, fun _ s _ p hp => by
   rw [List.mem_singleton.1 hp]
   show zq3 s 7 ≠ none
   exact Option.some_ne_none _, fun s s' id h => yz6 s s' id h⟩
theorem Tryz.kKeys (l : List Txn) (tab : List UInt8) (t : Int) (h : LSm l tab) : zzr Tryz.prog 18 [pD (zq1 l), pD (dS tab), pD (dI t)] (.one (.d (zxu (zw1 l tab t)))) := by
 have h00 : kyI 0 none := Zlr _
 have ke := Tryz.kMRows (Tryz.kyDo (tot l) h.cnt) l tab t 0 none h00 (by omega) h.len h.ks (fun x hx => ⟨(h.cs x hx).1, fun c hc => ⟨((h.cs x hx).2 c hc).1, trivial, ((h.cs x hx).2 c hc).2.2⟩⟩)
 refine zvs (E := envOf Tryz.prog [26] 0 [] []) (zzx Tryz.mixed) Tryz.func18 rfl Tryz.call18 (by kernel_rfl) (by rfl) (by exact Zle rfl) ?_
 have h0 : upd noH 7 (some [.full []]) = zq3 none := by
  funext i
  unfold zq3
  simp only [upd, zzy]
  by_cases h7 : i = 7
  · subst h7; rfl
  · simp only [h7, if_false]
 have ab : Above 1000 (zq3 none) noA := fun i hi => ⟨z51 _ _ hi, fun _ => rfl⟩
 have es : zw1 l tab t = (z0g l tab t zjy (0, none)).2.getD [] := rfl
 rw [es]
 have hv7 : zq3 (z0g l tab t zjy (0, none)).2 7 = some [z3z (z0g l tab t zjy (0, none)).2] := rfl
 generalize (z0g l tab t zjy (0, none)).2 = s at *
 cases s with
 | none =>
   repeat' (first|(with_reducible first|refine vSq fun K hK=>?_|apply vRg|apply vBl|apply vSc|apply vIf|apply vSk|apply vEx|apply vRt|((first|apply gNt|apply gCs)<;>(intro h;try simp only[h]))|((first|apply hK|(clear hK K;first|apply hK|(clear hK K;first|apply hK|(clear hK K;apply hK))));clear hK K)|(refine todo ?_;simp +decide only[go_sem, hv7, z3z]))|((rw [h0]; refine zz7 rfl ke rfl ab ?_)))
   refine zzs rfl ?_
   simp +decide only [go_sem]
 | some p =>
   repeat' (first|(with_reducible first|refine vSq fun K hK=>?_|apply vRg|apply vBl|apply vSc|apply vIf|apply vSk|apply vEx|apply vRt|((first|apply gNt|apply gCs)<;>(intro h;try simp only[h]))|((first|apply hK|(clear hK K;first|apply hK|(clear hK K;first|apply hK|(clear hK K;apply hK))));clear hK K)|(refine todo ?_;simp +decide only[go_sem, hv7, z3z]))|((rw [h0]; refine zz7 rfl ke rfl ab ?_)))
   refine zzs rfl ?_
   simp +decide only [go_sem]
end Go.Proofs
