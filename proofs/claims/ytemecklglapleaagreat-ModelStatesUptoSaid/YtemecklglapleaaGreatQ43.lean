/-
  Parts of the proof, laid together: PwNc.
-/
import Derived.Test.YtemecklglapleaaGreatQ42

set_option maxRecDepth 30000
set_option maxHeartbeats 16000000
namespace Go.Proofs
open Go.PW
theorem Tryz.stateS_len {l : List Txn} {tab : List UInt8} (h : LSm l tab) (k : List UInt8) (t : Int) : (zq4 l tab k t).length ≤ 2 * tot l := by
 have h00 : stI 0 none := ⟨Nat.zero_le _, fun p hp => by cases hp⟩
 have hI := z3d (Tryz.rowDo (Tryz.stDo k (tot l) h.cnt) (schS l tab 1099511627776) h.ks) (tab := tab) (t := t) l (p := (0, none)) h00 (by show 0 + _ ≤ _; omega) (fun x hx c hc => ((h.cs x hx).2 c hc).2)
 have h1 := hI.1
 have h2 : (zq4 l tab k t).length = ((zxv l tab t (zqp (schS l tab 1099511627776) (zx9 k)) (0, none)).2.getD []).length := rfl
 have h3 := z4p (tab := tab) (t := t) (step := zqp (schS l tab 1099511627776) (zx9 k)) l (0, none)
 rw [h2]
 simp only [Nat.zero_add] at h3
 omega
def xvj (n : Nat) (ps : List Piece) : Prop := ps.length ≤ n ∧ ∀ p ∈ ps, p.row.length ≤ 1048576
theorem xvo {tab k : List UInt8} {s0 : Option Sch} {n : Nat} {ps : List Piece} {c : Chg} (h : xvj n ps) (hc : c.row.length ≤ 1048576) : xvj (n + 2) (z9c tab s0 k ps c) := by
 have h0 : xvj (n + 2) ps := ⟨by have := h.1; omega, h.2⟩
 unfold z9c
 split
 · exact h0
 · split
   · refine ⟨?_, fun p hp => ?_⟩
     · have := yqf ps (c.lo, c.hi) c.row
       have := h.1
       omega
     · rcases ykk hp with e | ⟨q, hq, e⟩
       · rw [e]; exact hc
       · rw [e]; exact h.2 q hq
   · refine ⟨?_, fun p hp => ?_⟩
     · have := yzn ps (c.lo, c.hi)
       have := h.1
       omega
     · obtain ⟨q, hq, e⟩ := z4o hp
       rw [e]; exact h.2 q hq
theorem xvl {tab k : List UInt8} {s0 : Option Sch} : ∀ {l : List Chg} {n : Nat} {ps : List Piece}, xvj n ps → (∀ c ∈ l, c.row.length ≤ 1048576) → xvj (n + 2 * l.length) (l.foldl (z9c tab s0 k) ps)
 | [], _, _, h, _ => h
 | c :: l, n, ps, h, hc => by
   have := xvl (tab := tab) (k := k) (s0 := s0) (l := l) (xvo (tab := tab) (k := k) (s0 := s0) h (hc c (List.mem_cons_self ..))) (fun d hd => hc d (List.mem_cons_of_mem _ hd))
   rw [List.foldl_cons, List.length_cons]
   have e : n + 2 + 2 * l.length = n + 2 * (l.length + 1) := by omega
   rw [← e]
   exact this
theorem Tryz.scr_small {l : List Txn} (h : Scr l) (tab k : List UInt8) (t : Int) : xvj 4000 (zq4 l tab k t) := by
 refine ⟨?_, (Tryz.stateS_sm (h.lsm tab) k t).2⟩
 have h1 := Tryz.stateS_len (h.lsm tab) k t
 have h2 := y54 h.acc.ok
 have h3 := h.len
 omega
theorem Tryz.kStatesLaw (s : List OpB) (n t : Int) (hl : s.length ≤ 1048576) (hs : ∀ o ∈ s, OpBU o) :
 y6b Tryz.prog 3 [pD (z0d s), pD (.lit (.int .u8 n)), pD (dI t)] := by
 obtain ⟨σ, kr, hcn, _, hlow⟩ := Tryz.rBRight 1000 s cn1 hl (fun o ho => (hs o ho).sm)
 have hS := y18 hs
 have kA := y6w hcn
 have fA := low1 hlow
 generalize σ.1 = A1 at *
 generalize z6d s = l at *
 have kn := Tryz.kKnown21
 have kky := Tryz.kKeyOf [kVal ((IntKind.i64.wrap n).tmod 3)] (by simp) (y1e _)
 have hkb := xqm ((IntKind.i64.wrap n).tmod 3)
 generalize keyB [kVal ((IntKind.i64.wrap n).tmod 3)] = kb at *
 refine xzn (E := envOf Tryz.prog [6] 0 [] []) (zzx Tryz.mixed) Tryz.func3 rfl Tryz.call3 (by kernel_rfl) (by exact Zle rfl) ?_
 rcases List.eq_nil_or_concat l with rfl | ⟨less, x, rfl⟩
 · have kst := Tryz.kState [] [116] kb t (hS.lsm _)
   have e0 : zq4 [] [116] kb t = [] := rfl
   rw [e0] at kst
   repeat' (first|(with_reducible first|refine vSq fun K hK=>?_|apply vRg|apply vBl|apply vSc|apply vIf|apply vSk|apply vEx|apply vRt|((first|refine gNt ?_ ?_|refine gCs ?_ ?_)<;>(intro h;try simp only[h]))|((first|refine hK _ ?_|(clear hK K;first|refine hK _ ?_|(clear hK K;first|refine hK _ ?_|(clear hK K;refine hK _ ?_))));clear hK K)|(refine todo ?_;simp +decide only[go_sem]))|refine zz7 rfl kr rfl (y6v 1000 (by decide)) ?_|refine zzd kky rfl rfl (fun j => fA _ j (Nat.succ_ne_zero _)) ?_|refine zzd kst rfl rfl (fun j => fA _ j (Nat.succ_ne_zero _)) ?_|refine zzd kn rfl rfl (fun j => fA _ j (Nat.succ_ne_zero _)) ?_)
   exact zzu rfl (by unfold zzn; simp +decide only [go_sem])
 · rw [List.concat_eq_append] at *
   have hLs := hS.pre
   have hx := hS.sm x (List.mem_append_right _ (List.mem_singleton.2 rfl))
   have hxo := hS.acc.ok x (List.mem_append_right _ (List.mem_singleton.2 rfl))
   have htm := y48 hxo
   have hmost := y47 hxo
   have hlen := hS.len
   have hnow := xz2 hS.acc [116] hkb
   have hless := y84 hS.acc [116] kb
   have hright := y5z hS.acc [116] kb x.time
   have hsm0 := Tryz.scr_small hLs [116] kb x.time
   have hsm1 := Tryz.scr_small hLs [116] kb (x.time - 1)
   have hsm2 := Tryz.scr_small hS [116] kb x.time
   have hne : (((less ++ [x]).length : Int) == 0) = false := by rw [beq_eq_false_iff_ne, List.length_append, List.length_singleton]; omega
   have hw1 : IntKind.i64.wrap (((less ++ [x]).length : Int) - 1) = (less.length : Int) := by rw [List.length_append, List.length_singleton] at hlen ⊢; rw [Go.IntWalk.i64_in _ (by omega)]; omega
   have hg : (less ++ [x])[less.length]? = some x := by simp
   have htk : List.take (less.length - 0) ((less ++ [x]).map Txn.enc) = less.map Txn.enc := by rw [Nat.sub_zero, ← List.map_take, List.take_left]
   have hll : less.length ≤ (less ++ [x]).length := by simp
   have hwt : IntKind.i64.wrap (x.time - 1) = x.time - 1 := by rw [Go.IntWalk.i64_in _ (by omega)]
   have kst1 := Tryz.kState (less ++ [x]) [116] kb (x.time - 1) (hS.lsm _)
   have kst2 := Tryz.kState less [116] kb (x.time - 1) (hLs.lsm _)
   have kst3 := Tryz.kState less [116] kb x.time (hLs.lsm _)
   have kst4 := Tryz.kState (less ++ [x]) [116] kb x.time (hS.lsm _)
   have ksc := Tryz.kSchema (less ++ [x]) [116] x.time (hS.lsm [116]).len (fun x hx => ⟨((hS.lsm [116]).cs x hx).1, fun c hc => (((hS.lsm [116]).cs x hx).2 c hc).1⟩)
   have hks := hS.keys [116] x.time
   rw [hless] at kst1
   rw [hnow] at kst4 hright hsm2
   generalize schS (less ++ [x]) [116] x.time = s0 at *
   generalize zq4 less [116] kb (x.time - 1) = pa at *
   generalize zq4 less [116] kb x.time = p0 at *
   generalize less ++ [x] = l at *
   have kse := Tryz.kSameP pa pa (Nat.le_trans hsm1.1 (by decide)) hsm1.2
   rw [z1h.2 rfl] at kse
   repeat' (first|(with_reducible first|refine vSq fun K hK=>?_|apply vRg|apply vBl|apply vSc|apply vIf|apply vSk|apply vEx|apply vRt|((first|refine gNt ?_ ?_|refine gCs ?_ ?_)<;>(intro h;try simp only[h]))|((first|refine hK _ ?_|(clear hK K;first|refine hK _ ?_|(clear hK K;first|refine hK _ ?_|(clear hK K;refine hK _ ?_))));clear hK K)|(refine todo ?_;simp +decide only[go_sem, hne, hw1, hg, hwt, htk]))|refine zz7 rfl kr rfl (y6v 1000 (by decide)) ?_|refine zzd kky rfl rfl (fun j => fA _ j (Nat.succ_ne_zero _)) ?_|refine zzd kst1 rfl rfl (fun j => fA _ j (Nat.succ_ne_zero _)) ?_|refine zzd kst2 rfl rfl (fun j => fA _ j (Nat.succ_ne_zero _)) ?_|refine zzd kst3 rfl rfl (fun j => fA _ j (Nat.succ_ne_zero _)) ?_|(refine zvh Tryz.appTxns rfl (l := 0) (h := less.length) rfl (by simp [zz0, natOf?, intOf?]) (Nat.zero_le _) (by simp; omega) (yq4 _) ?_))
   have hrows : ∀ c ∈ x.chs, RowU c.row := fun c hc => (hx.2 c hc).2.1
   have hI : ∀ i, xvj 4200 ((x.chs.take i).foldl (z9c [116] s0 kb) p0) := fun i => by
    have := xvl (tab := [116]) (k := kb) (s0 := s0) (l := x.chs.take i) hsm0 (fun c hc => (hrows c (List.mem_of_mem_take hc)).1)
    refine ⟨Nat.le_trans this.1 ?_, this.2⟩
    rw [List.length_take]
    omega
   obtain ⟨mk, hmk⟩ : ∃ m : Nat, zw3 s0 = (m : Int) := ⟨(zw3 s0).toNat, by omega⟩
   have hmk' : (s0.getD zvc).keys = (mk : Int) := hmk
   refine zzj x.chs.length (fun _ => True) (fun i => over [(7, pD (zq1 l)), (8, pD (dS kb)), (9, .c (.ptr 9 0)), (11, pD (zzk pa)), (12, pD (zzk pa)), (13, pD (zzk ((x.chs.take i).foldl (z9c [116] s0 kb) p0))), (14, pD (dI i))] [(9, x.enc.map .d)] noH A1) Zti ?_ ?_
   · refine zz1 (fun κ => .inr rfl) kA ?_ ?_ <;> simp +decide only [go_sem, List.take_zero, List.foldl_nil]
     exact zzh (by simp [zzy])
   · intro i hi _
     have hIi := hI i
     rcases Nat.lt_or_ge i x.chs.length with hlt | hge
     · have hgc := Zge hlt
       have hd := zze hlt
       have hnx := zzl hlt (show x.chs.length ≤ 4294967296 by omega)
       have hru := hrows _ (Zme hgc)
       have hfs : (x.chs.take (i + 1)).foldl (z9c [116] s0 kb) p0 = z9c [116] s0 kb ((x.chs.take i).foldl (z9c [116] s0 kb) p0) x.chs[i] := by rw [zzw hgc, List.foldl_append]; rfl
       generalize x.chs[i] = c at hgc hru hfs
       have hnn : ∀ m, Weak noH cnt1 m (over [(7, pD (zq1 l)), (8, pD (dS kb)), (9, .c (.ptr 9 0)), (11, pD (zzk pa)), (12, pD (zzk pa)), (13, pD (zzk ((x.chs.take (i + 1)).foldl (z9c [116] s0 kb) p0))), (14, pD (dI (i + 1 : Nat)))] [(9, x.enc.map .d)] noH A1) → PW.Next noH cnt1 x.chs.length (fun _ => True) (fun i => over [(7, pD (zq1 l)), (8, pD (dS kb)), (9, .c (.ptr 9 0)), (11, pD (zzk pa)), (12, pD (zzk pa)), (13, pD (zzk ((x.chs.take i).foldl (z9c [116] s0 kb) p0))), (14, pD (dI i))] [(9, x.enc.map .d)] noH A1) i m := fun m hm => zzi (I := fun _ => True) hlt Zti hm
       rw [hfs] at hnn
       generalize (x.chs.take i).foldl (z9c [116] s0 kb) p0 = ps at *
       -- BEGIN
       cases h1 : (c.tab != [116]) with
       | true =>
         have es : z9c [116] s0 kb ps c = ps := by unfold z9c xzz; rw [h1]; simp
         rw [es] at hnn
         repeat' (first|(with_reducible first|refine vSq fun K hK=>?_|apply vRg|apply vBl|apply vSc|apply vIf|apply vSk|apply vEx|apply vRt|((first|refine gNt ?_ ?_|refine gCs ?_ ?_)<;>(intro h;try simp only[h]))|((first|refine hK _ ?_|(clear hK K;first|refine hK _ ?_|(clear hK K;first|refine hK _ ?_|(clear hK K;refine hK _ ?_))));clear hK K)|(refine todo ?_;simp +decide only[go_sem, hgc, hd, hnx, h1]))|refine zzd ksc rfl rfl (fun j => fA _ j (Nat.succ_ne_zero _)) ?_)
         refine hnn _ (zz1 (fun κ => .inr rfl) kA ?_ ?_) <;> simp +decide only [go_sem]
         exact zzh (by simp [zzy])
       | false =>
         cases h2 : (c.op == 3) with
         | true =>
           have es : z9c [116] s0 kb ps c = ps := by unfold z9c xzz; rw [h1, h2]; simp
           rw [es] at hnn
           repeat' (first|(with_reducible first|refine vSq fun K hK=>?_|apply vRg|apply vBl|apply vSc|apply vIf|apply vSk|apply vEx|apply vRt|((first|refine gNt ?_ ?_|refine gCs ?_ ?_)<;>(intro h;try simp only[h]))|((first|refine hK _ ?_|(clear hK K;first|refine hK _ ?_|(clear hK K;first|refine hK _ ?_|(clear hK K;refine hK _ ?_))));clear hK K)|(refine todo ?_;simp +decide only[go_sem, hgc, hd, hnx, h1, h2]))|refine zzd ksc rfl rfl (fun j => fA _ j (Nat.succ_ne_zero _)) ?_)
           refine hnn _ (zz1 (fun κ => .inr rfl) kA ?_ ?_) <;> simp +decide only [go_sem]
           exact zzh (by simp [zzy])
         | false =>
           cases h3 : (sErr s0 != 0) with
           | true =>
             have es : z9c [116] s0 kb ps c = ps := by unfold z9c xzz; rw [h1, h2, h3]; simp
             rw [es] at hnn
             repeat' (first|(with_reducible first|refine vSq fun K hK=>?_|apply vRg|apply vBl|apply vSc|apply vIf|apply vSk|apply vEx|apply vRt|((first|refine gNt ?_ ?_|refine gCs ?_ ?_)<;>(intro h;try simp only[h]))|((first|refine hK _ ?_|(clear hK K;first|refine hK _ ?_|(clear hK K;first|refine hK _ ?_|(clear hK K;refine hK _ ?_))));clear hK K)|(refine todo ?_;simp +decide only[go_sem, hgc, hd, hnx, h1, h2, h3]))|refine zzd ksc rfl rfl (fun j => fA _ j (Nat.succ_ne_zero _)) ?_)
             refine hnn _ (zz1 (fun κ => .inr rfl) kA ?_ ?_) <;> simp +decide only [go_sem]
             exact zzh (by simp [zzy])
           | false =>
             cases h4 : decide ((c.row.length : Int) < (mk : Int)) with
             | true =>
               have h4' : decide ((c.row.length : Int) < zw3 s0) = true := by rw [hmk]; exact h4
               have es : z9c [116] s0 kb ps c = ps := by unfold z9c xzz; rw [h1, h2, h3, h4']; simp
               rw [es] at hnn
               repeat' (first|(with_reducible first|refine vSq fun K hK=>?_|apply vRg|apply vBl|apply vSc|apply vIf|apply vSk|apply vEx|apply vRt|((first|refine gNt ?_ ?_|refine gCs ?_ ?_)<;>(intro h;try simp only[h]))|((first|refine hK _ ?_|(clear hK K;first|refine hK _ ?_|(clear hK K;first|refine hK _ ?_|(clear hK K;refine hK _ ?_))));clear hK K)|(refine todo ?_;simp +decide only[go_sem, hgc, hd, hnx, h1, h2, h3, hmk', h4]))|refine zzd ksc rfl rfl (fun j => fA _ j (Nat.succ_ne_zero _)) ?_)
               refine hnn _ (zz1 (fun κ => .inr rfl) kA ?_ ?_) <;> simp +decide only [go_sem]
               exact zzh (by simp [zzy])
             | false =>
               have h4' : decide ((c.row.length : Int) < zw3 s0) = false := by rw [hmk]; exact h4
               have hml : mk ≤ c.row.length := by have := of_decide_eq_false h4; omega
               have tk : List.take (mk - 0) (c.row.map Val.enc) = (c.row.take mk).map Val.enc := by rw [Nat.sub_zero, List.map_take]
               have hbits : zwv (c.row.take mk) := fun v hv => hru.bits v (List.mem_of_mem_take hv)
               have hrl := hru.1
               have kkc := Tryz.kKeyOf (c.row.take mk) (by rw [List.length_take]; omega) hbits
               have hkt : (zw3 s0).toNat = mk := by rw [hmk]; rfl
               cases h5 : (keyB (c.row.take mk) != kb) with
               | true =>
                 have es : z9c [116] s0 kb ps c = ps := by unfold z9c xzz; rw [h1, h2, h3, h4', hkt, h5]; simp
                 rw [es] at hnn
                 repeat' (first|(with_reducible first|refine vSq fun K hK=>?_|apply vRg|apply vBl|apply vSc|apply vIf|apply vSk|apply vEx|apply vRt|((first|refine gNt ?_ ?_|refine gCs ?_ ?_)<;>(intro h;try simp only[h]))|((first|refine hK _ ?_|(clear hK K;first|refine hK _ ?_|(clear hK K;first|refine hK _ ?_|(clear hK K;refine hK _ ?_))));clear hK K)|(refine todo ?_;simp +decide only[go_sem, hgc, hd, hnx, h1, h2, h3, hmk', h4, tk, h5]))|refine zzd ksc rfl rfl (fun j => fA _ j (Nat.succ_ne_zero _)) ?_|refine zzd kkc rfl rfl (fun j => fA _ j (Nat.succ_ne_zero _)) ?_|(refine zvh Tryz.appVals rfl (l := 0) (h := mk) rfl (by simp [zz0, natOf?, intOf?]) (Nat.zero_le _) (by simp; omega) (yq3 _) ?_))
                 refine hnn _ (zz1 (fun κ => .inr rfl) kA ?_ ?_) <;> simp +decide only [go_sem]
                 exact zzh (by simp [zzy])
               | false =>
                 cases h6 : (c.op == 1) with
                 | true =>
                   have kp := Tryz.kPut ps (c.lo, c.hi) c.row (Nat.le_trans hIi.1 (by decide)) hIi.2 hru.1
                   have es : z9c [116] s0 kb ps c = putP ps (c.lo, c.hi) c.row := by unfold z9c xzz; rw [h1, h2, h3, h4', hkt, h5, h6]; simp
                   rw [es] at hnn
                   repeat' (first|(with_reducible first|refine vSq fun K hK=>?_|apply vRg|apply vBl|apply vSc|apply vIf|apply vSk|apply vEx|apply vRt|((first|refine gNt ?_ ?_|refine gCs ?_ ?_)<;>(intro h;try simp only[h]))|((first|refine hK _ ?_|(clear hK K;first|refine hK _ ?_|(clear hK K;first|refine hK _ ?_|(clear hK K;refine hK _ ?_))));clear hK K)|(refine todo ?_;simp +decide only[go_sem, hgc, hd, hnx, h1, h2, h3, hmk', h4, tk, h5, h6]))|refine zzd ksc rfl rfl (fun j => fA _ j (Nat.succ_ne_zero _)) ?_|refine zzd kkc rfl rfl (fun j => fA _ j (Nat.succ_ne_zero _)) ?_|(refine zvh Tryz.appVals rfl (l := 0) (h := mk) rfl (by simp [zz0, natOf?, intOf?]) (Nat.zero_le _) (by simp; omega) (yq3 _) ?_)|refine zzd kp rfl rfl (fun j => fA _ j (Nat.succ_ne_zero _)) ?_)
                   refine hnn _ (zz1 (fun κ => ?_) kA ?_ ?_)
                   · by_cases e : κ = (123, 0)
                     · subst e; exact .inl (fA _ _ (Nat.succ_ne_zero _))
                     · exact .inr (zza _ _ e).symm
                   · simp +decide only [go_sem]
                     exact zzh (by simp [zzy])
                   · simp +decide only [go_sem]
                 | false =>
                   have kp := Tryz.kDrop ps (c.lo, c.hi) (Nat.le_trans hIi.1 (by decide)) hIi.2
                   have es : z9c [116] s0 kb ps c = drop ps (c.lo, c.hi) := by unfold z9c xzz; rw [h1, h2, h3, h4', hkt, h5, h6]; simp
                   rw [es] at hnn
                   repeat' (first|(with_reducible first|refine vSq fun K hK=>?_|apply vRg|apply vBl|apply vSc|apply vIf|apply vSk|apply vEx|apply vRt|((first|refine gNt ?_ ?_|refine gCs ?_ ?_)<;>(intro h;try simp only[h]))|((first|refine hK _ ?_|(clear hK K;first|refine hK _ ?_|(clear hK K;first|refine hK _ ?_|(clear hK K;refine hK _ ?_))));clear hK K)|(refine todo ?_;simp +decide only[go_sem, hgc, hd, hnx, h1, h2, h3, hmk', h4, tk, h5, h6]))|refine zzd ksc rfl rfl (fun j => fA _ j (Nat.succ_ne_zero _)) ?_|refine zzd kkc rfl rfl (fun j => fA _ j (Nat.succ_ne_zero _)) ?_|(refine zvh Tryz.appVals rfl (l := 0) (h := mk) rfl (by simp [zz0, natOf?, intOf?]) (Nat.zero_le _) (by simp; omega) (yq3 _) ?_)|refine zzd kp rfl rfl (fun j => fA _ j (Nat.succ_ne_zero _)) ?_)
                   refine hnn _ (zz1 (fun κ => ?_) kA ?_ ?_)
                   · by_cases e : κ = (127, 0)
                     · subst e; exact .inl (fA _ _ (Nat.succ_ne_zero _))
                     · exact .inr (zza _ _ e).symm
                   · simp +decide only [go_sem]
                     exact zzh (by simp [zzy])
                   · simp +decide only [go_sem]
       -- END
     · have hd := zzf hge
       rw [Ztl hge]
       generalize x.chs.foldl (z9c [116] s0 kb) p0 = ps at *
       have ksf := Tryz.kSameP ps ps (Nat.le_trans hsm2.1 (by decide)) hsm2.2
       rw [z1h.2 rfl] at ksf
       have kri := Tryz.kRight ps (Nat.le_trans hsm2.1 (by decide)) hsm2.2
       rw [hright] at kri
       repeat' (first|(with_reducible first|refine vSq fun K hK=>?_|apply vRg|apply vBl|apply vSc|apply vIf|apply vSk|apply vEx|apply vRt|((first|refine gNt ?_ ?_|refine gCs ?_ ?_)<;>(intro h;try simp only[h]))|((first|refine hK _ ?_|(clear hK K;first|refine hK _ ?_|(clear hK K;first|refine hK _ ?_|(clear hK K;refine hK _ ?_))));clear hK K)|(refine todo ?_;simp +decide only[go_sem, hd]))|refine zzd kse rfl rfl (fun j => fA _ j (Nat.succ_ne_zero _)) ?_|refine zzd kst4 rfl rfl (fun j => fA _ j (Nat.succ_ne_zero _)) ?_|refine zzd ksf rfl rfl (fun j => fA _ j (Nat.succ_ne_zero _)) ?_|refine zzd kri rfl rfl (fun j => fA _ j (Nat.succ_ne_zero _)) ?_|refine zzd kn rfl rfl (fun j => fA _ j (Nat.succ_ne_zero _)) ?_)
       exact zzu rfl (by unfold zzn; simp +decide only [go_sem])
end Go.Proofs
