/-
  Parts of the proof, laid together: PwEb, PwGa, PwGb, PwGc.
-/
import Derived.Test.YtemecklglapleaaGreatQ34
import Derived.Test.YtemecklglapleaaGreatQ27
import Derived.Test.YtemecklglapleaaGreatQ28

set_option maxRecDepth 30000
set_option maxHeartbeats 16000000
namespace Go.Proofs
open Go.PW
def z3n (s : Option Sch) (x : Chg) : Option Sch := if (x.op == 3) = true then some x.d else s
def z38 : Option Sch → List CV
 | none => [.d (dS []), .full [], .d (dI 0)]
 | some s => s.enc.map .d
def sErr : Option Sch → Int
 | none => 18
 | some _ => 0
def zjw (s : Option Sch) : HMap := zzy [(6, [.d (dS []), .full [], .d (dI 0)]), (8, z38 s), (9, [.d (dI (sErr s))])] noH
def schS (l : List Txn) (tab : List UInt8) (t : Int) : Option Sch := (zxv l tab t z3n (0, none)).2
theorem z7j : ((5 : Nat) == 6006) = false := rfl
theorem yke : (6006 % 1000 : Nat) = 6 := rfl
theorem z2t (s : Option Sch) (id : Nat) (h : 1000 ≤ id) : zjw s id = none := by
 unfold zjw
 simp only [zzy, show (id = 6) = False from eq_false (by omega), show (id = 8) = False from eq_false (by omega), show (id = 9) = False from eq_false (by omega), if_false]
 rfl
theorem z44 (s : Option Sch) : Wf (zjw s) noA := by
 intro id cs c h hc
 unfold zjw at h
 simp only [zzy] at h
 split at h
 · cases h
   simp at hc
   rcases hc with rfl | rfl | rfl <;> exact Zti
 · split at h
   · cases h
     cases s with
     | none =>
       simp [z38] at hc
       rcases hc with rfl | rfl | rfl <;> exact Zti
     | some s =>
       obtain ⟨d, _, rfl⟩ := List.mem_map.1 hc
       exact Zti
   · split at h
     · cases h
       rw [List.mem_singleton.1 hc]
       exact Zti
     · cases h
theorem z43 (s s' : Option Sch) (id : Nat) (h : zjw s id ≠ none) : zjw s' id ≠ none := by
 unfold zjw at h ⊢
 simp only [zzy] at h ⊢
 split
 · simp
 · rename_i h6
   rw [if_neg h6] at h
   split
   · simp
   · rename_i h8
     rw [if_neg h8] at h
     split
     · simp
     · rename_i h9
       rw [if_neg h9] at h
       exact h
theorem yqw (s : Option Sch) (d : Sch) (X : Option (List CV)) (i : Nat) (hi : zjw (some d) i ≠ none) : upd (upd (upd (zjw s) (2000 + 3) X) 8 (some (d.enc.map .d))) 9 (some [.d (dI 0)]) i = zjw (some d) i := by
 have hl : i < 1000 := Nat.lt_of_not_le fun e => hi (z2t _ _ e)
 unfold zjw
 simp only [upd, zzy]
 by_cases h9 : i = 9
 · subst h9; rfl
 · by_cases h8 : i = 8
   · subst h8; rfl
   · by_cases h6 : i = 6
     · subst h6; rfl
     · simp only [h9, h8, h6, if_false, show (i = 2000 + 3) = False from eq_false (by omega)]
theorem ywf (s : Option Sch) (X : Option (List CV)) (i : Nat) (hi : zjw s i ≠ none) : upd (zjw s) (2000 + 3) X i = zjw s i := by
 have hl : i < 1000 := Nat.lt_of_not_le fun e => hi (z2t _ _ e)
 exact zza _ _ (by omega)
theorem Tryz.kSchema1 (s : Option Sch) (x : Chg) : zqf Tryz.prog 30 2000 (zjw s) noA [pA x.enc, .c (.ptr 8 0), .c (.ptr 9 0)] (.c .any) (zjw (z3n s x)) noA := by
 refine zqh (E := envOf Tryz.prog [] 2000 [] []) (zzx Tryz.mixed) Tryz.func30 rfl Tryz.call30 (by kernel_rfl) (by exact Zle rfl) (fun hab => ?_)
 have h3 : zjw s 2003 = none := z2t s _ (by omega)
 have h8 : zjw s 8 = some (z38 s) := rfl
 have h9 : zjw s 9 = some [.d (dI (sErr s))] := rfl
 cases hop : (x.op == 3) with
 | true =>
   have es : z3n s x = some x.d := by unfold z3n; rw [hop]; rfl
   rw [es]
   cases s with
   | none =>
     repeat' (first|(with_reducible first|refine vSq fun K hK=>?_|apply vRg|apply vBl|apply vSc|apply vIf|apply vSk|apply vEx|apply vRt|((first|apply gNt|apply gCs)<;>(intro h;try simp only[h]))|((first|apply hK|(clear hK K;first|apply hK|(clear hK K;first|apply hK|(clear hK K;apply hK))));clear hK K)|(refine todo ?_;simp +decide only[go_sem, h3, h8, h9, hop, z38])))
     exact z16 rfl (z44 _) (fun i hi => yqw none x.d _ i hi) rfl (z43 _ _)
   | some s =>
     repeat' (first|(with_reducible first|refine vSq fun K hK=>?_|apply vRg|apply vBl|apply vSc|apply vIf|apply vSk|apply vEx|apply vRt|((first|apply gNt|apply gCs)<;>(intro h;try simp only[h]))|((first|apply hK|(clear hK K;first|apply hK|(clear hK K;first|apply hK|(clear hK K;apply hK))));clear hK K)|(refine todo ?_;simp +decide only[go_sem, h3, h8, h9, hop, z38])))
     exact z16 rfl (z44 _) (fun i hi => yqw (some s) x.d _ i hi) rfl (z43 _ _)
 | false =>
   have es : z3n s x = s := by unfold z3n; rw [hop]; rfl
   rw [es]
   repeat' (first|(with_reducible first|refine vSq fun K hK=>?_|apply vRg|apply vBl|apply vSc|apply vIf|apply vSk|apply vEx|apply vRt|((first|apply gNt|apply gCs)<;>(intro h;try simp only[h]))|((first|apply hK|(clear hK K;first|apply hK|(clear hK K;first|apply hK|(clear hK K;apply hK))));clear hK K)|(refine todo ?_;simp +decide only[go_sem, h3, hop])))
   exact z16 rfl (z44 _) (fun i hi => ywf s _ i hi) rfl (z43 _ _)
def sSm (_ : Nat) (s : Option Sch) : Prop := ∀ d, s = some d → d.cols.length ≤ 1048576
theorem y4v {n : Nat} {s : Option Sch} {x : Chg} (h : sSm n s) (hx : x.d.cols.length ≤ 1048576) : sSm (n + 1) (z3n s x) := by
 unfold z3n
 split
 · intro d hd; cases hd; exact hx
 · exact h
theorem Tryz.sDo (B : Nat) : DoOK Tryz.prog 30 [(8, 0), (9, 0)] 1000 noA zjw sSm B (fun x => x.d.cols.length ≤ 1048576) z3n :=
 ⟨fun _ s x _ hs hx => ⟨Tryz.kSchema1 s x, y4v hs hx⟩, fun _ s _ => z44 s, fun s id h => z2t s id h, fun _ s _ p hp => by
   rcases List.mem_cons.1 hp with rfl | hp
   · show zjw s 8 ≠ none
     exact Option.some_ne_none _
   · rw [List.mem_singleton.1 hp]
     show zjw s 9 ≠ none
     exact Option.some_ne_none _, fun s s' id h => z43 s s' id h⟩
theorem Tryz.kSchema (l : List Txn) (tab : List UInt8) (t : Int) (hl : l.length ≤ 1048576) (hc : ∀ x ∈ l, x.chs.length ≤ 1048576 ∧ ∀ c ∈ x.chs, c.d.cols.length ≤ 1048576) : zzr Tryz.prog 10 [pD (zq1 l), pD (dS tab), pD (dI t)] (.tup [.agg ((schS l tab t).getD zvc).enc, .d (dI (sErr (schS l tab t)))]) := by
 have h00 : sSm 0 none := fun d hd => by cases hd
 have ke := Tryz.kEach (Tryz.sDo (tot l)) l tab t 0 none h00 (by omega) hl hc
 have hsm := z3d (Tryz.sDo (tot l)) (tab := tab) (t := t) l (p := (0, none)) h00 (by show 0 + _ ≤ _; omega) (fun x hx => (hc x hx).2)
 refine zvs (E := envOf Tryz.prog [29] 0 [] [6006]) (zzx Tryz.mixed) Tryz.func10 rfl Tryz.call10 (by kernel_rfl) (by rfl) (by exact Zle rfl) ?_
 have h0 : upd (upd (upd (upd noH 6 (some [.d (dS []), .full [], .d (dI 0)])) 8 (some [.d (dS []), .full [], .d (dI 0)])) 9 (some [.d (dI 0)])) 9 (some [.d (dI 18)]) = zjw none := by
  funext i
  unfold zjw
  simp only [upd, zzy]
  by_cases h9 : i = 9
  · subst h9; rfl
  · by_cases h8 : i = 8
    · subst h8; rfl
    · by_cases h6 : i = 6
      · subst h6; rfl
      · simp only [h9, h8, h6, if_false]
 simp only [go_sem] at h0
 have ab : Above 1000 (zjw none) noA := fun i hi => ⟨z2t _ _ hi, fun _ => rfl⟩
 have es : (zxv l tab t z3n (0, none)).2 = schS l tab t := rfl
 rw [es] at ke hsm
 have hv8 : zjw (schS l tab t) 8 = some (z38 (schS l tab t)) := rfl
 have hv9 : zjw (schS l tab t) 9 = some [.d (dI (sErr (schS l tab t)))] := rfl
 have hv6 : zjw (schS l tab t) 6 = some [.d (dS []), .full [], .d (dI 0)] := rfl
 generalize schS l tab t = s at *
 cases s with
 | none =>
   repeat' (first|(with_reducible first|refine vSq fun K hK=>?_|apply vRg|apply vBl|apply vSc|apply vIf|apply vSk|apply vEx|apply vRt|((first|apply gNt|apply gCs)<;>(intro h;try simp only[h]))|((first|apply hK|(clear hK K;first|apply hK|(clear hK K;first|apply hK|(clear hK K;apply hK))));clear hK K)|(refine todo ?_;simp +decide only[go_sem, hv8, hv9, hv6, z38, z7j, yke]))|(rw [h0]; refine zz7 rfl ke rfl ab ?_)|refine zx2 Tryz.appCols rfl rfl zvw zvw (by simp) rfl ?_)
   refine zkv none rfl (p := .agg [.d (dS []), .own (17, 0) [], .d (dI 0)]) (p' := pD (dI 18)) ?_ ?_ ?_ ?_
   · unfold zzn; simp +decide only [go_sem]
   · unfold zzn; simp +decide only [go_sem, sErr]
   · rfl
   · exact .inl rfl
 | some s =>
   have hcl := hsm s rfl
   repeat' (first|(with_reducible first|refine vSq fun K hK=>?_|apply vRg|apply vBl|apply vSc|apply vIf|apply vSk|apply vEx|apply vRt|((first|apply gNt|apply gCs)<;>(intro h;try simp only[h]))|((first|apply hK|(clear hK K;first|apply hK|(clear hK K;first|apply hK|(clear hK K;apply hK))));clear hK K)|(refine todo ?_;simp +decide only[go_sem, hv8, hv9, hv6, z38, z7j, yke]))|(rw [h0]; refine zz7 rfl ke rfl ab ?_)|(refine zx2 Tryz.appCols rfl rfl zvw (y52 _) (by simp; omega) rfl ?_))
   refine zkv none rfl (p := .agg [.d (dS s.name), .own (17, 0) (s.cols.map Col.enc), .d (dI s.keys)]) (p' := pD (dI 0)) ?_ ?_ ?_ ?_
   · unfold zzn; simp +decide only [go_sem]
   · unfold zzn; simp +decide only [go_sem, sErr]
   · rfl
   · exact .inl rfl
theorem y0d (l : List UInt8) (i : Nat) (b : UInt8) : (zzg l).set i [.lit (.int .u8 ((b.toNat : Nat) : Int))] = zzg (l.set i b) := by
 unfold zzg
 rw [List.map_set]
theorem y0c (n : Nat) : List.replicate n [D.lit (.int .u8 0)] = zzg (List.replicate n 0) := by
 unfold zzg
 rw [List.map_replicate]; rfl
theorem y9s (n : Int) : IntKind.u8.wrap n = ((b8 n).toNat : Int) := by
 rw [IntKind.wrap_u8]
 unfold b8
 rw [UInt8.toNat_ofNat', Nat.mod_eq_of_lt (by omega)]
 omega
def nbK (n i : Nat) : List UInt8 := (zk9 n).take i ++ List.replicate (8 - i) 0
theorem yxx {n i : Nat} (h : i ≤ 8) : (nbK n i).length = 8 := by
 unfold nbK
 rw [Zla, Zlt, zj0, List.length_replicate]; omega
theorem ykd (n : Nat) : ∀ (k i : Nat), i < k → (lowB n k)[i]? = some (b8 ((n / 256 ^ (k - 1 - i) : Nat) : Int))
 | k + 1, 0, _ => by rw [lowB]; rfl
 | k + 1, i + 1, h => by
   rw [lowB, List.getElem?_cons_succ, ykd n k i (by omega), show k + 1 - 1 - (i + 1) = k - 1 - i by omega]
theorem y7q {n i : Nat} (h : i < 8) : (nbK n i).set i (b8 ((n / 256 ^ (7 - i) : Nat) : Int)) = nbK n (i + 1) := by
 unfold nbK
 have h1 : ((zk9 n).take i).length = i := by rw [Zlt, zj0]; omega
 have h2 := ykd n 8 i h
 rw [List.set_append_right _ _ (by rw [h1]; exact Zlr _), h1, Nat.sub_self, show 8 - i = (8 - (i + 1)) + 1 by omega, List.replicate_succ, List.set_cons_zero, zzw (show (zk9 n)[i]? = _ from h2), List.append_assoc]
 rfl
theorem y78 (n k : Nat) (hk : k ≤ 64) : iShr .u64 (n : Int) k = ((n / 2 ^ k : Nat) : Int) := by
 unfold iShr
 rw [show min k IntKind.u64.bits = k from Nat.min_eq_left hk, Int.fdiv_eq_ediv_of_nonneg _ (by exact Int.le_of_lt (Int.pow_pos (by decide)))]
 push_cast
 rfl
set_option maxHeartbeats 8000000 in
theorem Tryz.kNumber (n : Nat) : zzr Tryz.prog 48 [pD (.lit (.int .u64 n))] (.one (.d (dS (zk9 n)))) := by
 refine zvs (E := envOf Tryz.prog [3000000 + 111, 4000000 + 111] 0 [5] []) (zzx Tryz.mixed) Tryz.func48 rfl Tryz.call48 (by kernel_rfl) (by rfl) (by exact Zle rfl) ?_
 repeat' (first|(with_reducible first|refine vSq fun K hK=>?_|apply vRg|apply vBl|apply vSc|apply vIf|apply vSk|apply vEx|apply vRt|((first|apply gNt|apply gCs)<;>(intro h;try simp only[h]))|((first|apply hK|(clear hK K;first|apply hK|(clear hK K;first|apply hK|(clear hK K;apply hK))));clear hK K)|(refine todo ?_;simp +decide only[go_sem, y0c]))|(refine y9o (n := 8) Tryz.underlying111 Tryz.ze5 Tryz.cl5 (by omega) (by omega) (by show 8 * Tryz.prog.bytesOf 5 ≤ _; rw [Tryz.by5]; omega) rfl ?_))
 have e0 : zzg [0, 0, 0, 0, 0, 0, 0, 0] = zzg (nbK n 0) := rfl
 refine zzj 8 (fun _ => True) (fun i => frame [(0, pD (.lit (.int .u64 n))), (3, .c (.mt (5, 0) 1 8)), (7, pD (.lit (.int .i64 ((8 : Nat) : Int)))), (8, pD (.lit (.int .i64 i)))] [] [((5, 0), .mu 1 (zzg (nbK n i)))]) Zti ?_ ?_
 · refine zzb ?_ ?_ ?_
   · have w2 : PV.wk (hOf []) (upd noA (5, 0) (some (.mu 1 (zzg (nbK n 0))))) (aOf [((5, 0), .mu 1 (zzg (nbK n 0)))]) (.c (.mt (5, 0) 1 8)) (.c (.mt (5, 0) 1 8)) = True := eq_true (wk_c (.inr (.inl ⟨rfl, ⟨by simp [aOf], by rw [zzc]; simp [aOf]⟩⟩)))
     simp +decide only [go_sem, e0, w2]
   · simp +decide only [go_sem]
   · simp +decide only [go_sem, e0]
 · intro i hi _
   have hbl := zqz (nbK n i)
   rw [yxx hi] at hbl
   rcases Zlg i 8 with hi2 | hi2
   · have hc : ((i : Int) < ((8 : Nat) : Int)) = True := eq_true (by omega)
     have hnx := zzl hi2 (by omega)
     have hw1 : IntKind.i64.wrap (7 - (i : Int)) = ((7 - i : Nat) : Int) := by rw [Go.IntWalk.i64_in _ (by omega)]; omega
     have hw2 : IntKind.i64.wrap (8 * ((7 - i : Nat) : Int)) = ((8 * (7 - i) : Nat) : Int) := by rw [Go.IntWalk.i64_in _ (by omega)]; omega
     have h0 : (0 : Int) ≤ ((8 * (7 - i) : Nat) : Int) := by omega
     have hsh : iShr .u64 (n : Int) (8 * (7 - i)) = ((n / 256 ^ (7 - i) : Nat) : Int) := by
      rw [y78 _ _ (by omega), Nat.pow_mul]
     have hi0 : idxE Tryz.prog 5 i (.c (.mt (5, 0) 1 8)) = some (.c (.mptr (5, 0) 1 8 i 0)) := by
      show (if i < 8 ∧ 1 = Tryz.prog.cellsOf 5 then _ else none) = _
      rw [if_pos ⟨hi2, by rw [Tryz.cl5]⟩]
     have hb1 : (8 = (zzg (nbK n i)).length) = True := eq_true hbl.symm
     have hg := zvj (l := nbK n i) (j := i) (by rw [yxx hi]; exact hi2)
     have es := y7q (n := n) hi2
     repeat' (first|(with_reducible first|refine vSq fun K hK=>?_|apply vRg|apply vBl|apply vSc|apply vIf|apply vSk|apply vEx|apply vRt|((first|apply gNt|apply gCs)<;>(intro h;try simp only[h]))|((first|apply hK|(clear hK K;first|apply hK|(clear hK K;first|apply hK|(clear hK K;apply hK))));clear hK K)|(refine todo ?_;simp +decide only[go_sem, hc, hnx, hw1, hw2, h0, hsh, y9s, hi0, hb1, hg, y0d, es])))
     refine zzi hi2 Zti (zzb ?_ ?_ ?_)
     · have w2 : PV.wk (hOf []) (upd (aOf [((5, 0), .mu 1 (zzg (nbK n i)))]) (5, 0) (some (.mu 1 (zzg (nbK n (i + 1)))))) (aOf [((5, 0), .mu 1 (zzg (nbK n (i + 1))))]) (.c (.mt (5, 0) 1 8)) (.c (.mt (5, 0) 1 8)) = True := eq_true (wk_c (.inr (.inl ⟨rfl, ⟨by simp [aOf], by rw [zzc]; simp [aOf]⟩⟩)))
       simp +decide only [go_sem, w2]
     · simp +decide only [go_sem]
     · simp +decide only [go_sem]
   · have hie : i = 8 := by omega
     subst hie
     have hcv : z3a Tryz.prog (aOf [((5, 0), .mu 1 (zzg (nbK n 8)))]) 111 9 (.c (.mt (5, 0) 1 8)) = some (.c (.d (dS (nbK n 8)))) := yjw Tryz.bytesT Tryz.underlying9 (yxx (Zlr _)).symm (if_pos rfl)
     have el : nbK n 8 = zk9 n := by unfold nbK; rw [Ztl (by rw [zj0]; exact Zlr _)]; exact List.append_nil _
     repeat' (first|(with_reducible first|refine vSq fun K hK=>?_|apply vRg|apply vBl|apply vSc|apply vIf|apply vSk|apply vEx|apply vRt|((first|apply gNt|apply gCs)<;>(intro h;try simp only[h]))|((first|apply hK|(clear hK K;first|apply hK|(clear hK K;first|apply hK|(clear hK K;apply hK))));clear hK K)|(refine todo ?_;simp +decide only[go_sem, hcv])))
     rw [← el]
     exact zzs rfl rfl
theorem Tryz.appBytes : AppT Tryz.prog 111 5 1 1 := ⟨Tryz.underlying111, Tryz.cl5, Tryz.by5, Tryz.zo5, by decide, by decide⟩
theorem Tryz.strS : _root_.Go.PW.strT Tryz.prog 9 = true := by kernel_rfl
theorem y56 {H' : HMap} {A A' : AMap} {κ : Tok} {sz n : Nat} {ar : Arr} (h1 : A κ = some ar) (h2 : A' κ = some ar) : PV.wk H' A A' (.c (.mt κ sz n)) (.c (.mt κ sz n)) = True := eq_true (wk_c (.inr (.inl ⟨rfl, ⟨by rw [h2]; simp, by rw [h1, h2]⟩⟩)))
set_option maxHeartbeats 8000000 in
theorem Tryz.kEscaped (l : List UInt8) (hl : l.length ≤ 1048576) : zzr Tryz.prog 50 [pD (dS l)] (.one (.d (dS (escB l ++ [0, 1])))) := by
 refine zvs (E := envOf Tryz.prog [3000000 + 111, 4000000 + 111] 0 [8] []) (zzx Tryz.mixed) Tryz.func50 rfl Tryz.call50 (by kernel_rfl) (by rfl) (by exact Zle rfl) ?_
 have hw : IntKind.i64.wrap ((l.length : Int) + 2) = ((l.length + 2 : Nat) : Int) := by rw [Go.IntWalk.i64_in _ (by omega)]; omega
 repeat' (first|(with_reducible first|refine vSq fun K hK=>?_|apply vRg|apply vBl|apply vSc|apply vIf|apply vSk|apply vEx|apply vRt|((first|apply gNt|apply gCs)<;>(intro h;try simp only[h]))|((first|apply hK|(clear hK K;first|apply hK|(clear hK K;first|apply hK|(clear hK K;apply hK))));clear hK K)|(refine todo ?_;simp +decide only[go_sem, hw]))|(refine y9m (n := l.length + 2) Tryz.underlying111 Tryz.ze5 (by show 0 < Tryz.prog.cellsOf 5; rw [Tryz.cl5]; omega) (by omega) (by show _ * Tryz.prog.cellsOf 5 ≤ _; rw [Tryz.cl5]; omega) (by show _ * Tryz.prog.bytesOf 5 ≤ _; rw [Tryz.by5]; omega) rfl ?_))
 refine zzj l.length (fun _ => True) (fun i => frame [(0, pD (dS l)), (3, .c (.mt (8, 0) 1 (zzg (escB (l.take i))).length)), (10, pD (dI l.length)), (11, pD (dI i))] [] [((8, 0), .mu 1 (zzg (escB (l.take i))))]) Zti ?_ ?_
 · have e0 : zzg (escB []) = [] := rfl
   refine zzb ?_ ?_ ?_
   · have w2 := y56 (H' := hOf []) (A := upd noA (8, 0) (some (.mu 1 []))) (A' := aOf [((8, 0), .mu 1 [])]) (κ := (8, 0)) (sz := 1) (n := 0) (ar := .mu 1 []) (zzc _ _ _) rfl
     simp +decide only [go_sem, e0, List.length_nil, w2]
   · simp +decide only [go_sem]
   · simp +decide only [go_sem, e0]
 · intro i hi _
   have hlen := z4q (l.take i)
   rw [Zlt] at hlen
   have hbl := zqz (escB (l.take i))
   rcases Zlg i l.length with hlt | hge
   · have hg := Zge hlt
     have hd := zze hlt
     have hnx := zzl hlt (by omega)
     generalize l[i] = c at hg
     have hx := yzp hg
     have w2 := fun ys => y56 (H' := hOf []) (A := upd (aOf [((8, 0), .mu 1 (zzg (escB (l.take i))))]) (8, 0) (some (.mu 1 ys))) (A' := aOf [((8, 0), .mu 1 ys)]) (κ := (8, 0)) (sz := 1) (n := ys.length) (ar := .mu 1 ys) (zzc _ _ _) rfl
     by_cases hc : c = 0
     · have hb := y0a hc
       rw [if_pos hc] at hx
       repeat' (first|(with_reducible first|refine vSq fun K hK=>?_|apply vRg|apply vBl|apply vSc|apply vIf|apply vSk|apply vEx|apply vRt|((first|apply gNt|apply gCs)<;>(intro h;try simp only[h]))|((first|apply hK|(clear hK K;first|apply hK|(clear hK K;first|apply hK|(clear hK K;apply hK))));clear hK K)|(refine todo ?_;simp +decide only[go_sem, hg, hd, hnx, hb]))|(refine y9p (els := zzg (escB (l.take i))) (l := [0, 255]) Tryz.appBytes Tryz.strS rfl (by rw [hbl]; show (_ + 2) * 1 ≤ _; omega) ?_))
       have e1 : (zzg (escB (l.take i))).length + 2 = (zzg (escB (l.take (i + 1)))).length := by rw [hx, zqz, zqz, Zla]; rfl
       have e2 : zzg (escB (l.take i)) ++ zzg [0, 255] = zzg (escB (l.take (i + 1))) := by rw [hx, zk6]
       refine zzi hlt Zti (zzb ?_ ?_ ?_) <;> simp +decide only [go_sem, e1, e2, w2]
     · have hb := yjs hc
       rw [if_neg hc] at hx
       have e2 : zzg (escB (l.take i)) ++ [[D.lit (.int .u8 ((c.toNat : Nat) : Int))]] = zzg (escB (l.take (i + 1))) := by rw [hx, ← zk6]; rfl
       repeat' (first|(with_reducible first|refine vSq fun K hK=>?_|apply vRg|apply vBl|apply vSc|apply vIf|apply vSk|apply vEx|apply vRt|((first|apply gNt|apply gCs)<;>(intro h;try simp only[h]))|((first|apply hK|(clear hK K;first|apply hK|(clear hK K;first|apply hK|(clear hK K;apply hK))));clear hK K)|(refine todo ?_;simp +decide only[go_sem, hg, hd, hnx, hb]))|(refine W_mt Tryz.appBytes (els := zzg (escB (l.take i))) rfl rfl rfl (zqk rfl) (by rw [hbl]; show (_ + 1) * 1 ≤ _; omega) ?_))
       have e1 : (zzg (escB (l.take i))).length + 1 = (zzg (escB (l.take (i + 1)))).length := by rw [hx, zqz, zqz, Zla]; rfl
       refine zzi hlt Zti (zzb ?_ ?_ ?_) <;> simp +decide only [go_sem, e1, e2, w2]
   · have hd := zzf hge
     have ei : i = l.length := by omega
     subst ei
     rw [List.take_length] at *
     have e2 : zzg (escB l) ++ zzg [0, 1] = zzg (escB l ++ [0, 1]) := by rw [zk6]
     have hcv : z3a Tryz.prog (upd (aOf [((8, 0), .mu 1 (zzg (escB l)))]) (8, 0) (some (.mu 1 (zzg (escB l) ++ zzg [0, 1])))) 111 9 (.c (.mt (8, 0) 1 ((zzg (escB l)).length + (1 + 1)))) = some (.c (.d (dS (escB l ++ [0, 1])))) :=
      yjw Tryz.bytesT Tryz.underlying9 (by rw [hbl, Zla]; rfl) (by rw [zzc, e2])
     repeat' (first|(with_reducible first|refine vSq fun K hK=>?_|apply vRg|apply vBl|apply vSc|apply vIf|apply vSk|apply vEx|apply vRt|((first|apply gNt|apply gCs)<;>(intro h;try simp only[h]))|((first|apply hK|(clear hK K;first|apply hK|(clear hK K;first|apply hK|(clear hK K;apply hK))));clear hK K)|(refine todo ?_;simp +decide only[go_sem, hd, hcv]))|(refine y9p (els := zzg (escB l)) (l := [0, 1]) Tryz.appBytes Tryz.strS rfl (by rw [hbl]; show (_ + 2) * 1 ≤ _; omega) ?_))
     exact zzs rfl rfl
theorem yjt {m : Nat} (h : m < 18446744073709551616) : (BitVec.ofInt 64 (m : Int)).toNat = m := by
 rw [BitVec.toNat_ofInt]
 omega
theorem u64_in {m : Nat} (h : m < 18446744073709551616) : IntKind.u64.wrap (m : Int) = (m : Int) := by rw [IntKind.wrap_u64]; omega
theorem y8j {m : Nat} (h : m < 18446744073709551616) : m ^^^ 9223372036854775808 = (m + 9223372036854775808) % 18446744073709551616 := by
 have e1 : (m ^^^ 9223372036854775808) % 2 ^ 63 = m % 2 ^ 63 := by
  rw [Nat.xor_mod_two_pow]
  show (m % 2 ^ 63) ^^^ 0 = _
  rw [Nat.xor_zero]
 have e2 : (m ^^^ 9223372036854775808) / 2 ^ 63 = (m / 2 ^ 63) ^^^ 1 := by
  rw [← Nat.shiftRight_eq_div_pow, Nat.shiftRight_xor_distrib, Nat.shiftRight_eq_div_pow]
  rfl
 have e3 := Nat.div_add_mod (m ^^^ 9223372036854775808) (2 ^ 63)
 rw [e1, e2] at e3
 have h1 : m / 2 ^ 63 = 0 ∨ m / 2 ^ 63 = 1 := by omega
 rcases h1 with h1 | h1
 · rw [h1] at e3
   have : (0 ^^^ 1 : Nat) = 1 := rfl
   rw [this] at e3
   omega
 · rw [h1] at e3
   have : (1 ^^^ 1 : Nat) = 0 := rfl
   rw [this] at e3
   omega
theorem y3w {m : Nat} (h : m < 18446744073709551616) : iXor .u64 (m : Int) 9223372036854775808 = ((u64N ((m : Int) + 9223372036854775808) : Nat) : Int) := by
 have h2 : m ^^^ 9223372036854775808 < 18446744073709551616 := Nat.xor_lt_two_pow (n := 64) h (by decide)
 unfold iXor
 rw [BitVec.toNat_xor]
 show IntKind.u64.wrap (((BitVec.ofInt 64 (m : Int)).toNat ^^^ 9223372036854775808 : Nat) : Int) = _
 rw [yjt h, u64_in h2, y8j h, ← z9t, IntKind.wrap_u64]
 omega
theorem y6l {m : Nat} (h : m < 18446744073709551616) : m &&& 9223372036854775808 = if 9223372036854775808 ≤ m then 9223372036854775808 else 0 := by
 have e1 : (m &&& 9223372036854775808) % 2 ^ 63 = 0 := by
  rw [Nat.and_mod_two_pow]
  show (m % 2 ^ 63) &&& 0 = _
  rw [Nat.and_zero]
 have e2 : (m &&& 9223372036854775808) / 2 ^ 63 = (m / 2 ^ 63) &&& 1 := by
  rw [← Nat.shiftRight_eq_div_pow, Nat.shiftRight_and_distrib, Nat.shiftRight_eq_div_pow]
  rfl
 have e3 := Nat.div_add_mod (m &&& 9223372036854775808) (2 ^ 63)
 rw [e1, e2] at e3
 have h1 : m / 2 ^ 63 = 0 ∨ m / 2 ^ 63 = 1 := by omega
 rcases h1 with h1 | h1
 · rw [h1] at e3
   have : (0 &&& 1 : Nat) = 0 := rfl
   rw [this] at e3
   rw [if_neg (by omega)]
   omega
 · rw [h1] at e3
   have : (1 &&& 1 : Nat) = 1 := rfl
   rw [this] at e3
   rw [if_pos (by omega)]
   omega
theorem y3u {m : Nat} (h : m < 18446744073709551616) : decide (0 < iAnd .u64 (m : Int) 9223372036854775808) = decide (9223372036854775808 ≤ (m : Int)) := by
 unfold iAnd
 rw [BitVec.toNat_and]
 show decide (0 < IntKind.u64.wrap (((BitVec.ofInt 64 (m : Int)).toNat &&& 9223372036854775808 : Nat) : Int)) = _
 rw [yjt h, y6l h]
 by_cases h1 : 9223372036854775808 ≤ m
 · rw [if_pos h1, u64_in (by omega), decide_eq_true (by omega), decide_eq_true (by omega)]
 · rw [if_neg h1, u64_in (by omega), decide_eq_false (by omega), decide_eq_false (by omega)]
theorem y7e {m : Nat} (h : m < 9223372036854775808) : iOr .u64 (m : Int) 9223372036854775808 = ((m : Int) + 9223372036854775808) := by
 have e : 9223372036854775808 + m = 9223372036854775808 ||| m := Nat.two_pow_add_eq_or_of_lt (i := 63) h 1
 unfold iOr
 rw [BitVec.toNat_or]
 show IntKind.u64.wrap (((BitVec.ofInt 64 (m : Int)).toNat ||| 9223372036854775808 : Nat) : Int) = _
 rw [yjt (by omega), Nat.or_comm, ← e, u64_in (by omega)]
 omega
theorem y3v {m : Nat} (h : m < 18446744073709551616) : iNot .u64 (m : Int) = 18446744073709551615 - (m : Int) := by
 unfold iNot iXor
 have e1 : (BitVec.ofInt IntKind.u64.bits (if IntKind.u64.signed = true then -1 else IntKind.u64.max)) = BitVec.allOnes 64 := by
  show BitVec.ofInt 64 18446744073709551615 = BitVec.allOnes 64
  rfl
 rw [e1]
 have e2 : BitVec.allOnes 64 ^^^ BitVec.ofInt 64 (m : Int) = ~~~ (BitVec.ofInt 64 (m : Int)) := BitVec.allOnes_xor
 show IntKind.u64.wrap ((BitVec.allOnes 64 ^^^ BitVec.ofInt 64 (m : Int)).toNat : Int) = _
 rw [e2, BitVec.toNat_not, yjt h, u64_in (by omega)]
 omega
def z7b (b : Int) : Int := if decide (9223372036854775808 ≤ b) = true then 18446744073709551615 - b else b + 9223372036854775808
set_option maxHeartbeats 8000000 in
theorem Tryz.kTurned (m : Nat) (h : m < 18446744073709551616) : zzr Tryz.prog 49 [pD (.lit (.int .u64 m))] (.one (.d (.lit (.int .u64 (z7b m))))) := by
 refine Tryz.pure (md := []) Tryz.func49 rfl Tryz.call49 (by kernel_rfl) (by rfl) (by exact Zle rfl) ?_
 have h1 := y3u h
 have h2 := y3v h
 by_cases hb : 9223372036854775808 ≤ m
 · have hb' : decide (9223372036854775808 ≤ (m : Int)) = true := decide_eq_true (by omega)
   have hx : zks (Pure.pure (Value.int IntKind.u64 (Go.bits .xor IntKind.u64 IntKind.u64.max (m : Int)))) = some (.int .u64 (18446744073709551615 - (m : Int))) := by rw [← h2]; rfl
   repeat' (first|(with_reducible first|refine vSq fun K hK=>?_|apply vRg|apply vBl|apply vSc|apply vIf|apply vSk|apply vEx|apply vRt|((first|apply gNt|apply gCs)<;>(intro h;try simp only[h]))|((first|apply hK|(clear hK K;first|apply hK|(clear hK K;first|apply hK|(clear hK K;apply hK))));clear hK K)|(refine todo ?_;simp +decide only[go_sem, h1, hx, hb'])))
   refine zzs rfl ?_
   simp +decide only [go_sem, z7b, hb']
 · have hb' : decide (9223372036854775808 ≤ (m : Int)) = false := decide_eq_false (by omega)
   have h3 := y7e (show m < 9223372036854775808 by omega)
   repeat' (first|(with_reducible first|refine vSq fun K hK=>?_|apply vRg|apply vBl|apply vSc|apply vIf|apply vSk|apply vEx|apply vRt|((first|apply gNt|apply gCs)<;>(intro h;try simp only[h]))|((first|apply hK|(clear hK K;first|apply hK|(clear hK K;first|apply hK|(clear hK K;apply hK))));clear hK K)|(refine todo ?_;simp +decide only[go_sem, h1, h3, hb'])))
   refine zzs rfl ?_
   simp +decide only [go_sem, z7b, hb']
theorem Tryz.kOne1 (v : Val) (l : List UInt8) (hl : l.length ≤ 16777216) {H : HMap} (hw : Wf H noA) (hH : H 1 = some (v.enc.map .d)) : zqf Tryz.prog 47 1000 H noA [pD (dS l), .c (.ptr 1 0)] (pD (dS (yvf v :: l))) H noA := by
 refine zqh (E := envOf Tryz.prog [] 1000 [] []) (zzx Tryz.mixed) Tryz.func47 rfl Tryz.call47 (by kernel_rfl) (by exact Zle rfl) (fun hab => ?_)
 have h1 : (1 + l.length ≤ 9223372036854775807) = True := eq_true (by omega)
 repeat' (first|(with_reducible first|refine vSq fun K hK=>?_|apply vRg|apply vBl|apply vSc|apply vIf|apply vSk|apply vEx|apply vRt|((first|apply gNt|apply gCs)<;>(intro h;try simp only[h]))|((first|apply hK|(clear hK K;first|apply hK|(clear hK K;first|apply hK|(clear hK K;apply hK))));clear hK K)|(refine todo ?_;simp +decide only[go_sem, hH, one8, z0t Tryz.bytesT, h1, List.length_cons, List.length_nil, Nat.zero_add, List.cons_append, List.nil_append])))
 exact zql (zzu (p := pD (dS (yvf v :: l))) rfl (by unfold zzn; simp +decide only [go_sem, yvf])) (by simp +decide only [go_sem]) Zti hw (fun _ _ => rfl) (fun _ _ => rfl)
theorem Tryz.kOne (v : Val) (hs : v.str.size ≤ 1048576) (hb0 : 0 ≤ v.bits) (hb1 : v.bits < 18446744073709551616) : zzr Tryz.prog 25 [pA v.enc] (.one (.d (dS (oneB v)))) := by
 obtain ⟨k, n, b, s⟩ := v
 obtain ⟨l, rfl⟩ := yjf s
 rw [zwr] at hs
 simp only at hb0 hb1
 obtain ⟨m, rfl⟩ : ∃ m : Nat, b = (m : Int) := ⟨b.toNat, by omega⟩
 have hm : m < 18446744073709551616 := by omega
 have k1 := Tryz.kNumber (u64N (IntKind.u64.wrap n + 9223372036854775808))
 have hx : iXor .u64 (IntKind.u64.wrap n) 9223372036854775808 = ((u64N (IntKind.u64.wrap n + 9223372036854775808) : Nat) : Int) := by
  rw [z9t n]; exact y3w (z9u n)
 have k2 := Tryz.kTurned m hm
 have k3 := Tryz.kNumber (u64N (z7b m))
 have ht : z7b m = ((u64N (z7b m) : Nat) : Int) := by
  rw [← z9t, IntKind.wrap_u64]
  unfold z7b
  split <;> simp_all <;> omega
 rw [ht] at k2
 have k4 := Tryz.kEscaped l (by omega)
 have hwf : Wf (upd noH 1 (some ((Val.enc ⟨k, n, m, ⟨l.toArray⟩⟩).map .d))) noA := by
  intro id cs c h hc
  unfold upd at h
  split at h
  · cases h
    obtain ⟨d, _, rfl⟩ := List.mem_map.1 hc
    exact Zti
  · cases h
 have w := fun (l' : List UInt8) (h : l'.length ≤ 16777216) => Tryz.kOne1 ⟨k, n, m, ⟨l.toArray⟩⟩ l' h hwf rfl
 have hel := z4q l
 have w1 := w [b8 n] (by simp)
 have w2 := w (zk9 (u64N (IntKind.u64.wrap n + 9223372036854775808))) (by rw [zj0]; omega)
 have w3 := w (zk9 (u64N (z7b m))) (by rw [zj0]; omega)
 have w4 := w (escB l ++ [0, 1]) (by rw [Zla]; simp; omega)
 have w5 := w [] (by simp)
 have ab : Above 1000 (upd noH 1 (some ((Val.enc ⟨k, n, m, ⟨l.toArray⟩⟩).map .d))) noA := fun i hi => ⟨by rw [zza _ _ (by omega)]; rfl, fun _ => rfl⟩
 have ht2 : (if decide (9223372036854775808 ≤ (m : Int)) = true then zk9 (u64N (18446744073709551615 - (m : Int))) else zk9 (u64N ((m : Int) + 9223372036854775808))) = zk9 (u64N (z7b m)) := by
  unfold z7b; split <;> rfl
 refine Tryz.pure (md := []) Tryz.func25 rfl Tryz.call25 (by kernel_rfl) (by rfl) (by exact Zle rfl) ?_
 repeat' (first|(with_reducible first|refine vSq fun K hK=>?_|apply vRg|apply vBl|apply vSc|apply vIf|apply vSk|apply vEx|apply vRt|((first|apply gNt|apply gCs)<;>(intro h;try simp only[h]))|((first|apply hK|(clear hK K;first|apply hK|(clear hK K;first|apply hK|(clear hK K;apply hK))));clear hK K)|(refine todo ?_;simp +decide only[go_sem, hx, one8, z0t Tryz.bytesT]))|refine zzd k1 rfl rfl (fun _ => rfl) ?_|refine zzd k2 rfl rfl (fun _ => rfl) ?_|refine zzd k3 rfl rfl (fun _ => rfl) ?_|refine zzd k4 rfl rfl (fun _ => rfl) ?_|refine z4e w1 rfl ab ?_|refine z4e w2 rfl ab ?_|refine z4e w3 rfl ab ?_|refine z4e w4 rfl ab ?_|refine z4e w5 rfl ab ?_)
 all_goals
  clear ht hx k1 k2 k3 k4 w w1 w2 w3 w4 w5 ab hwf
  refine zzs rfl ?_
  simp +decide only [go_sem, oneB, *]
theorem Tryz.kKeyRight (r : Row) (hr : r.length ≤ 4294967296) : zzr Tryz.prog 24 [pD (zz4 r)] (.one (dB (zx4 r))) := by
 refine Tryz.pure (md := []) Tryz.func24 rfl Tryz.call24 (by kernel_rfl) (by rfl) (by exact Zle rfl) ?_
 repeat' (first|(with_reducible first|refine vSq fun K hK=>?_|apply vRg|apply vBl|apply vSc|apply vIf|apply vSk|apply vEx|apply vRt|((first|apply gNt|apply gCs)<;>(intro h;try simp only[h]))|((first|apply hK|(clear hK K;first|apply hK|(clear hK K;first|apply hK|(clear hK K;apply hK))));clear hK K)|(refine todo ?_;simp +decide only[go_sem])))
 refine zzj r.length (fun i => zqi (r.take i) = true) (fun i => frame [(0, pD (zz4 r)), (5, pD (zz4 r)), (6, pD (.lit (.int .i64 r.length))), (7, pD (.lit (.int .i64 i)))] [] []) rfl ?_ ?_
 · refine zzb ?_ ?_ ?_ <;> simp +decide only [go_sem]
 · intro i hi hI
   rcases Zlg i r.length with hlt | hge
   · have hg := Zge hlt
     have hd := zze hlt
     have hw := zzl hlt hr
     generalize r[i] = v at hg
     repeat' (first|(with_reducible first|refine vSq fun K hK=>?_|apply vRg|apply vBl|apply vSc|apply vIf|apply vSk|apply vEx|apply vRt|((first|apply gNt|apply gCs)<;>(intro h;try simp only[h]))|((first|apply hK|(clear hK K;first|apply hK|(clear hK K;first|apply hK|(clear hK K;apply hK))));clear hK K)|(refine todo ?_;simp +decide only[go_sem, hg, hd, hw]))|refine zzd (Tryz.kValue v) rfl rfl (fun _ => rfl) ?_)
     · refine zzi hlt (zz8 hI hg h) (zzb ?_ ?_ ?_) <;> simp +decide only [go_sem]
     · refine zzs rfl ?_
       simp +decide only [go_sem, zqr hg h, zx4, zqi]
   · have hd := zzf hge
     rw [Ztl hge] at hI
     repeat' (first|(with_reducible first|refine vSq fun K hK=>?_|apply vRg|apply vBl|apply vSc|apply vIf|apply vSk|apply vEx|apply vRt|((first|apply gNt|apply gCs)<;>(intro h;try simp only[h]))|((first|apply hK|(clear hK K;first|apply hK|(clear hK K;first|apply hK|(clear hK K;apply hK))));clear hK K)|(refine todo ?_;simp +decide only[go_sem, hd])))
     all_goals (refine zzs rfl ?_; simp +decide only [go_sem, zx4, *])
def zwv (r : Row) : Prop := ∀ v ∈ r, 0 ≤ v.bits ∧ v.bits < 18446744073709551616
theorem Tryz.kKeyOf (r : Row) (hr : r.length ≤ 4294967296) (hok : zwv r) : zzr Tryz.prog 7 [pD (zz4 r)] (.one (.d (dS (keyB r)))) := by
 refine Tryz.pure (md := []) Tryz.func7 rfl Tryz.call7 (by kernel_rfl) (by rfl) (by exact Zle rfl) ?_
 repeat' (first|(with_reducible first|refine vSq fun K hK=>?_|apply vRg|apply vBl|apply vSc|apply vIf|apply vSk|apply vEx|apply vRt|((first|apply gNt|apply gCs)<;>(intro h;try simp only[h]))|((first|apply hK|(clear hK K;first|apply hK|(clear hK K;first|apply hK|(clear hK K;apply hK))));clear hK K)|(refine todo ?_;simp +decide only[go_sem]))|refine zzd (Tryz.kKeyRight r hr) rfl rfl (fun _ => rfl) ?_)
 all_goals try (refine zzs rfl ?_; simp +decide only [go_sem, keyB, *]; done)
 · have hk : zx4 r = true := by assumption
   have e : keyB r = r.flatMap oneB ++ [0] := by rw [keyB, if_pos hk]
   have hrr : zqi r = true := by unfold zx4 at hk; simp at hk; exact hk.1
   have hl8 : r.length ≤ 8 := by unfold zx4 at hk; simp at hk; omega
   have hsz := z1y hrr
   refine zzj r.length (fun _ => True) (fun i => frame [(9, pD (zz4 r)), (3, pD (dS ((r.take i).flatMap oneB))), (10, pD (.lit (.int .i64 r.length))), (11, pD (.lit (.int .i64 i)))] [] []) Zti ?_ ?_
   · refine zzb ?_ ?_ ?_ <;> simp +decide only [go_sem, List.flatMap_nil]
   · intro i hi _
     have hfl := z4s (r.take i) (fun v hv => hsz v (List.mem_of_mem_take hv))
     rw [Zlt] at hfl
     rcases Zlg i r.length with hlt | hge
     · have hg := Zge hlt
       have hd := zze hlt
       have hw := zzl hlt hr
       generalize r[i] = v at hg
       have hv := hsz v (Zme hg)
       have hbb := hok v (Zme hg)
       have ho := z9d v hv
       have hl : ((List.flatMap oneB (r.take i)).length + (oneB v).length ≤ 9223372036854775807) = True := eq_true (by omega)
       repeat' (first|(with_reducible first|refine vSq fun K hK=>?_|apply vRg|apply vBl|apply vSc|apply vIf|apply vSk|apply vEx|apply vRt|((first|apply gNt|apply gCs)<;>(intro h;try simp only[h]))|((first|apply hK|(clear hK K;first|apply hK|(clear hK K;first|apply hK|(clear hK K;apply hK))));clear hK K)|(refine todo ?_;simp +decide only[go_sem, hg, hd, hw, hl]))|refine zzd (Tryz.kOne v (by omega) hbb.1 hbb.2) rfl rfl (fun _ => rfl) ?_)
       refine zzi hlt Zti (zzb ?_ ?_ ?_) <;> simp +decide only [go_sem, yzr hg]
     · have hd := zzf hge
       rw [Ztl hge] at *
       have hl : ((List.flatMap oneB r).length + 1 ≤ 9223372036854775807) = True := eq_true (by omega)
       repeat' (first|(with_reducible first|refine vSq fun K hK=>?_|apply vRg|apply vBl|apply vSc|apply vIf|apply vSk|apply vEx|apply vRt|((first|apply gNt|apply gCs)<;>(intro h;try simp only[h]))|((first|apply hK|(clear hK K;first|apply hK|(clear hK K;first|apply hK|(clear hK K;apply hK))));clear hK K)|(refine todo ?_;simp +decide only[go_sem, hd, hl, List.length_cons, List.length_nil, Nat.zero_add])))
       refine zzs rfl ?_
       simp +decide only [go_sem, e]
end Go.Proofs
