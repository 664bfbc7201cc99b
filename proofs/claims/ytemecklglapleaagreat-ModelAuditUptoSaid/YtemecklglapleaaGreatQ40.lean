/-
  Parts of the proof, laid together: PwKg, PwKh, PwHa, PwHb.
-/
import Derived.Test.YtemecklglapleaaGreatQ39
import Derived.Test.YtemecklglapleaaGreatQ34

set_option maxRecDepth 30000
set_option maxHeartbeats 16000000
namespace Go.Proofs
open Go.PW
def allQ (q : Qy) (l : List Txn) (s : Sch) (hz : Int) : List XR := if (q.kind == 3) = true then z6z q l s q.lo q.hi else if (q.kind == 4) = true then z6z q l s hz (zxd l + 1) else atS q l s
theorem Tryz.kMAll (q : Qy) (l : List Txn) (s : Sch) (hz : Int) (hl : LSm l q.tab) (hs : s.sz) (hk : q.key.length ≤ 1048576) (hbits : zwv q.key) (hwl : IntKind.i64.wrap (zxd l + 1) = zxd l + 1) {H : HMap} (hD : z5m H) (hid : H 19 = some ((askE q l s hz).map .d)) :
 zqf Tryz.prog 37 1000 H noA [.c (.ptr 19 0)] (pD (z1e (allQ q l s hz))) H noA := by
 refine zqh (E := envOf Tryz.prog [56, 57, 9000000 + 16] 1000 [] []) (zzx Tryz.mixed) Tryz.func37 rfl Tryz.call37 (by kernel_rfl) (by exact Zle rfl) (fun hab => ?_)
 have ab2 : Above 2000 H noA := fun i hi => hab i (by omega)
 have k1 := Tryz.kLastM l hl.len
 have ka := Tryz.kAtX q l s hz hl hs hD hid
 have kb1 := Tryz.kBetwX q l s hz q.lo q.hi hl hs hk hbits hD hid
 have kb2 := Tryz.kBetwX q l s hz hz (zxd l + 1) hl hs hk hbits hD hid
 have fin : ∀ {fn : Func} {S : St} (r : List XR), zve Tryz.prog S fn.results.toList = some (pD (z1e r)) → S.H = H → S.A = noA → RetR Tryz.prog fn H noA (pD (z1e r)) H noA S := fun r h1 h2 h3 =>
  zql h1 (wk_c (.inr (.inl ⟨rfl, Zti⟩))) Zti (zj9 hD) (fun i hi => by rw [h2]) (fun _ _ => by rw [h3])
 cases e3 : (q.kind == 3) with
 | true =>
   have e : allQ q l s hz = z6z q l s q.lo q.hi := by unfold allQ; rw [if_pos e3]
   rw [e]
   repeat' (first|(with_reducible first|refine vSq fun K hK=>?_|apply vRg|apply vBl|apply vSc|apply vIf|apply vSk|apply vEx|apply vRt|((first|apply gNt|apply gCs)<;>(intro h;try simp only[h]))|((first|apply hK|(clear hK K;first|apply hK|(clear hK K;first|apply hK|(clear hK K;apply hK))));clear hK K)|(refine todo ?_;simp +decide only[go_sem, hid, e3]))|refine zz7 rfl kb1 rfl ab2 ?_)
   refine fin _ (zzu rfl (by unfold zzn; simp +decide only [go_sem])) rfl rfl
 | false =>
   cases e4 : (q.kind == 4) with
   | true =>
     have e : allQ q l s hz = z6z q l s hz (zxd l + 1) := by unfold allQ; rw [e3, if_neg (by simp), if_pos e4]
     rw [e]
     repeat' (first|(with_reducible first|refine vSq fun K hK=>?_|apply vRg|apply vBl|apply vSc|apply vIf|apply vSk|apply vEx|apply vRt|((first|apply gNt|apply gCs)<;>(intro h;try simp only[h]))|((first|apply hK|(clear hK K;first|apply hK|(clear hK K;first|apply hK|(clear hK K;apply hK))));clear hK K)|(refine todo ?_;simp +decide only[go_sem, hid, e3, e4, hwl]))|refine zz7 rfl kb2 rfl ab2 ?_|refine zzq k1 rfl rfl rfl rfl ?_)
     refine fin _ (zzu rfl (by unfold zzn; simp +decide only [go_sem])) rfl rfl
   | false =>
     have e : allQ q l s hz = atS q l s := by unfold allQ; rw [e3, e4, if_neg (by simp), if_neg (by simp)]
     rw [e]
     repeat' (first|(with_reducible first|refine vSq fun K hK=>?_|apply vRg|apply vBl|apply vSc|apply vIf|apply vSk|apply vEx|apply vRt|((first|apply gNt|apply gCs)<;>(intro h;try simp only[h]))|((first|apply hK|(clear hK K;first|apply hK|(clear hK K;first|apply hK|(clear hK K;apply hK))));clear hK K)|(refine todo ?_;simp +decide only[go_sem, hid, e3, e4]))|refine zz7 rfl ka rfl ab2 ?_)
     refine fin _ (zzu rfl (by unfold zzn; simp +decide only [go_sem])) rfl rfl
theorem Tryz.allQ_rows {q : Qy} {l : List Txn} {s : Sch} {hz : Int} (hl : LSm l q.tab) : ∀ r ∈ allQ q l s hz, r.vals.length ≤ 1048576 := by
 have hb : ∀ lo hi, ∀ r ∈ z6z q l s lo hi, r.vals.length ≤ 1048576 := fun lo hi r hr => by
  unfold z6z at hr
  split at hr
  · obtain ⟨z, hz, hr⟩ := List.mem_flatMap.1 hr
    obtain ⟨p, hp, rfl⟩ := List.mem_map.1 hr
    exact (z2w (P := fun ps => ps.length ≤ 131072 ∧ ∀ p ∈ ps, p.row.length ≤ 1048576) (fun t => Tryz.hadS_sm (s := s) hl (keyB q.key) t) _ z hz).2 p hp
  · cases hr
 intro r hr
 unfold allQ at hr
 split at hr
 · exact hb _ _ r hr
 · split at hr
   · exact hb _ _ r hr
   · obtain ⟨k, _, hr⟩ := List.mem_flatMap.1 hr
     obtain ⟨p, hp, rfl⟩ := List.mem_map.1 hr
     exact z6s p ((List.mem_filter.1 hp).1)
theorem Tryz.allQ_len {q : Qy} {l : List Txn} {s : Sch} {hz : Int} (hl : LSm l q.tab) : (allQ q l s hz).length ≤ 137439215616 := by
 have hb : ∀ lo hi, (z6z q l s lo hi).length ≤ 137439215616 := fun lo hi => by
  unfold z6z
  split
  · have h1 := z10 (k := keyB q.key) (zs := z1m q l s lo hi) (fun z hz => (z2w (P := fun ps => ps.length ≤ 131072 ∧ ∀ p ∈ ps, p.row.length ≤ 1048576) (fun t => Tryz.hadS_sm (s := s) hl (keyB q.key) t) _ z hz).1) (z1m q l s lo hi).length
    rw [List.take_length] at h1
    have h2 : (z1m q l s lo hi).length ≤ (z3c l lo hi).length - 1 := z45 _ _ _
    have h3 : (z3c l lo hi).length ≤ 1048578 := by
     have h1 := z5l l lo hi
     have h2 := hl.len
     unfold z3c
     rw [Zla, List.length_cons, List.length_singleton]
     omega
    have h4 : (z1m q l s lo hi).length * 131072 ≤ 1048577 * 131072 := Nat.mul_le_mul_right _ (by omega)
    exact Nat.le_trans h1 (Nat.le_trans h4 (by decide))
  · exact Nat.zero_le _
 unfold allQ
 split
 · exact hb _ _
 · split
   · exact hb _ _
   · have h1 := Tryz.atAll_len (s := s) hl (zw1 l q.tab q.t)
     have h2 := Tryz.keysS_len hl q.t
     have h4 : (zw1 l q.tab q.t).length * 131072 ≤ 65536 * 131072 := Nat.mul_le_mul_right _ h2
     exact Nat.le_trans h1 (Nat.le_trans h4 (by decide))
theorem y3p {P : Program} {f : FuncId} {n : Nat} {H H2 H' : HMap} {A A' : AMap} {args : List PV} {v : PV} (h : zqf P f n H2 A args v H' A') (hs : ∀ id, H id = none ↔ H2 id = none)
 (hf : ∀ id cs cs2, H id = some cs → H2 id = some cs2 → cs.length = cs2.length ∧ ∀ (k : Nat) (c d : CV), cs[k]? = some c → cs2[k]? = some d → c = d ∨ ∃ els, c = .full els ∧ d = .d (.sl els)) : zqf P f n H A args v H' A' := by
 intro g w vals hm hd hab har
 refine h g w vals ⟨hm.com, fun id b hb => ?_, hm.tok, hm.own⟩ (fun id hi => hd id ((hs id).2 hi)) (fun i hi => ⟨(hs i).1 (hab i hi).1, (hab i hi).2⟩) har
 obtain ⟨h1, h2, cs, vs, e, fz, h3, h4, h5, h6⟩ := hm.var id b hb
 cases h7 : H2 id with
 | none => rw [(hs id).2 h7] at h3; cases h3
 | some cs2 =>
   obtain ⟨e1, e2⟩ := hf id cs cs2 h3 h7
   refine ⟨h1, h2, cs2, vs, e, fz, rfl, h4, h5, h6.1.trans e1, fun k d hk => ?_⟩
   have hkl := (List.getElem?_eq_some_iff.1 hk).1
   obtain ⟨u, hu, hr⟩ := h6.2 k _ (Zge (show k < cs.length by omega))
   refine ⟨u, hu, ?_⟩
   rcases e2 k _ d (Zge (show k < cs.length by omega)) hk with e3 | ⟨els, e3, e4⟩
   · rw [← e3]; exact hr
   · rw [e3] at hr
     rw [e4]
     exact hr.1
def runR (q : Qy) (l : List Txn) (hz : Int) : List XR := if zvr q l hz = 0 then allQ q l (schQ q l) hz else []
def runH (q : Qy) (l : List Txn) (s : Sch) (hz : Int) : HMap := upd (upd noH 5 (some (q.enc.map .d))) 19 (some ((askE q l s hz).map .d))
theorem yqt (q : Qy) (l : List Txn) (s : Sch) (hz : Int) : z5m (runH q l s hz) := fun id cs h c hc => by
 unfold runH upd at h
 split at h
 · cases h
   obtain ⟨d, _, rfl⟩ := List.mem_map.1 hc
   exact ⟨d, rfl⟩
 · split at h
   · cases h
     obtain ⟨d, _, rfl⟩ := List.mem_map.1 hc
     exact ⟨d, rfl⟩
   · cases h
def ywd (q : Qy) (l : List Txn) (hz : Int) : HMap := upd (upd noH 5 (some (q.enc.map .d))) 19 (some [.d (dI q.kind), .d (dS q.tab), .d (zz4 q.key), .d (dI q.t), .d (dI q.v), .d (dI q.lo), .d (dI q.hi), .d (.sl []), .d (.sl []), .d (dI 0), .d (.lit (.bool false)), .d (zq1 l), .d (dS []), .full [], .d (dI 0), .d (dI hz)])
theorem y2d {P : Program} {f : FuncId} {n : Nat} {H' : HMap} {args : List PV} {v : PV} {q : Qy} {l : List Txn} {hz : Int} (h : zqf P f n (runH q l zvc hz) noA args v H' noA) : zqf P f n (ywd q l hz) noA args v H' noA := by
 refine y3p h (fun id => ?_) (fun id cs cs2 h1 h2 => ?_)
 · unfold ywd runH upd
   split
   · exact ⟨fun h => (by cases h), fun h => (by cases h)⟩
   · exact Iff.rfl
 · unfold ywd upd at h1
   unfold runH upd at h2
   split at h1
   · rename_i e
     rw [if_pos e] at h2
     cases h1; cases h2
     refine ⟨rfl, fun k c d hc hd => ?_⟩
     match k, hc, hd with
     | 0, hc, hd => cases hc; cases hd; exact .inl rfl
     | 1, hc, hd => cases hc; cases hd; exact .inl rfl
     | 2, hc, hd => cases hc; cases hd; exact .inl rfl
     | 3, hc, hd => cases hc; cases hd; exact .inl rfl
     | 4, hc, hd => cases hc; cases hd; exact .inl rfl
     | 5, hc, hd => cases hc; cases hd; exact .inl rfl
     | 6, hc, hd => cases hc; cases hd; exact .inl rfl
     | 7, hc, hd => cases hc; cases hd; exact .inl rfl
     | 8, hc, hd => cases hc; cases hd; exact .inl rfl
     | 9, hc, hd => cases hc; cases hd; exact .inl rfl
     | 10, hc, hd => cases hc; cases hd; exact .inl rfl
     | 11, hc, hd => cases hc; cases hd; exact .inl rfl
     | 12, hc, hd => cases hc; cases hd; exact .inl rfl
     | 13, hc, hd => cases hc; cases hd; exact .inr ⟨_, rfl, rfl⟩
     | 14, hc, hd => cases hc; cases hd; exact .inl rfl
     | 15, hc, hd => cases hc; cases hd; exact .inl rfl
     | k + 16, hc, _ => simp at hc
   · rename_i e
     rw [if_neg e] at h2
     rw [h1] at h2
     cases h2
     exact ⟨rfl, fun k c d hc hd => .inl (by rw [hc] at hd; exact Option.some.inj hd)⟩
theorem y4t (q : Qy) (l : List Txn) (s s' : Sch) (hz : Int) : upd (runH q l s hz) 19 (some ((askE q l s' hz).map .d)) = runH q l s' hz := by
 funext i
 unfold runH upd
 split <;> rfl
theorem y2v {q : Qy} {l : List Txn} {hz : Int} (s0 : Sch) (h : zvr q l hz = 0) : wrgS q l s0 hz = schQ q l := by
 have hf : farQ q l hz = false := by
  unfold zvr at h
  unfold farQ
  cases h1 : (nowQ q && decide (tQ q l < hz)) with
  | true => rw [h1, if_pos rfl] at h; cases h
  | false =>
    rw [h1, if_neg (by simp)] at h
    cases h2 : (nowQ q && decide (zxd l < tQ q l)) with
    | true => rw [h2, if_pos rfl] at h; cases h
    | false => rfl
 unfold wrgS
 rw [hf, if_neg (by simp)]
theorem Tryz.kRun (q : Qy) (l : List Txn) (hz : Int) (hl : LSm l q.tab) (hs : (schQ q l).sz) (hk : q.key.length ≤ 1048576) (hbits : zwv q.key) (hwl : IntKind.i64.wrap (zxd l + 1) = zxd l + 1) :
 zzr Tryz.prog 15 [pD (zq1 l), pD (dI hz), pA q.enc] (.tup [.d (z1e (runR q l hz)), .d (dI (zvr q l hz))]) := by
 refine zvs (E := envOf Tryz.prog [36, 37, 9000000 + 38, 9000000 + 39] 0 [] []) (zzx Tryz.mixed) Tryz.func15 rfl Tryz.call15 (by kernel_rfl) (by rfl) (by exact Zle rfl) ?_
 have h0 : upd (upd noH 5 (some (q.enc.map .d))) 19 (some [.d (dI q.kind), .d (dS q.tab), .d (zz4 q.key), .d (dI q.t), .d (dI q.v), .d (dI q.lo), .d (dI q.hi), .d (.sl []), .d (.sl []), .d (dI 0), .d (.lit (.bool false)), .d (zq1 l), .d (dS []), .full [], .d (dI 0), .d (dI hz)]) = ywd q l hz := rfl
 simp only [go_sem] at h0
 have ab0 : Above 1000 (ywd q l hz) noA := fun i hi => ⟨by unfold ywd; rw [zza _ _ (by omega), zza _ _ (by omega)]; rfl, fun _ => rfl⟩
 have ab : ∀ s, Above 1000 (runH q l s hz) noA := fun s i hi => ⟨by unfold runH; rw [zza _ _ (by omega), zza _ _ (by omega)]; rfl, fun _ => rfl⟩
 have kw := Tryz.kWrong q l zvc hz hl hk hwl (yqt q l zvc hz) rfl
 rw [y4t] at kw
 have kw := y2d kw
 cases he : (zvr q l hz != 0) with
 | true =>
   have er : runR q l hz = [] := by unfold runR; rw [if_neg (by simpa using he)]
   rw [er]
   repeat' (first|(with_reducible first|refine vSq fun K hK=>?_|apply vRg|apply vBl|apply vSc|apply vIf|apply vSk|apply vEx|apply vRt|((first|apply gNt|apply gCs)<;>(intro h;try simp only[h]))|((first|apply hK|(clear hK K;first|apply hK|(clear hK K;first|apply hK|(clear hK K;apply hK))));clear hK K)|(refine todo ?_;simp +decide only[go_sem, he]))|((rw [h0]; refine zz7 rfl kw rfl ab0 ?_)))
   refine zkv none rfl (p := .c (.full [])) (p' := pD (dI (zvr q l hz))) ?_ ?_ (.inl rfl) (.inl rfl)
   · unfold zzn; simp +decide only [go_sem]
   · unfold zzn; simp +decide only [go_sem]
 | false =>
   have he0 : zvr q l hz = 0 := by simpa using he
   have er : runR q l hz = allQ q l (schQ q l) hz := by unfold runR; rw [if_pos he0]
   rw [y2v zvc he0, he0] at kw
   rw [er, he0]
   have ka := Tryz.kMAll q l (schQ q l) hz hl hs hk hbits hwl (yqt q l (schQ q l) hz) rfl
   have hrows := Tryz.allQ_rows (s := schQ q l) (hz := hz) hl
   have hlen := Tryz.allQ_len (s := schQ q l) (hz := hz) hl
   have hv5 : ∀ s, runH q l s hz 5 = some (q.enc.map .d) := fun _ => rfl
   simp only [go_sem] at hv5
   generalize allQ q l (schQ q l) hz = rows at *
   repeat' (first|(with_reducible first|refine vSq fun K hK=>?_|apply vRg|apply vBl|apply vSc|apply vIf|apply vSk|apply vEx|apply vRt|((first|apply gNt|apply gCs)<;>(intro h;try simp only[h]))|((first|apply hK|(clear hK K;first|apply hK|(clear hK K;first|apply hK|(clear hK K;apply hK))));clear hK K)|(refine todo ?_;simp +decide only[go_sem]))|((rw [h0]; refine zz7 rfl kw rfl ab0 ?_))|refine zz7 rfl ka rfl (ab _) ?_)
   refine zzj rows.length (fun _ => True) (fun i => frame [(5, .c (.ptr 5 0)), (11, pD (z1e (rows.drop i))), (10, .c (.own (71, 0) ((rows.take i).map XR.enc)))] [(5, q.enc.map .d)] [((71, 0), .co 6 (rows.take i).length)]) Zti ?_ ?_
   · refine zzb ?_ ?_ ?_ <;> simp +decide only [go_sem, hv5, List.drop_zero, List.take_zero]
     · exact ⟨zzh (by simp [hOf]), zju rfl rfl⟩
   · intro i hi _
     rcases Zlg i rows.length with hlt | hge
     · have hg := Zge hlt
       have hdr := List.drop_eq_getElem_cons hlt
       have htk := zzw hg
       have hx := hrows _ (Zme hg)
       generalize rows[i] = x at hg hdr htk hx
       have hrl : (rows.drop (i + 1)).length = rows.length - (i + 1) := List.length_drop
       have hnn : ∀ m, Weak noH noA m (frame [(5, .c (.ptr 5 0)), (11, pD (z1e (rows.drop (i + 1)))), (10, .c (.own (71, 0) ((rows.take (i + 1)).map XR.enc)))] [(5, q.enc.map .d)] [((71, 0), .co 6 (rows.take (i + 1)).length)]) → PW.Next noH noA rows.length (fun _ => True) (fun i => frame [(5, .c (.ptr 5 0)), (11, pD (z1e (rows.drop i))), (10, .c (.own (71, 0) ((rows.take i).map XR.enc)))] [(5, q.enc.map .d)] [((71, 0), .co 6 (rows.take i).length)]) i m := fun m hm => zzi (I := fun _ => True) hlt Zti hm
       rw [hdr]
       rw [htk] at hnn
       have htl : (rows.take i).length = i := by rw [Zlt]; omega
       generalize rows.drop (i + 1) = rest at *
       generalize rows.take i = pre at *
       have kp := Tryz.kPass q x.vals
       have kj := Tryz.kProject q x.vals hx
       have hgt : ((0 : Int) < ((rest.length + 1 : Nat) : Int)) = True := eq_true (by omega)
       repeat' (first|(with_reducible first|refine vSq fun K hK=>?_|apply vRg|apply vBl|apply vSc|apply vIf|apply vSk|apply vEx|apply vRt|((first|apply gNt|apply gCs)<;>(intro h;try simp only[h]))|((first|apply hK|(clear hK K;first|apply hK|(clear hK K;first|apply hK|(clear hK K;apply hK))));clear hK K)|(refine todo ?_;simp +decide only[go_sem, hgt]))|refine zzq kp rfl rfl rfl rfl ?_|refine zzq kj rfl rfl rfl rfl ?_|refine zvh Tryz.appXRs rfl (l := 1) (h := rest.length + 1) (by simp [zz0, natOf?, intOf?]) (by simp [zz0]) (by omega) (by simp) (yq5 (x :: rest)) ?_|(refine zx1 Tryz.appXRs rfl (yq5 _) (zqk rfl) (by simp; omega) (by simp [aOf]) ?_))
       have htr : List.take (rest.length + 1 - 1) (rest.map XR.enc) = rest.map XR.enc := Ztl (by rw [List.length_map]; omega)
       refine hnn _ (zzb ?_ ?_ ?_) <;> simp +decide only [go_sem, htr]
       exact ⟨zzh (by simp [hOf]), zqb (by simp [aOf]) rfl⟩
     · rw [List.drop_of_length_le hge, Ztl hge]
       have hie : i = rows.length := by omega
       subst hie
       repeat' (first|(with_reducible first|refine vSq fun K hK=>?_|apply vRg|apply vBl|apply vSc|apply vIf|apply vSk|apply vEx|apply vRt|((first|apply gNt|apply gCs)<;>(intro h;try simp only[h]))|((first|apply hK|(clear hK K;first|apply hK|(clear hK K;first|apply hK|(clear hK K;apply hK))));clear hK K)|(refine todo ?_;simp +decide only[go_sem])))
       refine zkv none rfl (p := .c (.own (71, 0) (rows.map XR.enc))) (p' := pD (dI 0)) ?_ ?_ (.inl rfl) (.inl rfl)
       · unfold zzn; simp +decide only [go_sem]
       · unfold zzn; simp +decide only [go_sem]
section long
variable {E : Env} {fb : Option (List Nat)} {ops : Array Oper} {o : Oper} {r r' : List Oper} {S : St} {K : St → Prop}
@[go_sem] theorem y21 : RunV E fb ops (List.append (o :: r) r') S K = RunV E fb ops (o :: List.append r r') S K := rfl
@[go_sem] theorem y9f : RunV E fb ops (List.append [] r') S K = RunV E fb ops r' S K := rfl
end long
attribute [go_sem] List.append_eq
def defC (name : List UInt8) : Chg := ⟨3, name, [], 0, 0, ⟨name, [⟨[105, 100], 2, true⟩, ⟨[110, 97, 109, 101], 5, false⟩], 1⟩⟩
theorem ywu {P : Program} {fn : Func} {S : St} {t : Nat} {T : TypeId} {cs : List D} {p : PV} (hr : fn.results.toList = [.cell t T]) (h : zzn P S (.cell t T) = some p) (e : p.frz = .agg (cs.map .d)) : Ret P fn (.one (.agg cs)) S :=
 ⟨Zti, [none], z49, by rw [hr]; exact ⟨p, h, e, rfl⟩⟩
theorem Tryz.kDefC (name : List UInt8) : zzr Tryz.prog 28 [pD (dS name), pD (.lit (.bool false))] (.one (.agg (defC name).enc)) := by
 refine Tryz.pure (md := []) Tryz.func28 rfl Tryz.call28 (by kernel_rfl) (by rfl) (by exact Zle rfl) ?_
 repeat' (first|(with_reducible first|refine vSq fun K hK=>?_|apply vRg|apply vBl|apply vSc|apply vIf|apply vSk|apply vEx|apply vRt|((first|apply gNt|apply gCs)<;>(intro h;try simp only[h]))|((first|apply hK|(clear hK K;first|apply hK|(clear hK K;first|apply hK|(clear hK K;apply hK))));clear hK K)|(refine todo ?_;simp +decide only[go_sem])))
 refine ywu rfl (p := .agg [.d (dI 3), .d (dS name), .full [], .d (dI 0), .d (dI 0), .d (dS name), .full [[dS [105, 100], dI 2, .lit (.bool true)], [dS [110, 97, 109, 101], dI 5, .lit (.bool false)]], .d (dI 1)]) ?_ rfl
 unfold zzn
 simp +decide only [go_sem]
def oneV : Val := ⟨2, 1, 0, ⟨#[]⟩⟩
def putC : Chg := ⟨1, [116], [oneV, z59], 0, 9, zvc⟩
def klT : List Txn := [⟨1, 5, [defC [116]]⟩, ⟨2, 7, [putC]⟩]
def qAt (t : Int) : Qy := ⟨1, [116], [], t, 0, 0, 0⟩
def qAud (r : Row) : Qy := ⟨4, [116], r, 0, 0, 0, 0⟩
theorem z2m : LSm klT [116] := by
 have hk : zw3 (schS klT [116] 1099511627776) = 1 := by kernel_rfl
 refine ⟨by decide, fun x hx => ?_, by rw [hk]; decide, by decide⟩
 unfold klT at hx
 simp only [List.mem_cons, List.not_mem_nil, or_false] at hx
 rcases hx with rfl | rfl
 · refine ⟨by decide, fun c hc => ?_⟩
   obtain rfl := List.mem_singleton.1 hc
   exact ⟨by decide, by decide, by decide, fun v hv => by cases hv⟩
 · refine ⟨by decide, fun c hc => ?_⟩
   obtain rfl := List.mem_singleton.1 hc
   refine ⟨by decide, by decide, by decide, fun v hv => ?_⟩
   simp only [putC, List.mem_cons, List.not_mem_nil, or_false] at hv
   rcases hv with rfl | rfl
   · exact ⟨Int.le_refl _, by decide⟩
   · exact ⟨Int.le_refl _, by decide⟩
theorem z5z (q : Qy) (hq : q.tab = [116]) : (schQ q klT).sz := by
 have hall : ∀ t, schS klT [116] t = none ∨ schS klT [116] t = some (defC [116]).d := fun t => by
  have e : schS klT [116] t = if 5 ≤ t then some (defC [116]).d else none := by
   by_cases h5 : 5 ≤ t <;> by_cases h7 : 7 ≤ t <;> simp [schS, zxv, klT, y0s, zxn, z3n, h5, h7, defC, putC]
  rw [e]
  split
  · exact .inr rfl
  · exact .inl rfl
 unfold schQ
 rw [hq]
 rcases hall (tQ q klT) with e | e
 · rw [e]
   exact ⟨by decide, by decide, fun c hc => by cases hc⟩
 · rw [e]
   refine ⟨by decide, by decide, fun c hc => ?_⟩
   simp only [Option.getD_some, defC, List.mem_cons, List.not_mem_nil, or_false] at hc
   rcases hc with rfl | rfl <;> simp
theorem y1y : zwv [oneV] := fun v hv => by
 rw [List.mem_singleton.1 hv]
 exact ⟨Int.le_refl _, by decide⟩
theorem z40 : zwv [] := fun v hv => by cases hv
theorem Tryz.kKnown21 : zzr Tryz.prog 9 [] (.one (dB true)) := by
 have kd := Tryz.kDefC [116]
 have k6 := Tryz.kRun (qAt 6) klT 0 z2m (z5z _ rfl) (by decide) z40 (by kernel_rfl)
 have k7 := Tryz.kRun (qAt 7) klT 0 z2m (z5z _ rfl) (by decide) z40 (by kernel_rfl)
 have k5 := Tryz.kRun (qAt 5) klT 6 z2m (z5z _ rfl) (by decide) z40 (by kernel_rfl)
 have k8 := Tryz.kRun (qAt 8) klT 0 z2m (z5z _ rfl) (by decide) z40 (by kernel_rfl)
 have kz := Tryz.kRun (qAud [oneV]) klT 0 z2m (z5z _ rfl) (by decide) y1y (by kernel_rfl)
 have kk := Tryz.kKeys klT [116] 9 z2m
 have ks := Tryz.kSchema klT [116] 4 (by decide) (fun x hx => ⟨(z2m.cs x hx).1, fun c hc => ((z2m.cs x hx).2 c hc).1⟩)
 have kl := Tryz.kLastM klT (by decide)
 have kn := Tryz.kLastM [] (by decide)
 have kt := Tryz.kState klT [116] (keyB [oneV]) 7 z2m
 rw [show runR (qAt 6) klT 0 = [] by kernel_rfl, show zvr (qAt 6) klT 0 = 0 by kernel_rfl] at k6
 rw [show runR (qAt 7) klT 0 = [⟨keyB [oneV], 0, 0, 0, 9, [oneV, z59]⟩] by kernel_rfl, show zvr (qAt 7) klT 0 = 0 by kernel_rfl] at k7
 rw [show zvr (qAt 5) klT 6 = 15 by kernel_rfl] at k5
 rw [show zvr (qAt 8) klT 0 = 16 by kernel_rfl] at k8
 rw [show runR (qAud [oneV]) klT 0 = [⟨keyB [oneV], 7, 8, 0, 9, [oneV, z59]⟩] by kernel_rfl, show zvr (qAud [oneV]) klT 0 = 0 by kernel_rfl] at kz
 rw [show zw1 klT [116] 9 = [keyB [oneV]] by kernel_rfl] at kk
 rw [show sErr (schS klT [116] 4) = 18 by kernel_rfl] at ks
 rw [show zxd klT = 7 by kernel_rfl] at kl
 rw [show zxd [] = -1 by kernel_rfl] at kn
 have hst : (zq4 klT [116] (keyB [oneV]) 7).length = 1 := by kernel_rfl
 generalize zq4 klT [116] (keyB [oneV]) 7 = st at *
 generalize runR (qAt 5) klT 6 = r5 at *
 generalize runR (qAt 8) klT 0 = r8 at *
 generalize (schS klT [116] 4).getD zvc = sch at *
 generalize keyB [oneV] = kb at *
 refine Tryz.pure (md := []) Tryz.func9 rfl Tryz.call9 (by kernel_rfl) (by rfl) (by exact Zle rfl) ?_
 have h11 : (((1 : Nat) : Int) == 1) = true := rfl
 repeat' (first|(with_reducible first|refine vSq fun K hK=>?_|apply vRg|apply vBl|apply vSc|apply vIf|apply vSk|apply vEx|apply vRt|((first|apply gNt|apply gCs)<;>(intro h;try simp only[h]))|((first|apply hK|(clear hK K;first|apply hK|(clear hK K;first|apply hK|(clear hK K;apply hK))));clear hK K)|(refine todo ?_;simp +decide only[go_sem, hst, h11]))|refine zzd kd rfl rfl (fun _ => rfl) ?_|refine zzd k6 rfl rfl (fun _ => rfl) ?_|refine zzd k7 rfl rfl (fun _ => rfl) ?_|refine zzd k5 rfl rfl (fun _ => rfl) ?_|refine zzd kz rfl rfl (fun _ => rfl) ?_|refine zzd kk rfl rfl (fun _ => rfl) ?_|refine zzd ks rfl rfl (fun _ => rfl) ?_|refine zzd k8 rfl rfl (fun _ => rfl) ?_|refine zzd kl rfl rfl (fun _ => rfl) ?_|refine zzd kn rfl rfl (fun _ => rfl) ?_|refine zzd kt rfl rfl (fun _ => rfl) ?_)
 refine zzs rfl ?_
 simp +decide only [go_sem]
end Go.Proofs
namespace Go.Proofs
open Go.PW
theorem z2a : ∀ a : List UInt8, cmpB a a = 0
 | [] => rfl
 | x :: a => by rw [cmpB]; simp [z2a a]
theorem xz6 {x y : UInt8} (h : (x.toNat : Int) = (y.toNat : Int)) : x = y := UInt8.toNat.inj (by omega)
theorem yzi : ∀ {a b : List UInt8}, cmpB a b = 0 → a = b
 | [], [], _ => rfl
 | [], _ :: _, h => by simp [cmpB] at h
 | _ :: _, [], h => by simp [cmpB] at h
 | x :: a, y :: b, h => by
   rw [cmpB] at h
   split at h
   · split at h <;> simp at h
   · rename_i e
     have e' : (x.toNat : Int) = (y.toNat : Int) := by simpa using e
     rw [xz6 e', yzi h]
theorem z5h : ∀ a b : List UInt8, cmpB a b = - cmpB b a
 | [], [] => rfl
 | [], _ :: _ => rfl
 | _ :: _, [] => rfl
 | x :: a, y :: b => by
   rw [cmpB, cmpB, z5h a b]
   by_cases e : (x.toNat : Int) = (y.toNat : Int)
   · simp [e]
   · have e' : ¬ (y.toNat : Int) = (x.toNat : Int) := fun h => e h.symm
     have h1 : ((x.toNat : Int) != (y.toNat : Int)) = true := by simpa using e
     have h2 : ((y.toNat : Int) != (x.toNat : Int)) = true := by simpa using e'
     rw [if_pos h1, if_pos h2]
     by_cases hl : (x.toNat : Int) < (y.toNat : Int)
     · rw [if_pos (decide_eq_true hl), if_neg (by rw [decide_eq_true_eq]; omega)]
     · rw [if_neg (by simp; omega), if_pos (by simp; omega)]; rfl
theorem z0s : ∀ {a b c : List UInt8}, cmpB a b < 0 → cmpB b c < 0 → cmpB a c < 0
 | [], [], _, h, _ => by simp [cmpB] at h
 | _ :: _, [], _, h, _ => by simp [cmpB] at h
 | _, _ :: _, [], _, h => by simp [cmpB] at h
 | [], _ :: _, _ :: _, _, _ => by simp [cmpB]
 | x :: a, y :: b, z :: c, h1, h2 => by
   rw [cmpB] at h1 h2 ⊢
   by_cases e1 : (x.toNat : Int) = (y.toNat : Int)
   · rw [if_neg (by simp [e1])] at h1
     by_cases e2 : (y.toNat : Int) = (z.toNat : Int)
     · rw [if_neg (by simp [e2])] at h2
       rw [if_neg (by simp [e1, e2])]
       exact z0s h1 h2
     · rw [if_pos (by simpa using e2)] at h2
       rw [if_pos (by simpa [e1] using e2), e1]
       exact h2
   · rw [if_pos (by simpa using e1)] at h1
     have l1 : (x.toNat : Int) < (y.toNat : Int) := by
      by_cases hl : (x.toNat : Int) < (y.toNat : Int)
      · exact hl
      · rw [if_neg (by simp; omega)] at h1; simp at h1
     by_cases e2 : (y.toNat : Int) = (z.toNat : Int)
     · rw [if_pos (by simp; omega), if_pos (by simp; omega)]; simp
     · rw [if_pos (by simpa using e2)] at h2
       have l2 : (y.toNat : Int) < (z.toNat : Int) := by
        by_cases hl : (y.toNat : Int) < (z.toNat : Int)
        · exact hl
        · rw [if_neg (by simp; omega)] at h2; simp at h2
       rw [if_pos (by simp; omega), if_pos (by simp; omega)]; simp
theorem yxg {a b : List UInt8} (h : cmpB a b < 0) : a ≠ b := fun e => by rw [e, z2a] at h; simp at h
theorem z8p {a b : List UInt8} (h : ¬ cmpB a b < 0) (hn : a ≠ b) : cmpB b a < 0 := by
 have h1 := z5h a b
 have h2 : cmpB a b ≠ 0 := fun e => hn (yzi e)
 omega
def Srt (L : List Tb) : Prop := L.Pairwise fun t u => cmpB t.name u.name < 0
def zjo (L : List Tb) (k : List UInt8) : Option Tb := L.find? fun t => t.name == k
theorem z03 (t : Tb) (L : List Tb) (k : List UInt8) : place (t :: L) k = if cmpB t.name k < 0 then place L k + 1 else 0 := by
 unfold place
 rw [List.takeWhile_cons]
 unfold before
 by_cases h : cmpB t.name k < 0
 · rw [if_pos (decide_eq_true h), if_pos h]; rfl
 · rw [if_neg (by simpa using h), if_neg h]; rfl
theorem yzq {L : List Tb} {k : List UInt8} (h : ∀ t ∈ L, t.name ≠ k) : zjo L k = none := by
 unfold zjo
 rw [List.find?_eq_none]
 intro t ht
 simpa using h t ht
theorem yw9 : ∀ {L : List Tb} {k : List UInt8}, Srt L → (isAt L k = true → L[place L k]? = zjo L k ∧ zjo L k ≠ none) ∧ (isAt L k = false → zjo L k = none)
 | [], k, _ => ⟨fun h => (by simp [isAt] at h), fun _ => rfl⟩
 | t :: L, k, hs => by
   obtain ⟨h1, h2⟩ := List.pairwise_cons.1 hs
   have ih := yw9 (k := k) h2
   by_cases h : cmpB t.name k < 0
   · have hp : place (t :: L) k = place L k + 1 := by rw [z03, if_pos h]
     have hn : t.name ≠ k := yxg h
     have e' : (t.name == k) = false := by simpa using hn
     have hf : zjo (t :: L) k = zjo L k := by unfold zjo; rw [List.find?_cons, e']
     have ha : isAt (t :: L) k = isAt L k := by unfold isAt; rw [hp, List.getElem?_cons_succ]
     rw [ha, hf, hp, List.getElem?_cons_succ]
     exact ih
   · have hp : place (t :: L) k = 0 := by rw [z03, if_neg h]
     have ha : isAt (t :: L) k = (t.name == k) := by unfold isAt; rw [hp]; rfl
     rw [ha, hp]
     by_cases hn : t.name = k
     · refine ⟨fun _ => ?_, fun h0 => by simp [hn] at h0⟩
       have hf : zjo (t :: L) k = some t := by unfold zjo; rw [List.find?_cons]; simp [hn]
       rw [hf]
       exact ⟨rfl, by simp⟩
     · refine ⟨fun h0 => by simp [hn] at h0, fun _ => yzq fun u hu => ?_⟩
       rcases List.mem_cons.1 hu with rfl | hu
       · exact hn
       · exact fun e => by
          have h3 := h1 u hu
          have h4 := z8p h hn
          have h5 := z0s h4 h3
          rw [e, z2a] at h5
          simp at h5
theorem z46 : ∀ {L : List Tb} {i : Nat} {t t' : Tb}, Srt L → L[i]? = some t → t'.name = t.name → Srt (L.set i t') ∧ (∀ u ∈ L.set i t', u = t' ∨ u ∈ L) ∧ ∀ k, zjo (L.set i t') k = if t.name = k then some t' else zjo L k
 | [], i, t, t', _, h, _ => by simp at h
 | u :: L, 0, t, t', hs, h, hn => by
   cases h
   obtain ⟨h1, h2⟩ := List.pairwise_cons.1 hs
   refine ⟨List.pairwise_cons.2 ⟨fun v hv => by rw [hn]; exact h1 v hv, h2⟩, fun v hv => ?_, fun k => ?_⟩
   · rcases List.mem_cons.1 hv with rfl | hv
     · exact .inl rfl
     · exact .inr (List.mem_cons_of_mem _ hv)
   · show zjo (t' :: L) k = _
     unfold zjo
     rw [List.find?_cons, List.find?_cons, hn]
     by_cases e : u.name = k
     · simp [e]
     · have e' : (u.name == k) = false := by simpa using e
       rw [e', if_neg e]
 | u :: L, i + 1, t, t', hs, h, hn => by
   obtain ⟨h1, h2⟩ := List.pairwise_cons.1 hs
   rw [List.getElem?_cons_succ] at h
   obtain ⟨g1, g2, g3⟩ := z46 h2 h hn
   have htm := Zme h
   refine ⟨List.pairwise_cons.2 ⟨fun v hv => ?_, g1⟩, fun v hv => ?_, fun k => ?_⟩
   · rcases g2 v hv with rfl | hv
     · rw [hn]; exact h1 t htm
     · exact h1 v hv
   · rcases List.mem_cons.1 hv with rfl | hv
     · exact .inr (Zms2 ..)
     · exact (g2 v hv).imp_right (List.mem_cons_of_mem _)
   · show zjo (u :: L.set i t') k = _
     have g := g3 k
     unfold zjo at g ⊢
     rw [List.find?_cons, List.find?_cons]
     by_cases e : u.name = k
     · have : t.name ≠ k := fun e2 => yxg (h1 t htm) (by rw [e, e2])
       simp [e, this]
     · have e' : (u.name == k) = false := by simpa using e
       rw [e', g]
theorem yj4 : ∀ {L : List Tb} {t : Tb}, Srt L → isAt L t.name = false → Srt (L.take (place L t.name) ++ t :: L.drop (place L t.name)) ∧ (∀ u ∈ L.take (place L t.name) ++ t :: L.drop (place L t.name), u = t ∨ u ∈ L) ∧ ∀ k, zjo (L.take (place L t.name) ++ t :: L.drop (place L t.name)) k = if t.name = k then some t else zjo L k
 | [], t, _, _ => by
   refine ⟨List.pairwise_singleton _ _, fun u hu => .inl (by simpa [place] using hu), fun k => ?_⟩
   unfold zjo
   simp only [place, List.takeWhile_nil, List.length_nil, List.take_nil, List.drop_nil, List.nil_append, List.find?_cons, List.find?_nil]
   by_cases e : t.name = k
   · simp [e]
   · have e' : (t.name == k) = false := by simpa using e
     rw [e', if_neg e]
 | u :: L, t, hs, ha => by
   obtain ⟨h1, h2⟩ := List.pairwise_cons.1 hs
   by_cases h : cmpB u.name t.name < 0
   · have hp : place (u :: L) t.name = place L t.name + 1 := by rw [z03, if_pos h]
     have ha' : isAt L t.name = false := by rw [← ha]; unfold isAt; rw [hp, List.getElem?_cons_succ]
     obtain ⟨g1, g2, g3⟩ := yj4 h2 ha'
     rw [hp, List.take_succ_cons, List.drop_succ_cons, List.cons_append]
     refine ⟨List.pairwise_cons.2 ⟨fun v hv => ?_, g1⟩, fun v hv => ?_, fun k => ?_⟩
     · rcases g2 v hv with rfl | hv
       · exact h
       · exact h1 v hv
     · rcases List.mem_cons.1 hv with rfl | hv
       · exact .inr (Zms2 ..)
       · exact (g2 v hv).imp_right (List.mem_cons_of_mem _)
     · have g := g3 k
       unfold zjo at g ⊢
       rw [List.find?_cons, List.find?_cons]
       by_cases e : u.name = k
       · have : t.name ≠ k := fun e2 => yxg h (by rw [e, e2])
         simp [e, this]
       · have e' : (u.name == k) = false := by simpa using e
         rw [e', g]
   · have hp : place (u :: L) t.name = 0 := by rw [z03, if_neg h]
     have hn : u.name ≠ t.name := fun e => by
      unfold isAt at ha
      rw [hp] at ha
      simp [e] at ha
     have hlt := z8p h hn
     rw [hp, List.take_zero, List.drop_zero, List.nil_append]
     refine ⟨List.pairwise_cons.2 ⟨fun v hv => ?_, hs⟩, fun v hv => ?_, fun k => ?_⟩
     · rcases List.mem_cons.1 hv with rfl | hv
       · exact hlt
       · exact z0s hlt (h1 v hv)
     · exact (List.mem_cons.1 hv)
     · unfold zjo
       rw [List.find?_cons]
       by_cases e : t.name = k
       · simp [e]
       · have e' : (t.name == k) = false := by simpa using e
         rw [e', if_neg e]
def zv5 (L : List Tb) (k : List UInt8) : Option Sch := (zjo L k).bind fun t => (t.defs[t.defs.length - 1]?).map Df.s
def nxtS (k : List UInt8) (s : Option Sch) (x : Chg) : Option Sch := if (x.tab == k && x.op == 3) = true then some x.d else s
def okC (k : List UInt8) (s : Option Sch) (x : Chg) : Prop := x.tab = k → if (x.op == 3) = true then ∀ d, s = some d → ext d x.d = true else ∃ d, s = some d ∧ zjz d x = 0
def Chain (k : List UInt8) : Option Sch → List Chg → Prop
 | _, [] => True
 | s, x :: l => okC k s x ∧ Chain k (nxtS k s x) l
theorem z19 {k : List UInt8} : ∀ {s : Option Sch} {l m : List Chg}, Chain k s (l ++ m) ↔ Chain k s l ∧ Chain k (l.foldl (nxtS k) s) m
 | s, [], m => by simp [Chain]
 | s, x :: l, m => by
   rw [List.cons_append, Chain, Chain, z19, List.foldl_cons, and_assoc]
def NE (L : List Tb) : Prop := ∀ t ∈ L, t.defs ≠ []
theorem z52 {L : List Tb} {k : List UInt8} {t : Tb} {d : Df} (h : zjo L k = some t) (hd : t.defs[t.defs.length - 1]? = some d) : zv5 L k = some d.s := by
 unfold zv5
 rw [h, Option.bind_some, hd]; rfl
theorem yv9 (t : Tb) (d : Df) (time : Int) (s : Sch) : (t.redef d time s).defs[(t.redef d time s).defs.length - 1]? = some ⟨time, s⟩ := by
 unfold Tb.redef
 simp
theorem y3a {L : List Tb} {x : Chg} {time : Int} (hs : Srt L) (hn : NE L) (h0 : (chgS L x time).1 = 0) :
 Srt (chgS L x time).2 ∧ NE (chgS L x time).2 ∧ ∀ k, zv5 (chgS L x time).2 k = nxtS k (zv5 L k) x ∧ okC k (zv5 L k) x := by
 obtain ⟨a1, a2⟩ := yw9 (k := x.tab) hs
 unfold chgS at h0 ⊢
 cases his : isAt L x.tab with
 | true =>
   obtain ⟨b1, b2⟩ := a1 his
   rw [his] at h0
   simp only [if_true] at h0 ⊢
   cases hp : L[place L x.tab]? with
   | none => rw [hp] at b1; exact absurd b1.symm b2
   | some t =>
     rw [hp] at h0 b1
     simp only at h0 ⊢
     have htn : t.name = x.tab := by
      have := List.find?_some (show L.find? (fun t => t.name == x.tab) = some t from b1.symm)
      simpa using this
     have htm := Zme hp
     obtain ⟨d, hd⟩ := ykc (hn t htm)
     rw [hd] at h0 ⊢
     simp only at h0 ⊢
     have hlast := z52 b1.symm hd
     have other : ∀ {t' : Tb} {k : List UInt8}, t'.name = t.name → x.tab ≠ k → zv5 (L.set (place L x.tab) t') k = zv5 L k := fun {t' k} e hk => by
      unfold zv5
      rw [(z46 hs hp e).2.2 k, if_neg (by rw [htn]; exact hk)]
     have nother : ∀ {k : List UInt8}, x.tab ≠ k → nxtS k (zv5 L k) x = zv5 L k := fun {k} hk => by
      unfold nxtS
      rw [if_neg (by simp [hk])]
     cases hop : (x.op == 3) with
     | true =>
       rw [hop] at h0
       simp only [if_true] at h0 ⊢
       cases he : ext d.s x.d with
       | false => rw [he] at h0; simp at h0
       | true =>
         simp only [if_true]
         obtain ⟨g1, g2, g3⟩ := z46 (t' := t.redef d time x.d) hs hp rfl
         refine ⟨g1, fun u hu => ?_, fun k => ⟨?_, fun hk => ?_⟩⟩
         · rcases g2 u hu with rfl | hu
           · simp [Tb.redef]
           · exact hn u hu
         · by_cases hk : x.tab = k
           · subst hk
             have e1 : zjo (L.set (place L x.tab) (t.redef d time x.d)) x.tab = some (t.redef d time x.d) := by rw [g3, if_pos htn]
             rw [z52 e1 (yv9 t d time x.d)]
             unfold nxtS
             rw [hop, if_pos (by simp)]
           · rw [other (t' := t.redef d time x.d) rfl hk, nother hk]
         · subst hk
           rw [hop, if_pos rfl, hlast]
           intro e he'
           cases he'
           exact he
     | false =>
       rw [hop] at h0
       simp only [Bool.false_eq_true, if_false] at h0 ⊢
       cases he : (zjz d.s x != 0) with
       | true => rw [he] at h0; simp only [if_true] at h0; rw [h0] at he; simp at he
       | false =>
         simp only [Bool.false_eq_true, if_false]
         obtain ⟨g1, g2, g3⟩ := z46 (t' := t.row (zje d.s x) x) hs hp rfl
         refine ⟨g1, fun u hu => ?_, fun k => ⟨?_, fun hk => ?_⟩⟩
         · rcases g2 u hu with rfl | hu
           · exact hn t htm
           · exact hn u hu
         · by_cases hk : x.tab = k
           · subst hk
             have e1 : zjo (L.set (place L x.tab) (t.row (zje d.s x) x)) x.tab = some (t.row (zje d.s x) x) := by rw [g3, if_pos htn]
             rw [z52 e1 hd, hlast]
             unfold nxtS
             rw [hop, if_neg (by simp)]
           · rw [other (t' := t.row (zje d.s x) x) rfl hk, nother hk]
         · subst hk
           rw [hop, if_neg (by simp), hlast]
           exact ⟨d.s, rfl, by simpa using he⟩
 | false =>
   rw [his] at h0
   simp only [Bool.false_eq_true, if_false] at h0 ⊢
   have hnone := a2 his
   cases hop : (x.op == 3) with
   | false => rw [hop] at h0; simp at h0
   | true =>
     simp only [if_true]
     obtain ⟨g1, g2, g3⟩ := yj4 (t := ⟨0, none, x.tab, [⟨time, x.d⟩], []⟩) hs his
     refine ⟨g1, fun u hu => ?_, fun k => ⟨?_, fun hk => ?_⟩⟩
     · rcases g2 u hu with rfl | hu
       · simp
       · exact hn u hu
     · unfold zv5 nxtS
       rw [g3 k]
       by_cases hk : x.tab = k
       · rw [if_pos hk, hop, if_pos (by simp [hk])]
         rfl
       · rw [if_neg hk, if_neg (by simp [hk])]
     · subst hk
       rw [hop, if_pos rfl]
       intro d hd
       unfold zv5 at hd
       rw [hnone] at hd
       cases hd
theorem z7p {time : Int} : ∀ {l : List Chg} {L : List Tb}, Srt L → NE L → (zvi time L l).1 = 0 → Srt (Lq time L l) ∧ NE (Lq time L l) ∧ ∀ k, zv5 (Lq time L l) k = l.foldl (nxtS k) (zv5 L k) ∧ Chain k (zv5 L k) l
 | [], L, hs, hn, _ => ⟨hs, hn, fun k => ⟨rfl, Zti⟩⟩
 | x :: l, L, hs, hn, h => by
   rw [z29] at h
   cases e : ((chgS L x time).1 != 0) with
   | true =>
     rw [e, if_pos rfl] at h
     rw [h] at e
     cases e
   | false =>
     rw [e, if_neg (by simp)] at h
     obtain ⟨g1, g2, g3⟩ := y3a hs hn (by simpa using e)
     obtain ⟨i1, i2, i3⟩ := z7p g1 g2 h
     refine ⟨i1, i2, fun k => ⟨?_, ?_⟩⟩
     · rw [List.foldl_cons, ← (g3 k).1]
       exact (i3 k).1
     · refine ⟨(g3 k).2, ?_⟩
       rw [← (g3 k).1]
       exact (i3 k).2
theorem y3s (time : Int) (L : List Tb) (k : List UInt8) : zjo (L.map (Tb.fin time)) k = (zjo L k).map (Tb.fin time) := by
 unfold zjo
 induction L with
 | nil => rfl
 | cons t L ih =>
   rw [List.map_cons, List.find?_cons, List.find?_cons, ih]
   have e : (t.fin time).name = t.name := rfl
   rw [e]
   split <;> rfl
theorem y69 {time : Int} {L : List Tb} (hs : Srt L) (hn : NE L) : Srt (L.map (Tb.fin time)) ∧ NE (L.map (Tb.fin time)) ∧ ∀ k, zv5 (L.map (Tb.fin time)) k = zv5 L k := by
 refine ⟨?_, fun u hu => ?_, fun k => ?_⟩
 · unfold Srt
   rw [List.pairwise_map]
   exact hs
 · obtain ⟨t, ht, rfl⟩ := List.mem_map.1 hu
   exact hn t ht
 · unfold zv5
   rw [y3s]
   cases zjo L k <;> rfl
def zki (l : List Txn) : List Chg := l.flatMap Txn.chs
structure Accd (l : List Txn) : Prop where
 rise : l.Pairwise fun a b => a.time < b.time
 ok : ∀ x ∈ l, z0n x = true
 chain : ∀ k, Chain k none (zki l)
structure ScG (σ : Sc) : Prop where
 srt : Srt σ.L
 ne : NE σ.L
 acc : Accd σ.acc
 last : ∀ k, zv5 σ.L k = (zki σ.acc).foldl (nxtS k) none
 le : ∀ x ∈ σ.acc, x.time ≤ σ.time
theorem y4x {σ : Sc} {o : OpB} (h : ScG σ) : ScG (zxb σ o) := by
 unfold zxb
 split
 · split
   · rename_i he
     have hok := z96 (by simpa using he : zk4 σ.seq σ.time σ.L o.t = 0)
     have hw := z6y hok.1
     obtain ⟨c1, c2, c3⟩ := z7p h.srt h.ne hok.2
     obtain ⟨f1, f2, f3⟩ := y69 (time := o.t.time) c1 c2
     have hfl : zki (σ.acc ++ [o.t]) = zki σ.acc ++ o.t.chs := by unfold zki; rw [List.flatMap_append, List.flatMap_singleton]
     refine ⟨f1, f2, ⟨?_, fun x hx => ?_, fun k => ?_⟩, fun k => ?_, fun x hx => ?_⟩
     · refine List.pairwise_append.2 ⟨h.acc.rise, List.pairwise_singleton _ _, fun a ha b hb => ?_⟩
       rw [List.mem_singleton.1 hb]
       have := h.le a ha
       omega
     · rcases List.mem_append.1 hx with hx | hx
       · exact h.acc.ok x hx
       · rw [List.mem_singleton.1 hx]; exact hw.1
     · show Chain k none (zki (σ.acc ++ [o.t]))
       rw [hfl, z19]
       refine ⟨h.acc.chain k, ?_⟩
       rw [← h.last k]
       exact (c3 k).2
     · show zv5 (z3v σ.L o.t) k = (zki (σ.acc ++ [o.t])).foldl (nxtS k) none
       rw [hfl, List.foldl_append, ← h.last k]
       exact (f3 k).trans (c3 k).1
     · have hx' : x ∈ σ.acc ++ [o.t] := hx
       show x.time ≤ o.t.time
       rcases List.mem_append.1 hx' with hx | hx
       · have := h.le x hx; omega
       · rw [List.mem_singleton.1 hx]; exact Int.le_refl _
   · exact h
 · exact h
theorem y2f : ∀ (l : List OpB) {σ : Sc}, ScG σ → ScG (l.foldl zxb σ)
 | [], _, h => h
 | o :: l, σ, h => by rw [List.foldl_cons]; exact y2f l (y4x h)
theorem y15 (l : List OpB) : Accd (z6d l) := by
 have h0 : ScG sc0 := ⟨.nil, fun t ht => (by cases ht), ⟨.nil, fun x hx => (by cases hx), fun k => Zti⟩, fun k => rfl, fun x hx => by cases hx⟩
 exact (y2f (l.take 20) h0).acc
end Go.Proofs
