/-
  Parts of the proof, laid together: PwMb, PwMc, PwMd.
-/
import Derived.Test.YtemecklglapleaaGreatQ25

set_option maxRecDepth 30000
set_option maxHeartbeats 16000000
namespace Go.Proofs
open Go.PW
def z2b (keys : Int) (cols : List Col) (p : Col × Nat) : Bool :=
 (zvn p.1.name && !decide (p.1.kind < 1) && !decide (5 < p.1.kind) && !(decide ((p.2 : Int) < keys) && !p.1.need)) && (cols.take p.2).all fun x => !(x.name == p.1.name)
def z5j (keys : Int) (cols : List Col) : Bool := cols.zipIdx.all (z2b keys cols)
def z2h (s : Sch) : Bool := zvn s.name && !decide ((s.cols.length : Int) < 1) && !decide (16 < (s.cols.length : Int)) && !decide (s.keys < 1) && !decide (8 < s.keys) && !decide ((s.cols.length : Int) < s.keys)
def zxt (s : Sch) : Bool := z2h s && z5j s.keys s.cols
def Sch.sz (s : Sch) : Prop := s.name.length ≤ 4294967296 ∧ s.cols.length ≤ 4294967296 ∧ ∀ c ∈ s.cols, c.name.length ≤ 4294967296
theorem Tryz.rSchOK (s : Sch) (hz : s.sz) : zzr Tryz.prog 93 [pA s.enc] (.one (dB (zxt s))) := by
 obtain ⟨hz1, hz2, hz3⟩ := hz
 refine Tryz.pure (md := []) Tryz.func93 rfl Tryz.call93 (by kernel_rfl) (by rfl) (by exact Zle rfl) ?_
 have hk := Tryz.rName s.name hz1
 repeat' (first|(with_reducible first|refine vSq fun K hK=>?_|apply vRg|apply vBl|apply vSc|apply vIf|apply vSk|apply vEx|apply vRt|((first|apply gNt|apply gCs)<;>(intro h;try simp only[h]))|((first|apply hK|(clear hK K;first|apply hK|(clear hK K;first|apply hK|(clear hK K;apply hK))));clear hK K)|(refine todo ?_;simp +decide only[go_sem]))|refine zzd hk rfl rfl (fun _ => rfl) ?_)
 all_goals try (refine zzs rfl ?_; simp +decide only [go_sem, zxt, z2h, *]; done)
 · refine zzj s.cols.length (fun i => (s.cols.zipIdx.take i).all (z2b s.keys s.cols) = true) (fun i => frame [(3, pD (.lit (.int .i64 s.cols.length))), (4, pD (.lit (.int .i64 i))), (1, .c (.ptr 1 0))] [(1, s.enc.map .d)] []) rfl ?_ ?_
   · refine zzb ?_ ?_ ?_ <;> simp +decide only [go_sem]
     exact zzh (by simp [hOf])
   · intro i hi hI
     rcases Zlg i s.cols.length with hlt | hge
     · have hg := Zge hlt
       have hd := zze hlt
       have hw := zzl hlt hz2
       generalize s.cols[i] = c at hg
       have hz : s.cols.zipIdx[i]? = some (c, i) := by rw [List.getElem?_zipIdx, hg]; simp
       have kc := Tryz.rName c.name (hz3 c (Zme hg))
       repeat' (first|(with_reducible first|refine vSq fun K hK=>?_|apply vRg|apply vBl|apply vSc|apply vIf|apply vSk|apply vEx|apply vRt|((first|apply gNt|apply gCs)<;>(intro h;try simp only[h]))|((first|apply hK|(clear hK K;first|apply hK|(clear hK K;first|apply hK|(clear hK K;apply hK))));clear hK K)|(refine todo ?_;simp +decide only[go_sem, hg, hd]))|refine zzd kc rfl rfl (fun _ => rfl) ?_)
       all_goals try (refine zzs rfl ?_; have e : z2b s.keys s.cols (c, i) = false := by (simp +decide only [go_sem, z2b, *]; done)
                      simp +decide only [go_sem, zxt, z5j, zqr hz e]; done)
       all_goals
        have hr : (zvn c.name && !decide (c.kind < 1) && !decide (5 < c.kind) && !(decide ((i : Int) < s.keys) && !c.need)) = true := by simp +decide only [go_sem, *]
        refine zzj i (fun k => ((s.cols.take i).take k).all (fun x => !(x.name == c.name)) = true) (fun k => frame [(3, pD (.lit (.int .i64 s.cols.length))), (4, pD (.lit (.int .i64 i))), (1, .c (.ptr 1 0)), (5, .c (.ptr 5 0)), (6, pD (.lit (.int .i64 k)))] [(1, s.enc.map .d), (5, c.enc.map .d)] []) rfl ?_ ?_
        · refine zzb ?_ ?_ ?_ <;> simp +decide only [go_sem]
          all_goals first
           | exact ⟨zzh (by simp [hOf]), zzh (by simp [hOf])⟩
           | (have hne : c.need = true := by assumption
              simp +decide only [go_sem, hne]; done)
        · intro k hk hJ
          rcases Zlg k i with hlt' | hge'
          · have hg' : s.cols[k]? = some s.cols[k] := Zge (by omega)
            have hd' := zze hlt'
            have hw' := zzl hlt' (by omega)
            generalize s.cols[k] = x at hg'
            have hz' : (s.cols.take i)[k]? = some x := by rw [List.getElem?_take_of_lt hlt']; exact hg'
            repeat' (first|(with_reducible first|refine vSq fun K hK=>?_|apply vRg|apply vBl|apply vSc|apply vIf|apply vSk|apply vEx|apply vRt|((first|apply gNt|apply gCs)<;>(intro h;try simp only[h]))|((first|apply hK|(clear hK K;first|apply hK|(clear hK K;first|apply hK|(clear hK K;apply hK))));clear hK K)|(refine todo ?_;simp +decide only[go_sem, hg', hd', hw'])))
            · have e : z2b s.keys s.cols (c, i) = false := by
               unfold z2b
               rw [zqr hz' (by simp [*]), Bool.and_false]
              refine zzs rfl ?_
              simp +decide only [go_sem, zxt, z5j, zqr hz e]
            · refine zzi hlt' (zz8 hJ hz' (by simp [*])) (zzb ?_ ?_ ?_) <;> simp +decide only [go_sem]
              exact ⟨zzh (by simp [hOf]), zzh (by simp [hOf])⟩
          · have hd' := zzf hge'
            rw [Ztl (by rw [Zlt]; omega)] at hJ
            have e : z2b s.keys s.cols (c, i) = true := by unfold z2b; rw [hr, hJ]; rfl
            repeat' (first|(with_reducible first|refine vSq fun K hK=>?_|apply vRg|apply vBl|apply vSc|apply vIf|apply vSk|apply vEx|apply vRt|((first|apply gNt|apply gCs)<;>(intro h;try simp only[h]))|((first|apply hK|(clear hK K;first|apply hK|(clear hK K;first|apply hK|(clear hK K;apply hK))));clear hK K)|(refine todo ?_;simp +decide only[go_sem, hd', hw])))
            refine zzi hlt (zz8 hI hz e) (zzb ?_ ?_ ?_) <;> simp +decide only [go_sem]
            exact zzh (by simp [hOf])
     · have hd := zzf hge
       rw [Ztl (by rw [List.length_zipIdx]; exact hge)] at hI
       repeat' (first|(with_reducible first|refine vSq fun K hK=>?_|apply vRg|apply vBl|apply vSc|apply vIf|apply vSk|apply vEx|apply vRt|((first|apply gNt|apply gCs)<;>(intro h;try simp only[h]))|((first|apply hK|(clear hK K;first|apply hK|(clear hK K;first|apply hK|(clear hK K;apply hK))));clear hK K)|(refine todo ?_;simp +decide only[go_sem, hd])))
       refine zzs rfl ?_
       simp +decide only [go_sem, zxt, z2h, z5j, *]
@[go_sem] theorem Tryz.neCol {s s' : ByteArray} {a a' : Int} {b b' : Bool} : binS Tryz.prog .neq 94 (.agg [.d (.lit (.string s)), .d (.lit (.int .i64 a)), .d (.lit (.bool b))]) (.agg [.d (.lit (.string s')), .d (.lit (.int .i64 a')), .d (.lit (.bool b'))]) =
 some (lit (.bool (!((s.toList == s'.toList) && ((a == a') && ((b == b') && true)))))) := by kernel_rfl
def zk8 (a b : Col) : Bool := (a.name == b.name) && ((a.kind == b.kind) && (a.need == b.need))
def z2c (a b : List Col) : Bool := (a.zip b).all fun p => zk8 p.1 p.2
def z1z (a b : Sch) : Bool := !(a.name != b.name) && !(a.keys != b.keys) && !((a.cols.length : Int) != (b.cols.length : Int)) && z2c a.cols b.cols
@[go_sem] theorem xk3 : ((0 : Int) != 0) = false := rfl
theorem yxp {i n : Nat} (h : n ≤ i) : ((n : Int) ≤ (i : Int)) = True := eq_true (by omega)
theorem yz0 {i n : Nat} (h : i < n) : ((n : Int) ≤ (i : Int)) = False := eq_false (by omega)
theorem Tryz.rSchSame (a b : Sch) (hz : a.cols.length ≤ 4294967296) : zzr Tryz.prog 20 [pA a.enc, pA b.enc] (.one (dB (z1z a b))) := by
 refine Tryz.pure (md := []) Tryz.func20 rfl Tryz.call20 (by kernel_rfl) (by rfl) (by exact Zle rfl) ?_
 repeat' (first|(with_reducible first|refine vSq fun K hK=>?_|apply vRg|apply vBl|apply vSc|apply vIf|apply vSk|apply vEx|apply vRt|((first|apply gNt|apply gCs)<;>(intro h;try simp only[h]))|((first|apply hK|(clear hK K;first|apply hK|(clear hK K;first|apply hK|(clear hK K;apply hK))));clear hK K)|(refine todo ?_;simp +decide only[go_sem])))
 all_goals try (refine zzs rfl ?_; simp +decide only [go_sem, z1z, *]; done)
 · have hl' : ((a.cols.length : Int) != (b.cols.length : Int)) = false := by assumption
   have hl : a.cols.length = b.cols.length := by have := hl'; simp at this; omega
   have hnm : (a.name != b.name) = false := by assumption
   have hke : (a.keys != b.keys) = false := by assumption
   have hL : (a.cols.zip b.cols).length = a.cols.length := by rw [List.length_zip]; omega
   refine zzj a.cols.length (fun i => ((a.cols.zip b.cols).take i).all (fun p => zk8 p.1 p.2) = true) (fun i => frame [(5, pD (.lit (.int .i64 i))), (2, .c (.ptr 2 0)), (3, .c (.ptr 3 0))] [(2, a.enc.map .d), (3, b.enc.map .d)] []) rfl ?_ ?_
   · refine zzb ?_ ?_ ?_ <;> simp +decide only [go_sem]
     exact ⟨zzh (by simp [hOf]), zzh (by simp [hOf])⟩
   · intro i hi hI
     rcases Zlg i a.cols.length with hlt | hge
     · have hg := Zge hlt
       have hg2 := Zge (show i < b.cols.length by omega)
       have hd := zze hlt
       have hw := zzl hlt hz
       generalize a.cols[i] = x at hg
       generalize b.cols[i] = y at hg2
       have hz : (a.cols.zip b.cols)[i]? = some (x, y) := by rw [List.getElem?_zip_eq_some]; exact ⟨hg, hg2⟩
       repeat' (first|(with_reducible first|refine vSq fun K hK=>?_|apply vRg|apply vBl|apply vSc|apply vIf|apply vSk|apply vEx|apply vRt|((first|apply gNt|apply gCs)<;>(intro h;try simp only[h]))|((first|apply hK|(clear hK K;first|apply hK|(clear hK K;first|apply hK|(clear hK K;apply hK))));clear hK K)|(refine todo ?_;simp +decide only[go_sem, hg, hg2, hd, hw])))
       all_goals first
        | (have e : zk8 x y = true := by simp_all [zk8]
           refine zzi hlt (zz8 hI hz e) (zzb ?_ ?_ ?_) <;> simp +decide only [go_sem]
           exact ⟨zzh (by simp [hOf]), zzh (by simp [hOf])⟩)
        | (have e : zk8 x y = false := by simp_all [zk8]
           refine zzs rfl ?_
           simp +decide only [go_sem, z1z, z2c, zqr (f := fun p : Col × Col => zk8 p.1 p.2) hz e])
     · have hd := zzf hge
       rw [Ztl (by omega)] at hI
       repeat' (first|(with_reducible first|refine vSq fun K hK=>?_|apply vRg|apply vBl|apply vSc|apply vIf|apply vSk|apply vEx|apply vRt|((first|apply gNt|apply gCs)<;>(intro h;try simp only[h]))|((first|apply hK|(clear hK K;first|apply hK|(clear hK K;first|apply hK|(clear hK K;apply hK))));clear hK K)|(refine todo ?_;simp +decide only[go_sem, hd])))
       refine zzs rfl ?_
       simp +decide only [go_sem, z1z, z2c, hI, hl', hnm, hke]
def z62 (a : Sch) (p : Col × Nat) : Bool := match a.cols[p.2]? with
 | some x => zk8 x p.1
 | none => !p.1.need
def ext (a b : Sch) : Bool := zxt a && zxt b && !(a.name != b.name) && !(a.keys != b.keys) && !decide ((b.cols.length : Int) < (a.cols.length : Int)) && b.cols.zipIdx.all (z62 a)
theorem Tryz.rExt (a b : Sch) (ha : a.sz) (hb : b.sz) : zzr Tryz.prog 91 [pA a.enc, pA b.enc] (.one (dB (ext a b))) := by
 refine Tryz.pure (md := []) Tryz.func91 rfl Tryz.call91 (by kernel_rfl) (by rfl) (by exact Zle rfl) ?_
 repeat' (first|(with_reducible first|refine vSq fun K hK=>?_|apply vRg|apply vBl|apply vSc|apply vIf|apply vSk|apply vEx|apply vRt|((first|apply gNt|apply gCs)<;>(intro h;try simp only[h]))|((first|apply hK|(clear hK K;first|apply hK|(clear hK K;first|apply hK|(clear hK K;apply hK))));clear hK K)|(refine todo ?_;simp +decide only[go_sem]))|refine zzd (Tryz.rSchOK a ha) rfl rfl (fun _ => rfl) ?_|refine zzd (Tryz.rSchOK b hb) rfl rfl (fun _ => rfl) ?_)
 all_goals try (refine zzs rfl ?_; simp +decide only [go_sem, ext, *]; done)
 · have hhd : (zxt a && zxt b && !(a.name != b.name) && !(a.keys != b.keys) && !decide ((b.cols.length : Int) < (a.cols.length : Int))) = true := by simp +decide only [go_sem, *]
   refine zzj b.cols.length (fun i => (b.cols.zipIdx.take i).all (z62 a) = true) (fun i => frame [(5, pD (.lit (.int .i64 i))), (2, .c (.ptr 2 0)), (3, .c (.ptr 3 0))] [(2, a.enc.map .d), (3, b.enc.map .d)] []) rfl ?_ ?_
   · refine zzb ?_ ?_ ?_ <;> simp +decide only [go_sem]
     exact ⟨zzh (by simp [hOf]), zzh (by simp [hOf])⟩
   · intro i hi hI
     rcases Zlg i b.cols.length with hlt | hge
     · have hg2 := Zge hlt
       have hd := zze hlt
       have hw := zzl hlt hb.2.1
       generalize b.cols[i] = y at hg2
       have hz : b.cols.zipIdx[i]? = some (y, i) := by rw [List.getElem?_zipIdx, hg2]; simp
       rcases Zlg i a.cols.length with hlt' | hge'
       · have hg := Zge hlt'
         have hd' := zze hlt'
         have hd2 := yz0 hlt'
         generalize a.cols[i] = x at hg
         repeat' (first|(with_reducible first|refine vSq fun K hK=>?_|apply vRg|apply vBl|apply vSc|apply vIf|apply vSk|apply vEx|apply vRt|((first|apply gNt|apply gCs)<;>(intro h;try simp only[h]))|((first|apply hK|(clear hK K;first|apply hK|(clear hK K;first|apply hK|(clear hK K;apply hK))));clear hK K)|(refine todo ?_;simp +decide only[go_sem, hg, hg2, hd, hw, hd', hd2])))
         all_goals first
          | (have e : z62 a (y, i) = true := by simp_all [z62, zk8]
             refine zzi hlt (zz8 hI hz e) (zzb ?_ ?_ ?_) <;> simp +decide only [go_sem]
             exact ⟨zzh (by simp [hOf]), zzh (by simp [hOf])⟩)
          | (have e : z62 a (y, i) = false := by simp_all [z62, zk8]
             refine zzs rfl ?_
             simp +decide only [go_sem, ext, zqr hz e])
       · have hg := List.getElem?_eq_none hge'
         have hd' := zzf hge'
         have hd2 := yxp hge'
         repeat' (first|(with_reducible first|refine vSq fun K hK=>?_|apply vRg|apply vBl|apply vSc|apply vIf|apply vSk|apply vEx|apply vRt|((first|apply gNt|apply gCs)<;>(intro h;try simp only[h]))|((first|apply hK|(clear hK K;first|apply hK|(clear hK K;first|apply hK|(clear hK K;apply hK))));clear hK K)|(refine todo ?_;simp +decide only[go_sem, hg2, hd, hw, hd', hd2])))
         all_goals first
          | (have e : z62 a (y, i) = true := by simp_all [z62]
             refine zzi hlt (zz8 hI hz e) (zzb ?_ ?_ ?_) <;> simp +decide only [go_sem]
             exact ⟨zzh (by simp [hOf]), zzh (by simp [hOf])⟩)
          | (have e : z62 a (y, i) = false := by simp_all [z62]
             refine zzs rfl ?_
             simp +decide only [go_sem, ext, zqr hz e])
     · have hd := zzf hge
       rw [Ztl (by rw [List.length_zipIdx]; exact hge)] at hI
       repeat' (first|(with_reducible first|refine vSq fun K hK=>?_|apply vRg|apply vBl|apply vSc|apply vIf|apply vSk|apply vEx|apply vRt|((first|apply gNt|apply gCs)<;>(intro h;try simp only[h]))|((first|apply hK|(clear hK K;first|apply hK|(clear hK K;first|apply hK|(clear hK K;apply hK))));clear hK K)|(refine todo ?_;simp +decide only[go_sem, hd])))
       refine zzs rfl ?_
       simp +decide only [go_sem, ext, hI, hhd]
def z5s (s : Sch) (p : Val × Nat) : Bool := p.1.right && match s.cols[p.2]? with
 | some c => !(p.1.kind != 0 && p.1.kind != c.kind) && !((p.1.kind == 0) && c.need)
 | none => false
def fits (s : Sch) (r : Row) : Int := if zxt s = true then if ((r.length : Int) != (s.cols.length : Int)) = true then 10 else if r.zipIdx.all (z5s s) = true then 0 else 10 else 11
theorem Tryz.rFits (s : Sch) (r : Row) (hs : s.sz) (hr : r.length ≤ 4294967296) (hok : Row.ok' r) : zzr Tryz.prog 63 [pA s.enc, pD (zz4 r)] (.one (.d (dI (fits s r)))) := by
 refine Tryz.pure (md := []) Tryz.func63 rfl Tryz.call63 (by kernel_rfl) (by rfl) (by exact Zle rfl) ?_
 repeat' (first|(with_reducible first|refine vSq fun K hK=>?_|apply vRg|apply vBl|apply vSc|apply vIf|apply vSk|apply vEx|apply vRt|((first|apply gNt|apply gCs)<;>(intro h;try simp only[h]))|((first|apply hK|(clear hK K;first|apply hK|(clear hK K;first|apply hK|(clear hK K;apply hK))));clear hK K)|(refine todo ?_;simp +decide only[go_sem]))|refine zzd (Tryz.rSchOK s hs) rfl rfl (fun _ => rfl) ?_)
 all_goals try (refine zzs rfl ?_; simp +decide only [go_sem, fits, *]; done)
 · have hsr : zxt s = true := by assumption
   have hl' : ((r.length : Int) != (s.cols.length : Int)) = false := by assumption
   have hl : r.length = s.cols.length := by have := hl'; simp at this; omega
   refine zzj r.length (fun i => (r.zipIdx.take i).all (z5s s) = true) (fun i => frame [(1, pD (zz4 r)), (5, pD (.lit (.int .i64 i))), (2, .c (.ptr 2 0))] [(2, s.enc.map .d)] []) rfl ?_ ?_
   · refine zzb ?_ ?_ ?_ <;> simp +decide only [go_sem]
     exact zzh (by simp [hOf])
   · intro i hi hI
     rcases Zlg i r.length with hlt | hge
     · have hg := Zge hlt
       have hg2 := Zge (show i < s.cols.length by omega)
       have hd := zze hlt
       have hw := zzl hlt hr
       generalize r[i] = v at hg
       generalize s.cols[i] = c at hg2
       have hz : r.zipIdx[i]? = some (v, i) := by rw [List.getElem?_zipIdx, hg]; simp
       have hv := hok v (Zme hg)
       repeat' (first|(with_reducible first|refine vSq fun K hK=>?_|apply vRg|apply vBl|apply vSc|apply vIf|apply vSk|apply vEx|apply vRt|((first|apply gNt|apply gCs)<;>(intro h;try simp only[h]))|((first|apply hK|(clear hK K;first|apply hK|(clear hK K;first|apply hK|(clear hK K;apply hK))));clear hK K)|(refine todo ?_;simp +decide only[go_sem, hg, hg2, hd, hw]))|refine zzd (Tryz.rValue v hv) rfl rfl (fun _ => rfl) ?_)
       all_goals first
        | (have e : z5s s (v, i) = true := by simp_all [z5s]
           refine zzi hlt (zz8 hI hz e) (zzb ?_ ?_ ?_) <;> simp +decide only [go_sem]
           exact zzh (by simp [hOf]))
        | (have e : z5s s (v, i) = false := by simp_all [z5s]
           refine zzs rfl ?_
           simp +decide only [go_sem, fits, hsr, hl', zqr hz e])
     · have hd := zzf hge
       rw [Ztl (by rw [List.length_zipIdx]; exact hge)] at hI
       repeat' (first|(with_reducible first|refine vSq fun K hK=>?_|apply vRg|apply vBl|apply vSc|apply vIf|apply vSk|apply vEx|apply vRt|((first|apply gNt|apply gCs)<;>(intro h;try simp only[h]))|((first|apply hK|(clear hK K;first|apply hK|(clear hK K;first|apply hK|(clear hK K;apply hK))));clear hK K)|(refine todo ?_;simp +decide only[go_sem, hd])))
       refine zzs rfl ?_
       simp +decide only [go_sem, fits, hsr, hl', hI]
theorem y00 {s : Sch} {r : Row} (h : fits s r = 0) : zxt s = true ∧ r.length = s.cols.length ∧ r.zipIdx.all (z5s s) = true := by
 unfold fits at h
 split at h
 · rename_i h1
   split at h
   · cases h
   · rename_i h2
     split at h
     · rename_i h3
       exact ⟨h1, by simp at h2; omega, h3⟩
     · cases h
 · cases h
theorem ywj {s : Sch} (h : zxt s = true) : ∃ n : Nat, s.keys = n ∧ 1 ≤ n ∧ n ≤ 8 ∧ n ≤ s.cols.length := by
 unfold zxt z2h at h
 simp only [Bool.and_eq_true, Bool.not_eq_true', decide_eq_false_iff_not] at h
 exact ⟨s.keys.toNat, by omega, by omega, by omega, by omega⟩
def z4i (s : Sch) (r : Row) : Row := if fits s r = 0 then r.take s.keys.toNat else []
theorem Tryz.rKey (s : Sch) (r : Row) (hs : s.sz) (hr : r.length ≤ 1048576) (hok : Row.ok' r) : zzr Tryz.prog 64 [pA s.enc, pD (zz4 r)] (.one (.d (zz4 (z4i s r)))) := by
 refine Tryz.pure (md := []) Tryz.func64 rfl Tryz.call64 (by kernel_rfl) (by rfl) (by exact Zle rfl) ?_
 by_cases hf : fits s r = 0
 · obtain ⟨hs1, hl, _⟩ := y00 hf
   obtain ⟨n, hn, h1, h2, h3⟩ := ywj hs1
   have kf := Tryz.rFits s r hs (by omega) hok
   rw [hf] at kf
   have hk : z4i s r = r.take n := by unfold z4i; rw [if_pos hf, hn]; rfl
   rw [hk]
   have tk : List.take (n - 0) (List.drop 0 (r.map Val.enc)) = (r.take n).map Val.enc := by simp
   repeat' (first|(with_reducible first|refine vSq fun K hK=>?_|apply vRg|apply vBl|apply vSc|apply vIf|apply vSk|apply vEx|apply vRt|((first|apply gNt|apply gCs)<;>(intro h;try simp only[h]))|((first|apply hK|(clear hK K;first|apply hK|(clear hK K;first|apply hK|(clear hK K;apply hK))));clear hK K)|(refine todo ?_;simp +decide only[go_sem]))|refine zzd kf rfl rfl (fun _ => rfl) ?_|(refine zvh Tryz.appVals rfl (l := 0) (h := n) rfl (by simp [zz0, natOf?, intOf?, hn]) (by omega) (by simp; omega) (yq3 _) ?_; rw [tk])|(refine zx2 Tryz.appVals rfl rfl zvw (yq3 _) (by simp; omega) rfl ?_))
   refine zzs rfl ?_
   simp +decide only [go_sem]
 · have kf := Tryz.rFits s r hs (by omega) hok
   have hk : z4i s r = [] := by unfold z4i; rw [if_neg hf]
   have hb : (fits s r != 0) = true := by simpa using hf
   rw [hk]
   repeat' (first|(with_reducible first|refine vSq fun K hK=>?_|apply vRg|apply vBl|apply vSc|apply vIf|apply vSk|apply vEx|apply vRt|((first|apply gNt|apply gCs)<;>(intro h;try simp only[h]))|((first|apply hK|(clear hK K;first|apply hK|(clear hK K;first|apply hK|(clear hK K;apply hK))));clear hK K)|(refine todo ?_;simp +decide only[go_sem, hb]))|refine zzd kf rfl rfl (fun _ => rfl) ?_)
   refine zzs rfl ?_
   simp +decide only [go_sem]
def z6g (r : Row) (most : Int) : Bool := zqi r && (decide (1 ≤ (r.length : Int)) && decide ((r.length : Int) ≤ most))
theorem Tryz.rRowMost (r : Row) (most : Int) (hr : r.length ≤ 4294967296) (hok : Row.ok' r) : zzr Tryz.prog 113 [pD (zz4 r), pD (dI most)] (.one (dB (z6g r most))) := by
 refine Tryz.pure (md := []) Tryz.func113 rfl Tryz.call113 (by kernel_rfl) (by rfl) (by exact Zle rfl) ?_
 repeat' (first|(with_reducible first|refine vSq fun K hK=>?_|apply vRg|apply vBl|apply vSc|apply vIf|apply vSk|apply vEx|apply vRt|((first|apply gNt|apply gCs)<;>(intro h;try simp only[h]))|((first|apply hK|(clear hK K;first|apply hK|(clear hK K;first|apply hK|(clear hK K;apply hK))));clear hK K)|(refine todo ?_;simp +decide only[go_sem])))
 refine zzj r.length (fun i => zqi (r.take i) = true) (fun i => frame [(0, pD (zz4 r)), (1, pD (dI most)), (5, pD (.lit (.int .i64 i)))] [] []) rfl ?_ ?_
 · refine zzb ?_ ?_ ?_ <;> simp +decide only [go_sem]
 · intro i hi hI
   rcases Zlg i r.length with hlt | hge
   · have hg := Zge hlt
     have hd := zze hlt
     have hw := zzl hlt hr
     generalize r[i] = v at hg
     have hv := hok v (Zme hg)
     repeat' (first|(with_reducible first|refine vSq fun K hK=>?_|apply vRg|apply vBl|apply vSc|apply vIf|apply vSk|apply vEx|apply vRt|((first|apply gNt|apply gCs)<;>(intro h;try simp only[h]))|((first|apply hK|(clear hK K;first|apply hK|(clear hK K;first|apply hK|(clear hK K;apply hK))));clear hK K)|(refine todo ?_;simp +decide only[go_sem, hg, hd, hw]))|refine zzd (Tryz.rValue v hv) rfl rfl (fun _ => rfl) ?_)
     · refine zzi hlt (zz8 hI hg h) (zzb ?_ ?_ ?_) <;> simp +decide only [go_sem]
     · refine zzs rfl ?_
       simp +decide only [go_sem, zqr hg h, z6g, zqi]
   · have hd := zzf hge
     rw [Ztl hge] at hI
     repeat' (first|(with_reducible first|refine vSq fun K hK=>?_|apply vRg|apply vBl|apply vSc|apply vIf|apply vSk|apply vEx|apply vRt|((first|apply gNt|apply gCs)<;>(intro h;try simp only[h]))|((first|apply hK|(clear hK K;first|apply hK|(clear hK K;first|apply hK|(clear hK K;apply hK))));clear hK K)|(refine todo ?_;simp +decide only[go_sem, hd])))
     all_goals (refine zzs rfl ?_; simp +decide only [go_sem, z6g, *])
def zvc : Sch := ⟨[], [], 0⟩
def y3i (c : Chg) : Bool := zxt c.d && (c.tab == c.d.name) && ((c.row.length : Int) == 0) && ((c.lo == 0) && (c.hi == 0))
def z9l (c : Chg) : Bool := !((c.op != 1) && (c.op != 2)) && zvn c.tab && z6g c.row (if (c.op == 2) = true then 8 else 16) && z1z c.d zvc && (decide (0 ≤ c.lo) && decide (c.lo < c.hi) && decide (c.hi ≤ 1099511627776))
def z8n (c : Chg) : Bool := if (c.op == 3) = true then y3i c else z9l c
def Chg.sz (c : Chg) : Prop := c.d.sz ∧ c.tab.length ≤ 4294967296 ∧ c.row.length ≤ 4294967296 ∧ Row.ok' c.row
theorem Tryz.rChg (c : Chg) (hc : c.sz) : zzr Tryz.prog 89 [pA c.enc] (.one (dB (z8n c))) := by
 obtain ⟨h1, h2, h3, h4⟩ := hc
 refine Tryz.pure (md := []) Tryz.func89 rfl Tryz.call89 (by kernel_rfl) (by rfl) (by exact Zle rfl) ?_
 have k8 := Tryz.rRowMost c.row 8 h3 h4
 have k16 := Tryz.rRowMost c.row 16 h3 h4
 have ks := Tryz.rSchSame c.d zvc h1.2.1
 repeat' (first|(with_reducible first|refine vSq fun K hK=>?_|apply vRg|apply vBl|apply vSc|apply vIf|apply vSk|apply vEx|apply vRt|((first|apply gNt|apply gCs)<;>(intro h;try simp only[h]))|((first|apply hK|(clear hK K;first|apply hK|(clear hK K;first|apply hK|(clear hK K;apply hK))));clear hK K)|(refine todo ?_;simp +decide only[go_sem]))|refine zzd (Tryz.rSchOK c.d h1) rfl rfl (fun _ => rfl) ?_|refine zzd (Tryz.rName c.tab h2) rfl rfl (fun _ => rfl) ?_|refine zzd k8 rfl rfl (fun _ => rfl) ?_|refine zzd k16 rfl rfl (fun _ => rfl) ?_|refine zzd ks rfl rfl (fun _ => rfl) ?_)
 all_goals (refine zzs rfl ?_; simp +decide only [go_sem, z8n, y3i, z9l, *])
def z0n (t : Txn) : Bool := t.chs.all z8n && (decide (1 ≤ t.seq) && decide (t.seq ≤ 1099511627776) && decide (0 ≤ t.time) && decide (t.time < 1099511627776) && decide ((t.chs.length : Int) ≤ 100))
def Txn.sz (t : Txn) : Prop := t.chs.length ≤ 4294967296 ∧ ∀ c ∈ t.chs, c.sz
theorem Tryz.rTxn (t : Txn) (ht : t.sz) : zzr Tryz.prog 59 [pA t.enc] (.one (dB (z0n t))) := by
 refine Tryz.pure (md := []) Tryz.func59 rfl Tryz.call59 (by kernel_rfl) (by rfl) (by exact Zle rfl) ?_
 repeat' (first|(with_reducible first|refine vSq fun K hK=>?_|apply vRg|apply vBl|apply vSc|apply vIf|apply vSk|apply vEx|apply vRt|((first|apply gNt|apply gCs)<;>(intro h;try simp only[h]))|((first|apply hK|(clear hK K;first|apply hK|(clear hK K;first|apply hK|(clear hK K;apply hK))));clear hK K)|(refine todo ?_;simp +decide only[go_sem])))
 refine zzj t.chs.length (fun i => (t.chs.take i).all z8n = true) (fun i => frame [(1, .c (.ptr 1 0)), (3, pD (.lit (.int .i64 i)))] [(1, t.enc.map .d)] []) rfl ?_ ?_
 · refine zzb ?_ ?_ ?_ <;> simp +decide only [go_sem]
   exact zzh (by simp [hOf])
 · intro i hi hI
   rcases Zlg i t.chs.length with hlt | hge
   · have hg := Zge hlt
     have hd := zze hlt
     have hw := zzl hlt ht.1
     generalize t.chs[i] = c at hg
     have hc := Tryz.rChg c (ht.2 c (Zme hg))
     repeat' (first|(with_reducible first|refine vSq fun K hK=>?_|apply vRg|apply vBl|apply vSc|apply vIf|apply vSk|apply vEx|apply vRt|((first|apply gNt|apply gCs)<;>(intro h;try simp only[h]))|((first|apply hK|(clear hK K;first|apply hK|(clear hK K;first|apply hK|(clear hK K;apply hK))));clear hK K)|(refine todo ?_;simp +decide only[go_sem, hg, hd, hw]))|refine zzd hc rfl rfl (fun _ => rfl) ?_)
     · refine zzi hlt (zz8 hI hg h) (zzb ?_ ?_ ?_) <;> simp +decide only [go_sem]
       exact zzh (by simp [hOf])
     · refine zzs rfl ?_
       simp +decide only [go_sem, zqr hg h, z0n]
   · have hd := zzf hge
     rw [Ztl hge] at hI
     repeat' (first|(with_reducible first|refine vSq fun K hK=>?_|apply vRg|apply vBl|apply vSc|apply vIf|apply vSk|apply vEx|apply vRt|((first|apply gNt|apply gCs)<;>(intro h;try simp only[h]))|((first|apply hK|(clear hK K;first|apply hK|(clear hK K;first|apply hK|(clear hK K;apply hK))));clear hK K)|(refine todo ?_;simp +decide only[go_sem, hd])))
     all_goals (refine zzs rfl ?_; simp +decide only [go_sem, z0n, *])
def zxu (l : List (List UInt8)) : D := .sl (l.map fun s => [dS s])
attribute [go_sem] zxu
end Go.Proofs
