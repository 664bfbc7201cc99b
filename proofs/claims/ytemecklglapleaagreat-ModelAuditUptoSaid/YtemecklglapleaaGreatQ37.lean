/-
  Parts of the proof, laid together: PwGd, PwGe, PwGf, PwKb.
-/
import Derived.Test.YtemecklglapleaaGreatQ26
import Derived.Laws.RangeAny
import Derived.Test.YtemecklglapleaaGreatQ31
import Derived.Test.YtemecklglapleaaGreatQ36

set_option maxRecDepth 30000
set_option maxHeartbeats 16000000
namespace Go.Proofs
open Go.PW
theorem ykg {b : UInt8} {i : Nat} : nmAt (b, i) = true ↔ ((97 ≤ (b.toNat : Int) ∧ (b.toNat : Int) ≤ 122) ∨ (b.toNat : Int) = 95 ∨ (¬ (i : Int) = 0 ∧ 48 ≤ (b.toNat : Int) ∧ (b.toNat : Int) ≤ 57)) := by
 unfold nmAt z4v
 simp only [Bool.or_eq_true, Bool.and_eq_true, decide_eq_true_eq, beq_iff_eq, Bool.not_eq_true', decide_eq_false_iff_not, beq_eq_false_iff_ne, ne_eq]
 omega
theorem y1u {b : UInt8} {i : Nat} (h : ¬ ((97 ≤ (b.toNat : Int) ∧ (b.toNat : Int) ≤ 122) ∨ (b.toNat : Int) = 95 ∨ (¬ (i : Int) = 0 ∧ 48 ≤ (b.toNat : Int) ∧ (b.toNat : Int) ≤ 57))) : nmAt (b, i) = false := by
 cases e : nmAt (b, i) with
 | false => rfl
 | true => exact absurd (ykg.1 e) h
theorem y57 {H' : HMap} {A A' : AMap} {κ : Tok} {ar : Arr} (h1 : A κ = some ar) (h2 : A' κ = some ar) : PV.wk H' A A' (.c (.sit κ)) (.c (.sit κ)) := wk_c (.inr (.inl ⟨rfl, by rw [h2]; simp, by rw [h1, h2]⟩))
theorem Tryz.kName (l : List UInt8) (hn : l.length ≤ 4294967296) : zzr Tryz.prog 123 [pD (dS l)] (.one (dB (zvn l))) := by
 refine Tryz.pure (md := []) Tryz.func123 rfl Tryz.call123 (by kernel_rfl) (by rfl) (by exact Zle rfl) ?_
 have hsz : (ByteArray.mk l.toArray).size = l.length := by simp [ByteArray.size]
 repeat' (first|(with_reducible first|refine vSq fun K hK=>?_|apply vRg|apply vBl|apply vSc|apply vIf|apply vSk|apply vEx|apply vRt|((first|apply gNt|apply gCs)<;>(intro h;try simp only[h]))|((first|apply hK|(clear hK K;first|apply hK|(clear hK K;first|apply hK|(clear hK K;apply hK))));clear hK K)|(refine todo ?_;simp +decide only[go_sem]))|refine y9q Tryz.underlying9 rfl ?_)
 refine zzj l.length (fun i => (l.zipIdx.take i).all nmAt = true) (fun i => frame [(0, pD (dS l)), (8, .c (.sit (8, 0)))] [] [((8, 0), .si ⟨l.toArray⟩ i)]) rfl ?_ ?_
 · refine zzb ?_ ?_ ?_
   · simp +decide only [go_sem]
     exact y57 (zzc _ _ _) rfl
   · simp +decide only [go_sem]
   · simp +decide only [go_sem]
 · intro i hi hI
   rcases Zlg i l.length with hlt | hge
   · have hg := Zge hlt
     have hp : i < (ByteArray.mk l.toArray).size := by rw [hsz]; exact hlt
     have hz : l.zipIdx[i]? = some (l[i], i) := by rw [List.getElem?_zipIdx, hg]; simp
     by_cases hb : l[i].toNat < 128
     · have hdec : Utf8.decode ⟨l.toArray⟩ i = (l[i].toNat, 1) := decode_ascii ⟨l.toArray⟩ i hp hb
       generalize l[i] = b at hg hz hb hdec
       repeat' (first|(with_reducible first|refine vSq fun K hK=>?_|apply vRg|apply vBl|apply vSc|apply vIf|apply vSk|apply vEx|apply vRt|((first|apply gNt|apply gCs)<;>(intro h;try simp only[h]))|((first|apply hK|(clear hK K;first|apply hK|(clear hK K;first|apply hK|(clear hK K;apply hK))));clear hK K)|(refine todo ?_;simp +decide only[go_sem, hdec]))|refine y5k rfl hp ?_)
       all_goals first
        | (have e : nmAt (b, i) = true := ykg.2 (by clear hK K hdec; grind)
           refine zzi hlt (zz8 hI hz e) (zzb ?_ ?_ ?_)
           · simp +decide only [go_sem]
             exact y57 (zzc _ _ _) rfl
           · simp +decide only [go_sem]
           · simp +decide only [go_sem])
        | (have e : nmAt (b, i) = false := y1u (by clear hdec; grind)
           refine zzs rfl ?_
           simp +decide only [go_sem, zvn, zqr hz e])
     · obtain ⟨h1, -⟩ := decode_high ⟨l.toArray⟩ i hp (Nat.le_of_not_lt hb)
       obtain ⟨r, m, hdec⟩ : ∃ r m, Utf8.decode ⟨l.toArray⟩ i = (r, m) := ⟨_, _, rfl⟩
       rw [hdec] at h1
       simp only at h1
       have e : nmAt (l[i], i) = false := y1u (by omega)
       have c1 : decide ((48 : Int) ≤ (r : Int)) = true := decide_eq_true (by omega)
       have c2 : decide ((r : Int) ≤ 57) = false := decide_eq_false (by omega)
       have c3 : decide ((97 : Int) ≤ (r : Int)) = true := decide_eq_true (by omega)
       have c4 : decide ((r : Int) ≤ 122) = false := decide_eq_false (by omega)
       have c5 : ((r : Int) == 95) = false := by simp; omega
       repeat' (first|(with_reducible first|refine vSq fun K hK=>?_|apply vRg|apply vBl|apply vSc|apply vIf|apply vSk|apply vEx|apply vRt|((first|apply gNt|apply gCs)<;>(intro h;try simp only[h]))|((first|apply hK|(clear hK K;first|apply hK|(clear hK K;first|apply hK|(clear hK K;apply hK))));clear hK K)|(refine todo ?_;simp +decide only[go_sem, hdec, c1, c2, c3, c4, c5]))|refine y5k rfl hp ?_)
       refine zzs rfl ?_
       simp +decide only [go_sem, zvn, zqr hz e]
   · have hp : ¬ i < (ByteArray.mk l.toArray).size := by rw [hsz]; omega
     rw [Ztl (by rw [List.length_zipIdx]; exact hge)] at hI
     have hne : (l != []) = decide (1 ≤ (l.length : Int)) := by
      cases l with
      | nil => rfl
      | cons a l => rw [decide_eq_true (by rw [List.length_cons]; omega)]; rfl
     repeat' (first|(with_reducible first|refine vSq fun K hK=>?_|apply vRg|apply vBl|apply vSc|apply vIf|apply vSk|apply vEx|apply vRt|((first|apply gNt|apply gCs)<;>(intro h;try simp only[h]))|((first|apply hK|(clear hK K;first|apply hK|(clear hK K;first|apply hK|(clear hK K;apply hK))));clear hK K)|(refine todo ?_;simp +decide only[go_sem, hne]))|refine y6k rfl hp ?_)
     all_goals (refine zzs rfl ?_; simp +decide only [go_sem, zvn, *])
end Go.Proofs
namespace Go.PW
@[go_sem] theorem x0f {c : CV} : twoV (.c c) = none := rfl
@[go_sem] theorem x0e {a b : ByteArray} : twoV (.agg [.d (.lit (.string a)), .d (.lit (.string b))]) = some (a, b) := rfl
@[go_sem] theorem x0c {s : ByteArray} : xwz (.string s) = .c (.d (.lit (.string s))) := rfl
@[go_sem] theorem x0b {k : IntKind} {n : Int} : xwz (.int k n) = .c (.d (.lit (.int k n))) := rfl
@[go_sem] theorem x0d {a b : ByteArray} : xwz (key2 a b) = .agg [.d (.lit (.string a)), .d (.lit (.string b))] := rfl
end Go.PW
namespace Go.Proofs
open Go.PW
def hadM (l : List Col) : List (Value × MV) := l.map fun c => (.string ⟨c.name.toArray⟩, .c (.lit (.int .i64 1)))
theorem y4w (a b : List UInt8) : Instr.sameNow .string (.string ⟨a.toArray⟩) (.string ⟨b.toArray⟩) = some (b == a) := by
 show some (ByteArray.mk a.toArray == ByteArray.mk b.toArray) = _
 have e : (ByteArray.mk a.toArray == ByteArray.mk b.toArray) = (a.toArray == b.toArray) := rfl
 rw [e, List.beq_toArray]
 by_cases h : b = a
 · subst h; simp
 · rw [beq_eq_false_iff_ne.2 h, beq_eq_false_iff_ne.2 (fun e => h e.symm)]
theorem yqa (n : List UInt8) : ∀ (l : List Col) (i : Nat), ((l.any fun c => c.name == n) = false → mfind .string (.string ⟨n.toArray⟩) (hadM l) i = some none) ∧ ((l.any fun c => c.name == n) = true → ∃ j, mfind .string (.string ⟨n.toArray⟩) (hadM l) i = some (some (j, .c (.lit (.int .i64 1)))))
 | [], i => ⟨fun _ => rfl, fun h => by simp at h⟩
 | c :: l, i => by
   have ih := yqa n l (i + 1)
   have e : mfind .string (.string ⟨n.toArray⟩) (hadM (c :: l)) i = match (some (c.name == n) : Option Bool) with
    | some true => some (some (i, .c (.lit (.int .i64 1))))
    | some false => mfind .string (.string ⟨n.toArray⟩) (hadM l) (i + 1)
    | none => none := by
    rw [← y4w n c.name]; rfl
   rw [e, List.any_cons]
   cases h : (c.name == n) with
   | true => exact ⟨fun h0 => by simp at h0, fun _ => ⟨i, rfl⟩⟩
   | false => exact ih
theorem y05 {l : List Col} {i : Nat} {c : Col} (h : l[i]? = some c) : hadM (l.take (i + 1)) = hadM (l.take i) ++ [(.string ⟨c.name.toArray⟩, .c (.lit (.int .i64 1)))] := by
 unfold hadM
 rw [zzw h, List.map_append]; rfl
theorem y7c (l : List Col) (n : List UInt8) : (l.all fun x => !(x.name == n)) = !(l.any fun x => x.name == n) := by
 induction l with
 | nil => rfl
 | cons c l ih => rw [List.all_cons, List.any_cons, ih]; cases (c.name == n) <;> simp
theorem y55 {H' : HMap} {A A' : AMap} {κ : Tok} {ar : Arr} (h1 : A κ = some ar) (h2 : A' κ = some ar) : PV.wk H' A A' (.c (.mpr κ)) (.c (.mpr κ)) := wk_c (.inr (.inl ⟨rfl, by rw [h2]; simp, by rw [h1, h2]⟩))
theorem Tryz.kSchRight (s : Sch) (hz : s.sz) : zzr Tryz.prog 116 [pA s.enc] (.one (dB (zxt s))) := by
 obtain ⟨hz1, hz2, hz3⟩ := hz
 refine Tryz.pure (md := []) Tryz.func116 rfl Tryz.call116 (by kernel_rfl) (by rfl) (by exact Zle rfl) ?_
 have kn := Tryz.kName s.name hz1
 repeat' (first|(with_reducible first|refine vSq fun K hK=>?_|apply vRg|apply vBl|apply vSc|apply vIf|apply vSk|apply vEx|apply vRt|((first|apply gNt|apply gCs)<;>(intro h;try simp only[h]))|((first|apply hK|(clear hK K;first|apply hK|(clear hK K;first|apply hK|(clear hK K;apply hK))));clear hK K)|(refine todo ?_;simp +decide only[go_sem]))|refine zzd kn rfl rfl (fun _ => rfl) ?_)
 all_goals try (have e : zxt s = false := (by unfold zxt z2h; clear kn hz3; grind); refine zzs rfl ?_; simp +decide only [go_sem, e]; done)
 have hh : z2h s = true := by
  unfold z2h
  clear kn hz3 hK
  grind
 clear kn
 refine zzj s.cols.length (fun i => (s.cols.zipIdx.take i).all (z2b s.keys s.cols) = true) (fun i => frame [(1, .c (.ptr 1 0)), (3, .c (.mpr (30, 0))), (32, pD (zwh s.cols)), (33, pD (dI s.cols.length)), (34, pD (dI i))] [(1, s.enc.map .d)] [((30, 0), .mp (hadM (s.cols.take i)))]) rfl ?_ ?_
 · have e0 : hadM [] = [] := rfl
   refine zzb ?_ ?_ ?_
   · simp +decide only [go_sem, e0]
     exact ⟨zzh (by simp [hOf]), y55 (zzc _ _ _) rfl⟩
   · simp +decide only [go_sem]
   · simp +decide only [go_sem, e0]
 · intro i hi hI
   rcases Zlg i s.cols.length with hlt | hge
   · have hg := Zge hlt
     have hd := zze hlt
     have hw := zzl hlt hz2
     have hnx := y05 hg
     generalize s.cols[i] = c at hg hnx
     have hzz : s.cols.zipIdx[i]? = some (c, i) := by rw [List.getElem?_zipIdx, hg]; simp
     have kn := Tryz.kName c.name (hz3 c (Zme hg))
     have hcol : z2b s.keys s.cols (c, i) = ((zvn c.name && !decide (c.kind < 1) && !decide (5 < c.kind) && !(decide ((i : Int) < s.keys) && !c.need)) && !((s.cols.take i).any fun x => x.name == c.name)) := by unfold z2b; rw [y7c]
     obtain ⟨f1, f2⟩ := yqa c.name (s.cols.take i) 0
     have hm : z88 (aOf [((30, 0), .mp (hadM (s.cols.take i)))]) (.c (.mpr (30, 0))) = some (hadM (s.cols.take i)) := y1n rfl
     have ez : zlit Tryz.prog 3 = some (.c (.lit (.int .i64 0))) := by kernel_rfl
     cases hin : (s.cols.take i).any fun x => x.name == c.name with
     | true =>
       obtain ⟨j, hj⟩ := f2 hin
       have e : z2b s.keys s.cols (c, i) = false := by rw [hcol, hin]; simp
       have e2 : zxt s = false := by unfold zxt z5j; rw [zqr hzz e, Bool.and_false]
       repeat' (first|(with_reducible first|refine vSq fun K hK=>?_|apply vRg|apply vBl|apply vSc|apply vIf|apply vSk|apply vEx|apply vRt|((first|apply gNt|apply gCs)<;>(intro h;try simp only[h]))|((first|apply hK|(clear hK K;first|apply hK|(clear hK K;first|apply hK|(clear hK K;apply hK))));clear hK K)|(refine todo ?_;simp +decide only[go_sem, hg, hd, hm, hj, MV.pv]))|refine zzd kn rfl rfl (fun _ => rfl) ?_)
       all_goals
        refine zzs rfl ?_
        simp +decide only [go_sem, e2]
     | false =>
       have hj := f1 hin
       repeat' (first|(with_reducible first|refine vSq fun K hK=>?_|apply vRg|apply vBl|apply vSc|apply vIf|apply vSk|apply vEx|apply vRt|((first|apply gNt|apply gCs)<;>(intro h;try simp only[h]))|((first|apply hK|(clear hK K;first|apply hK|(clear hK K;first|apply hK|(clear hK K;apply hK))));clear hK K)|(refine todo ?_;simp +decide only[go_sem, hg, hd, hw, hm, hj, ez, MV.pv]))|refine zzd kn rfl rfl (fun _ => rfl) ?_)
       all_goals try
        (have e : z2b s.keys s.cols (c, i) = false := by
          rw [hcol, hin]
          clear kn hcol f1 f2 hm ez hj hnx hI hz3
          simp only [*]
          first | done | rfl
         have e2 : zxt s = false := by unfold zxt z5j; rw [zqr hzz e, Bool.and_false]
         refine zzs rfl ?_
         simp +decide only [go_sem, e2]
         done)
       all_goals
        have e : z2b s.keys s.cols (c, i) = true := by
         rw [hcol, hin]
         clear kn hcol f1 f2 hm ez hj hnx hI hz3
         simp only [*]
         first | done | rfl
        have hnx' : hadM (s.cols.take i) ++ [(Value.string ⟨c.name.toArray⟩, MV.c (D.lit (Value.int IntKind.i64 (IntKind.i64.wrap (0 + 1)))))] = hadM (s.cols.take (i + 1)) := hnx.symm
        have w2 : PV.wk (hOf [(1, s.enc.map .d)]) (upd (aOf [((30, 0), .mp (hadM (s.cols.take i)))]) (30, 0) (some (.mp (hadM (s.cols.take (i + 1)))))) (aOf [((30, 0), .mp (hadM (s.cols.take (i + 1))))]) (.c (.mpr (30, 0))) (.c (.mpr (30, 0))) := y55 (zzc _ _ _) rfl
        refine zzi hlt (zz8 hI hzz e) (zzb ?_ ?_ ?_)
        · simp +decide only [go_sem, hnx']
          exact ⟨zzh (by simp [hOf]), w2⟩
        · simp +decide only [go_sem]
        · simp +decide only [go_sem, hnx']
   · have hd := zzf hge
     rw [Ztl (by rw [List.length_zipIdx]; exact hge)] at hI
     have e : zxt s = true := by unfold zxt z5j; rw [hh, hI]; rfl
     repeat' (first|(with_reducible first|refine vSq fun K hK=>?_|apply vRg|apply vBl|apply vSc|apply vIf|apply vSk|apply vEx|apply vRt|((first|apply gNt|apply gCs)<;>(intro h;try simp only[h]))|((first|apply hK|(clear hK K;first|apply hK|(clear hK K;first|apply hK|(clear hK K;apply hK))));clear hK K)|(refine todo ?_;simp +decide only[go_sem, hd])))
     refine zzs rfl ?_
     simp +decide only [go_sem, e]
def z2j (c : Col) (v : Val) : Bool := v.right && (!(v.kind != 0 && v.kind != c.kind) && !((v.kind == 0) && c.need))
theorem fitAt_holds {s : Sch} {c : Col} {v : Val} {i : Nat} (h : s.cols[i]? = some c) : z5s s (v, i) = z2j c v := by
 unfold z5s z2j
 simp only [h]
theorem Tryz.kHolds (c : Col) (v : Val) : zzr Tryz.prog 124 [pA c.enc, pA v.enc] (.one (dB (z2j c v))) := by
 refine Tryz.pure (md := []) Tryz.func124 rfl Tryz.call124 (by kernel_rfl) (by rfl) (by exact Zle rfl) ?_
 have kv := Tryz.kValue v
 repeat' (first|(with_reducible first|refine vSq fun K hK=>?_|apply vRg|apply vBl|apply vSc|apply vIf|apply vSk|apply vEx|apply vRt|((first|apply gNt|apply gCs)<;>(intro h;try simp only[h]))|((first|apply hK|(clear hK K;first|apply hK|(clear hK K;first|apply hK|(clear hK K;apply hK))));clear hK K)|(refine todo ?_;simp +decide only[go_sem]))|refine zzd kv rfl rfl (fun _ => rfl) ?_)
 all_goals
  have e : ∀ b, z2j c v = b ↔ (v.right && (!(v.kind != 0 && v.kind != c.kind) && !((v.kind == 0) && c.need))) = b := fun b => Iff.rfl
  clear kv
  refine zzs rfl ?_
  have h2 : z2j c v = (v.right && (!(v.kind != 0 && v.kind != c.kind) && !((v.kind == 0) && c.need))) := rfl
  first
   | (have h3 : z2j c v = true := by rw [h2]; clear e h2; grind
      simp +decide only [go_sem, h3]; done)
   | (have h3 : z2j c v = false := by rw [h2]; clear e h2; grind
      simp +decide only [go_sem, h3]; done)
   | (have h3 : z2j c v = v.right := by rw [h2]; clear e h2; grind
      simp +decide only [go_sem, h3]; done)
theorem Tryz.kFitsM (s : Sch) (r : Row) (hs : s.sz) {H : HMap} {A : AMap} (hw : Wf H A) {κ : Tok} (hκ : A κ = some (.mu 4 (r.map Val.enc))) :
 zqf Tryz.prog 117 1000 H A [pA s.enc, .c (.mt κ 4 r.length)] (pD (dI (fits s r))) H A := by
 refine zqh (E := envOf Tryz.prog [9000000 + 124] 1000 [] [8]) (zzx Tryz.mixed) Tryz.func117 rfl Tryz.call117 (by kernel_rfl) (by exact Zle rfl) (fun hab => ?_)
 have ks := Tryz.kSchRight s hs
 have hf2 : H 1002 = none := (hab _ (by omega)).1
 have hf6 : H 1006 = none := (hab _ (by omega)).1
 have hlt : ∀ id, H id ≠ none → (id = 1002) = False ∧ (id = 1006) = False := fun id hid => ⟨eq_false (by rintro rfl; exact hid hf2), eq_false (by rintro rfl; exact hid hf6)⟩
 repeat' (first|(with_reducible first|refine vSq fun K hK=>?_|apply vRg|apply vBl|apply vSc|apply vIf|apply vSk|apply vEx|apply vRt|((first|apply gNt|apply gCs)<;>(intro h;try simp only[h]))|((first|apply hK|(clear hK K;first|apply hK|(clear hK K;first|apply hK|(clear hK K;apply hK))));clear hK K)|(refine todo ?_;simp +decide only[go_sem, hf2]))|refine zzd ks rfl rfl (fun j => (hab _ (by omega)).2 j) ?_)
 · have h1 : zxt s = true := by assumption
   have h2 : ((r.length : Int) != (s.cols.length : Int)) = true := by assumption
   have e : fits s r = 10 := by unfold fits; rw [if_pos h1, if_pos h2]
   rw [e]
   exact zql (zzu (p := pD (dI 10)) rfl (by unfold zzn; simp +decide only [go_sem])) (by simp +decide only [go_sem]) Zti hw (fun i hi => by obtain ⟨n1, _⟩ := hlt i hi; simp only [upd, n1, if_false]) (fun _ _ => rfl)
 · have h1 : zxt s = true := by assumption
   have h2 : ((r.length : Int) != (s.cols.length : Int)) = false := by assumption
   have hl : r.length = s.cols.length := by have := h2; simp at this; omega
   have hfit : fits s r = if r.zipIdx.all (z5s s) = true then 0 else 10 := by unfold fits; rw [if_pos h1, h2]; rfl
   refine zzj s.cols.length (fun i => (r.zipIdx.take i).all (z5s s) = true) (fun i => over [(1, .c (.mt κ 4 r.length)), (2, .c (.ptr 1002 0)), (19, pD (zwh s.cols)), (20, pD (dI s.cols.length)), (21, pD (dI i))] [(1002, s.enc.map .d)] H A) rfl ?_ ?_
   · refine zxg hw (fun id hid => ?_) rfl ?_ ?_ <;> simp +decide only [go_sem]
     · obtain ⟨n1, _⟩ := hlt id hid
       simp only [n1, if_false]
     · exact ⟨wk_c (.inr (.inl ⟨rfl, by rw [hκ]; simp, rfl⟩)), zzh (by simp [zzy])⟩
   · intro i hi hI
     rcases Zlg i s.cols.length with hlt2 | hge
     · have hg := Zge hlt2
       have hgr := Zge (show i < r.length by omega)
       have hd := zze hlt2
       have hnx := zzl hlt2 (show s.cols.length ≤ 4294967296 from hs.2.1)
       generalize s.cols[i] = c at hg
       generalize r[i] = v at hgr
       have hz : r.zipIdx[i]? = some (v, i) := by rw [List.getElem?_zipIdx, hgr]; simp
       have kh := Tryz.kHolds c v
       have hfa := fitAt_holds (v := v) hg
       have hlr : (i < r.length) = True := eq_true (by omega)
       cases hh : z2j c v with
       | true =>
         repeat' (first|(with_reducible first|refine vSq fun K hK=>?_|apply vRg|apply vBl|apply vSc|apply vIf|apply vSk|apply vEx|apply vRt|((first|apply gNt|apply gCs)<;>(intro h;try simp only[h]))|((first|apply hK|(clear hK K;first|apply hK|(clear hK K;first|apply hK|(clear hK K;apply hK))));clear hK K)|(refine todo ?_;simp +decide only[go_sem, hf6, hg, hgr, hd, hnx, yvg, hlr, hκ, hh, List.length_map]))|refine zzq kh rfl rfl rfl rfl ?_)
         refine zzi hlt2 (zz8 hI hz (by rw [hfa, hh])) (zxg hw (fun id hid => ?_) rfl ?_ ?_) <;> simp +decide only [go_sem]
         · obtain ⟨n1, n2⟩ := hlt id hid
           simp only [n1, n2, if_false]
         · exact ⟨wk_c (.inr (.inl ⟨rfl, by rw [hκ]; simp, rfl⟩)), zzh (by simp [zzy])⟩
       | false =>
         have e : fits s r = 10 := by rw [hfit, zqr hz (by rw [hfa, hh])]; rfl
         rw [e]
         repeat' (first|(with_reducible first|refine vSq fun K hK=>?_|apply vRg|apply vBl|apply vSc|apply vIf|apply vSk|apply vEx|apply vRt|((first|apply gNt|apply gCs)<;>(intro h;try simp only[h]))|((first|apply hK|(clear hK K;first|apply hK|(clear hK K;first|apply hK|(clear hK K;apply hK))));clear hK K)|(refine todo ?_;simp +decide only[go_sem, hf6, hg, hgr, hd, yvg, hlr, hκ, hh, List.length_map]))|refine zzq kh rfl rfl rfl rfl ?_)
         exact zql (zzu (p := pD (dI 10)) rfl (by unfold zzn; simp +decide only [go_sem])) (by simp +decide only [go_sem]) Zti hw (fun i hi => by obtain ⟨n1, n2⟩ := hlt i hi; simp only [upd, zzy, n1, n2, if_false]) (fun _ _ => rfl)
     · have hd := zzf hge
       rw [Ztl (by rw [List.length_zipIdx]; omega)] at hI
       have e : fits s r = 0 := by rw [hfit, hI]; rfl
       repeat' (first|(with_reducible first|refine vSq fun K hK=>?_|apply vRg|apply vBl|apply vSc|apply vIf|apply vSk|apply vEx|apply vRt|((first|apply gNt|apply gCs)<;>(intro h;try simp only[h]))|((first|apply hK|(clear hK K;first|apply hK|(clear hK K;first|apply hK|(clear hK K;apply hK))));clear hK K)|(refine todo ?_;simp +decide only[go_sem, hd])))
       rw [e]
       exact zql (zzu (p := pD (dI 0)) rfl (by unfold zzn; simp +decide only [go_sem])) (by simp +decide only [go_sem]) Zti hw (fun i hi => by obtain ⟨n1, _⟩ := hlt i hi; simp only [zzy, n1, if_false]) (fun _ _ => rfl)
 · have h1 : zxt s = false := by assumption
   have e : fits s r = 11 := by unfold fits; rw [h1]; rfl
   rw [e]
   exact zql (zzu (p := pD (dI 11)) rfl (by unfold zzn; simp +decide only [go_sem])) (by simp +decide only [go_sem]) Zti hw (fun i hi => by obtain ⟨n1, _⟩ := hlt i hi; simp only [upd, n1, if_false]) (fun _ _ => rfl)
def z59 : Val := ⟨0, 0, 0, ⟨#[]⟩⟩
def z0p (s : Sch) (r : Row) : Row := r ++ List.replicate (s.cols.length - r.length) z59
def widen (s : Sch) (r : Row) : Row := if zxt s = true then if decide ((s.cols.length : Int) < (r.length : Int)) = true then [] else if fits s (z0p s r) = 0 then z0p s r else [] else []
def z23 (s : Sch) (r : Row) : Int := if zxt s = true then if decide ((s.cols.length : Int) < (r.length : Int)) = true then 10 else fits s (z0p s r) else 11
theorem y2s {s : Sch} {r : Row} : r.map Val.enc ++ (List.replicate s.cols.length z59.enc).drop r.length = (z0p s r).map Val.enc := by
 unfold z0p
 rw [List.map_append, List.map_replicate, List.drop_replicate]
theorem yq8 {s : Sch} {r : Row} (h : r.length ≤ s.cols.length) : (z0p s r).length = s.cols.length := by
 unfold z0p
 rw [Zla, List.length_replicate]; omega
theorem Tryz.zVal : zzm Tryz.prog 28 = some (z59.enc.map .d) := by kernel_rfl
theorem Tryz.mksVal {E : Env} {t : Nat} {T : TypeId} {k k' : IntKind} {n : Nat} {A : AMap} {K : PV → AMap → Prop} (hu : E.P.underlying T = some (.slice 28)) (hz : zzm E.P 28 = some (z59.enc.map .d)) (hc : E.P.cellsOf 28 = 4) (hn : 0 < n) (hs : n * 4 ≤ 16777216) (hb : n * E.P.bytesOf 28 ≤ 16777216) (hA : A (E.off + t, 0) = none)
 (hK : Todo (K (.c (.mt (E.off + t, 0) 4 n)) (upd A (E.off + t, 0) (some (.mu 4 (List.replicate n z59.enc)))))) : mksV E (some t) T (.c (.d (.lit (.int k (n : Int))))) (.c (.d (.lit (.int k' (n : Int))))) A K :=
 y9n (z := z59.enc) hu hz hc (by decide) hn hs hb hA hK
theorem y9l {P : Program} {t u e c n : Nat} {κ : Tok} {els ys : List (List D)} {y : PV} {A : AMap} {KK : PV → AMap → Prop} (hu : P.underlying t = some (.slice e)) (hc : P.cellsOf e = c) (hp : 0 < c) (hA : A κ = some (.mu c els)) (hn : n = els.length) (hy : zqc y = some ys) (hs : Szd c ys) (hl : ys.length ≤ els.length)
 (hK : Todo (KK (.c (.d (.lit (.int .i64 ys.length)))) (upd A κ (some (.mu c (ys ++ els.drop ys.length)))))) : cpyV P A [t, u] (.c (.mt κ c n)) y KK := by
 subst hn
 exact xq7 hu hc hp hA hy hs hl hK
theorem Tryz.kWiden (s : Sch) (r : Row) (hs : s.sz) : zzr Tryz.prog 108 [pA s.enc, pD (zz4 r)] (.tup [.d (zz4 (widen s r)), .d (dI (z23 s r))]) := by
 have ks := Tryz.kSchRight s hs
 refine zvs (E := envOf Tryz.prog [117, 4000000 + 29] 0 [22] []) (zzx Tryz.mixed) Tryz.func108 rfl Tryz.call108 (by kernel_rfl) (by rfl) (by exact Zle rfl) ?_
 cases h1 : zxt s with
 | false =>
   repeat' (first|(with_reducible first|refine vSq fun K hK=>?_|apply vRg|apply vBl|apply vSc|apply vIf|apply vSk|apply vEx|apply vRt|((first|apply gNt|apply gCs)<;>(intro h;try simp only[h]))|((first|apply hK|(clear hK K;first|apply hK|(clear hK K;first|apply hK|(clear hK K;apply hK))));clear hK K)|(refine todo ?_;simp +decide only[go_sem, h1]))|refine zzd ks rfl rfl (fun _ => rfl) ?_)
   refine zkv none rfl (p := .c (.full [])) (p' := pD (dI 11)) ?_ ?_ ?_ ?_
   · unfold zzn; simp +decide only [go_sem]
   · unfold zzn; simp +decide only [go_sem]
   · have e : widen s r = [] := by unfold widen; rw [h1]; rfl
     rw [e]
     exact .inl rfl
   · have e : z23 s r = 11 := by unfold z23; rw [h1]; rfl
     rw [e]
     exact .inl rfl
 | true =>
   cases h2 : decide ((s.cols.length : Int) < (r.length : Int)) with
   | true =>
     repeat' (first|(with_reducible first|refine vSq fun K hK=>?_|apply vRg|apply vBl|apply vSc|apply vIf|apply vSk|apply vEx|apply vRt|((first|apply gNt|apply gCs)<;>(intro h;try simp only[h]))|((first|apply hK|(clear hK K;first|apply hK|(clear hK K;first|apply hK|(clear hK K;apply hK))));clear hK K)|(refine todo ?_;simp +decide only[go_sem, h1, h2]))|refine zzd ks rfl rfl (fun _ => rfl) ?_)
     refine zkv none rfl (p := .c (.full [])) (p' := pD (dI 10)) ?_ ?_ ?_ ?_
     · unfold zzn; simp +decide only [go_sem]
     · unfold zzn; simp +decide only [go_sem]
     · have e : widen s r = [] := by unfold widen; rw [if_pos h1, h2]; rfl
       rw [e]
       exact .inl rfl
     · have e : z23 s r = 10 := by unfold z23; rw [if_pos h1, h2]; rfl
       rw [e]
       exact .inl rfl
   | false =>
     have hle : r.length ≤ s.cols.length := by have := of_decide_eq_false h2; omega
     have hn := z2i h1
     have hwl := yq8 hle
     have hwf : Wf (upd noH 2 (some (s.enc.map .d))) (upd (upd noA (22, 0) (some (.mu 4 (List.replicate s.cols.length z59.enc)))) (22, 0) (some (.mu 4 ((z0p s r).map Val.enc)))) := by
      intro id cs c h hc
      unfold upd at h
      split at h
      · cases h
        obtain ⟨d, _, rfl⟩ := List.mem_map.1 hc
        exact Zti
      · cases h
     have kf := Tryz.kFitsM s (z0p s r) hs hwf (κ := (22, 0)) (zzc _ _ _)
     rw [hwl] at kf
     have hmap := y2s (s := s) (r := r)
     simp only [go_sem] at hmap
     repeat' (first|(with_reducible first|refine vSq fun K hK=>?_|apply vRg|apply vBl|apply vSc|apply vIf|apply vSk|apply vEx|apply vRt|((first|apply gNt|apply gCs)<;>(intro h;try simp only[h]))|((first|apply hK|(clear hK K;first|apply hK|(clear hK K;first|apply hK|(clear hK K;apply hK))));clear hK K)|(refine todo ?_;simp +decide only[go_sem, h1, h2, hmap]))|refine zzd ks rfl rfl (fun _ => rfl) ?_|(refine Tryz.mksVal (n := s.cols.length) Tryz.underlying29 Tryz.zVal Tryz.cl28 (by omega) (by omega) (by show _ * Tryz.prog.bytesOf 28 ≤ _; rw [Tryz.by28]; omega) rfl ?_)|(refine y9l (els := List.replicate s.cols.length z59.enc) (ys := r.map Val.enc) Tryz.underlying29 Tryz.cl28 (by decide) rfl (by simp) rfl (yq3 _) (by simp; omega) ?_)|refine zz7 rfl kf rfl ?_ ?_)
     · intro i hi
       have n1 : i ≠ 2 := by omega
       have n2 : i ≠ 22 := by omega
       exact ⟨by simp [upd, n1, noH], fun k => by simp [upd, n2, noA]⟩
     · have h3 : ((fits s (z0p s r)) != 0) = true := by assumption
       have h3' : fits s (z0p s r) ≠ 0 := by simpa using h3
       have ew : widen s r = [] := by unfold widen; rw [if_pos h1, h2, if_neg h3']; rfl
       have ee : z23 s r = fits s (z0p s r) := by unfold z23; rw [if_pos h1, h2]; rfl
       rw [ew, ee]
       refine zkv none rfl (p := .c (.full [])) (p' := pD (dI (fits s (z0p s r)))) ?_ ?_ (.inl rfl) (.inl rfl)
       · unfold zzn; simp +decide only [go_sem]
       · unfold zzn; simp +decide only [go_sem]
     · have h3 : ((fits s (z0p s r)) != 0) = false := by assumption
       have h3' : fits s (z0p s r) = 0 := by simpa using h3
       have ew : widen s r = z0p s r := by unfold widen; rw [if_pos h1, h2, if_pos h3']; rfl
       have ee : z23 s r = 0 := by unfold z23; rw [if_pos h1, h2, h3']; rfl
       rw [ew, ee]
       refine zkv (some (22, 0)) rfl (p := .c (.mt (22, 0) 4 s.cols.length)) (p' := pD (dI 0)) ?_ ?_ (.inr ⟨_, 4, (z0p s r).map Val.enc, rfl, rfl, by rw [List.length_map, hwl], by simp [upd]⟩) (.inl rfl)
       · unfold zzn; simp +decide only [go_sem]
       · unfold zzn; simp +decide only [go_sem]
structure Qy where
 kind : Int
 tab : List UInt8
 key : Row
 t : Int
 v : Int
 lo : Int
 hi : Int
def Qy.enc (q : Qy) : List D := [dI q.kind, dS q.tab, zz4 q.key, dI q.t, dI q.v, dI q.lo, dI q.hi, .sl [], .sl [], dI 0, .lit (.bool false)]
attribute [go_sem] Qy.enc
def yz4 (p : Val × Col) : Bool := p.1.right && !(p.1.kind != p.2.kind)
def z3y (s : Sch) (r : Row) : Bool := !((r.length : Int) != s.keys) && !decide ((s.cols.length : Int) < s.keys) && (r.zip s.cols).all yz4
theorem Tryz.kKeyedQ (s : Sch) (r : Row) (hr : r.length ≤ 1048576) : zzr Tryz.prog 107 [pA s.enc, pD (zz4 r)] (.one (dB (z3y s r))) := by
 refine zvs (E := envOf Tryz.prog [9000000 + 46] 0 [] []) (zzx Tryz.mixed) Tryz.func107 rfl Tryz.call107 (by kernel_rfl) (by rfl) (by exact Zle rfl) ?_
 cases h1 : ((r.length : Int) != s.keys) with
 | true =>
   repeat' (first|(with_reducible first|refine vSq fun K hK=>?_|apply vRg|apply vBl|apply vSc|apply vIf|apply vSk|apply vEx|apply vRt|((first|apply gNt|apply gCs)<;>(intro h;try simp only[h]))|((first|apply hK|(clear hK K;first|apply hK|(clear hK K;first|apply hK|(clear hK K;apply hK))));clear hK K)|(refine todo ?_;simp +decide only[go_sem, h1])))
   refine zzs rfl ?_
   simp +decide only [go_sem, z3y, h1]
 | false =>
   cases h2 : decide ((s.cols.length : Int) < s.keys) with
   | true =>
     repeat' (first|(with_reducible first|refine vSq fun K hK=>?_|apply vRg|apply vBl|apply vSc|apply vIf|apply vSk|apply vEx|apply vRt|((first|apply gNt|apply gCs)<;>(intro h;try simp only[h]))|((first|apply hK|(clear hK K;first|apply hK|(clear hK K;first|apply hK|(clear hK K;apply hK))));clear hK K)|(refine todo ?_;simp +decide only[go_sem, h1, h2])))
     refine zzs rfl ?_
     simp +decide only [go_sem, z3y, h1, h2]
   | false =>
     have hl : (r.length : Int) = s.keys := by simpa using h1
     have hle : r.length ≤ s.cols.length := by have := of_decide_eq_false h2; omega
     repeat' (first|(with_reducible first|refine vSq fun K hK=>?_|apply vRg|apply vBl|apply vSc|apply vIf|apply vSk|apply vEx|apply vRt|((first|apply gNt|apply gCs)<;>(intro h;try simp only[h]))|((first|apply hK|(clear hK K;first|apply hK|(clear hK K;first|apply hK|(clear hK K;apply hK))));clear hK K)|(refine todo ?_;simp +decide only[go_sem, h1, h2])))
     refine zzj r.length (fun i => ((r.zip s.cols).take i).all yz4 = true) (fun i => frame [(2, .c (.ptr 2 0)), (20, pD (zz4 r)), (21, pD (dI r.length)), (22, pD (dI i))] [(2, s.enc.map .d)] []) rfl ?_ ?_
     · refine zzb ?_ ?_ ?_ <;> simp +decide only [go_sem]
       exact zzh (by simp [hOf])
     · intro i hi hI
       rcases Zlg i r.length with hlt | hge
       · have hg := Zge hlt
         have hgc := Zge (show i < s.cols.length by omega)
         have hd := zze hlt
         have hnx := zzl hlt (show r.length ≤ 4294967296 by omega)
         generalize r[i] = v at hg
         generalize s.cols[i] = c at hgc
         have hz : (r.zip s.cols)[i]? = some (v, c) := by rw [List.getElem?_zip_eq_some]; exact ⟨hg, hgc⟩
         have kv := Tryz.kValue v
         cases h3 : v.right with
         | true =>
           cases h4 : (v.kind != c.kind) with
           | true =>
             have e : yz4 (v, c) = false := by unfold yz4; rw [h3, h4]; rfl
             repeat' (first|(with_reducible first|refine vSq fun K hK=>?_|apply vRg|apply vBl|apply vSc|apply vIf|apply vSk|apply vEx|apply vRt|((first|apply gNt|apply gCs)<;>(intro h;try simp only[h]))|((first|apply hK|(clear hK K;first|apply hK|(clear hK K;first|apply hK|(clear hK K;apply hK))));clear hK K)|(refine todo ?_;simp +decide only[go_sem, hg, hgc, hd, h3, h4]))|refine zzq kv rfl rfl rfl rfl ?_)
             refine zzs rfl ?_
             simp +decide only [go_sem, z3y, h1, h2, zqr hz e]
           | false =>
             have e : yz4 (v, c) = true := by unfold yz4; rw [h3, h4]; rfl
             repeat' (first|(with_reducible first|refine vSq fun K hK=>?_|apply vRg|apply vBl|apply vSc|apply vIf|apply vSk|apply vEx|apply vRt|((first|apply gNt|apply gCs)<;>(intro h;try simp only[h]))|((first|apply hK|(clear hK K;first|apply hK|(clear hK K;first|apply hK|(clear hK K;apply hK))));clear hK K)|(refine todo ?_;simp +decide only[go_sem, hg, hgc, hd, hnx, h3, h4]))|refine zzq kv rfl rfl rfl rfl ?_)
             refine zzi hlt (zz8 hI hz e) (zzb ?_ ?_ ?_) <;> simp +decide only [go_sem]
             exact zzh (by simp [hOf])
         | false =>
           have e : yz4 (v, c) = false := by unfold yz4; rw [h3]; rfl
           repeat' (first|(with_reducible first|refine vSq fun K hK=>?_|apply vRg|apply vBl|apply vSc|apply vIf|apply vSk|apply vEx|apply vRt|((first|apply gNt|apply gCs)<;>(intro h;try simp only[h]))|((first|apply hK|(clear hK K;first|apply hK|(clear hK K;first|apply hK|(clear hK K;apply hK))));clear hK K)|(refine todo ?_;simp +decide only[go_sem, hg, hd, h3]))|refine zzq kv rfl rfl rfl rfl ?_)
           refine zzs rfl ?_
           simp +decide only [go_sem, z3y, h1, h2, zqr hz e]
       · have hd := zzf hge
         rw [Ztl (by rw [List.length_zip]; omega)] at hI
         repeat' (first|(with_reducible first|refine vSq fun K hK=>?_|apply vRg|apply vBl|apply vSc|apply vIf|apply vSk|apply vEx|apply vRt|((first|apply gNt|apply gCs)<;>(intro h;try simp only[h]))|((first|apply hK|(clear hK K;first|apply hK|(clear hK K;first|apply hK|(clear hK K;apply hK))));clear hK K)|(refine todo ?_;simp +decide only[go_sem, hd])))
         refine zzs rfl ?_
         simp +decide only [go_sem, z3y, h1, h2, hI]
def yqd (q : Qy) : Bool := q.lo == 0 && q.hi == 0
def z6l (q : Qy) (s : Sch) : Bool :=
 if (q.kind == 2) = true then (decide (0 ≤ q.v) && decide (q.v < 1099511627776)) && yqd q && ((q.key.length : Int) == 0)
 else if (q.kind == 1) = true then (q.v == 0) && yqd q && ((q.key.length : Int) == 0)
 else if (q.kind == 3) = true then (q.t == 0) && (q.v == 0) && Span.right q.lo q.hi && z3y s q.key
 else if (q.kind == 4) = true then (q.t == 0) && (q.v == 0) && yqd q && z3y s q.key
 else false
theorem Tryz.kShaped (q : Qy) (s : Sch) (hr : q.key.length ≤ 1048576) : zzr Tryz.prog 79 [pA q.enc, pA s.enc] (.one (dB (z6l q s))) := by
 refine Tryz.pure (md := []) Tryz.func79 rfl Tryz.call79 (by kernel_rfl) (by rfl) (by exact Zle rfl) ?_
 have kk := Tryz.kKeyedQ s q.key hr
 have ks := Tryz.spanRight q.lo q.hi
 repeat' (first|(with_reducible first|refine vSq fun K hK=>?_|apply vRg|apply vBl|apply vSc|apply vIf|apply vSk|apply vEx|apply vRt|((first|apply gNt|apply gCs)<;>(intro h;try simp only[h]))|((first|apply hK|(clear hK K;first|apply hK|(clear hK K;first|apply hK|(clear hK K;apply hK))));clear hK K)|(refine todo ?_;simp +decide only[go_sem]))|refine zzd kk rfl rfl (fun _ => rfl) ?_|refine zzd ks rfl rfl (fun _ => rfl) ?_)
 all_goals try
  (refine zzs rfl ?_
   clear kk ks
   simp +decide only [go_sem, z6l, yqd, *]
   done)
 all_goals
  clear hK K
  clear hK K
  clear hK K
  clear hK K
  refine hK _ ?_
  clear hK K
  repeat' (first|(with_reducible first|refine vSq fun K hK=>?_|apply vRg|apply vBl|apply vSc|apply vIf|apply vSk|apply vEx|apply vRt|((first|apply gNt|apply gCs)<;>(intro h;try simp only[h]))|((first|apply hK|(clear hK K;first|apply hK|(clear hK K;first|apply hK|(clear hK K;apply hK))));clear hK K)|(refine todo ?_;simp +decide only[go_sem]))|refine zzd kk rfl rfl (fun _ => rfl) ?_|refine zzd ks rfl rfl (fun _ => rfl) ?_)
 all_goals
  refine zzs rfl ?_
  clear kk ks
  simp +decide only [go_sem, z6l, yqd, *]
def z34 (q : Qy) (s : Sch) : Bool := !(q.tab != s.name) && z6l q s
theorem Tryz.kQRight (q : Qy) (s : Sch) (hr : q.key.length ≤ 1048576) : zzr Tryz.prog 55 [pA q.enc, pA s.enc] (.one (dB (z34 q s))) := by
 refine Tryz.pure (md := []) Tryz.func55 rfl Tryz.call55 (by kernel_rfl) (by rfl) (by exact Zle rfl) ?_
 have kk := Tryz.kShaped q s hr
 cases h1 : (q.tab != s.name) with
 | true =>
   repeat' (first|(with_reducible first|refine vSq fun K hK=>?_|apply vRg|apply vBl|apply vSc|apply vIf|apply vSk|apply vEx|apply vRt|((first|apply gNt|apply gCs)<;>(intro h;try simp only[h]))|((first|apply hK|(clear hK K;first|apply hK|(clear hK K;first|apply hK|(clear hK K;apply hK))));clear hK K)|(refine todo ?_;simp +decide only[go_sem, h1]))|refine zzd kk rfl rfl (fun _ => rfl) ?_)
   refine zzs rfl ?_
   simp +decide only [go_sem, z34, h1]
 | false =>
   cases h2 : z6l q s with
   | false =>
     rw [h2] at kk
     repeat' (first|(with_reducible first|refine vSq fun K hK=>?_|apply vRg|apply vBl|apply vSc|apply vIf|apply vSk|apply vEx|apply vRt|((first|apply gNt|apply gCs)<;>(intro h;try simp only[h]))|((first|apply hK|(clear hK K;first|apply hK|(clear hK K;first|apply hK|(clear hK K;apply hK))));clear hK K)|(refine todo ?_;simp +decide only[go_sem, h1]))|refine zzd kk rfl rfl (fun _ => rfl) ?_)
     refine zzs rfl ?_
     simp +decide only [go_sem, z34, h1, h2]
   | true =>
     rw [h2] at kk
     repeat' (first|(with_reducible first|refine vSq fun K hK=>?_|apply vRg|apply vBl|apply vSc|apply vIf|apply vSk|apply vEx|apply vRt|((first|apply gNt|apply gCs)<;>(intro h;try simp only[h]))|((first|apply hK|(clear hK K;first|apply hK|(clear hK K;first|apply hK|(clear hK K;apply hK))));clear hK K)|(refine todo ?_;simp +decide only[go_sem, h1]))|refine zzd kk rfl rfl (fun _ => rfl) ?_)
     refine z4n (ι := Unit) (fun _ => True) (fun _ => frame [(2, .c (.ptr 2 0)), (3, .c (.ptr 3 0)), (35, pD (.sl [])), (36, pD (dI 0)), (37, pD (dI 0))] [(2, q.enc.map .d), (3, s.enc.map .d)] []) (fun _ => 0) () Zti ?_ ?_
     · refine zzb ?_ ?_ ?_ <;> simp +decide only [go_sem]
       exact ⟨zzh (by simp [hOf]), zzh (by simp [hOf])⟩
     · intro _ _
       repeat' (first|(with_reducible first|refine vSq fun K hK=>?_|apply vRg|apply vBl|apply vSc|apply vIf|apply vSk|apply vEx|apply vRt|((first|apply gNt|apply gCs)<;>(intro h;try simp only[h]))|((first|apply hK|(clear hK K;first|apply hK|(clear hK K;first|apply hK|(clear hK K;apply hK))));clear hK K)|(refine todo ?_;simp +decide only[go_sem])))
       refine zzs rfl ?_
       simp +decide only [go_sem, z34, h1, h2]
theorem Tryz.kPass (q : Qy) (r : Row) : zzr Tryz.prog 38 [pA q.enc, pD (zz4 r)] (.one (dB true)) := by
 refine Tryz.pure (md := []) Tryz.func38 rfl Tryz.call38 (by kernel_rfl) (by rfl) (by exact Zle rfl) ?_
 repeat' (first|(with_reducible first|refine vSq fun K hK=>?_|apply vRg|apply vBl|apply vSc|apply vIf|apply vSk|apply vEx|apply vRt|((first|apply gNt|apply gCs)<;>(intro h;try simp only[h]))|((first|apply hK|(clear hK K;first|apply hK|(clear hK K;first|apply hK|(clear hK K;apply hK))));clear hK K)|(refine todo ?_;simp +decide only[go_sem])))
 refine zzs rfl ?_
 simp +decide only [go_sem]
theorem Tryz.kProject (q : Qy) (r : Row) (hr : r.length ≤ 1048576) : zzr Tryz.prog 39 [pA q.enc, pD (zz4 r)] (.one (.d (zz4 r))) := by
 refine zvs (E := envOf Tryz.prog [] 0 [] []) (zzx Tryz.mixed) Tryz.func39 rfl Tryz.call39 (by kernel_rfl) (by rfl) (by exact Zle rfl) ?_
 repeat' (first|(with_reducible first|refine vSq fun K hK=>?_|apply vRg|apply vBl|apply vSc|apply vIf|apply vSk|apply vEx|apply vRt|((first|apply gNt|apply gCs)<;>(intro h;try simp only[h]))|((first|apply hK|(clear hK K;first|apply hK|(clear hK K;first|apply hK|(clear hK K;apply hK))));clear hK K)|(refine todo ?_;simp +decide only[go_sem]))|(refine zx2 Tryz.appVals rfl rfl zvw (yq3 _) (by simp; omega) rfl ?_))
 refine zzs rfl ?_
 simp +decide only [go_sem]
end Go.Proofs
