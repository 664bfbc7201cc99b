/-
  Parts of the proof, laid together: PwNd.
-/
import Derived.Test.YtemecklglapleaaGreatQ41

set_option maxRecDepth 30000
set_option maxHeartbeats 16000000
namespace Go.Proofs
open Go.PW
theorem xwp {r : Row} {l : List Txn} {hz : Int} (h : zvr (qAud r) l hz = 0) : ∃ s, schS l [116] (zxd l) = some s ∧ schQ (qAud r) l = s := by
 have hq : nowQ (qAud r) = false := rfl
 have ht : tQ (qAud r) l = zxd l := by unfold tQ; rw [hq, if_neg (by simp)]
 have he : sErr (schS l [116] (zxd l)) = 0 := by
  unfold zvr at h
  rw [hq, ht] at h
  simp only [Bool.false_and, Bool.false_eq_true, if_false] at h
  have htab : (qAud r).tab = [116] := rfl
  rw [htab] at h
  cases e : (sErr (schS l [116] (zxd l)) != 0) with
  | true => rw [e, if_pos rfl] at h; exact h
  | false => simpa using e
 unfold schQ
 rw [ht]
 show ∃ s, schS l [116] (zxd l) = some s ∧ (schS l [116] (zxd l)).getD zvc = s
 cases e : schS l [116] (zxd l) with
 | none => rw [e] at he; cases he
 | some s => exact ⟨s, rfl, rfl⟩
theorem xwm {r : Row} {l : List Txn} {s : Sch} (h : zvr (qAud r) l 0 = 0) (hs : schQ (qAud r) l = s) : runR (qAud r) l 0 = z6z (qAud r) l s 0 (zxd l + 1) := by
 unfold runR
 rw [if_pos h, hs]
 rfl
theorem Tryz.audit_len {r : Row} {l : List Txn} (h : Scr l) : (runR (qAud r) l 0).length ≤ 2752512 := by
 unfold runR
 split
 · have e : allQ (qAud r) l (schQ (qAud r) l) 0 = z6z (qAud r) l (schQ (qAud r) l) 0 (zxd l + 1) := rfl
   rw [e]
   unfold z6z
   split
   · have hl := h.lsm [116]
     have h1 := z10 (k := keyB (qAud r).key) (zs := z1m (qAud r) l (schQ (qAud r) l) 0 (zxd l + 1)) (fun z hz => (z2w (P := fun ps => ps.length ≤ 131072 ∧ ∀ p ∈ ps, p.row.length ≤ 1048576) (fun t => Tryz.hadS_sm (q := qAud r) (s := schQ (qAud r) l) hl (keyB (qAud r).key) t) _ z hz).1) (z1m (qAud r) l (schQ (qAud r) l) 0 (zxd l + 1)).length
     rw [List.take_length] at h1
     have h2 : (z1m (qAud r) l (schQ (qAud r) l) 0 (zxd l + 1)).length ≤ (z3c l 0 (zxd l + 1)).length - 1 := z45 _ _ _
     have h3 : (z3c l 0 (zxd l + 1)).length ≤ 22 := by
      have h1 := z5l l 0 (zxd l + 1)
      have h2 := h.len
      unfold z3c
      rw [Zla, List.length_cons, List.length_singleton]
      omega
     have h4 : (z1m (qAud r) l (schQ (qAud r) l) 0 (zxd l + 1)).length * 131072 ≤ 21 * 131072 := Nat.mul_le_mul_right _ (by omega)
     exact Nat.le_trans h1 h4
   · exact Nat.zero_le _
 · exact Nat.zero_le _
theorem xwo {t : Int} {x : List XR} {i : Nat} {r : XR} (h : x[i]? = some r) : atT t (x.take (i + 1)) = if covI r.sl r.sh t = true then atT t (x.take i) ++ [⟨r.lo, r.hi, r.vals⟩] else atT t (x.take i) := by
 rw [zzw h, xwc]
 unfold atT
 rw [List.filter_cons, List.filter_nil]
 split
 · rfl
 · exact List.append_nil _
theorem tkC {A : AMap} {τ : Tok} {sz : Nat} (h0 : A τ = none) : ∀ κ, upd A τ (some (.co sz 0)) κ = none ∨ upd A τ (some (.co sz 0)) κ = A κ ∨ (A κ = none ∧ ∃ sz', upd A τ (some (.co sz 0)) κ = some (.co sz' 0) ∨ upd A τ (some (.co sz 0)) κ = some (.mu sz' [])) := fun κ => by
 by_cases e : κ = τ
 · subst e; exact .inr (.inr ⟨h0, sz, .inl (zzc _ _ _)⟩)
 · exact .inr (.inl (zza _ _ e))
theorem tkC2 {A : AMap} {τ σ : Tok} {sz : Nat} {z : Option Arr} (h0 : A τ = none) (h1 : A σ = none) (hne : τ ≠ σ) : ∀ κ, upd A τ (some (.co sz 0)) κ = none ∨ upd A τ (some (.co sz 0)) κ = upd A σ z κ ∨ (upd A σ z κ = none ∧ ∃ sz', upd A τ (some (.co sz 0)) κ = some (.co sz' 0) ∨ upd A τ (some (.co sz 0)) κ = some (.mu sz' [])) := fun κ => by
 by_cases e : κ = τ
 · subst e; exact .inr (.inr ⟨by rw [zza _ _ hne]; exact h0, sz, .inl (zzc _ _ _)⟩)
 · by_cases e2 : κ = σ
   · subst e2; exact .inl (by rw [zza _ _ e]; exact h1)
   · exact .inr (.inl (by rw [zza _ _ e, zza _ _ e2]))
theorem xwi {A B : AMap} {τ : Tok} {z : Arr} (h : ∀ κ, A κ ≠ none → B κ ≠ none) : ∀ κ, A κ ≠ none → upd B τ (some z) κ ≠ none := fun κ hκ => by
 unfold upd
 split
 · simp
 · exact h κ hκ
theorem xwn {A : AMap} {τ κ : Tok} {x y : Option Arr} : upd A τ y κ = upd (upd A τ x) τ y κ := by
 unfold upd
 split <;> rfl
def wj (r : Row) (j : Nat) : Row := r ++ List.replicate j z59
theorem xwq (r : Row) (j : Nat) : wj r (j + 1) = wj r j ++ [z59] := by
 unfold wj
 rw [List.replicate_succ', List.append_assoc]
theorem xwr (r : Row) (j : Nat) : (wj r j).length = r.length + j := by
 unfold wj
 rw [Zla, List.length_replicate]
def xwj (s : Sch) (p : Piece) : Piece := ⟨p.lo, p.hi, z0p s p.row⟩
theorem Tryz.kAuditLaw (s : List OpB) (n t : Int) (hl : s.length ≤ 1048576) (hs : ∀ o ∈ s, OpBU o) :
 y6b Tryz.prog 4 [pD (z0d s), pD (.lit (.int .u8 n)), pD (dI t)] := by
 obtain ⟨σ, kr, hcn, _, hlow⟩ := Tryz.rBRight 1000 s cn1 hl (fun o ho => (hs o ho).sm)
 have hS := y18 hs
 have kA := y6w hcn
 have fA := low1 hlow
 generalize σ.1 = A1 at *
 generalize z6d s = l at *
 have kn := Tryz.kKnown21
 have hla := xv4 hS.acc
 have hwl : IntKind.i64.wrap (zxd l + 1) = zxd l + 1 := by rw [Go.IntWalk.i64_in _ (by omega)]
 generalize hm : (IntKind.i64.wrap n).tmod 3 = m
 have kru := Tryz.kRun (qAud [kVal m]) l 0 (hS.lsm _) (hS.getD_sz _ _) (show [kVal m].length ≤ 1048576 by simp) (y1e m) hwl
 have kla := Tryz.kLastM l (hS.lsm [116]).len
 have ksc := Tryz.kSchema l [116] (zxd l) (hS.lsm [116]).len (fun x hx => ⟨((hS.lsm [116]).cs x hx).1, fun c hc => (((hS.lsm [116]).cs x hx).2 c hc).1⟩)
 refine xzn (E := envOf Tryz.prog [6] 0 [] []) (zzx Tryz.mixed) Tryz.func4 rfl Tryz.call4 (by kernel_rfl) (by exact Zle rfl) ?_
 cases he : (zvr (qAud [kVal m]) l 0 != 0) with
 | true =>
   have hx : runR (qAud [kVal m]) l 0 = [] := by unfold runR; rw [if_neg (by simpa using he)]
   rw [hx] at kru
   repeat' (first|(with_reducible first|refine vSq fun K hK=>?_|apply vRg|apply vBl|apply vSc|apply vIf|apply vSk|apply vEx|apply vRt|((first|apply gNt|apply gCs)<;>(intro h;try simp only[h]))|((first|apply hK|(clear hK K;first|apply hK|(clear hK K;first|apply hK|(clear hK K;apply hK))));clear hK K)|(refine todo ?_;simp +decide only[go_sem, hm, he]))|refine zz7 rfl kr rfl (y6v 1000 (by decide)) ?_|refine zzd kru rfl rfl (fun j => fA _ j (Nat.succ_ne_zero _)) ?_|refine zzd kla rfl rfl (fun j => fA _ j (Nat.succ_ne_zero _)) ?_|refine zzd ksc rfl rfl (fun j => fA _ j (Nat.succ_ne_zero _)) ?_|refine zzd kn rfl rfl (fun j => fA _ j (Nat.succ_ne_zero _)) ?_)
   all_goals exact zzu rfl (by unfold zzn; simp +decide only [go_sem])
 | false =>
   have he0 : zvr (qAud [kVal m]) l 0 = 0 := by simpa using he
   obtain ⟨sc, hsc, hq⟩ := xwp he0
   have hrun := xwm he0 hq
   have hlen := Tryz.audit_len (r := [kVal m]) hS
   obtain ⟨hso, hsu⟩ := hS.sch [116] (zxd l) hsc
   have hcm := xwg hso
   rw [hsc] at ksc
   rw [he0, hrun] at kru
   have e1 : sErr (some sc) = 0 := rfl
   have e2 : (some sc).getD zvc = sc := rfl
   rw [e1, e2] at ksc
   have hc20 : ((20 : Int) < (sc.cols.length : Int)) = False := eq_false (by omega)
   rw [hrun] at hlen
   rcases Int.lt_or_le t 0 with ht0 | ht0
   · have hd0 : (t < 0) = True := eq_true ht0
     generalize z6z (qAud [kVal m]) l sc 0 (zxd l + 1) = x at *
     cases hx0 : ((x.length : Int) == 0) with
     | true =>
       repeat' (first|(with_reducible first|refine vSq fun K hK=>?_|apply vRg|apply vBl|apply vSc|apply vIf|apply vSk|apply vEx|apply vRt|((first|apply gNt|apply gCs)<;>(intro h;try simp only[h]))|((first|apply hK|(clear hK K;first|apply hK|(clear hK K;first|apply hK|(clear hK K;apply hK))));clear hK K)|(refine todo ?_;simp +decide only[go_sem, hm, hc20, hd0, hx0]))|refine zz7 rfl kr rfl (y6v 1000 (by decide)) ?_|refine zzd kru rfl rfl (fun j => fA _ j (Nat.succ_ne_zero _)) ?_|refine zzd kla rfl rfl (fun j => fA _ j (Nat.succ_ne_zero _)) ?_|refine zzd ksc rfl rfl (fun j => fA _ j (Nat.succ_ne_zero _)) ?_|refine zzd kn rfl rfl (fun j => fA _ j (Nat.succ_ne_zero _)) ?_)
       exact zzu rfl (by unfold zzn; simp +decide only [go_sem])
     | false =>
       repeat' (first|(with_reducible first|refine vSq fun K hK=>?_|apply vRg|apply vBl|apply vSc|apply vIf|apply vSk|apply vEx|apply vRt|((first|apply gNt|apply gCs)<;>(intro h;try simp only[h]))|((first|apply hK|(clear hK K;first|apply hK|(clear hK K;first|apply hK|(clear hK K;apply hK))));clear hK K)|(refine todo ?_;simp +decide only[go_sem, hm, hc20, hd0, hx0]))|refine zz7 rfl kr rfl (y6v 1000 (by decide)) ?_|refine zzd kru rfl rfl (fun j => fA _ j (Nat.succ_ne_zero _)) ?_|refine zzd kla rfl rfl (fun j => fA _ j (Nat.succ_ne_zero _)) ?_|refine zzd ksc rfl rfl (fun j => fA _ j (Nat.succ_ne_zero _)) ?_|refine zzd kn rfl rfl (fun j => fA _ j (Nat.succ_ne_zero _)) ?_)
       exact zzu rfl (by unfold zzn; simp +decide only [go_sem])
   · have hd0 : (t < 0) = False := eq_false (by omega)
     rcases Int.lt_or_le (zxd l) t with ht1 | ht1
     · have hd1 : (zxd l < t) = True := eq_true ht1
       generalize z6z (qAud [kVal m]) l sc 0 (zxd l + 1) = x at *
       cases hx0 : ((x.length : Int) == 0) with
       | true =>
         repeat' (first|(with_reducible first|refine vSq fun K hK=>?_|apply vRg|apply vBl|apply vSc|apply vIf|apply vSk|apply vEx|apply vRt|((first|apply gNt|apply gCs)<;>(intro h;try simp only[h]))|((first|apply hK|(clear hK K;first|apply hK|(clear hK K;first|apply hK|(clear hK K;apply hK))));clear hK K)|(refine todo ?_;simp +decide only[go_sem, hm, hc20, hd0, hd1, hx0]))|refine zz7 rfl kr rfl (y6v 1000 (by decide)) ?_|refine zzd kru rfl rfl (fun j => fA _ j (Nat.succ_ne_zero _)) ?_|refine zzd kla rfl rfl (fun j => fA _ j (Nat.succ_ne_zero _)) ?_|refine zzd ksc rfl rfl (fun j => fA _ j (Nat.succ_ne_zero _)) ?_|refine zzd kn rfl rfl (fun j => fA _ j (Nat.succ_ne_zero _)) ?_)
         exact zzu rfl (by unfold zzn; simp +decide only [go_sem])
       | false =>
         repeat' (first|(with_reducible first|refine vSq fun K hK=>?_|apply vRg|apply vBl|apply vSc|apply vIf|apply vSk|apply vEx|apply vRt|((first|apply gNt|apply gCs)<;>(intro h;try simp only[h]))|((first|apply hK|(clear hK K;first|apply hK|(clear hK K;first|apply hK|(clear hK K;apply hK))));clear hK K)|(refine todo ?_;simp +decide only[go_sem, hm, hc20, hd0, hd1, hx0]))|refine zz7 rfl kr rfl (y6v 1000 (by decide)) ?_|refine zzd kru rfl rfl (fun j => fA _ j (Nat.succ_ne_zero _)) ?_|refine zzd kla rfl rfl (fun j => fA _ j (Nat.succ_ne_zero _)) ?_|refine zzd ksc rfl rfl (fun j => fA _ j (Nat.succ_ne_zero _)) ?_|refine zzd kn rfl rfl (fun j => fA _ j (Nat.succ_ne_zero _)) ?_)
         exact zzu rfl (by unfold zzn; simp +decide only [go_sem])
     · have hd1 : (zxd l < t) = False := eq_false (by omega)
       have hat := xwe hS.acc (q := qAud [kVal m]) hsc ht0 ht1
       have hwe : ((zq4 l [116] (keyB [kVal m]) t).map fun p => (⟨p.lo, p.hi, z0p sc p.row⟩ : Piece)) = (zq4 l [116] (keyB [kVal m]) t).map (xwj sc) := rfl
       have hfit := xv0 hS.acc [116] (keyB [kVal m]) t (by rw [← xv6 hS.acc]; exact hsc)
       have hst := Tryz.stateS_sm (hS.lsm [116]) (keyB [kVal m]) t
       have kky := Tryz.kKeyOf [kVal m] (by simp) (y1e m)
       have kst := Tryz.kState l [116] (keyB [kVal m]) t (hS.lsm _)
       rw [show (qAud [kVal m]).tab = [116] from rfl, show (qAud [kVal m]).key = [kVal m] from rfl, hwe] at hat
       generalize z6z (qAud [kVal m]) l sc 0 (zxd l + 1) = x at *
       generalize keyB [kVal m] = kb at *
       generalize zq4 l [116] kb t = ps at *
       have hwr : ∀ p ∈ ps.map (xwj sc), p.row.length ≤ 1048576 := fun p hp => by
        obtain ⟨q, hq, rfl⟩ := List.mem_map.1 hp
        have := yq8 (hfit q hq).2.1
        show (z0p sc q.row).length ≤ _
        omega
       have kco := Tryz.kCoalesce (ps.map (xwj sc)) (by rw [List.length_map]; exact hst.1) hwr
       have hcl := z5i (ps.map (xwj sc))
       have hcr := z8r hwr
       rw [List.length_map] at hcl
       have kse := Tryz.kSameP (atT t x) (coalesce (ps.map (xwj sc))) (by rw [hat]; omega) (by rw [hat]; exact hcr)
       rw [z1h.2 hat] at kse
       have hle : ∀ i, (atT t (x.take i)).length ≤ 2752512 := fun i => by
        unfold atT
        rw [List.length_map]
        refine Nat.le_trans (List.length_filter_le _ _) ?_
        rw [Zlt]
        omega
       have hfree : ∀ (z : Option Arr) (m j : Nat), m ≠ 0 → m ≠ 120 → upd A1 (120, 0) z (m, j) = none := fun z m j h0 h1 => by rw [zza _ _ (by simp [h1])]; exact fA m j h0
       have hfre2 : ∀ (z : Option Arr) (m j : Nat), m ≠ 0 → m ≠ 158 → upd A1 (158, 0) z (m, j) = none := fun z m j h0 h1 => by rw [zza _ _ (by simp [h1])]; exact fA m j h0
       have f120 : A1 (120, 0) = none := fA _ _ (by decide)
       have f158 : A1 (158, 0) = none := fA _ _ (by decide)
       have f138 : A1 (138, 0) = none := fA _ _ (by decide)
       repeat' (first|(with_reducible first|refine vSq fun K hK=>?_|apply vRg|apply vBl|apply vSc|apply vIf|apply vSk|apply vEx|apply vRt|((first|apply gNt|apply gCs)<;>(intro h;try simp only[h]))|((first|apply hK|(clear hK K;first|apply hK|(clear hK K;first|apply hK|(clear hK K;apply hK))));clear hK K)|(refine todo ?_;simp +decide only[go_sem, hm, hc20, hd0, hd1]))|refine zz7 rfl kr rfl (y6v 1000 (by decide)) ?_|refine zzd kru rfl rfl (fun j => fA _ j (Nat.succ_ne_zero _)) ?_|refine zzd kla rfl rfl (fun j => fA _ j (Nat.succ_ne_zero _)) ?_|refine zzd ksc rfl rfl (fun j => fA _ j (Nat.succ_ne_zero _)) ?_|refine zzd kn rfl rfl (fun j => fA _ j (Nat.succ_ne_zero _)) ?_)
       refine zzj x.length (fun _ => True) (fun i => over [(2, pD (dI t)), (7, pD (zq1 l)), (8, pD (zz4 [kVal m])), (9, pD (z1e x)), (11, .c (.ptr 11 0)), (13, .c (.own (120, 0) ((atT t (x.take i)).map Piece.enc))), (14, pD (dI i))] [(11, sc.enc.map .d)] noH (upd A1 (120, 0) (some (.co 3 (atT t (x.take i)).length)))) Zti ?_ ?_
       · have e0 : atT t (x.take 0) = [] := rfl
         rw [e0]
         refine yk1 (tkC f120) (xwi kA) ?_ ?_ <;> simp +decide only [go_sem, kVal]
         exact ⟨zzh (by simp [zzy]), zju f120 (zzc _ _ _)⟩
       · intro i hi _
         have hli := hle i
         rcases Zlg i x.length with hlt | hge
         · have hg := Zge hlt
           have hd := zze hlt
           have hnx := zzl hlt (show x.length ≤ 4294967296 by omega)
           have hat2 := xwo (t := t) hg
           generalize x[i] = r at hg hat2
           have hnn : ∀ m', Weak noH cnt1 m' (over [(2, pD (dI t)), (7, pD (zq1 l)), (8, pD (zz4 [kVal m])), (9, pD (z1e x)), (11, .c (.ptr 11 0)), (13, .c (.own (120, 0) ((atT t (x.take (i + 1))).map Piece.enc))), (14, pD (dI (i + 1 : Nat)))] [(11, sc.enc.map .d)] noH (upd A1 (120, 0) (some (.co 3 (atT t (x.take (i + 1))).length)))) → PW.Next noH cnt1 x.length (fun _ => True) (fun i => over [(2, pD (dI t)), (7, pD (zq1 l)), (8, pD (zz4 [kVal m])), (9, pD (z1e x)), (11, .c (.ptr 11 0)), (13, .c (.own (120, 0) ((atT t (x.take i)).map Piece.enc))), (14, pD (dI i))] [(11, sc.enc.map .d)] noH (upd A1 (120, 0) (some (.co 3 (atT t (x.take i)).length)))) i m' := fun m' hm => zzi (I := fun _ => True) hlt Zti hm
           generalize atT t (x.take i) = L at *
           cases c1 : decide (r.sl ≤ t) with
           | false =>
             have ec : covI r.sl r.sh t = false := by unfold covI; rw [c1]; rfl
             rw [hat2, ec, if_neg (by simp)] at hnn
             repeat' (first|(with_reducible first|refine vSq fun K hK=>?_|apply vRg|apply vBl|apply vSc|apply vIf|apply vSk|apply vEx|apply vRt|((first|apply gNt|apply gCs)<;>(intro h;try simp only[h]))|((first|apply hK|(clear hK K;first|apply hK|(clear hK K;first|apply hK|(clear hK K;apply hK))));clear hK K)|(refine todo ?_;simp +decide only[go_sem, hg, hd, hnx, c1])))
             refine hnn _ (zz1 (fun κ => .inr rfl) (xwi kA) ?_ ?_) <;> simp +decide only [go_sem]
             exact ⟨zzh (by simp [zzy]), wk_c (.inr (.inl ⟨rfl, by simp [CV.ok, upd]⟩))⟩
           | true =>
             cases c2 : decide (t < r.sh) with
             | false =>
               have ec : covI r.sl r.sh t = false := by unfold covI; rw [c1, c2]; rfl
               rw [hat2, ec, if_neg (by simp)] at hnn
               repeat' (first|(with_reducible first|refine vSq fun K hK=>?_|apply vRg|apply vBl|apply vSc|apply vIf|apply vSk|apply vEx|apply vRt|((first|apply gNt|apply gCs)<;>(intro h;try simp only[h]))|((first|apply hK|(clear hK K;first|apply hK|(clear hK K;first|apply hK|(clear hK K;apply hK))));clear hK K)|(refine todo ?_;simp +decide only[go_sem, hg, hd, hnx, c1, c2])))
               refine hnn _ (zz1 (fun κ => .inr rfl) (xwi kA) ?_ ?_) <;> simp +decide only [go_sem]
               exact ⟨zzh (by simp [zzy]), wk_c (.inr (.inl ⟨rfl, by simp [CV.ok, upd]⟩))⟩
             | true =>
               have ec : covI r.sl r.sh t = true := by unfold covI; rw [c1, c2]; rfl
               rw [hat2, ec, if_pos rfl] at hnn
               repeat' (first|(with_reducible first|refine vSq fun K hK=>?_|apply vRg|apply vBl|apply vSc|apply vIf|apply vSk|apply vEx|apply vRt|((first|apply gNt|apply gCs)<;>(intro h;try simp only[h]))|((first|apply hK|(clear hK K;first|apply hK|(clear hK K;first|apply hK|(clear hK K;apply hK))));clear hK K)|(refine todo ?_;simp +decide only[go_sem, hg, hd, hnx, c1, c2]))|(refine zx1 Tryz.appPieces rfl (zqm _) (zqk rfl) (by simp; omega) (by simp [upd]) ?_))
               refine hnn _ (zz1 (fun κ => .inr ?_) (xwi kA) ?_ ?_)
               · simp +decide only [go_sem]
                 exact xwn
               · simp +decide only [go_sem]
                 exact ⟨zzh (by simp [zzy]), wk_c (.inr (.inl ⟨rfl, by simp [CV.ok, upd]⟩))⟩
               · simp +decide only [go_sem]
         · have hd := zzf hge
           rw [Ztl hge]
           have fr1 : ∀ m j : Nat, m ≠ 0 → m ≠ 120 → upd A1 (120, 0) (some (.co 3 (atT t x).length)) (m, j) = none := hfree _
           repeat' (first|(with_reducible first|refine vSq fun K hK=>?_|apply vRg|apply vBl|apply vSc|apply vIf|apply vSk|apply vEx|apply vRt|((first|apply gNt|apply gCs)<;>(intro h;try simp only[h]))|((first|apply hK|(clear hK K;first|apply hK|(clear hK K;first|apply hK|(clear hK K;apply hK))));clear hK K)|(refine todo ?_;simp +decide only[go_sem, hd]))|refine zzd kky rfl rfl (fun j => fr1 123 j (by decide) (by decide)) ?_|refine zzd kst rfl rfl (fun j => fr1 125 j (by decide) (by decide)) ?_)
           refine zzj ps.length (fun _ => True) (fun i => over [(11, .c (.ptr 11 0)), (13, pD (zzk (atT t x))), (15, pD (zzk ps)), (16, .c (.own (158, 0) (((ps.take i).map (xwj sc)).map Piece.enc))), (17, pD (dI i))] [(11, sc.enc.map .d)] noH (upd A1 (158, 0) (some (.co 3 i)))) Zti ?_ ?_
           · have e0 : (ps.take 0).map (xwj sc) = [] := rfl
             rw [e0]
             refine yk1 (tkC2 f158 f120 (by decide)) (xwi kA) ?_ ?_ <;> simp +decide only [go_sem]
             exact ⟨zzh (by simp [zzy]), zju (by rw [zza _ _ (by decide)]; exact f158) (zzc _ _ _)⟩
           · intro i hi _
             rcases Zlg i ps.length with hlt | hge
             · have hg := Zge hlt
               have hd := zze hlt
               have hnx := zzl hlt (show ps.length ≤ 4294967296 by omega)
               have htk : (ps.take (i + 1)).map (xwj sc) = (ps.take i).map (xwj sc) ++ [xwj sc ps[i]] := by rw [zzw hg, List.map_append]; rfl
               have hpf := hfit _ (Zme hg)
               have hpl : ((ps.take i).map (xwj sc)).length = i := by rw [List.length_map, Zlt]; omega
               generalize ps[i] = p at hg htk hpf
               have hnn : ∀ m', Weak noH cnt1 m' (over [(11, .c (.ptr 11 0)), (13, pD (zzk (atT t x))), (15, pD (zzk ps)), (16, .c (.own (158, 0) (((ps.take (i + 1)).map (xwj sc)).map Piece.enc))), (17, pD (dI (i + 1 : Nat)))] [(11, sc.enc.map .d)] noH (upd A1 (158, 0) (some (.co 3 (i + 1))))) → PW.Next noH cnt1 ps.length (fun _ => True) (fun i => over [(11, .c (.ptr 11 0)), (13, pD (zzk (atT t x))), (15, pD (zzk ps)), (16, .c (.own (158, 0) (((ps.take i).map (xwj sc)).map Piece.enc))), (17, pD (dI i))] [(11, sc.enc.map .d)] noH (upd A1 (158, 0) (some (.co 3 i)))) i m' := fun m' hm => zzi (I := fun _ => True) hlt Zti hm
               rw [htk] at hnn
               generalize (ps.take i).map (xwj sc) = L at *
               have hprl : p.row.length ≤ 1048576 := by have := hpf.2.1; omega
               have hpc := hpf.2.1
               have hwl2 : wj p.row (sc.cols.length - p.row.length) = z0p sc p.row := rfl
               repeat' (first|(with_reducible first|refine vSq fun K hK=>?_|apply vRg|apply vBl|apply vSc|apply vIf|apply vSk|apply vEx|apply vRt|((first|apply gNt|apply gCs)<;>(intro h;try simp only[h]))|((first|apply hK|(clear hK K;first|apply hK|(clear hK K;first|apply hK|(clear hK K;apply hK))));clear hK K)|(refine todo ?_;simp +decide only[go_sem, hg, hd]))|(refine zx2 Tryz.appVals rfl rfl zvw (yq3 _) (by simp; omega) (by rw [zza _ _ (by decide)]; exact f138) ?_))
               refine zzj (sc.cols.length - p.row.length) (fun _ => True) (fun j => over [(11, .c (.ptr 11 0)), (13, pD (zzk (atT t x))), (15, pD (zzk ps)), (16, .c (.own (158, 0) (L.map Piece.enc))), (17, pD (dI i)), (18, .c (.own (138, 0) ((wj p.row j).map Val.enc)))] [(11, sc.enc.map .d)] noH (upd (upd A1 (158, 0) (some (.co 3 i))) (138, 0) (some (.co 4 (wj p.row j).length)))) Zti ?_ ?_
               · have e0 : wj p.row 0 = p.row := List.append_nil _
                 rw [e0]
                 refine zz1 (fun κ => .inr rfl) (xwi (xwi kA)) ?_ ?_ <;> simp +decide only [go_sem]
                 exact ⟨zzh (by simp [zzy]), wk_c (.inr (.inl ⟨rfl, by simp [CV.ok, upd]⟩)), wk_c (.inr (.inl ⟨rfl, by simp [CV.ok, upd]⟩))⟩
               · intro j hj _
                 have hjl := xwr p.row j
                 rcases Zlg j (sc.cols.length - p.row.length) with hjt | hjge
                 · have hd3 : (((wj p.row j).length : Int) < (sc.cols.length : Int)) = True := eq_true (by omega)
                   have hmm : ∀ m', Weak noH cnt1 m' (over [(11, .c (.ptr 11 0)), (13, pD (zzk (atT t x))), (15, pD (zzk ps)), (16, .c (.own (158, 0) (L.map Piece.enc))), (17, pD (dI i)), (18, .c (.own (138, 0) ((wj p.row (j + 1)).map Val.enc)))] [(11, sc.enc.map .d)] noH (upd (upd A1 (158, 0) (some (.co 3 i))) (138, 0) (some (.co 4 (wj p.row (j + 1)).length)))) → PW.Next noH cnt1 (sc.cols.length - p.row.length) (fun _ => True) (fun j => over [(11, .c (.ptr 11 0)), (13, pD (zzk (atT t x))), (15, pD (zzk ps)), (16, .c (.own (158, 0) (L.map Piece.enc))), (17, pD (dI i)), (18, .c (.own (138, 0) ((wj p.row j).map Val.enc)))] [(11, sc.enc.map .d)] noH (upd (upd A1 (158, 0) (some (.co 3 i))) (138, 0) (some (.co 4 (wj p.row j).length)))) j m' := fun m' hm => zzi (I := fun _ => True) hjt Zti hm
                   rw [xwq] at hmm
                   generalize wj p.row j = w at *
                   repeat' (first|(with_reducible first|refine vSq fun K hK=>?_|apply vRg|apply vBl|apply vSc|apply vIf|apply vSk|apply vEx|apply vRt|((first|apply gNt|apply gCs)<;>(intro h;try simp only[h]))|((first|apply hK|(clear hK K;first|apply hK|(clear hK K;first|apply hK|(clear hK K;apply hK))));clear hK K)|(refine todo ?_;simp +decide only[go_sem, hd3]))|(refine zx1 Tryz.appVals rfl (yq3 _) (zqk rfl) (by simp; omega) (by simp [upd]) ?_))
                   refine hmm _ (zz1 (fun κ => .inr ?_) (xwi (xwi kA)) ?_ ?_)
                   · simp +decide only [go_sem]
                     by_cases e : κ = (138, 0) <;> simp [e]
                   · simp +decide only [go_sem, z59]
                     exact ⟨zzh (by simp [zzy]), wk_c (.inr (.inl ⟨rfl, by simp [CV.ok, upd]⟩)), wk_c (.inr (.inl ⟨rfl, by simp [CV.ok, upd]⟩))⟩
                   · simp +decide only [go_sem]
                 · have hje : j = sc.cols.length - p.row.length := by omega
                   subst hje
                   rw [hwl2] at hjl ⊢
                   have hd3 : (((z0p sc p.row).length : Int) < (sc.cols.length : Int)) = False := eq_false (by omega)
                   repeat' (first|(with_reducible first|refine vSq fun K hK=>?_|apply vRg|apply vBl|apply vSc|apply vIf|apply vSk|apply vEx|apply vRt|((first|apply gNt|apply gCs)<;>(intro h;try simp only[h]))|((first|apply hK|(clear hK K;first|apply hK|(clear hK K;first|apply hK|(clear hK K;apply hK))));clear hK K)|(refine todo ?_;simp +decide only[go_sem, hd3, hg, hnx]))|(refine zx1 Tryz.appPieces rfl (zqm _) (zqk rfl) (by simp; omega) (by simp [upd]; omega) ?_))
                   refine hnn _ (zz1 (fun κ => ?_) (xwi kA) ?_ ?_)
                   · by_cases e1 : κ = (138, 0)
                     · subst e1; exact .inl (by rw [zza _ _ (by decide)]; exact f138)
                     · refine .inr ?_
                       by_cases e2 : κ = (158, 0)
                       · subst e2; simp [upd]; omega
                       · simp [upd, e1, e2]
                   · simp +decide only [go_sem, xwj]
                     exact ⟨zzh (by simp [zzy]), wk_c (.inr (.inl ⟨rfl, by simp [CV.ok, upd]; omega⟩))⟩
                   · simp +decide only [go_sem]
             · have hd := zzf hge
               rw [Ztl hge]
               have fr2 : ∀ m j : Nat, m ≠ 0 → m ≠ 158 → upd A1 (158, 0) (some (.co 3 i)) (m, j) = none := hfre2 _
               repeat' (first|(with_reducible first|refine vSq fun K hK=>?_|apply vRg|apply vBl|apply vSc|apply vIf|apply vSk|apply vEx|apply vRt|((first|apply gNt|apply gCs)<;>(intro h;try simp only[h]))|((first|apply hK|(clear hK K;first|apply hK|(clear hK K;first|apply hK|(clear hK K;apply hK))));clear hK K)|(refine todo ?_;simp +decide only[go_sem, hd]))|refine zzd kco rfl rfl (fun j => fr2 161 j (by decide) (by decide)) ?_|refine zzd kse rfl rfl (fun j => fr2 162 j (by decide) (by decide)) ?_|refine zzd kn rfl rfl (fun j => fr2 164 j (by decide) (by decide)) ?_)
               exact zzu rfl (by unfold zzn; simp +decide only [go_sem])
end Go.Proofs
