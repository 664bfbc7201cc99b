/-
  Parts of the proof, laid together: PwMk, PwMl, PwMm.
-/
import Derived.Test.YtemecklglapleaaGreatQ26

set_option maxRecDepth 30000
set_option maxHeartbeats 16000000
namespace Go.Proofs
open Go.PW
def b8 (n : Int) : UInt8 := UInt8.ofNat (n % 256).toNat
theorem one8 (n : Int) : [[D.lit (.int .u8 (IntKind.u8.wrap n))]] = zzg [b8 n] := by
 rw [IntKind.wrap_u8, yza _ (by omega) (by omega)]
 rfl
def lowB (n : Nat) : Nat → List UInt8
 | 0 => []
 | k + 1 => b8 ((n / 256 ^ k : Nat) : Int) :: lowB n k
theorem z87 (n : Nat) : ∀ k, (lowB n k).length = k
 | 0 => rfl
 | k + 1 => by rw [lowB, List.length_cons, z87 n k]
def zk9 (n : Nat) : List UInt8 := lowB n 8
theorem Tryz.bytesT : zj1 Tryz.prog 111 = true := by kernel_rfl
theorem xxw (m k : Nat) : Int.tmod (m : Int) (k : Int) = ((m % k : Nat) : Int) := (Int.ofNat_tmod m k).symm
theorem xxv (m k : Nat) : Int.tdiv (m : Int) (k : Int) = ((m / k : Nat) : Int) := (Int.ofNat_tdiv m k).symm
theorem Tryz.rEight (n : Nat) (hn : n < 18446744073709551616) : zzr Tryz.prog 115 [pD (.lit (.int .u64 n))] (.one (.d (dS (zk9 n)))) := by
 refine Tryz.pure (md := []) Tryz.func115 rfl Tryz.call115 (by kernel_rfl) (by rfl) (by exact Zle rfl) ?_
 repeat' (first|(with_reducible first|refine vSq fun K hK=>?_|apply vRg|apply vBl|apply vSc|apply vIf|apply vSk|apply vEx|apply vRt|((first|apply gNt|apply gCs)<;>(intro h;try simp only[h]))|((first|apply hK|(clear hK K;first|apply hK|(clear hK K;first|apply hK|(clear hK K;apply hK))));clear hK K)|(refine todo ?_;simp +decide only[go_sem])))
 refine zzj 8 (fun _ => True) (fun i => frame [(0, pD (.lit (.int .u64 ((n / 256 ^ i : Nat) : Int)))), (3, pD (dS (lowB n i))), (4, pD (.lit (.int .i64 i)))] [] []) Zti ?_ ?_
 · refine zzb ?_ ?_ ?_ <;> simp +decide only [go_sem, lowB, Nat.pow_zero, Nat.div_one]
 · intro i hi _
   have hlb := z87 n i
   rcases Zlg i 8 with hlt | hge
   · have hd : ((i : Int) < 8) = True := eq_true (by omega)
     have hw := zzl hlt (by decide)
     have hm : n / 256 ^ i < 18446744073709551616 := Nat.lt_of_le_of_lt (Nat.div_le_self _ _) hn
     have e1 : n / 256 ^ i / 256 = n / 256 ^ (i + 1) := by rw [Nat.div_div_eq_div_mul]; rfl
     have e2 : IntKind.u8.wrap ((n / 256 ^ i % 256 : Nat) : Int) = IntKind.u8.wrap ((n / 256 ^ i : Nat) : Int) := by rw [IntKind.wrap_u8, IntKind.wrap_u8]; omega
     generalize hq : n / 256 ^ i = q at *
     have t1 : Int.tmod (q : Int) 256 = ((q % 256 : Nat) : Int) := xxw q 256
     have t2 : IntKind.u64.wrap (Int.tdiv (q : Int) 256) = ((q / 256 : Nat) : Int) := by
      rw [show Int.tdiv (q : Int) 256 = ((q / 256 : Nat) : Int) from xxv q 256]
      exact Go.IntWalk.u64_in _ (by omega)
     have hl : ((1 : Nat) + i ≤ 9223372036854775807) = True := eq_true (by omega)
     repeat' (first|(with_reducible first|refine vSq fun K hK=>?_|apply vRg|apply vBl|apply vSc|apply vIf|apply vSk|apply vEx|apply vRt|((first|apply gNt|apply gCs)<;>(intro h;try simp only[h]))|((first|apply hK|(clear hK K;first|apply hK|(clear hK K;first|apply hK|(clear hK K;apply hK))));clear hK K)|(refine todo ?_;simp +decide only[go_sem, hd, hw, y86, y85, t1, t2, e2, one8, z0t Tryz.bytesT, List.length_cons, List.length_nil, Nat.zero_add, hlb, hl, List.cons_append, List.nil_append])))
     refine zzi hlt Zti (zzb ?_ ?_ ?_) <;> simp +decide only [go_sem, lowB, hq, e1]
   · have h8 : i = 8 := by omega
     subst h8
     repeat' (first|(with_reducible first|refine vSq fun K hK=>?_|apply vRg|apply vBl|apply vSc|apply vIf|apply vSk|apply vEx|apply vRt|((first|apply gNt|apply gCs)<;>(intro h;try simp only[h]))|((first|apply hK|(clear hK K;first|apply hK|(clear hK K;first|apply hK|(clear hK K;apply hK))));clear hK K)|(refine todo ?_;simp +decide only[go_sem])))
     exact zzs rfl rfl
def u64N (x : Int) : Nat := (IntKind.u64.wrap x).toNat
theorem z9t (x : Int) : IntKind.u64.wrap x = ((u64N x : Nat) : Int) := by
 have h := IntKind.wrap_u64 x
 unfold u64N
 rw [h]
 omega
theorem z9u (x : Int) : u64N x < 18446744073709551616 := by
 have h := IntKind.wrap_u64 x
 unfold u64N
 rw [h]
 omega
def escB (l : List UInt8) : List UInt8 := l.flatMap fun b => if b = 0 then [0, 255] else [b]
theorem z4q (l : List UInt8) : (escB l).length ≤ 2 * l.length := by
 induction l with
 | nil => simp [escB]
 | cons b l ih =>
   rw [escB, List.flatMap_cons, Zla, ← escB, List.length_cons]
   split <;> simp <;> omega
theorem yzp {l : List UInt8} {i : Nat} {b : UInt8} (h : l[i]? = some b) : escB (l.take (i + 1)) = escB (l.take i) ++ if b = 0 then [0, 255] else [b] := by
 rw [zzw h, escB, List.flatMap_append, ← escB]
 simp
def yvf (v : Val) : UInt8 := b8 (IntKind.i64.wrap (v.kind + 1))
def oneB (v : Val) : List UInt8 := yvf v ::
 if (v.kind == 1) = true then [b8 v.num]
 else if (v.kind == 2) = true then zk9 (u64N (IntKind.u64.wrap v.num + 9223372036854775808))
 else if (v.kind == 3) = true then if decide (9223372036854775808 ≤ v.bits) = true then zk9 (u64N (18446744073709551615 - v.bits)) else zk9 (u64N (v.bits + 9223372036854775808))
 else if (v.kind == 4) = true then escB v.str.toList ++ [0, 1] else if (v.kind == 5) = true then escB v.str.toList ++ [0, 1] else []
theorem yjf (s : ByteArray) : ∃ l : List UInt8, s = ⟨l.toArray⟩ := ⟨s.data.toList, by simp⟩
theorem y0a {b : UInt8} (h : b = 0) : ((b.toNat : Int) == 0) = true := by subst h; rfl
theorem yjs {b : UInt8} (h : ¬ b = 0) : ((b.toNat : Int) == 0) = false := by
 have : b.toNat ≠ 0 := fun e => h (UInt8.toNat.inj e)
 simp; omega
theorem zj0 (n : Nat) : (zk9 n).length = 8 := z87 n 8
theorem Tryz.rOne (v : Val) (hs : v.str.size ≤ 1048576) : zzr Tryz.prog 96 [pA v.enc] (.one (.d (dS (oneB v)))) := by
 refine Tryz.pure (md := []) Tryz.func96 rfl Tryz.call96 (by kernel_rfl) (by rfl) (by exact Zle rfl) ?_
 obtain ⟨k, n, b, s⟩ := v
 obtain ⟨l, rfl⟩ := yjf s
 rw [zwr] at hs
 have k1 := Tryz.rEight (u64N (IntKind.u64.wrap n + 9223372036854775808)) (z9u _)
 have k2 := Tryz.rEight (u64N (18446744073709551615 - b)) (z9u _)
 have k3 := Tryz.rEight (u64N (b + 9223372036854775808)) (z9u _)
 rw [← z9t] at k1 k2 k3
 repeat' (first|(with_reducible first|refine vSq fun K hK=>?_|apply vRg|apply vBl|apply vSc|apply vIf|apply vSk|apply vEx|apply vRt|((first|apply gNt|apply gCs)<;>(intro h;try simp only[h]))|((first|apply hK|(clear hK K;first|apply hK|(clear hK K;first|apply hK|(clear hK K;apply hK))));clear hK K)|(refine todo ?_;simp +decide only[go_sem, one8, z0t Tryz.bytesT, List.length_cons, List.length_nil, Nat.zero_add, List.cons_append, List.nil_append, zj0]))|refine zzd k1 rfl rfl (fun _ => rfl) ?_|refine zzd k2 rfl rfl (fun _ => rfl) ?_|refine zzd k3 rfl rfl (fun _ => rfl) ?_)
 all_goals try (refine zzs rfl ?_; simp +decide only [go_sem, oneB, yvf, *]; done)
 all_goals
  have e : oneB ⟨k, n, b, ⟨l.toArray⟩⟩ = b8 (IntKind.i64.wrap (k + 1)) :: (escB l ++ [0, 1]) := by simp +decide only [go_sem, oneB, yvf, *]
  refine zzj l.length (fun _ => True) (fun i => frame [(4, pD (.lit (.int .i64 i))), (3, pD (dS (b8 (IntKind.i64.wrap (k + 1)) :: escB (l.take i)))), (1, .c (.ptr 1 0))] [(1, (Val.enc ⟨k, n, b, ⟨l.toArray⟩⟩).map .d)] []) Zti ?_ ?_
  · refine zzb ?_ ?_ ?_ <;> simp +decide only [go_sem, show escB [] = [] from rfl]
    exact zzh (by simp [hOf])
  · intro i hi _
    have hlen := z4q (l.take i)
    rw [Zlt] at hlen
    rcases Zlg i l.length with hlt | hge
    · have hg := Zge hlt
      have hd := zze hlt
      have hw := zzl hlt (by omega)
      generalize l[i] = c at hg
      have hnx := yzp hg
      have h1 : (l.drop i).take (i + 1 - i) = [c] := by
       rw [show i + 1 - i = 1 by omega]
       rw [List.drop_eq_getElem_cons hlt]
       rw [Zge hlt] at hg
       cases hg
       rfl
      have hl1 : ((escB (l.take i)).length + 1 + 1 ≤ 9223372036854775807) = True := eq_true (by omega)
      have hl2 : ((escB (l.take i)).length + 1 + 1 + 1 ≤ 9223372036854775807) = True := eq_true (by omega)
      by_cases hc : c = 0
      · have hb := y0a hc
        rw [if_pos hc] at hnx
        repeat' (first|(with_reducible first|refine vSq fun K hK=>?_|apply vRg|apply vBl|apply vSc|apply vIf|apply vSk|apply vEx|apply vRt|((first|apply gNt|apply gCs)<;>(intro h;try simp only[h]))|((first|apply hK|(clear hK K;first|apply hK|(clear hK K;first|apply hK|(clear hK K;apply hK))));clear hK K)|(refine todo ?_;simp +decide only[go_sem, hg, hd, hw, hb, hl1, hl2, Zla, List.length_cons, List.length_nil, Nat.zero_add, List.cons_append, List.append_assoc]))|(refine y5l Tryz.underlying9 rfl (l := i) (h := i + 1) (by simp [zz0, natOf?, intOf?]) (by simp [zz0, natOf?, intOf?]; omega) (by omega) (by omega) ?_; rw [h1]))
        subst hc
        refine zzi hlt Zti (zzb ?_ ?_ ?_) <;> simp +decide only [go_sem, hnx]
        exact zzh (by simp [hOf])
      · have hb := yjs hc
        rw [if_neg hc] at hnx
        repeat' (first|(with_reducible first|refine vSq fun K hK=>?_|apply vRg|apply vBl|apply vSc|apply vIf|apply vSk|apply vEx|apply vRt|((first|apply gNt|apply gCs)<;>(intro h;try simp only[h]))|((first|apply hK|(clear hK K;first|apply hK|(clear hK K;first|apply hK|(clear hK K;apply hK))));clear hK K)|(refine todo ?_;simp +decide only[go_sem, hg, hd, hw, hb, hl1, List.length_cons, List.length_nil, List.cons_append]))|(refine y5l Tryz.underlying9 rfl (l := i) (h := i + 1) (by simp [zz0, natOf?, intOf?]) (by simp [zz0, natOf?, intOf?]; omega) (by omega) (by omega) ?_; rw [h1]))
        refine zzi hlt Zti (zzb ?_ ?_ ?_) <;> simp +decide only [go_sem, hnx]
        exact zzh (by simp [hOf])
    · have hd := zzf hge
      rw [Ztl hge] at *
      have hl2 : ((escB l).length + 1 + (1 + 1) ≤ 9223372036854775807) = True := eq_true (by omega)
      repeat' (first|(with_reducible first|refine vSq fun K hK=>?_|apply vRg|apply vBl|apply vSc|apply vIf|apply vSk|apply vEx|apply vRt|((first|apply gNt|apply gCs)<;>(intro h;try simp only[h]))|((first|apply hK|(clear hK K;first|apply hK|(clear hK K;first|apply hK|(clear hK K;apply hK))));clear hK K)|(refine todo ?_;simp +decide only[go_sem, hd, hl2, List.length_cons, List.length_nil, Nat.zero_add, List.cons_append])))
      refine zzs rfl ?_
      simp +decide only [go_sem, e]
def zx4 (r : Row) : Bool := zqi r && decide ((r.length : Int) ≤ 8)
def keyB (r : Row) : List UInt8 := if zx4 r = true then r.flatMap oneB ++ [0] else []
theorem z1y {r : Row} (h : zqi r = true) : ∀ v ∈ r, v.str.size ≤ 4096 := fun v hv => by
 have := List.all_eq_true.1 h v hv
 unfold Val.right at this
 split at this
 · simp only [Bool.and_eq_true, decide_eq_true_eq] at this; omega
 · cases this
theorem z9d (v : Val) (h : v.str.size ≤ 4096) : (oneB v).length ≤ 8200 := by
 obtain ⟨k, n, b, s⟩ := v
 obtain ⟨l, rfl⟩ := yjf s
 rw [zwr] at h
 have := z4q l
 unfold oneB
 simp only [zk3]
 repeat' split
 all_goals simp [zj0]
 all_goals omega
theorem z4s : ∀ (r : Row) (_ : ∀ v ∈ r, v.str.size ≤ 4096), (r.flatMap oneB).length ≤ 8200 * r.length
 | [], _ => by simp
 | v :: r, h => by
   have h1 := z9d v (h v (Zms2 ..))
   have h2 := z4s r (fun w hw => h w (List.mem_cons_of_mem _ hw))
   rw [List.flatMap_cons, Zla, List.length_cons]
   omega
theorem yzr {r : Row} {i : Nat} {v : Val} (h : r[i]? = some v) : (r.take (i + 1)).flatMap oneB = (r.take i).flatMap oneB ++ oneB v := by
 rw [zzw h, List.flatMap_append, List.flatMap_singleton]
theorem Tryz.rKeyRight (r : Row) (hr : r.length ≤ 4294967296) (hok : Row.ok' r) : zzr Tryz.prog 95 [pD (zz4 r)] (.one (dB (zx4 r))) := by
 refine Tryz.pure (md := []) Tryz.func95 rfl Tryz.call95 (by kernel_rfl) (by rfl) (by exact Zle rfl) ?_
 repeat' (first|(with_reducible first|refine vSq fun K hK=>?_|apply vRg|apply vBl|apply vSc|apply vIf|apply vSk|apply vEx|apply vRt|((first|apply gNt|apply gCs)<;>(intro h;try simp only[h]))|((first|apply hK|(clear hK K;first|apply hK|(clear hK K;first|apply hK|(clear hK K;apply hK))));clear hK K)|(refine todo ?_;simp +decide only[go_sem])))
 refine zzj r.length (fun i => zqi (r.take i) = true) (fun i => frame [(0, pD (zz4 r)), (3, pD (.lit (.int .i64 i)))] [] []) rfl ?_ ?_
 · refine zzb ?_ ?_ ?_ <;> simp +decide only [go_sem]
 · intro i hi hI
   rcases Zlg i r.length with hlt | hge
   · have hg := Zge hlt
     have hd := zze hlt
     have hw := zzl hlt hr
     generalize r[i] = v at hg
     have hv := hok v (Zme hg)
     repeat' (first|(with_reducible first|refine vSq fun K hK=>?_|apply vRg|apply vBl|apply vSc|apply vIf|apply vSk|apply vEx|apply vRt|((first|apply gNt|apply gCs)<;>(intro h;try simp only[h]))|((first|apply hK|(clear hK K;first|apply hK|(clear hK K;first|apply hK|(clear hK K;apply hK))));clear hK K)|(refine todo ?_;simp +decide only[go_sem, hg, hd, hw]))|refine zzd (Tryz.rValue v hv) rfl rfl (fun _ => rfl) ?_)
     · refine zzi hlt (zz8 hI hg h) (zzb ?_ ?_ ?_) <;> simp +decide only [go_sem]
     · refine zzs rfl ?_
       simp +decide only [go_sem, zqr hg h, zx4, zqi]
   · have hd := zzf hge
     rw [Ztl hge] at hI
     repeat' (first|(with_reducible first|refine vSq fun K hK=>?_|apply vRg|apply vBl|apply vSc|apply vIf|apply vSk|apply vEx|apply vRt|((first|apply gNt|apply gCs)<;>(intro h;try simp only[h]))|((first|apply hK|(clear hK K;first|apply hK|(clear hK K;first|apply hK|(clear hK K;apply hK))));clear hK K)|(refine todo ?_;simp +decide only[go_sem, hd])))
     all_goals (refine zzs rfl ?_; simp +decide only [go_sem, zx4, *])
theorem Tryz.rKeyOf (r : Row) (hr : r.length ≤ 4294967296) (hok : Row.ok' r) : zzr Tryz.prog 67 [pD (zz4 r)] (.one (.d (dS (keyB r)))) := by
 refine Tryz.pure (md := []) Tryz.func67 rfl Tryz.call67 (by kernel_rfl) (by rfl) (by exact Zle rfl) ?_
 repeat' (first|(with_reducible first|refine vSq fun K hK=>?_|apply vRg|apply vBl|apply vSc|apply vIf|apply vSk|apply vEx|apply vRt|((first|apply gNt|apply gCs)<;>(intro h;try simp only[h]))|((first|apply hK|(clear hK K;first|apply hK|(clear hK K;first|apply hK|(clear hK K;apply hK))));clear hK K)|(refine todo ?_;simp +decide only[go_sem]))|refine zzd (Tryz.rKeyRight r hr hok) rfl rfl (fun _ => rfl) ?_)
 all_goals try (refine zzs rfl ?_; simp +decide only [go_sem, keyB, *]; done)
 · have hk : zx4 r = true := by assumption
   have e : keyB r = r.flatMap oneB ++ [0] := by rw [keyB, if_pos hk]
   have hrr : zqi r = true := by unfold zx4 at hk; simp at hk; exact hk.1
   have hl8 : r.length ≤ 8 := by unfold zx4 at hk; simp at hk; omega
   have hsz := z1y hrr
   refine zzj r.length (fun _ => True) (fun i => frame [(0, pD (zz4 r)), (3, pD (dS ((r.take i).flatMap oneB))), (4, pD (.lit (.int .i64 i)))] [] []) Zti ?_ ?_
   · refine zzb ?_ ?_ ?_ <;> simp +decide only [go_sem, List.flatMap_nil]
   · intro i hi _
     have hfl := z4s (r.take i) (fun v hv => hsz v (List.mem_of_mem_take hv))
     rw [Zlt] at hfl
     rcases Zlg i r.length with hlt | hge
     · have hg := Zge hlt
       have hd := zze hlt
       have hw := zzl hlt hr
       generalize r[i] = v at hg
       have hv := hsz v (Zme hg)
       have ho := z9d v hv
       have hl : ((List.flatMap oneB (r.take i)).length + (oneB v).length ≤ 9223372036854775807) = True := eq_true (by omega)
       repeat' (first|(with_reducible first|refine vSq fun K hK=>?_|apply vRg|apply vBl|apply vSc|apply vIf|apply vSk|apply vEx|apply vRt|((first|apply gNt|apply gCs)<;>(intro h;try simp only[h]))|((first|apply hK|(clear hK K;first|apply hK|(clear hK K;first|apply hK|(clear hK K;apply hK))));clear hK K)|(refine todo ?_;simp +decide only[go_sem, hg, hd, hw, hl]))|refine zzd (Tryz.rOne v (by omega)) rfl rfl (fun _ => rfl) ?_)
       refine zzi hlt Zti (zzb ?_ ?_ ?_) <;> simp +decide only [go_sem, yzr hg]
     · have hd := zzf hge
       rw [Ztl hge] at *
       have hl : ((List.flatMap oneB r).length + 1 ≤ 9223372036854775807) = True := eq_true (by omega)
       repeat' (first|(with_reducible first|refine vSq fun K hK=>?_|apply vRg|apply vBl|apply vSc|apply vIf|apply vSk|apply vEx|apply vRt|((first|apply gNt|apply gCs)<;>(intro h;try simp only[h]))|((first|apply hK|(clear hK K;first|apply hK|(clear hK K;first|apply hK|(clear hK K;apply hK))));clear hK K)|(refine todo ?_;simp +decide only[go_sem, hd, hl, List.length_cons, List.length_nil, Nat.zero_add])))
       refine zzs rfl ?_
       simp +decide only [go_sem, e]
def cmpB : List UInt8 → List UInt8 → Int
 | [], [] => 0
 | [], _ :: _ => -1
 | _ :: _, [] => 1
 | x :: a, y :: b => if ((x.toNat : Int) != (y.toNat : Int)) = true then if decide ((x.toNat : Int) < (y.toNat : Int)) = true then -1 else 1 else cmpB a b
theorem y6u {a b : List UInt8} {i : Nat} {x y : UInt8} (ha : a[i]? = some x) (hb : b[i]? = some y) : cmpB (a.drop i) (b.drop i) = if ((x.toNat : Int) != (y.toNat : Int)) = true then if decide ((x.toNat : Int) < (y.toNat : Int)) = true then -1 else 1 else cmpB (a.drop (i + 1)) (b.drop (i + 1)) := by
 obtain ⟨h1, e1⟩ := List.getElem?_eq_some_iff.1 ha
 obtain ⟨h2, e2⟩ := List.getElem?_eq_some_iff.1 hb
 rw [List.drop_eq_getElem_cons h1, List.drop_eq_getElem_cons h2, e1, e2, cmpB]
theorem y3b {a b : List UInt8} (h : a = [] ∨ b = []) : cmpB a b = if ((a.length : Int) == (b.length : Int)) = true then 0 else if decide ((a.length : Int) < (b.length : Int)) = true then -1 else 1 := by
 cases a <;> cases b <;> simp_all [cmpB] <;> omega
theorem Tryz.rBytes (a b : List UInt8) (ha : a.length ≤ 4294967296) : zzr Tryz.prog 92 [pD (dS a), pD (dS b)] (.one (.d (dI (cmpB a b)))) := by
 refine Tryz.pure (md := []) Tryz.func92 rfl Tryz.call92 (by kernel_rfl) (by rfl) (by exact Zle rfl) ?_
 repeat' (first|(with_reducible first|refine vSq fun K hK=>?_|apply vRg|apply vBl|apply vSc|apply vIf|apply vSk|apply vEx|apply vRt|((first|apply gNt|apply gCs)<;>(intro h;try simp only[h]))|((first|apply hK|(clear hK K;first|apply hK|(clear hK K;first|apply hK|(clear hK K;apply hK))));clear hK K)|(refine todo ?_;simp +decide only[go_sem])))
 refine zzj (min a.length b.length) (fun i => cmpB (a.drop i) (b.drop i) = cmpB a b) (fun i => frame [(0, pD (dS a)), (1, pD (dS b)), (5, pD (.lit (.int .i64 i)))] [] []) rfl ?_ ?_
 · refine zzb ?_ ?_ ?_ <;> simp +decide only [go_sem]
 · intro i hi hI
   rcases Zlg i (min a.length b.length) with hlt | hge
   · have hg := Zge (show i < a.length by omega)
     have hg2 := Zge (show i < b.length by omega)
     have hd := zze (show i < a.length by omega)
     have hd2 := zze (show i < b.length by omega)
     have hw := zzl (show i < a.length by omega) ha
     generalize a[i] = x at hg
     generalize b[i] = y at hg2
     have hc := y6u hg hg2
     rw [hI] at hc
     repeat' (first|(with_reducible first|refine vSq fun K hK=>?_|apply vRg|apply vBl|apply vSc|apply vIf|apply vSk|apply vEx|apply vRt|((first|apply gNt|apply gCs)<;>(intro h;try simp only[h]))|((first|apply hK|(clear hK K;first|apply hK|(clear hK K;first|apply hK|(clear hK K;apply hK))));clear hK K)|(refine todo ?_;simp +decide only[go_sem, hg, hg2, hd, hd2, hw])))
     all_goals first
      | (refine zzs rfl ?_
         simp +decide only [go_sem, *]; done)
      | (refine zzi hlt (by rw [hc]; simp [*]) (zzb ?_ ?_ ?_) <;> simp +decide only [go_sem])
   · have he := y3b (a := a.drop i) (b := b.drop i) (by rcases Nat.le_total a.length b.length with h | h; exact .inl (List.drop_eq_nil_of_le (by omega)); exact .inr (List.drop_eq_nil_of_le (by omega)))
     rw [hI, List.length_drop, List.length_drop] at he
     have e1 : ((((a.length - i : Nat) : Int)) == ((b.length - i : Nat) : Int)) = ((a.length : Int) == (b.length : Int)) := by rw [Bool.eq_iff_iff]; simp; omega
     have e2 : decide ((((a.length - i : Nat) : Int)) < ((b.length - i : Nat) : Int)) = decide ((a.length : Int) < (b.length : Int)) := by rw [Bool.eq_iff_iff]; simp; omega
     rw [e1, e2] at he
     rcases Zlg i a.length with h | h
     · have hd := zze h
       have hd2 := zzf (show b.length ≤ i by omega)
       repeat' (first|(with_reducible first|refine vSq fun K hK=>?_|apply vRg|apply vBl|apply vSc|apply vIf|apply vSk|apply vEx|apply vRt|((first|apply gNt|apply gCs)<;>(intro h;try simp only[h]))|((first|apply hK|(clear hK K;first|apply hK|(clear hK K;first|apply hK|(clear hK K;apply hK))));clear hK K)|(refine todo ?_;simp +decide only[go_sem, hd, hd2])))
       all_goals (refine zzs rfl ?_; simp +decide only [go_sem, *]; done)
     · have hd := zzf h
       repeat' (first|(with_reducible first|refine vSq fun K hK=>?_|apply vRg|apply vBl|apply vSc|apply vIf|apply vSk|apply vEx|apply vRt|((first|apply gNt|apply gCs)<;>(intro h;try simp only[h]))|((first|apply hK|(clear hK K;first|apply hK|(clear hK K;first|apply hK|(clear hK K;apply hK))));clear hK K)|(refine todo ?_;simp +decide only[go_sem, hd])))
       all_goals (refine zzs rfl ?_; simp +decide only [go_sem, *]; done)
def sumL {α : Type} (f : α → Nat) : List α → Nat
 | [] => 0
 | x :: l => f x + sumL f l
theorem z47 {α : Type} {f : α → Nat} : ∀ {l m : List α}, sumL f (l ++ m) = sumL f l + sumL f m
 | [], m => by simp [sumL]
 | x :: l, m => by rw [List.cons_append, sumL, sumL, z47 (l := l) (m := m)]; omega
theorem yq2 {α : Type} {f : α → Nat} {l : List α} {i : Nat} {x : α} (h : l[i]? = some x) : sumL f (l.take (i + 1)) = sumL f (l.take i) + f x := by
 rw [zzw h, z47]; rfl
theorem yjg {α : Type} {f : α → Nat} {b : Nat} : ∀ {l : List α} (_ : ∀ x ∈ l, f x ≤ b), sumL f l ≤ b * l.length
 | [], _ => by simp [sumL]
 | x :: l, h => by
   have h1 := h x (Zms2 ..)
   have h2 := yjg (l := l) (fun y hy => h y (List.mem_cons_of_mem _ hy))
   rw [sumL, List.length_cons, Nat.mul_add]
   omega
def wTxt (v : Val) : Nat := v.str.size
def wNam (c : Col) : Nat := c.name.length
def wChg (c : Chg) : Nat := c.tab.length + c.d.name.length + c.row.length + 10 * c.d.cols.length + sumL wTxt (c.row.take 300) + sumL wNam (c.d.cols.take 300)
def wGo : Nat → List Chg → Nat
 | n, [] => n
 | n, c :: l => if 20000 < n + wChg c then 1000000 else wGo (n + wChg c) l
def weight (t : Txn) : Nat := if 110 < t.chs.length then 1000000 else wGo 0 t.chs
def Chg.sm (c : Chg) : Prop := c.tab.length ≤ 1048576 ∧ c.d.name.length ≤ 1048576 ∧ c.row.length ≤ 1048576 ∧ c.d.cols.length ≤ 1048576 ∧ (∀ v ∈ c.row, v.str.size ≤ 1048576) ∧ (∀ x ∈ c.d.cols, x.name.length ≤ 1048576) ∧ Row.ok' c.row
def Txn.sm (t : Txn) : Prop := t.chs.length ≤ 1048576 ∧ ∀ c ∈ t.chs, c.sm
theorem Chg.sm.sz {c : Chg} (h : c.sm) : c.sz := by
 obtain ⟨h1, h2, h3, h4, h5, h6, h7⟩ := h
 exact ⟨⟨by omega, by omega, fun x hx => by have := h6 x hx; omega⟩, by omega, by omega, h7⟩
theorem Txn.sm.sz {t : Txn} (h : t.sm) : t.sz := ⟨by have := h.1; omega, fun c hc => (h.2 c hc).sz⟩
theorem y5d {n : Nat} {l : List Chg} {i : Nat} {c : Chg} (h : l[i]? = some c) (hb : 20000 < n + wChg c) : wGo n (l.drop i) = 1000000 := by
 obtain ⟨h1, e1⟩ := List.getElem?_eq_some_iff.1 h
 rw [List.drop_eq_getElem_cons h1, e1, wGo, if_pos hb]
theorem xz7 {n : Nat} {l : List Chg} {i : Nat} {c : Chg} (h : l[i]? = some c) (hb : ¬ 20000 < n + wChg c) : wGo n (l.drop i) = wGo (n + wChg c) (l.drop (i + 1)) := by
 obtain ⟨h1, e1⟩ := List.getElem?_eq_some_iff.1 h
 rw [List.drop_eq_getElem_cons h1, e1, wGo, if_neg hb]
theorem z1r {x : Int} {n : Nat} (h : x = n) (hb : n ≤ 4611686018427387904) : IntKind.i64.wrap x = (n : Int) := by rw [h]; exact Go.IntWalk.i64_in _ (by omega)
theorem Tryz.rWeight (t : Txn) (ht : t.sm) : zzr Tryz.prog 22 [pA t.enc] (.one (.d (dI (weight t)))) := by
 refine Tryz.pure (md := []) Tryz.func22 rfl Tryz.call22 (by kernel_rfl) (by rfl) (by exact Zle rfl) ?_
 by_cases h110 : 110 < t.chs.length
 · have hd : ((110 : Int) < (t.chs.length : Int)) = True := eq_true (by omega)
   repeat' (first|(with_reducible first|refine vSq fun K hK=>?_|apply vRg|apply vBl|apply vSc|apply vIf|apply vSk|apply vEx|apply vRt|((first|apply gNt|apply gCs)<;>(intro h;try simp only[h]))|((first|apply hK|(clear hK K;first|apply hK|(clear hK K;first|apply hK|(clear hK K;apply hK))));clear hK K)|(refine todo ?_;simp +decide only[go_sem, hd])))
   refine zzs rfl ?_
   simp +decide only [go_sem, weight, if_pos h110]
   rfl
 have hd1 : ((110 : Int) < (t.chs.length : Int)) = False := eq_false (by omega)
 have hwt : weight t = wGo 0 t.chs := by rw [weight, if_neg h110]
 rw [hwt]
 repeat' (first|(with_reducible first|refine vSq fun K hK=>?_|apply vRg|apply vBl|apply vSc|apply vIf|apply vSk|apply vEx|apply vRt|((first|apply gNt|apply gCs)<;>(intro h;try simp only[h]))|((first|apply hK|(clear hK K;first|apply hK|(clear hK K;first|apply hK|(clear hK K;apply hK))));clear hK K)|(refine todo ?_;simp +decide only[go_sem, hd1])))
 refine z4n (ι := Nat × Nat) (fun p => p.1 ≤ t.chs.length ∧ p.2 ≤ 20000 ∧ wGo p.2 (t.chs.drop p.1) = wGo 0 t.chs) (fun p => frame [(1, .c (.ptr 1 0)), (3, pD (dI p.2)), (4, pD (dI p.1))] [(1, t.enc.map .d)] []) (fun p => t.chs.length - p.1) (0, 0) ⟨Nat.zero_le _, Nat.zero_le _, rfl⟩ ?_ ?_
 · refine zzb ?_ ?_ ?_ <;> simp +decide only [go_sem]
   exact zzh (by simp [hOf])
 · rintro ⟨i, n⟩ ⟨hi, hn, hI⟩
   dsimp only at hi hn hI
   rcases Zlg i t.chs.length with hlt | hge
   · have hg := Zge hlt
     have hd := zze hlt
     have hwi := zzl hlt (by omega)
     generalize t.chs[i] = c at hg
     obtain ⟨s1, s2, s3, s4, s5, s6, s7⟩ := ht.2 c (Zme hg)
     have a1 : IntKind.i64.wrap ((n : Int) + (c.tab.length : Int)) = ((n + c.tab.length : Nat) : Int) := z1r (by push_cast; rfl) (by omega)
     have a2 : IntKind.i64.wrap (((n + c.tab.length : Nat) : Int) + (c.d.name.length : Int)) = ((n + c.tab.length + c.d.name.length : Nat) : Int) := z1r (by push_cast; rfl) (by omega)
     have a3 : IntKind.i64.wrap (((n + c.tab.length + c.d.name.length : Nat) : Int) + (c.row.length : Int)) = ((n + c.tab.length + c.d.name.length + c.row.length : Nat) : Int) := z1r (by push_cast; rfl) (by omega)
     have a4 : IntKind.i64.wrap (10 * (c.d.cols.length : Int)) = ((10 * c.d.cols.length : Nat) : Int) := z1r (by push_cast; rfl) (by omega)
     have a5 : IntKind.i64.wrap (((n + c.tab.length + c.d.name.length + c.row.length : Nat) : Int) + ((10 * c.d.cols.length : Nat) : Int)) = ((n + c.tab.length + c.d.name.length + c.row.length + 10 * c.d.cols.length : Nat) : Int) := z1r (by push_cast; rfl) (by omega)
     repeat' (first|(with_reducible first|refine vSq fun K hK=>?_|apply vRg|apply vBl|apply vSc|apply vIf|apply vSk|apply vEx|apply vRt|((first|apply gNt|apply gCs)<;>(intro h;try simp only[h]))|((first|apply hK|(clear hK K;first|apply hK|(clear hK K;first|apply hK|(clear hK K;apply hK))));clear hK K)|(refine todo ?_;simp +decide only[go_sem, hg, hd, a1, a2, a3, a4, a5])))
     have hm : n + c.tab.length + c.d.name.length + c.row.length + 10 * c.d.cols.length ≤ 16777216 := by omega
     have hwc : n + wChg c = n + c.tab.length + c.d.name.length + c.row.length + 10 * c.d.cols.length + sumL wTxt (c.row.take 300) + sumL wNam (c.d.cols.take 300) := by unfold wChg; omega
     clear a1 a2 a3 a4 a5
     generalize n + c.tab.length + c.d.name.length + c.row.length + 10 * c.d.cols.length = m at hm hwc
     have b1 : ∀ k, sumL wTxt (c.row.take k) ≤ 1048576 * min k c.row.length := fun k => by
      have := yjg (f := wTxt) (b := 1048576) (l := c.row.take k) (fun x hx => s5 x (List.mem_of_mem_take hx))
      rwa [Zlt] at this
     have b2 : ∀ k, sumL wNam (c.d.cols.take k) ≤ 1048576 * min k c.d.cols.length := fun k => by
      have := yjg (f := wNam) (b := 1048576) (l := c.d.cols.take k) (fun x hx => s6 x (List.mem_of_mem_take hx))
      rwa [Zlt] at this
     refine zzj (min c.row.length 300) (fun _ => True) (fun k => frame [(1, .c (.ptr 1 0)), (3, pD (dI ((m + sumL wTxt (c.row.take k) : Nat) : Int))), (4, pD (dI i)), (5, .c (.ptr 5 0)), (6, pD (dI k))] [(1, t.enc.map .d), (5, c.enc.map .d)] []) Zti ?_ ?_
     · refine zzb ?_ ?_ ?_ <;> simp +decide only [go_sem, List.take_zero, sumL, Nat.add_zero]
       exact ⟨zzh (by simp [hOf]), zzh (by simp [hOf])⟩
     · intro k hk _
       have hb1 := b1 k
       rcases Zlg k (min c.row.length 300) with hlt1 | hge1
       · have hg1 := Zge (show k < c.row.length by omega)
         have hd1 := zze (show k < c.row.length by omega)
         have hd2 : ((k : Int) < 300) = True := eq_true (by omega)
         have hw1 := zzl hlt1 (by omega)
         generalize c.row[k] = v at hg1
         have hv : wTxt v ≤ 1048576 := s5 v (Zme hg1)
         have ev : v.str.size = wTxt v := rfl
         have hn1 := yq2 (f := wTxt) hg1
         have a1 : IntKind.i64.wrap (((m + sumL wTxt (c.row.take k) : Nat) : Int) + (v.str.size : Int)) = ((m + sumL wTxt (c.row.take (k + 1)) : Nat) : Int) := z1r (by rw [hn1, ev]; push_cast; omega) (by rw [hn1]; omega)
         repeat' (first|(with_reducible first|refine vSq fun K hK=>?_|apply vRg|apply vBl|apply vSc|apply vIf|apply vSk|apply vEx|apply vRt|((first|apply gNt|apply gCs)<;>(intro h;try simp only[h]))|((first|apply hK|(clear hK K;first|apply hK|(clear hK K;first|apply hK|(clear hK K;apply hK))));clear hK K)|(refine todo ?_;simp +decide only[go_sem, hg1, hd1, hd2, hw1, a1])))
         refine zzi hlt1 Zti (zzb ?_ ?_ ?_) <;> simp +decide only [go_sem]
         exact ⟨zzh (by simp [hOf]), zzh (by simp [hOf])⟩
       · have e1 : c.row.take k = c.row.take 300 := by
          rcases Nat.le_total c.row.length 300 with h | h
          · rw [Ztl (by omega), Ztl (by omega)]
          · rw [show k = 300 by omega]
         rw [e1] at hb1 ⊢
         generalize sumL wTxt (c.row.take 300) = p at hwc hb1
         repeat' (first|(with_reducible first|refine vSq fun K hK=>?_|apply vRg|apply vBl|apply vSc|apply vIf|apply vSk|apply vEx|apply vRt|((first|apply gNt|apply gCs)<;>(intro h;try simp only[h]))|((first|apply hK|(clear hK K;first|apply hK|(clear hK K;first|apply hK|(clear hK K;apply hK))));clear hK K)|(refine todo ?_;simp +decide only[go_sem])))
         · exfalso
           simp only [decide_eq_true_eq] at *
           omega
         all_goals
          refine zzj (min c.d.cols.length 300) (fun _ => True) (fun k => frame [(1, .c (.ptr 1 0)), (3, pD (dI ((m + p + sumL wNam (c.d.cols.take k) : Nat) : Int))), (4, pD (dI i)), (5, .c (.ptr 5 0)), (7, pD (dI k))] [(1, t.enc.map .d), (5, c.enc.map .d)] []) Zti ?_ ?_
          · refine zzb ?_ ?_ ?_ <;> simp +decide only [go_sem, List.take_zero, sumL, Nat.add_zero]
            exact ⟨zzh (by simp [hOf]), zzh (by simp [hOf])⟩
          · intro k hk _
            have hb2 := b2 k
            rcases Zlg k (min c.d.cols.length 300) with hlt2 | hge2
            · have hg1 := Zge (show k < c.d.cols.length by omega)
              have hd1 := zze (show k < c.d.cols.length by omega)
              have hd2 : ((k : Int) < 300) = True := eq_true (by omega)
              have hw1 := zzl hlt2 (by omega)
              generalize c.d.cols[k] = v at hg1
              have hv : wNam v ≤ 1048576 := s6 v (Zme hg1)
              have ev : v.name.length = wNam v := rfl
              have hn1 := yq2 (f := wNam) hg1
              have a1 : IntKind.i64.wrap (((m + p + sumL wNam (c.d.cols.take k) : Nat) : Int) + (v.name.length : Int)) = ((m + p + sumL wNam (c.d.cols.take (k + 1)) : Nat) : Int) := z1r (by rw [hn1, ev]; push_cast; omega) (by rw [hn1]; omega)
              repeat' (first|(with_reducible first|refine vSq fun K hK=>?_|apply vRg|apply vBl|apply vSc|apply vIf|apply vSk|apply vEx|apply vRt|((first|apply gNt|apply gCs)<;>(intro h;try simp only[h]))|((first|apply hK|(clear hK K;first|apply hK|(clear hK K;first|apply hK|(clear hK K;apply hK))));clear hK K)|(refine todo ?_;simp +decide only[go_sem, hg1, hd1, hd2, hw1, a1])))
              refine zzi hlt2 Zti (zzb ?_ ?_ ?_) <;> simp +decide only [go_sem]
              exact ⟨zzh (by simp [hOf]), zzh (by simp [hOf])⟩
            · have e1 : c.d.cols.take k = c.d.cols.take 300 := by
               rcases Nat.le_total c.d.cols.length 300 with h | h
               · rw [Ztl (by omega), Ztl (by omega)]
               · rw [show k = 300 by omega]
              rw [e1] at hb2 ⊢
              generalize sumL wNam (c.d.cols.take 300) = p2 at hwc hb2
              by_cases hbig : 20000 < n + wChg c
              · have hb3 : ((20000 : Int) < ((m + p + p2 : Nat) : Int)) = True := eq_true (by omega)
                rw [y5d hg hbig] at hI
                repeat' (first|(with_reducible first|refine vSq fun K hK=>?_|apply vRg|apply vBl|apply vSc|apply vIf|apply vSk|apply vEx|apply vRt|((first|apply gNt|apply gCs)<;>(intro h;try simp only[h]))|((first|apply hK|(clear hK K;first|apply hK|(clear hK K;first|apply hK|(clear hK K;apply hK))));clear hK K)|(refine todo ?_;simp +decide only[go_sem, hb3])))
                · exfalso
                  simp only [decide_eq_true_eq] at *
                  omega
                all_goals
                 refine zzs rfl ?_
                 simp +decide only [go_sem, ← hI]
                 rfl
              · have hb3 : ((20000 : Int) < ((m + p + p2 : Nat) : Int)) = False := eq_false (by omega)
                rw [xz7 hg hbig] at hI
                repeat' (first|(with_reducible first|refine vSq fun K hK=>?_|apply vRg|apply vBl|apply vSc|apply vIf|apply vSk|apply vEx|apply vRt|((first|apply gNt|apply gCs)<;>(intro h;try simp only[h]))|((first|apply hK|(clear hK K;first|apply hK|(clear hK K;first|apply hK|(clear hK K;apply hK))));clear hK K)|(refine todo ?_;simp +decide only[go_sem, hb3, hwi])))
                · exfalso
                  simp only [decide_eq_true_eq] at *
                  omega
                all_goals
                 refine ⟨⟨(i + 1, n + wChg c), by dsimp only; omega, by dsimp only; omega, hI⟩, ?_, by dsimp only; omega⟩
                 refine zzb ?_ ?_ ?_ <;> simp +decide only [go_sem, hwc]
                 exact zzh (by simp [hOf])
   · have hd := zzf hge
     rw [List.drop_eq_nil_of_le hge, wGo] at hI
     repeat' (first|(with_reducible first|refine vSq fun K hK=>?_|apply vRg|apply vBl|apply vSc|apply vIf|apply vSk|apply vEx|apply vRt|((first|apply gNt|apply gCs)<;>(intro h;try simp only[h]))|((first|apply hK|(clear hK K;first|apply hK|(clear hK K;first|apply hK|(clear hK K;apply hK))));clear hK K)|(refine todo ?_;simp +decide only[go_sem, hd])))
     refine zzs rfl ?_
     simp +decide only [go_sem, hI]
end Go.Proofs
