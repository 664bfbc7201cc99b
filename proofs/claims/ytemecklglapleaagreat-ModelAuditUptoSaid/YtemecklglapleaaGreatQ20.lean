/-
  Parts of the proof, laid together: PwX, PwFc, PwFb, PwFd, PwFe, PwFf, PwFg, PwFh, PwFi.
-/
import Derived.Test.YtemecklglapleaaGreatQ19
import Derived.Test.YtemecklglapleaaGreatQ18

set_option maxRecDepth 30000
set_option maxHeartbeats 16000000
namespace Go.Proofs
open Go.PW
theorem y75 {P : Program} {f : FuncId} {fn : Func} {e : Array Value → Sem Value} (hf : P.funcs[f]? = some fn) (hb : fn.body = none) (hn : (fn.name == "runtime.NumGoroutine") = false) (h0 : Extern.findNext fn = none) (h1 : Extern.find fn = some e)
 (vals : Array Value) {v : Value} (hv : e vals = .pure v) (w : World) : ∃ w', (callFunc f vals).run P w = .ok (.value v) w' ∧ w'.heap = w.heap ∧ w'.os = w.os ∧ w'.tape = w.tape ∧ w'.output = w.output := by
 unfold callFunc
 simp only [Sem.run_bind, run_program, Result.andThen_ok, hf, hn, hb, h0, h1, Option.isNone_none, if_true, Bool.false_eq_true, if_false, hv]
 exact ⟨_, rfl, rfl, rfl, rfl, rfl⟩
theorem yjz {P : Program} {f : FuncId} {fn : Func} {e : Array Value → Sem Value} (hf : P.funcs[f]? = some fn) (hb : fn.body = none) (hn : (fn.name == "runtime.NumGoroutine") = false) (h0 : Extern.findNext fn = none) (h1 : Extern.find fn = some e)
 {x v : Value} (hv : e #[x] = .pure v) (hv1 : v.oneCell' = true) : zzr P f [pD (.lit x)] (.one (.d (.lit v))) := by
 refine ⟨rfl, fun C π w vals hC har => .inr ?_⟩
 obtain ⟨hl, hr⟩ := har
 obtain ⟨u, hu, hp⟩ := hr 0 _ rfl
 have hp : DRep C π (.lit x) u := hp
 cases hp
 have hvals : vals = #[x] := by
  apply Array.ext'
  match h : vals.toList, hl with
  | [a], _ => rw [h] at hu; simp at hu; rw [hu]
 subst hvals
 obtain ⟨w', h1, h2, h3, h4, h5⟩ := y75 hf hb hn h0 h1 _ hv w
 refine ⟨v, w', h1, zko C π, ?_, ?_, .same h2 h3 h4 h5⟩
 · exact DRep.lit v hv1
 · exact MRel.same ⟨hC, fun id b hb => (by cases hb), fun κ ar hA => (by cases hA), fun b o ho => (by cases ho)⟩ h2
theorem Tryz.kFrombits (n : Int) : zzr Tryz.prog 78 [pD (.lit (.int .u64 n))] (.one (.d (.lit (.float .f64 n.toNat)))) :=
 yjz Tryz.func78 rfl (by kernel_rfl) (by kernel_rfl) (e := Extern.MathFloatBits.float64frombits) (by kernel_rfl) rfl rfl
theorem Tryz.kBits (n : Nat) : zzr Tryz.prog 106 [pD (.lit (.float .f64 n))] (.one (.d (.lit (.int .u64 n)))) :=
 yjz Tryz.func106 rfl (by kernel_rfl) (by kernel_rfl) (e := Extern.MathFloatBits.float64bits) (by kernel_rfl) rfl rfl
def y30 (b : Nat) : Bool := FloatKind.f64.format.order b b != some .eq
def yzc (b : Nat) : Int := if y30 b then 9221120237041090560 else if FloatKind.f64.format.order b 0 == some .eq then 0 else b
theorem Tryz.kIsNaN (b : Nat) : zzr Tryz.prog 105 [pD (.lit (.float .f64 b))] (.one (dB (y30 b))) := by
 refine Tryz.pure (md := []) Tryz.func105 rfl Tryz.call105 (by kernel_rfl) (by rfl) (by exact Zle rfl) ?_
 repeat' (first|(with_reducible first|refine vSq fun K hK=>?_|apply vRg|apply vBl|apply vSc|apply vIf|apply vSk|apply vEx|apply vRt|((first|apply gNt|apply gCs)<;>(intro h;try simp only[h]))|((first|apply hK|(clear hK K;first|apply hK|(clear hK K;first|apply hK|(clear hK K;apply hK))));clear hK K)|(refine todo ?_;simp +decide only[go_sem])))
 refine zzs rfl ?_
 simp +decide only [go_sem, y30]
theorem Tryz.kCanonical (b : Nat) : zzr Tryz.prog 77 [pD (.lit (.float .f64 b))] (.one (.d (.lit (.int .u64 (yzc b))))) := by
 refine Tryz.pure (md := []) Tryz.func77 rfl Tryz.call77 (by kernel_rfl) (by rfl) (by exact Zle rfl) ?_
 repeat' (first|(with_reducible first|refine vSq fun K hK=>?_|apply vRg|apply vBl|apply vSc|apply vIf|apply vSk|apply vEx|apply vRt|((first|apply gNt|apply gCs)<;>(intro h;try simp only[h]))|((first|apply hK|(clear hK K;first|apply hK|(clear hK K;first|apply hK|(clear hK K;apply hK))));clear hK K)|(refine todo ?_;simp +decide only[go_sem]))|refine zzd (Tryz.kIsNaN b) rfl rfl (fun _ => rfl) ?_|refine zzd (Tryz.kBits b) rfl rfl (fun _ => rfl) ?_)
 all_goals (refine zzs rfl ?_; simp +decide only [go_sem, yzc, *])
def Val.same (v w : Val) : Bool := (v.kind == w.kind) && ((v.num == w.num) && ((v.bits == w.bits) && (v.str.toList == w.str.toList)))
def Val.canon (v : Val) : Option Val :=
 if (v.kind == 0) = true then some ⟨v.kind, 0, 0, ⟨#[]⟩⟩
 else if (v.kind == 1) = true then some ⟨v.kind, iAnd .i64 v.num 1, 0, ⟨#[]⟩⟩
 else if (v.kind == 2) = true then some ⟨v.kind, v.num, 0, ⟨#[]⟩⟩
 else if (v.kind == 3) = true then some ⟨v.kind, 0, yzc v.bits.toNat, ⟨#[]⟩⟩
 else if (v.kind == 4) = true then some ⟨v.kind, 0, 0, v.str⟩
 else if (v.kind == 5) = true then some ⟨v.kind, 0, 0, v.str⟩
 else none
def Val.right (v : Val) : Bool :=
 match v.canon with
 | some w => v.same w && decide ((v.str.size : Int) ≤ 4096)
 | none => false
theorem Tryz.kValue (v : Val) : zzr Tryz.prog 46 [pA v.enc] (.one (dB v.right)) := by
 refine Tryz.pure (md := []) Tryz.func46 rfl Tryz.call46 (by kernel_rfl) (by rfl) (by exact Zle rfl) ?_
 repeat' (first|(with_reducible first|refine vSq fun K hK=>?_|apply vRg|apply vBl|apply vSc|apply vIf|apply vSk|apply vEx|apply vRt|((first|apply gNt|apply gCs)<;>(intro h;try simp only[h]))|((first|apply hK|(clear hK K;first|apply hK|(clear hK K;first|apply hK|(clear hK K;apply hK))));clear hK K)|(refine todo ?_;simp +decide only[go_sem]))|refine zzd (Tryz.kFrombits v.bits) rfl rfl (fun _ => rfl) ?_|refine zzd (Tryz.kCanonical v.bits.toNat) rfl rfl (fun _ => rfl) ?_)
 all_goals (refine zzs rfl ?_; simp +decide only [go_sem, Val.right, Val.canon, Val.same, *])
def zqi (r : Row) : Bool := r.all Val.right
theorem zz8 {α : Type} {f : α → Bool} {l : List α} {i : Nat} {x : α} (h : (l.take i).all f = true) (hx : l[i]? = some x) (hf : f x = true) : (l.take (i + 1)).all f = true := by
 rw [List.take_add_one, hx, List.all_append, h]
 simp [hf]
theorem zqr {α : Type} {f : α → Bool} {l : List α} {i : Nat} {x : α} (hx : l[i]? = some x) (hf : f x = false) : l.all f = false := by
 rw [List.all_eq_false]
 exact ⟨x, Zme hx, by simp [hf]⟩
theorem Tryz.kRow (r : Row) (hr : r.length ≤ 4294967296) : zzr Tryz.prog 32 [pD (zz4 r)] (.one (dB (zqi r))) := by
 refine Tryz.pure (md := []) Tryz.func32 rfl Tryz.call32 (by kernel_rfl) (by rfl) (by exact Zle rfl) ?_
 repeat' (first|(with_reducible first|refine vSq fun K hK=>?_|apply vRg|apply vBl|apply vSc|apply vIf|apply vSk|apply vEx|apply vRt|((first|apply gNt|apply gCs)<;>(intro h;try simp only[h]))|((first|apply hK|(clear hK K;first|apply hK|(clear hK K;first|apply hK|(clear hK K;apply hK))));clear hK K)|(refine todo ?_;simp +decide only[go_sem])))
 refine zzj r.length (fun i => zqi (r.take i) = true) (fun i => frame [(5, pD (zz4 r)), (6, pD (.lit (.int .i64 r.length))), (7, pD (.lit (.int .i64 i)))] [] []) rfl ?_ ?_
 · exact zzb (by simp +decide only [go_sem]) Zti Zti
 · intro i hi hI
   rcases Zlg i r.length with hlt | hge
   · have hg := Zge hlt
     have hd := zze hlt
     have hw := zzl hlt hr
     generalize r[i] = v at hg
     repeat' (first|(with_reducible first|refine vSq fun K hK=>?_|apply vRg|apply vBl|apply vSc|apply vIf|apply vSk|apply vEx|apply vRt|((first|apply gNt|apply gCs)<;>(intro h;try simp only[h]))|((first|apply hK|(clear hK K;first|apply hK|(clear hK K;first|apply hK|(clear hK K;apply hK))));clear hK K)|(refine todo ?_;simp +decide only[go_sem, hg, hd, hw]))|refine zzd (Tryz.kValue v) rfl rfl (fun _ => rfl) ?_)
     · refine zzi hlt (zz8 hI hg h) (zzb ?_ ?_ ?_) <;> simp +decide only [go_sem]
     · refine zzs rfl ?_
       simp +decide only [go_sem, zqr hg h, zqi]
   · have hd := zzf hge
     rw [Ztl hge] at hI
     repeat' (first|(with_reducible first|refine vSq fun K hK=>?_|apply vRg|apply vBl|apply vSc|apply vIf|apply vSk|apply vEx|apply vRt|((first|apply gNt|apply gCs)<;>(intro h;try simp only[h]))|((first|apply hK|(clear hK K;first|apply hK|(clear hK K;first|apply hK|(clear hK K;apply hK))));clear hK K)|(refine todo ?_;simp +decide only[go_sem, hd])))
     refine zzs rfl ?_
     simp +decide only [go_sem, hI]
def zx6 (a b : Row) : Bool := a.length == b.length && (List.zipWith Val.same a b).all id
theorem yqy {a b : Row} {i : Nat} {x y : Val} (h : (List.zipWith Val.same (a.take i) (b.take i)).all id = true) (hx : a[i]? = some x) (hy : b[i]? = some y) (hf : Val.same x y = true) : (List.zipWith Val.same (a.take (i + 1)) (b.take (i + 1))).all id = true := by
 rw [← List.take_zipWith] at h ⊢
 refine zz8 (x := true) h ?_ rfl
 rw [List.getElem?_zipWith, hx, hy]
 simp [hf]
theorem yks {a b : Row} {i : Nat} {x y : Val} (hx : a[i]? = some x) (hy : b[i]? = some y) (hf : Val.same x y = false) : (List.zipWith Val.same a b).all id = false := by
 refine zqr (i := i) (x := false) ?_ rfl
 rw [List.getElem?_zipWith, hx, hy]
 simp [hf]
theorem Tryz.kSame (a b : Row) (hr : a.length ≤ 4294967296) : zzr Tryz.prog 35 [pD (zz4 a), pD (zz4 b)] (.one (dB (zx6 a b))) := by
 refine Tryz.pure (md := []) Tryz.func35 rfl Tryz.call35 (by kernel_rfl) (by rfl) (by exact Zle rfl) ?_
 repeat' (first|(with_reducible first|refine vSq fun K hK=>?_|apply vRg|apply vBl|apply vSc|apply vIf|apply vSk|apply vEx|apply vRt|((first|apply gNt|apply gCs)<;>(intro h;try simp only[h]))|((first|apply hK|(clear hK K;first|apply hK|(clear hK K;first|apply hK|(clear hK K;apply hK))));clear hK K)|(refine todo ?_;simp +decide only[go_sem])))
 · refine zzs rfl ?_
   have hne : (a.length == b.length) = false := by
    rw [beq_eq_false_iff_ne]; intro e; rw [e] at h; simp at h
   simp +decide only [go_sem, zx6, hne]
 · have hlen : a.length = b.length := by
    have e : ((a.length : Int) == (b.length : Int)) = true := by simpa [bne] using h
    exact Int.ofNat_inj.1 (by simpa using e)
   refine zzj a.length (fun i => (List.zipWith Val.same (a.take i) (b.take i)).all id = true) (fun i => frame [(0, pD (zz4 a)), (1, pD (zz4 b)), (12, pD (.lit (.int .i64 a.length))), (13, pD (.lit (.int .i64 i)))] [] []) rfl ?_ ?_
   · refine zzb ?_ ?_ ?_ <;> simp +decide only [go_sem]
   · intro i hi hI
     rcases Zlg i a.length with hlt | hge
     · have hg := Zge hlt
       have hg' := Zge (show i < b.length by omega)
       have hd := zze hlt
       have hw := zzl hlt hr
       generalize a[i] = x at hg
       generalize b[i] = y at hg'
       repeat' (first|(with_reducible first|refine vSq fun K hK=>?_|apply vRg|apply vBl|apply vSc|apply vIf|apply vSk|apply vEx|apply vRt|((first|apply gNt|apply gCs)<;>(intro h;try simp only[h]))|((first|apply hK|(clear hK K;first|apply hK|(clear hK K;first|apply hK|(clear hK K;apply hK))));clear hK K)|(refine todo ?_;simp +decide only[go_sem, hg, hg', hd, hw])))
       · refine zzi hlt (yqy hI hg hg' h) (zzb ?_ ?_ ?_) <;> simp +decide only [go_sem]
       · refine zzs rfl ?_
         simp +decide only [go_sem, zx6, yks hg hg' h]
     · have hd := zzf hge
       rw [Ztl hge, Ztl (show b.length ≤ i by omega)] at hI
       repeat' (first|(with_reducible first|refine vSq fun K hK=>?_|apply vRg|apply vBl|apply vSc|apply vIf|apply vSk|apply vEx|apply vRt|((first|apply gNt|apply gCs)<;>(intro h;try simp only[h]))|((first|apply hK|(clear hK K;first|apply hK|(clear hK K;first|apply hK|(clear hK K;apply hK))));clear hK K)|(refine todo ?_;simp +decide only[go_sem, hd])))
       refine zzs rfl ?_
       simp +decide only [go_sem, zx6, hI, hlen]
theorem Tryz.kOwn (ps : List Piece) (hn : ps.length ≤ 1048576) (hr : ∀ p ∈ ps, p.row.length ≤ 1048576) : zzr Tryz.prog 33 [pD (zzk ps)] (.one (.own 3 (ps.map Piece.enc))) := by
 refine Tryz.pure (md := []) Tryz.func33 rfl Tryz.call33 (by kernel_rfl) (by rfl) (by exact Zle rfl) ?_
 repeat' (first|(with_reducible first|refine vSq fun K hK=>?_|apply vRg|apply vBl|apply vSc|apply vIf|apply vSk|apply vEx|apply vRt|((first|apply gNt|apply gCs)<;>(intro h;try simp only[h]))|((first|apply hK|(clear hK K;first|apply hK|(clear hK K;first|apply hK|(clear hK K;apply hK))));clear hK K)|(refine todo ?_;simp +decide only[go_sem])))
 refine zzj ps.length (fun _ => True) (fun i => frame [(6, pD (zzk ps)), (7, pD (.lit (.int .i64 ps.length))), (8, pD (.lit (.int .i64 i))), (3, .c (.own (3, 0) ((ps.take i).map Piece.enc)))] [] [((3, 0), .co 3 (ps.take i).length)]) Zti ?_ ?_
 · refine zzb ?_ ?_ ?_ <;> simp +decide only [go_sem]
   exact zju rfl rfl
 · intro i hi hI
   rcases Zlg i ps.length with hlt | hge
   · have hg := Zge hlt
     have hd := zze hlt
     have hw := zzl hlt (show ps.length ≤ 4294967296 by omega)
     generalize ps[i] = x at hg
     have hx := hr x (Zme hg)
     have htk := zzw hg
     have hl : (ps.take i).length = i := by rw [Zlt]; omega
     repeat' (first|(with_reducible first|refine vSq fun K hK=>?_|apply vRg|apply vBl|apply vSc|apply vIf|apply vSk|apply vEx|apply vRt|((first|apply gNt|apply gCs)<;>(intro h;try simp only[h]))|((first|apply hK|(clear hK K;first|apply hK|(clear hK K;first|apply hK|(clear hK K;apply hK))));clear hK K)|(refine todo ?_;simp +decide only[go_sem, hg, hd, hw]))|(refine zx2 Tryz.appVals rfl rfl zvw (yq3 _) (by simp; omega) rfl ?_)|(refine zx1 Tryz.appPieces rfl (zqm _) (zqk rfl) (by simp; omega) (by simp; rfl) ?_))
     refine zzi hlt Zti (zzb ?_ ?_ ?_) <;> simp +decide only [go_sem, htk]
     exact zqb (by simp [aOf]) rfl
   · have hd := zzf hge
     rw [Ztl hge]
     repeat' (first|(with_reducible first|refine vSq fun K hK=>?_|apply vRg|apply vBl|apply vSc|apply vIf|apply vSk|apply vEx|apply vRt|((first|apply gNt|apply gCs)<;>(intro h;try simp only[h]))|((first|apply hK|(clear hK K;first|apply hK|(clear hK K;first|apply hK|(clear hK K;apply hK))));clear hK K)|(refine todo ?_;simp +decide only[go_sem, hd])))
     exact zwe (3, 0) rfl rfl (by simp; rfl)
def zqn (e : Int) (p : Piece) : Bool := Span.right p.lo p.hi && zqi p.row && !decide (p.lo < e)
def zxw : Int → List Piece → Bool
 | _, [] => true
 | e, p :: r => zqn e p && zxw p.hi r
def zx5 : Int → List Piece → Int
 | e, [] => e
 | _, p :: r => zx5 p.hi r
def right (ps : List Piece) : Bool := zxw 0 ps
theorem zwx (l m : List Piece) : ∀ e : Int, zxw e (l ++ m) = (zxw e l && zxw (zx5 e l) m) := by
 induction l with
 | nil => intro e; rfl
 | cons p r ih => intro e; simp only [List.cons_append, zxw, zx5, ih, Bool.and_assoc]
theorem z66 (l m : List Piece) : ∀ e : Int, zx5 e (l ++ m) = zx5 (zx5 e l) m := by
 induction l with
 | nil => intro e; rfl
 | cons p r ih => intro e; simp only [List.cons_append, zx5, ih]
theorem yku {α : Type} {l : List α} {i : Nat} {x : α} (h : l[i]? = some x) : l = l.take i ++ x :: l.drop (i + 1) := by
 obtain ⟨hi, rfl⟩ := List.getElem?_eq_some_iff.1 h
 rw [List.getElem_cons_drop hi, List.take_append_drop]
theorem yqo {ps : List Piece} {i : Nat} {x : Piece} (h : ps[i]? = some x) (hf : zqn (zx5 0 (ps.take i)) x = false) : right ps = false := by
 rw [right, yku h, zwx, zxw, hf]
 simp
theorem z76 {ps : List Piece} {i : Nat} {x : Piece} (h : ps[i]? = some x) (hI : right (ps.take i) = true) (hf : zqn (zx5 0 (ps.take i)) x = true) : right (ps.take (i + 1)) = true := by
 unfold right at hI ⊢
 rw [zzw h, zwx, hI, zxw, hf]
 rfl
theorem z30 {ps : List Piece} {i : Nat} {x : Piece} (h : ps[i]? = some x) : zx5 0 (ps.take (i + 1)) = x.hi := by
 rw [zzw h, z66]
 rfl
theorem Tryz.kRight (ps : List Piece) (hn : ps.length ≤ 1048576) (hr : ∀ p ∈ ps, p.row.length ≤ 1048576) : zzr Tryz.prog 14 [pD (zzk ps)] (.one (dB (right ps))) := by
 refine Tryz.pure (md := []) Tryz.func14 rfl Tryz.call14 (by kernel_rfl) (by rfl) (by exact Zle rfl) ?_
 repeat' (first|(with_reducible first|refine vSq fun K hK=>?_|apply vRg|apply vBl|apply vSc|apply vIf|apply vSk|apply vEx|apply vRt|((first|apply gNt|apply gCs)<;>(intro h;try simp only[h]))|((first|apply hK|(clear hK K;first|apply hK|(clear hK K;first|apply hK|(clear hK K;apply hK))));clear hK K)|(refine todo ?_;simp +decide only[go_sem])))
 refine zzj ps.length (fun i => right (ps.take i) = true) (fun i => frame [(6, pD (zzk ps)), (7, pD (.lit (.int .i64 ps.length))), (8, pD (.lit (.int .i64 i))), (3, pD (.lit (.int .i64 (zx5 0 (ps.take i)))))] [] []) rfl ?_ ?_
 · refine zzb ?_ ?_ ?_ <;> simp +decide only [go_sem, zx5]
 · intro i hi hI
   rcases Zlg i ps.length with hlt | hge
   · have hg := Zge hlt
     have hd := zze hlt
     have hw := zzl hlt (show ps.length ≤ 4294967296 by omega)
     generalize ps[i] = x at hg
     have hx : x.row.length ≤ 4294967296 := Nat.le_trans (hr x (Zme hg)) (by decide)
     have hnx := z30 hg
     have hnt := yqo hg
     have hrn := z76 hg hI
     repeat' (first|(with_reducible first|refine vSq fun K hK=>?_|apply vRg|apply vBl|apply vSc|apply vIf|apply vSk|apply vEx|apply vRt|((first|apply gNt|apply gCs)<;>(intro h;try simp only[h]))|((first|apply hK|(clear hK K;first|apply hK|(clear hK K;first|apply hK|(clear hK K;apply hK))));clear hK K)|(refine todo ?_;simp +decide only[go_sem, hg, hd, hw]))|refine zzd (Tryz.spanRight x.lo x.hi) rfl rfl (fun _ => rfl) ?_|refine zzd (Tryz.kRow x.row hx) rfl rfl (fun _ => rfl) ?_)
     all_goals first
      | (have hp : zqn (zx5 0 (ps.take i)) x = true := by simp +decide only [go_sem, zqn, *]
         refine zzi hlt (hrn hp) (zzb ?_ ?_ ?_) <;> simp +decide only [go_sem, hnx])
      | (have hp : zqn (zx5 0 (ps.take i)) x = false := by simp +decide only [go_sem, zqn, *]
         refine zzs rfl ?_
         simp +decide only [go_sem, hnt hp])
   · have hd := zzf hge
     rw [Ztl hge] at hI
     repeat' (first|(with_reducible first|refine vSq fun K hK=>?_|apply vRg|apply vBl|apply vSc|apply vIf|apply vSk|apply vEx|apply vRt|((first|apply gNt|apply gCs)<;>(intro h;try simp only[h]))|((first|apply hK|(clear hK K;first|apply hK|(clear hK K;first|apply hK|(clear hK K;apply hK))));clear hK K)|(refine todo ?_;simp +decide only[go_sem, hd])))
     refine zzs rfl ?_
     simp +decide only [go_sem, hI]
def at' (ps : List Piece) (t : Int) : Option Row := (ps.find? fun p => Span.has p.lo p.hi t).map (·.row)
def at_ (ps : List Piece) (t : Int) : Option Row := if right ps then at' ps t else none
abbrev Sp := Int × Int
def Sp.enc (s : Sp) : List D := zqj s.1 s.2
def Sp.right (s : Sp) : Bool := Span.right s.1 s.2
def rights (l : List Sp) : List Sp := l.filter Sp.right
def iMax (a b : Int) : Int := if b > a then b else a
def iMin (a b : Int) : Int := if b < a then b else a
def meet (a b : Sp) : Option Sp := if Span.right a.1 a.2 && Span.right b.1 b.2 && Span.right (iMax a.1 b.1) (iMin a.2 b.2) then some (iMax a.1 b.1, iMin a.2 b.2) else none
def zvd : Option Sp → RV
 | some s => .tup [.agg (Sp.enc s), dB true]
 | none => .tup [.agg (zqj 0 0), dB false]
theorem y8d (l : List Sp) : Szd 2 (l.map Sp.enc) := fun e he => by
 obtain ⟨p, _, rfl⟩ := List.mem_map.1 he
 rfl
theorem Tryz.kRights (l : List Sp) (hn : l.length ≤ 1048576) : zzr Tryz.prog 53 [pD (.sl (l.map Sp.enc))] (.one (.own 2 ((rights l).map Sp.enc))) := by
 refine Tryz.pure (md := []) Tryz.func53 rfl Tryz.call53 (by kernel_rfl) (by rfl) (by exact Zle rfl) ?_
 repeat' (first|(with_reducible first|refine vSq fun K hK=>?_|apply vRg|apply vBl|apply vSc|apply vIf|apply vSk|apply vEx|apply vRt|((first|apply gNt|apply gCs)<;>(intro h;try simp only[h]))|((first|apply hK|(clear hK K;first|apply hK|(clear hK K;first|apply hK|(clear hK K;apply hK))));clear hK K)|(refine todo ?_;simp +decide only[go_sem])))
 refine zzj l.length (fun _ => True) (fun i => frame [(6, pD (.sl (l.map Sp.enc))), (7, pD (.lit (.int .i64 l.length))), (8, pD (.lit (.int .i64 i))), (3, .c (.own (3, 0) ((rights (l.take i)).map Sp.enc)))] [] [((3, 0), .co 2 (rights (l.take i)).length)]) Zti ?_ ?_
 · refine zzb ?_ ?_ ?_ <;> simp +decide only [go_sem, rights, List.filter_nil]
   exact zju rfl rfl
 · intro i hi hI
   rcases Zlg i l.length with hlt | hge
   · have hg := Zge hlt
     have hd := zze hlt
     have hw := zzl hlt (show l.length ≤ 4294967296 by omega)
     generalize l[i] = x at hg
     have hx : x.enc = zqj x.1 x.2 := rfl
     have htk := zzw hg
     have hl : (rights (l.take i)).length ≤ i := Nat.le_trans (List.length_filter_le _ _) (by rw [Zlt]; omega)
     repeat' (first|(with_reducible first|refine vSq fun K hK=>?_|apply vRg|apply vBl|apply vSc|apply vIf|apply vSk|apply vEx|apply vRt|((first|apply gNt|apply gCs)<;>(intro h;try simp only[h]))|((first|apply hK|(clear hK K;first|apply hK|(clear hK K;first|apply hK|(clear hK K;apply hK))));clear hK K)|(refine todo ?_;simp +decide only[go_sem, hg, hd, hw, hx]))|refine zzd (Tryz.spanRight x.1 x.2) rfl rfl (fun _ => rfl) ?_|(refine zx1 Tryz.appSpans rfl (y8d _) (zqk rfl) (by simp; omega) (by simp; rfl) ?_))
     · have hrt : rights (l.take (i + 1)) = rights (l.take i) ++ [x] := by
        rw [htk, rights, List.filter_append]
        simp [rights, Sp.right, h]
       refine zzi hlt Zti (zzb ?_ ?_ ?_) <;> simp +decide only [go_sem, hrt, hx]
       exact zqb (by simp [aOf]) rfl
     · have hrt : rights (l.take (i + 1)) = rights (l.take i) := by
        rw [htk, rights, List.filter_append]
        simp [rights, Sp.right, h]
       refine zzi hlt Zti (zzb ?_ ?_ ?_) <;> simp +decide only [go_sem, hrt]
       exact zqb (by simp [aOf]) rfl
   · have hd := zzf hge
     rw [Ztl hge]
     repeat' (first|(with_reducible first|refine vSq fun K hK=>?_|apply vRg|apply vBl|apply vSc|apply vIf|apply vSk|apply vEx|apply vRt|((first|apply gNt|apply gCs)<;>(intro h;try simp only[h]))|((first|apply hK|(clear hK K;first|apply hK|(clear hK K;first|apply hK|(clear hK K;apply hK))));clear hK K)|(refine todo ?_;simp +decide only[go_sem, hd])))
     exact zwe (3, 0) rfl rfl (by simp; rfl)
theorem Tryz.kMeet (a b : Sp) : zzr Tryz.prog 52 [pA a.enc, pA b.enc] (zvd (meet a b)) := by
 refine Tryz.pure (md := []) Tryz.func52 rfl Tryz.call52 (by kernel_rfl) (by rfl) (by exact Zle rfl) ?_
 have ha : a.enc = zqj a.1 a.2 := rfl
 have hb : b.enc = zqj b.1 b.2 := rfl
 repeat' (first|(with_reducible first|refine vSq fun K hK=>?_|apply vRg|apply vBl|apply vSc|apply vIf|apply vSk|apply vEx|apply vRt|((first|apply gNt|apply gCs)<;>(intro h;try simp only[h]))|((first|apply hK|(clear hK K;first|apply hK|(clear hK K;first|apply hK|(clear hK K;apply hK))));clear hK K)|(refine todo ?_;simp +decide only[go_sem, ha, hb]))|refine zzd (Tryz.spanRight a.1 a.2) rfl rfl (fun _ => rfl) ?_|refine zzd (Tryz.spanRight b.1 b.2) rfl rfl (fun _ => rfl) ?_|refine zzd (Tryz.spanRight (iMax a.1 b.1) (iMin a.2 b.2)) rfl rfl (fun _ => rfl) ?_)
 · have hm : meet a b = some (iMax a.1 b.1, iMin a.2 b.2) := by unfold meet; simp [*]
   rw [hm]
   refine zw9 rfl ?_ rfl
   simp +decide only [go_sem, Sp.enc]
   rfl
 all_goals
  have hm : meet a b = none := by unfold meet; simp [*]
  rw [hm]
  refine zw9 rfl ?_ rfl
  simp +decide only [go_sem]
def cut (a b : Sp) : List Sp :=
 match meet a b with
 | some m => rights [(a.1, m.1), (m.2, a.2)]
 | none => rights [a]
theorem Tryz.kCut (a b : Sp) : zzr Tryz.prog 34 [pA a.enc, pA b.enc] (.one (.own 2 ((cut a b).map Sp.enc))) := by
 refine Tryz.pure (md := []) Tryz.func34 rfl Tryz.call34 (by kernel_rfl) (by rfl) (by exact Zle rfl) ?_
 have ha : a.enc = zqj a.1 a.2 := rfl
 have hb : b.enc = zqj b.1 b.2 := rfl
 have hM := Tryz.kMeet a b
 unfold cut
 cases hm : meet a b with
 | none =>
   rw [hm] at hM
   repeat' (first|(with_reducible first|refine vSq fun K hK=>?_|apply vRg|apply vBl|apply vSc|apply vIf|apply vSk|apply vEx|apply vRt|((first|apply gNt|apply gCs)<;>(intro h;try simp only[h]))|((first|apply hK|(clear hK K;first|apply hK|(clear hK K;first|apply hK|(clear hK K;apply hK))));clear hK K)|(refine todo ?_;simp +decide only[go_sem, ha, hb, zvd]))|refine zzd hM rfl rfl (fun _ => rfl) ?_|refine zzd (Tryz.kRights [a] (by simp)) rfl rfl (fun _ => rfl) ?_)
   refine zwe (17, 0) rfl rfl ?_
   simp +decide only [go_sem]
 | some m =>
   rw [hm] at hM
   have hme : m.enc = zqj m.1 m.2 := rfl
   repeat' (first|(with_reducible first|refine vSq fun K hK=>?_|apply vRg|apply vBl|apply vSc|apply vIf|apply vSk|apply vEx|apply vRt|((first|apply gNt|apply gCs)<;>(intro h;try simp only[h]))|((first|apply hK|(clear hK K;first|apply hK|(clear hK K;first|apply hK|(clear hK K;apply hK))));clear hK K)|(refine todo ?_;simp +decide only[go_sem, ha, hb, hme, zvd]))|refine zzd hM rfl rfl (fun _ => rfl) ?_|refine zzd (Tryz.kRights [(a.1, m.1), (m.2, a.2)] (by simp)) rfl rfl (fun _ => rfl) ?_)
   refine zwe (29, 0) rfl rfl ?_
   simp +decide only [go_sem]
def zwm (s : Sp) (p : Piece) : List Piece := (cut (p.lo, p.hi) s).map fun m => ⟨m.1, m.2, p.row⟩
def rests (s : Sp) (ps : List Piece) : List Piece := ps.flatMap (zwm s)
def drop (ps : List Piece) (s : Sp) : List Piece := if right ps && Span.right s.1 s.2 then rests s ps else ps
theorem z3b (a b : Sp) : (cut a b).length ≤ 2 := by
 unfold cut
 split
 · exact Nat.le_trans (List.length_filter_le _ _) (by simp)
 · exact Nat.le_trans (List.length_filter_le _ _) (by simp)
theorem yqj (s : Sp) (p : Piece) : (zwm s p).length ≤ 2 := by unfold zwm; rw [List.length_map]; exact z3b _ _
theorem zvp (s : Sp) (ps : List Piece) : (rests s ps).length ≤ 2 * ps.length := by
 induction ps with
 | nil => exact Zlr _
 | cons p r ih =>
   have := yqj s p
   simp only [rests, List.flatMap_cons, Zla, List.length_cons] at ih ⊢
   omega
theorem yqm {s : Sp} {ps : List Piece} {n : Nat} (h : ∀ p ∈ ps, p.row.length ≤ n) : ∀ p ∈ rests s ps, p.row.length ≤ n := by
 intro p hp
 obtain ⟨q, hq, hp⟩ := List.mem_flatMap.1 hp
 obtain ⟨m, _, rfl⟩ := List.mem_map.1 hp
 exact h q hq
theorem z73 {s : Sp} {ps : List Piece} {i : Nat} {x : Piece} (h : ps[i]? = some x) : rests s (ps.take (i + 1)) = rests s (ps.take i) ++ zwm s x := by
 rw [zzw h, rests, List.flatMap_append]
 simp [rests]
theorem szPM (r : Row) (l : List Sp) : Szd 3 (l.map fun m => Piece.enc ⟨m.1, m.2, r⟩) := fun e he => by
 obtain ⟨p, _, rfl⟩ := List.mem_map.1 he
 rfl
theorem Tryz.kDrop (ps : List Piece) (s : Sp) (hn : ps.length ≤ 262144) (hr : ∀ p ∈ ps, p.row.length ≤ 1048576) : zzr Tryz.prog 12 [pD (zzk ps), pA s.enc] (.one (.own 3 ((drop ps s).map Piece.enc))) := by
 refine Tryz.pure (md := []) Tryz.func12 rfl Tryz.call12 (by kernel_rfl) (by rfl) (by exact Zle rfl) ?_
 have hs : s.enc = zqj s.1 s.2 := rfl
 have hown := Tryz.kOwn ps (by omega) hr
 have hrt := Tryz.kRight ps (by omega) hr
 repeat' (first|(with_reducible first|refine vSq fun K hK=>?_|apply vRg|apply vBl|apply vSc|apply vIf|apply vSk|apply vEx|apply vRt|((first|apply gNt|apply gCs)<;>(intro h;try simp only[h]))|((first|apply hK|(clear hK K;first|apply hK|(clear hK K;first|apply hK|(clear hK K;apply hK))));clear hK K)|(refine todo ?_;simp +decide only[go_sem, hs]))|refine zzd hown rfl rfl (fun _ => rfl) ?_|refine zzd hrt rfl rfl (fun _ => rfl) ?_|refine zzd (Tryz.spanRight s.1 s.2) rfl rfl (fun _ => rfl) ?_)
 · have hD : drop ps s = rests s ps := by unfold drop; simp [*]
   rw [hD] at hK ⊢
   refine zzj ps.length (fun _ => True) (fun i => frame [(21, pD (zzk ps)), (22, pD (.lit (.int .i64 ps.length))), (23, pD (.lit (.int .i64 i))), (5, .c (.own (5, 0) ((rests s (ps.take i)).map Piece.enc))), (3, .c (.ptr 3 0))]
    [(3, [.d (.lit (.int .i64 s.1)), .d (.lit (.int .i64 s.2))])] [((5, 0), .co 3 (rests s (ps.take i)).length)]) Zti ?_ ?_
   · refine zzb ?_ ?_ ?_ <;> simp +decide only [go_sem, rests, List.flatMap_nil]
     exact ⟨zju rfl rfl, zzh (by simp [hOf])⟩
   · intro i hi hI
     rcases Zlg i ps.length with hlt | hge
     · have hg := Zge hlt
       have hd := zze hlt
       have hw := zzl hlt (show ps.length ≤ 4294967296 by omega)
       generalize ps[i] = x at hg
       have hnx := z73 (s := s) hg
       have hl : (rests s (ps.take i)).length ≤ 2 * i := Nat.le_trans (zvp _ _) (by rw [Zlt]; omega)
       have hcut := Tryz.kCut (x.lo, x.hi) s
       have hxe : Sp.enc (x.lo, x.hi) = zqj x.lo x.hi := rfl
       have hcl := z3b (x.lo, x.hi) s
       repeat' (first|(with_reducible first|refine vSq fun K hK=>?_|apply vRg|apply vBl|apply vSc|apply vIf|apply vSk|apply vEx|apply vRt|((first|apply gNt|apply gCs)<;>(intro h;try simp only[h]))|((first|apply hK|(clear hK K;first|apply hK|(clear hK K;first|apply hK|(clear hK K;apply hK))));clear hK K)|(refine todo ?_;simp +decide only[go_sem, hg, hd]))|refine zzd hcut rfl rfl (fun _ => rfl) ?_)
       have hL : zwm s x = (cut (x.lo, x.hi) s).map fun m => ⟨m.1, m.2, x.row⟩ := rfl
       generalize cut (x.lo, x.hi) s = L at hcut hcl hL
       refine zzj L.length (fun _ => True) (fun j => frame [(30, pD (.sl (L.map Sp.enc))), (31, pD (.lit (.int .i64 L.length))), (32, pD (.lit (.int .i64 j))), (7, .c (.ptr 7 0)), (21, pD (zzk ps)), (22, pD (.lit (.int .i64 ps.length))), (23, pD (.lit (.int .i64 i))),
        (5, .c (.own (5, 0) ((rests s (ps.take i)).map Piece.enc ++ (L.take j).map fun m => Piece.enc ⟨m.1, m.2, x.row⟩))), (3, .c (.ptr 3 0))]
        [(3, [.d (.lit (.int .i64 s.1)), .d (.lit (.int .i64 s.2))]), (7, [.d (.lit (.int .i64 x.lo)), .d (.lit (.int .i64 x.hi)), .d (zz4 x.row)])] [((5, 0), .co 3 ((rests s (ps.take i)).length + (L.take j).length))]) Zti ?_ ?_
       · refine zzb ?_ ?_ ?_ <;> simp +decide only [go_sem]
         exact ⟨zzh (by simp [hOf]), zqb (by simp [aOf]) rfl, zzh (by simp [hOf])⟩
       · intro j hj hJ
         rcases Zlg j L.length with hlt' | hge'
         · have hg' := Zge hlt'
           have hd' := zze hlt'
           have hw' := zzl hlt' (show L.length ≤ 4294967296 by omega)
           generalize L[j] = y at hg'
           have hy : y.enc = zqj y.1 y.2 := rfl
           have htk := zzw hg'
           have hlj : (L.take j).length = j := by rw [Zlt]; omega
           repeat' (first|(with_reducible first|refine vSq fun K hK=>?_|apply vRg|apply vBl|apply vSc|apply vIf|apply vSk|apply vEx|apply vRt|((first|apply gNt|apply gCs)<;>(intro h;try simp only[h]))|((first|apply hK|(clear hK K;first|apply hK|(clear hK K;first|apply hK|(clear hK K;apply hK))));clear hK K)|(refine todo ?_;simp +decide only[go_sem, hg', hd', hw', hy]))|(refine zx1 Tryz.appPieces rfl (z0l (zqm _) (szPM _ _)) (zqk rfl) (by simp; omega) (by simp; rfl) ?_))
           refine zzi hlt' Zti (zzb ?_ ?_ ?_) <;> simp +decide only [go_sem, htk, List.append_assoc, Nat.add_assoc]
           exact ⟨zzh (by simp [hOf]), zqb (by simp [aOf]) rfl, zzh (by simp [hOf])⟩
         · have hd' := zzf hge'
           rw [Ztl hge']
           repeat' (first|(with_reducible first|refine vSq fun K hK=>?_|apply vRg|apply vBl|apply vSc|apply vIf|apply vSk|apply vEx|apply vRt|((first|apply gNt|apply gCs)<;>(intro h;try simp only[h]))|((first|apply hK|(clear hK K;first|apply hK|(clear hK K;first|apply hK|(clear hK K;apply hK))));clear hK K)|(refine todo ?_;simp +decide only[go_sem, hd', hw])))
           refine zzi hlt Zti (zzb ?_ ?_ ?_) <;> simp +decide only [go_sem, hnx, hL, List.map_map]
           exact ⟨zqb (by simp [aOf]) rfl, zzh (by simp [hOf])⟩
     · have hd := zzf hge
       rw [Ztl hge]
       have ho2 := Tryz.kOwn (rests s ps) (Nat.le_trans (zvp _ _) (by omega)) (yqm hr)
       repeat' (first|(with_reducible first|refine vSq fun K hK=>?_|apply vRg|apply vBl|apply vSc|apply vIf|apply vSk|apply vEx|apply vRt|((first|apply gNt|apply gCs)<;>(intro h;try simp only[h]))|((first|apply hK|(clear hK K;first|apply hK|(clear hK K;first|apply hK|(clear hK K;apply hK))));clear hK K)|(refine todo ?_;simp +decide only[go_sem, hd]))|refine zzd ho2 rfl rfl (fun _ => rfl) ?_)
       refine zwe (46, 0) rfl rfl ?_
       simp +decide only [go_sem]
 all_goals
  have hD : drop ps s = ps := by unfold drop; simp [*]
  rw [hD]
  refine zwe (11, 0) rfl rfl ?_
  simp +decide only [go_sem]
def ahead (s : Sp) (p : Piece) : Bool := decide (p.lo < s.1)
def insert' (s : Sp) (r : Row) (q : List Piece) : List Piece := q.takeWhile (ahead s) ++ (⟨s.1, s.2, r⟩ :: q.dropWhile (ahead s))
def putP (ps : List Piece) (s : Sp) (r : Row) : List Piece := if right ps && Span.right s.1 s.2 && zqi r then insert' s r (drop ps s) else ps
theorem drop_length (ps : List Piece) (s : Sp) : (drop ps s).length ≤ 2 * ps.length := by
 unfold drop
 split
 · exact zvp _ _
 · omega
theorem y3k {s : Sp} {ps : List Piece} {n : Nat} (h : ∀ p ∈ ps, p.row.length ≤ n) : ∀ p ∈ drop ps s, p.row.length ≤ n := by
 unfold drop
 split
 · exact yqm h
 · exact h
theorem zji {α : Type} {f : α → Bool} : ∀ {l : List α} {i : Nat}, (l.take i).all f = true → (∀ x, l[i]? = some x → f x = false) → l.takeWhile f = l.take i ∧ l.dropWhile f = l.drop i
 | [], i, _, _ => by simp
 | a :: l, 0, _, h => by
   have := h a rfl
   simp [this]
 | a :: l, i + 1, h, h' => by
   simp only [List.take_succ_cons, List.all_cons, Bool.and_eq_true] at h
   have := zji (l := l) (i := i) h.2 (fun x hx => h' x (by simpa using hx))
   simp [h.1, this]
theorem Tryz.kPut (ps : List Piece) (s : Sp) (r : Row) (hn : ps.length ≤ 131072) (hr : ∀ p ∈ ps, p.row.length ≤ 1048576) (hrr : r.length ≤ 1048576) : zzr Tryz.prog 11 [pD (zzk ps), pA s.enc, pD (zz4 r)] (.one (.own 3 ((putP ps s r).map Piece.enc))) := by
 refine Tryz.pure (md := []) Tryz.func11 rfl Tryz.call11 (by kernel_rfl) (by rfl) (by exact Zle rfl) ?_
 have hs : s.enc = zqj s.1 s.2 := rfl
 have hown := Tryz.kOwn ps (by omega) hr
 have hrt := Tryz.kRight ps (by omega) hr
 have hdr := Tryz.kDrop ps s (by omega) hr
 repeat' (first|(with_reducible first|refine vSq fun K hK=>?_|apply vRg|apply vBl|apply vSc|apply vIf|apply vSk|apply vEx|apply vRt|((first|apply gNt|apply gCs)<;>(intro h;try simp only[h]))|((first|apply hK|(clear hK K;first|apply hK|(clear hK K;first|apply hK|(clear hK K;apply hK))));clear hK K)|(refine todo ?_;simp +decide only[go_sem, hs]))|refine zzd hrt rfl rfl (fun _ => rfl) ?_|refine zzd (Tryz.spanRight s.1 s.2) rfl rfl (fun _ => rfl) ?_|refine zzd (Tryz.kRow r (by omega)) rfl rfl (fun _ => rfl) ?_|refine zzd hown rfl rfl (fun _ => rfl) ?_|refine zzd hdr rfl rfl (fun _ => rfl) ?_)
 · have hP : putP ps s r = insert' s r (drop ps s) := by unfold putP; simp [*]
   have hql := drop_length ps s
   have hqr := y3k (s := s) hr
   rw [hP] at hK ⊢
   generalize drop ps s = q at *
   refine zzj q.length (fun i => (q.take i).all (ahead s) = true) (fun i => frame [(0, pD (zzk q)), (2, pD (zz4 r)), (4, .c (.ptr 4 0)), (7, pD (.lit (.int .i64 i)))]
    [(4, [.d (.lit (.int .i64 s.1)), .d (.lit (.int .i64 s.2))])] []) rfl ?_ ?_
   · refine zzb ?_ ?_ ?_ <;> simp +decide only [go_sem]
     exact zzh (by simp [hOf])
   · intro i hi hI
     have hend : (∀ x, q[i]? = some x → ahead s x = false) → insert' s r q = q.take i ++ (⟨s.1, s.2, r⟩ :: q.drop i) := fun h => by
      obtain ⟨e1, e2⟩ := zji hI h
      rw [insert', e1, e2]
     have ho1 := Tryz.kOwn (q.take i) (by rw [Zlt]; omega) (fun p hp => hqr p (List.mem_of_mem_take hp))
     have ho2 := Tryz.kOwn (q.drop i) (by rw [List.length_drop]; omega) (fun p hp => hqr p (List.mem_of_mem_drop hp))
     have hq2 : List.take (q.length - i) ((q.drop i).map Piece.enc) = (q.drop i).map Piece.enc := Ztl (by simp)
     have hlt1 : (q.take i).length = i := by rw [Zlt]; omega
     rcases Zlg i q.length with hlt | hge
     · have hg := Zge hlt
       have hd := zze hlt
       have hw := zzl hlt (show q.length ≤ 4294967296 by omega)
       generalize q[i] = x at hg
       repeat' (first|(with_reducible first|refine vSq fun K hK=>?_|apply vRg|apply vBl|apply vSc|apply vIf|apply vSk|apply vEx|apply vRt|((first|apply gNt|apply gCs)<;>(intro h;try simp only[h]))|((first|apply hK|(clear hK K;first|apply hK|(clear hK K;first|apply hK|(clear hK K;apply hK))));clear hK K)|(refine todo ?_;simp +decide only[go_sem, hg, hd, hw, ← List.map_take, ← List.map_drop, Nat.sub_zero, hq2]))|(refine zvh Tryz.appPieces rfl (l := 0) (h := i) rfl (by simp [zz0, natOf?, intOf?]) (by omega) (by simp; omega) (zqm _) ?_)|refine zvh Tryz.appPieces rfl (l := i) (h := q.length) (by simp [zz0, natOf?, intOf?]) (by simp [zz0]) (by omega) (by simp) (zqm _) ?_|refine zzd ho1 rfl rfl (fun _ => rfl) ?_|refine zzd ho2 rfl rfl (fun _ => rfl) ?_|(refine zx2 Tryz.appVals rfl rfl zvw (yq3 _) (by simp; omega) rfl ?_)|(refine zx1 Tryz.appPieces rfl (zqm _) (zqk rfl) (by simp; omega) (by simp +decide only [go_sem]) ?_)|(refine zx1 Tryz.appPieces rfl (z0l (zqm _) (zqk rfl)) (zqm _) (by simp; omega) (by simp +decide only [go_sem]) ?_))
       · refine zzi hlt (zz8 hI hg h) (zzb ?_ ?_ ?_) <;> simp +decide only [go_sem]
         exact zzh (by simp [hOf])
       · rw [hend (fun y hy => by rw [hg] at hy; cases hy; exact h)]
         refine zwe (47, 0) rfl ?_ ?_
         · simp +decide only [go_sem, List.append_assoc]
         · simp +decide only [go_sem, Nat.add_assoc, Nat.add_comm 1]
     · have hd := zzf hge
       repeat' (first|(with_reducible first|refine vSq fun K hK=>?_|apply vRg|apply vBl|apply vSc|apply vIf|apply vSk|apply vEx|apply vRt|((first|apply gNt|apply gCs)<;>(intro h;try simp only[h]))|((first|apply hK|(clear hK K;first|apply hK|(clear hK K;first|apply hK|(clear hK K;apply hK))));clear hK K)|(refine todo ?_;simp +decide only[go_sem, hd, ← List.map_take, ← List.map_drop, Nat.sub_zero, hq2]))|(refine zvh Tryz.appPieces rfl (l := 0) (h := i) rfl (by simp [zz0, natOf?, intOf?]) (by omega) (by simp; omega) (zqm _) ?_)|refine zvh Tryz.appPieces rfl (l := i) (h := q.length) (by simp [zz0, natOf?, intOf?]) (by simp [zz0]) (by omega) (by simp) (zqm _) ?_|refine zzd ho1 rfl rfl (fun _ => rfl) ?_|refine zzd ho2 rfl rfl (fun _ => rfl) ?_|(refine zx2 Tryz.appVals rfl rfl zvw (yq3 _) (by simp; omega) rfl ?_)|(refine zx1 Tryz.appPieces rfl (zqm _) (zqk rfl) (by simp; omega) (by simp +decide only [go_sem]) ?_)|(refine zx1 Tryz.appPieces rfl (z0l (zqm _) (zqk rfl)) (zqm _) (by simp; omega) (by simp +decide only [go_sem]) ?_))
       rw [hend (fun y hy => by rw [List.getElem?_eq_none hge] at hy; cases hy)]
       refine zwe (47, 0) rfl ?_ ?_
       · simp +decide only [go_sem, List.append_assoc]
       · simp +decide only [go_sem, Nat.add_assoc, Nat.add_comm 1]
 all_goals
  have hP : putP ps s r = ps := by unfold putP; simp [*]
  rw [hP]
  refine zwe (23, 0) rfl rfl ?_
  simp +decide only [go_sem]
def zqg (x y : Piece) : Bool := ((x.lo == y.lo) && (x.hi == y.hi)) && zx6 x.row y.row
def isIn (q : List Piece) (x : Piece) : Bool := q.any (zqg x)
theorem z7w {q : List Piece} {x y : Piece} {i : Nat} (h : q[i]? = some y) (hs : zqg x y = true) : isIn q x = true := List.any_eq_true.2 ⟨y, Zme h, hs⟩
theorem yz1 {q : List Piece} {x y : Piece} {i : Nat} (h : q[i]? = some y) (hI : isIn (q.take i) x = false) (hs : zqg x y = false) : isIn (q.take (i + 1)) x = false := by
 unfold isIn at hI ⊢
 rw [zzw h, List.any_append, hI]
 simp [hs]
def without (ps q : List Piece) : List Piece := ps.filter fun x => !isIn q x
theorem z4d {ps q : List Piece} {x : Piece} {i : Nat} (h : ps[i]? = some x) : without (ps.take (i + 1)) q = without (ps.take i) q ++ (if isIn q x then [] else [x]) := by
 rw [zzw h, without, List.filter_append]
 cases h : isIn q x <;> simp [without, h]
theorem zxr (ps q : List Piece) : (without ps q).length ≤ ps.length := List.length_filter_le _ _
end Go.Proofs
