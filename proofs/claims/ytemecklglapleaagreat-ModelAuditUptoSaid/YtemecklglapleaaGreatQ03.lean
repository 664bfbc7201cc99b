/-
  Parts of the proof, laid together: PwD.
-/
import Derived.Test.YtemecklglapleaaGreatQ02
import Derived.Great.FillDense
import Derived.Laws.IdiomStrings

namespace Go.PW
variable {P : Program} {g : Gh} {H : HMap} {A : AMap} {w : World}
def POk (P : Program) (g : Gh) (H : HMap) (A : AMap) (w : World) (s : Sem Value) (v : PV) : Prop :=
 ∃ u w' g', s.run P w = .ok u w' ∧ PRep g' A v u ∧ MRel g' H A w' ∧ Evol g A w g' A w' ∧ g'.β = g.β
theorem POk.here (hm : MRel g H A w) {s : Sem Value} {v : PV} {u : Value} (h : s.run P w = .ok u w) (hr : PRep g A v u) : POk P g H A w s v :=
 ⟨u, w, g, h, hr, hm, .refl _ _ _, rfl⟩
theorem zjh {s : Sem Value} {v : Value} (h : zks s = some v) : s.run P w = .ok v w := by
 rw [(zj7 h).1]; rfl
theorem zwf (T : TypeId) (a b : Option Addr) : binOp .eql T (.pointer a) (.pointer b) = (Op.equal T (.pointer a) (.pointer b) >>= fun r => pure (.bool r)) := rfl
theorem zwg (T : TypeId) (a b : Option Addr) : binOp .neq T (.pointer a) (.pointer b) = (Op.equal T (.pointer a) (.pointer b) >>= fun r => pure (.bool (!r))) := rfl
theorem z4l {T e : TypeId} (d : Nat) (hu : P.underlying T = some (.pointer e)) {a : Addr} : (Op.equalIn (d + 1) T (.pointer (some a)) (.pointer none)).run P w = .ok false w := by
 simp only [Op.equalIn, Sem.run_bind, run_underlying hu, Result.andThen_ok]
 rfl
theorem z3k {T e : TypeId} (d : Nat) (hu : P.underlying T = some (.pointer e)) : (Op.equalIn (d + 1) T (.pointer none) (.pointer none)).run P w = .ok true w := by
 simp only [Op.equalIn, Sem.run_bind, run_underlying hu, Result.andThen_ok]
 rfl
theorem zjr {T e : TypeId} (hu : P.underlying T = some (.pointer e)) {a : Addr} : (Op.equal T (.pointer (some a)) (.pointer none)).run P w = .ok false w := z4l 9999 hu
theorem zwz {T e : TypeId} (hu : P.underlying T = some (.pointer e)) : (Op.equal T (.pointer none) (.pointer none)).run P w = .ok true w := z3k 9999 hu
theorem y96 {T : TypeId} {x y : PV} {b : Bool} {u u' : Value} (hx : PRep g A x u) (hy : PRep g A y u') (h : eqS P T x y = some b) (op : BinOp) (xo yo : Operand) :
 (eqGuard op T xo yo u u').run P w = .ok () w ∧ (binOp .eql T u u').run P w = .ok (.bool b) w ∧ (binOp .neq T u u').run P w = .ok (.bool (!b)) w := by
 unfold eqS at h
 split at h
 · rename_i xs ys
   split at h
   · rename_i fs hu
     split at h
     · rename_i hg
       obtain ⟨a, rfl, ha⟩ := hx
       obtain ⟨c, rfl, hc⟩ := hy
       have hv : ∀ (a : Array Value), z1k P T a.toList (.agg a) := by intro a; unfold z1k; rw [hu]
       have e := z8w (w := w) 8 T _ _ b h _ _ ha hc 10000 (.agg a) (.agg c) (by omega) (hv a) (hv c)
       refine ⟨run_eqGuard_agg w op T xo yo a c hg, ?_, ?_⟩
       · rw [run_eql_struct, e]; rfl
       · rw [run_neq_struct, e]; rfl
     · cases h
   · cases h
 · rename_i a b'
   have e1 := zzv hx
   have e2 := zzv hy
   subst e1 e2
   split at h
   · rename_i hu
     cases h
     refine ⟨by cases op <;> rfl, ?_, ?_⟩ <;> simp [binOp, Op.equal, Op.maxDepth, run_equalIn_bool' w 9999 T a b' hu]
   · cases h
 · obtain ⟨bk, hb, rfl⟩ := hx
   have e2 := zzv hy
   subst e2
   split at h
   · rename_i hu
     cases h
     refine ⟨by cases op <;> rfl, ?_, ?_⟩
     · rw [zwf, Sem.run_bind, zjr hu]; rfl
     · rw [zwg, Sem.run_bind, zjr hu]; rfl
   · cases h
 · have e2 := zzv hy
   subst e2
   cases hx
   split at h
   · rename_i hu
     cases h
     refine ⟨by cases op <;> rfl, ?_, ?_⟩
     · rw [zwf, Sem.run_bind, zjr hu]; rfl
     · rw [zwg, Sem.run_bind, zjr hu]; rfl
   · cases h
 · have e1 := zzv hx
   have e2 := zzv hy
   subst e1 e2
   split at h
   · rename_i hu
     cases h
     refine ⟨by cases op <;> rfl, ?_, ?_⟩
     · rw [zwf, Sem.run_bind, zwz hu]; rfl
     · rw [zwg, Sem.run_bind, zwz hu]; rfl
   · cases h
 · cases h
theorem y9t (hm : MRel g H A w) {op : BinOp} {T : TypeId} {x y v : PV} {u u' : Value} (xo yo : Operand) (hx : PRep g A x u) (hy : PRep g A y u') (h : binS P op T x y = some v) :
 POk P g H A w (do eqGuard op T xo yo u u'; binOp op T u u') v := by
 unfold binS at h
 split at h
 · obtain ⟨r, hr, rfl⟩ := Option.map_eq_some_iff.1 h
   have e1 := zzv hx
   have e2 := zzv hy
   subst e1 e2
   refine .here hm ?_ (zq2 (zj7 hr).2)
   have hg : ∀ k a k' b, (eqGuard op T xo yo (.int k a) (.int k' b)).run P w = .ok () w := by intro k a k' b; cases op <;> rfl
   simp only [Sem.run_bind, hg, Result.andThen_ok, zjh hr]
 · obtain ⟨r, hr, rfl⟩ := Option.map_eq_some_iff.1 h
   have e1 := zzv hx
   have e2 := zzv hy
   subst e1 e2
   refine .here hm ?_ (zq2 (zj7 hr).2)
   have hg : ∀ k a k' b, (eqGuard op T xo yo (.float k a) (.float k' b)).run P w = .ok () w := by intro k a k' b; cases op <;> rfl
   simp only [Sem.run_bind, hg, Result.andThen_ok, zjh hr]
 · obtain ⟨r, hr, rfl⟩ := Option.map_eq_some_iff.1 h
   have e1 := zzv hx
   have e2 := zzv hy
   subst e1 e2
   refine .here hm ?_ (zq2 (zj7 hr).2)
   have hg : ∀ a b, (eqGuard op T xo yo (.string a) (.string b)).run P w = .ok () w := by intro a b; cases op <;> rfl
   simp only [Sem.run_bind, hg, Result.andThen_ok, zjh hr]
 · split at h
   · obtain ⟨b, hb, rfl⟩ := Option.map_eq_some_iff.1 h
     obtain ⟨h1, h2, h3⟩ := y96 (w := w) hx hy hb .eql xo yo
     exact .here hm (by simp only [Sem.run_bind, h1, Result.andThen_ok, h2]) (zq2 rfl)
   · obtain ⟨b, hb, rfl⟩ := Option.map_eq_some_iff.1 h
     obtain ⟨h1, h2, h3⟩ := y96 (w := w) hx hy hb .neq xo yo
     exact .here hm (by simp only [Sem.run_bind, h1, Result.andThen_ok, h3]) (zq2 rfl)
   · cases h
theorem zxo {x : PV} {n : Nat} {u : Value} (hx : PRep g A x u) (h : natOf? x = some n) : ∃ k, u = .int k (n : Int) := by
 unfold natOf? at h
 obtain ⟨i, hi, h⟩ := Option.bind_eq_some_iff.1 h
 unfold intOf? at hi
 split at hi
 · rename_i k i'
   simp only [Option.some.injEq] at hi
   subst hi
   split at h
   · cases h
     have e := zzv hx
     subst e
     exact ⟨k, by congr 1; omega⟩
   · cases h
 · cases hi
theorem zxj {x : PV} {els : List (List D)} {u : Value} (hx : PRep g A x u) (h : zqc x = some els) : DRep g.C g.π (.sl els) u := by
 unfold zqc at h
 split at h
 · cases h; exact hx
 · cases h; exact hx.1
 · cases h; exact hx.1
 · cases h
   cases hx with | nl a => exact .nil a
 · cases h
theorem ywp {els : List (List D)} {u : Value} (h : DRep g.C g.π (.sl els) u) {n : Nat} {c : List D} (hn : els[n]? = some c) :
 ∃ b o cap, u = .slice (some ⟨b, o, none⟩) els.length cap ∧ ∀ k x, c[k]? = some x → ∃ v, g.C b (o + n * c.length + k) = some v ∧ DRep g.C g.π x v := by
 cases h with
 | nil => simp at hn
 | sl els b o cap sz m val hm hcap hsz hC hd =>
   subst hm
   have hl : n < els.length := (List.getElem?_eq_some_iff.1 hn).1
   have hc : c.length = sz := hsz c (Zme hn)
   refine ⟨b, o, cap, rfl, fun k x hk => ?_⟩
   have hks : k < sz := by rw [← hc]; exact (List.getElem?_eq_some_iff.1 hk).1
   rw [hc]
   exact ⟨_, hC n k hl hks, hd n k c x hn hk⟩
theorem z0q {els : List (List D)} {u : Value} (h : DRep g.C g.π (.sl els) u) : ∃ a cap, u = .slice a els.length cap ∧ els.length ≤ cap ∧ (els ≠ [] → ∃ b o, a = some ⟨b, o, none⟩) ∧ (0 < cap → ∀ a', a = some a' → a'.spot = none) := by
 cases h with
 | nil a => exact ⟨a, 0, rfl, by simp, by simp, by simp⟩
 | sl els b o cap sz n val hn hcap hsz hC hd => subst hn; exact ⟨_, _, rfl, hcap, fun _ => ⟨b, o, rfl⟩, fun _ a' e => by cases e; rfl⟩
theorem zwo (k : IntKind) (n : Int) : (asIntOf (.int k n)).run P w = .ok (k, n) w := rfl
theorem zx0 (b o n : Nat) : (⟨b, o, none⟩ : Addr).add n = ⟨b, o + n, none⟩ := by
 unfold Addr.add
 split
 · rename_i h; subst h; rfl
 · rfl
theorem z1o : ∀ {els : List (List D)} {l : List UInt8}, zvk els = some l → els = zzg l
 | [], l, h => by simp [zvk] at h; subst h; rfl
 | e :: r, l, h => by
   unfold zvk at h
   split at h
   · rename_i heq; cases heq
   · rename_i n r' heq
     cases heq
     split at h
     · rename_i hn
       obtain ⟨l', h', rfl⟩ := Option.map_eq_some_iff.1 h
       rw [z1o h']
       show _ = [D.lit (.int .u8 ((UInt8.ofNat n.toNat).toNat : Int))] :: zzg l'
       rw [← hn]
     · cases h
   · cases h
theorem zvj {l : List UInt8} {j : Nat} (hj : j < l.length) : (zzg l)[j]? = some [.lit (.int .u8 (l[j].toNat : Int))] := by simp [zzg, hj]
theorem yky {C : Nat → Nat → Option Value} {π : Nat → Option Value} {l : List UInt8} {u : Value} (h : DRep C π (.sl (zzg l)) u) :
 (l = [] ∧ ∃ a, u = .slice a 0 0) ∨ ∃ b o cap, u = .slice (some ⟨b, o, none⟩) l.length cap ∧ ∀ j (hj : j < l.length), C b (o + j) = some (.int .u8 (l[j].toNat : Int)) := by
 generalize hq : zzg l = els at h
 have hlen : els.length = l.length := by rw [← hq]; simp [zzg]
 cases h with
 | nil a => exact .inl ⟨List.length_eq_zero_iff.1 (by simpa using hlen.symm), a, rfl⟩
 | sl els b o cap sz n val hn hcap hsz hC hd =>
   subst hn
   refine .inr ⟨b, o, cap, by rw [hlen], fun j hj => ?_⟩
   have he := zvj hj
   rw [hq] at he
   have h1 : sz = 1 := by
    have := hsz _ (Zme he)
    simpa using this.symm
   subst h1
   have h2 := hC j 0 (by omega) (by omega)
   have h3 := DRep.lit_eq (hd j 0 _ _ he rfl)
   rw [Nat.mul_one, Nat.add_zero] at h2
   rw [h2, h3]
theorem z9m {src dst e : TypeId} {l : List UInt8} {u : Value} (hm : MRel g H A w) (h : DRep g.C g.π (.sl (zzg l)) u) (hs : P.underlying src = some (.slice e)) (he : P.underlying e = some (.int .u8)) (hd : P.underlying dst = some .string) :
 (convert src dst u).run P w = .ok (.string ⟨l.toArray⟩) w := by
 rcases yky h with ⟨rfl, a, rfl⟩ | ⟨b, o, cap, rfl, hc⟩
 · cases a with
   | none => rw [run_convert_bytes_string w src dst e _ 0 0 hs he hd]; rfl
   | some a => exact run_convert_bytes_back w src dst e a 0 [] hs he hd (fun j hj => by simp at hj)
 · exact run_convert_bytes_back w src dst e ⟨b, o, none⟩ cap l hs he hd (fun j hj => by rw [zx0]; exact hm.com _ _ _ (hc j hj))
theorem y6z (hm : MRel g H A w) {s d : TypeId} {x v : PV} {u : Value} (hx : PRep g A x u) (h : y0i P s d x = some v) : POk P g H A w (convert s d u) v := by
 unfold y0i at h
 split at h
 · cases h
 · rename_i sd hs
   split at h
   · rename_i k hd
     unfold y6y at h
     split at h
     · cases h
       have e := zzv hx
       subst e
       refine .here hm ?_ (zq2 rfl)
       unfold convert
       simp only [Sem.run_bind, run_underlying hs, run_underlying hd, Result.andThen_ok]
       rfl
     · cases h
   · rename_i hd
     unfold y0j at h
     split at h
     · rename_i y hy
       cases h
       unfold y3d at hy
       split at hy
       · cases hy
         have e := zzv hx
         subst e
         refine .here hm ?_ (zq2 rfl)
         unfold convert
         simp only [Sem.run_bind, run_underlying hs, run_underlying hd, Result.andThen_ok]
         cases sd <;> rfl
       · cases hy
     · unfold yva at h
       split at h
       · rename_i hb
         obtain ⟨els, he, h⟩ := Option.bind_eq_some_iff.1 h
         obtain ⟨l, hl, rfl⟩ := Option.map_eq_some_iff.1 h
         have hr := zxj hx he
         rw [z1o hl] at hr
         unfold zj1 at hb
         split at hb
         · rename_i e hu
           split at hb
           · rename_i he8
             exact .here hm (z9m hm hr hu he8 hd) (zq2 rfl)
           · cases hb
         · cases hb
       · cases h
   · cases h
theorem yjq {k : Nat} {x v : PV} {u : Value} (hx : PRep g A x u) (h : addO k x = some v) : ∃ b o, u = .pointer (some ⟨b, o, none⟩) ∧ PRep g A v (.pointer (some ⟨b, o + k, none⟩)) := by
 unfold addO at h
 split at h
 · cases h
   obtain ⟨b, hb, rfl⟩ := hx
   exact ⟨b, _, rfl, b, hb, rfl⟩
 · cases h
   obtain ⟨b, o, rfl, hc⟩ := hx
   exact ⟨b, _, rfl, b, o, by rw [Nat.add_assoc], hc⟩
 · cases h
   obtain ⟨b, els, rfl, r⟩ := hx
   exact ⟨b, _, rfl, b, els, by rw [Nat.add_assoc], r⟩
 · cases h
   cases hx with | rf _ _ b hp => exact ⟨b, _, rfl, .rf _ _ b hp⟩
 · cases h
   cases hx with | el _ _ _ _ _ b cap hp hi => exact ⟨b, _, rfl, by rw [Nat.add_assoc]; exact .el _ _ _ _ _ b cap hp hi⟩
 · cases h
theorem y3x {e : TypeId} {n : Nat} {x v : PV} {u : Value} (hx : PRep g A x u) (h : idxE P e n x = some v) :
 ∃ b o len cap, u = .slice (some ⟨b, o, none⟩) len cap ∧ n < len ∧ PRep g A v (.pointer (some ⟨b, o + n * P.cellsOf e, none⟩)) := by
 unfold idxE at h
 split at h
 · split at h
   · rename_i hc
     cases h
     obtain ⟨hlt, rfl⟩ := hc
     obtain ⟨a, cap, els, rfl, ha, hA, hle, ht⟩ := hx
     obtain ⟨b, rfl⟩ := ha (by omega)
     refine ⟨b, 0, _, cap, rfl, hlt, b, els, by simp, hA, hle, fun hn => ⟨cap, (ht hn).resolve_right (fun ⟨a, e⟩ => by cases e; omega)⟩⟩
   · cases h
 · split at h
   · rename_i hc
     cases h
     obtain ⟨hlt, rfl⟩ := hc
     obtain ⟨a, cap, els, rfl, ha, hA, hle, ht⟩ := hx
     obtain ⟨b, rfl⟩ := ha (by omega)
     refine ⟨b, 0, _, cap, rfl, hlt, b, els, by simp, hA, hle.2.1, fun hn => ⟨cap, (ht hn).resolve_right (fun ⟨e0, _⟩ => by omega)⟩⟩
   · cases h
 · split at h
   · rename_i hlt
     cases h
     obtain ⟨b, hb, rfl⟩ := hx
     exact ⟨b, 0, _, _, rfl, hlt, b, hb, by simp⟩
   · cases h
 · split at h
   · rename_i hc
     cases h
     obtain ⟨hlt, rfl⟩ := hc
     cases hx with
     | sa _ _ _ cap a hp hcp h0 =>
       obtain ⟨b, rfl⟩ := h0 (by omega)
       exact ⟨b, 0, _, cap, rfl, hlt, by have := DRep.el (C := g.C) _ (P.cellsOf e) _ n 0 b cap hp hlt; show DRep g.C g.π _ _; simpa using this⟩
   · cases h
 · split at h
   · rename_i hc
     cases h
     obtain ⟨hlt, rfl⟩ := hc
     cases hx with
     | vw _ _ L lo _ cap cap' a a' hp hn h0 =>
       obtain ⟨b, rfl, rfl⟩ := h0 (by omega)
       exact ⟨b, _, _, _, rfl, hlt, by have := DRep.el (C := g.C) _ (P.cellsOf e) _ (_ + n) 0 b cap hp (Nat.lt_of_lt_of_le (Nat.add_lt_add_left hlt _) hn); rw [Nat.add_zero, Nat.add_mul] at this; exact this⟩
   · cases h
 · obtain ⟨els, he, h⟩ := Option.bind_eq_some_iff.1 h
   obtain ⟨c, hc, h⟩ := Option.bind_eq_some_iff.1 h
   split at h
   · rename_i hlen
     cases h
     obtain ⟨b, o, cap, rfl, hcells⟩ := ywp (zxj hx he) hc
     rw [← hlen]
     exact ⟨b, o, _, cap, rfl, (List.getElem?_eq_some_iff.1 hc).1, b, o + n * c.length, by simp, hcells⟩
   · cases h
theorem z3m {T e : TypeId} (hT : P.underlying T = some (.slice e)) {b o len cap n : Nat} {k : IntKind} (hn : n < len) (hs : (sizeOf e).run P w = .ok (P.cellsOf e) w) :
 (Instr.indexAt T (.slice (some ⟨b, o, none⟩) len cap) (.int k (n : Int))).run P w = .ok (.pointer (some ⟨b, o + n * P.cellsOf e, none⟩)) w := by
 unfold Instr.indexAt
 simp only [Sem.run_bind, zwo, Result.andThen_ok, run_underlying hT, Sem.run_pure]
 rw [Sem.run_ite, if_pos (by omega)]
 simp only [Sem.run_bind, hs, Result.andThen_ok, Sem.run_pure, zx0, Int.toNat_natCast]
theorem z3l {T e : TypeId} {len : Nat} (hT : P.underlying T = some (.array len e)) {b o n : Nat} {k : IntKind} (hn : n < len) (hs : (sizeOf e).run P w = .ok (P.cellsOf e) w) :
 (Instr.indexAt T (.pointer (some ⟨b, o, none⟩)) (.int k (n : Int))).run P w = .ok (.pointer (some ⟨b, o + n * P.cellsOf e, none⟩)) w := by
 unfold Instr.indexAt
 simp only [Sem.run_bind, zwo, Result.andThen_ok, run_underlying hT, Sem.run_pure, Instr.sureAddr]
 rw [Sem.run_ite, if_pos (by omega)]
 simp only [Sem.run_bind, hs, Result.andThen_ok, Sem.run_pure, zx0, Int.toNat_natCast]
theorem y7f (hm : MRel g H A w) {T : TypeId} {x i v : PV} {u ui : Value} (hx : PRep g A x u) (hi : PRep g A i ui) (h : y08 P T x i = some v) : POk P g H A w (Instr.indexAt T u ui) v := by
 unfold y08 at h
 split at h
 · rename_i e hT
   split at h
   · rename_i hpos
     obtain ⟨n, hn, h⟩ := Option.bind_eq_some_iff.1 h
     obtain ⟨ik, rfl⟩ := zxo hi hn
     obtain ⟨b, o, len, cap, rfl, hlt, hv⟩ := y3x hx h
     exact .here hm (z3m hT hlt (zxc hpos)) hv
   · cases h
 · rename_i len e hT
   split at h
   · rename_i hpos
     obtain ⟨n, hn, h⟩ := Option.bind_eq_some_iff.1 h
     obtain ⟨ik, rfl⟩ := zxo hi hn
     split at h
     · rename_i hlt
       obtain ⟨b, o, rfl, hv⟩ := yjq hx h
       exact .here hm (z3l hT hlt (zxc hpos)) hv
     · cases h
   · cases h
 · cases h
theorem ykj (hm : MRel g H A w) {T : TypeId} {off : Nat} {x v : PV} {u : Value} (hx : PRep g A x u) (h : yv1 P T off x = some v) :
 ∃ arr, u = .agg arr ∧ POk P g H A w (part T arr off) v := by
 unfold yv1 at h
 split at h
 · obtain ⟨arr, rfl, hr⟩ := hx
   obtain ⟨r, hs, h⟩ := Option.bind_eq_some_iff.1 h
   obtain ⟨h1, h2, h3⟩ := hr.sub hs
   obtain ⟨X, hX, hv⟩ := z4z h h1
   exact ⟨arr, rfl, .here hm (z9n (us := arr.toList) h2 hX) hv⟩
 · cases h
theorem xzb (hm : MRel g H A w) {T : TypeId} {x i v : PV} {u ui : Value} (hx : PRep g A x u) (hi : PRep g A i ui) (h : idxS P T x i = some v) : POk P g H A w (Instr.index T u ui) v := by
 unfold idxS at h
 split at h
 · rename_i hT
   obtain ⟨n, hn, h⟩ := Option.bind_eq_some_iff.1 h
   obtain ⟨ik, rfl⟩ := zxo hi hn
   unfold idxT at h
   split at h
   · obtain ⟨b, hb, rfl⟩ := Option.map_eq_some_iff.1 h
     have e := zzv hx
     subst e
     refine .here hm ?_ (zq2 rfl)
     unfold Instr.index
     simp only [Sem.run_bind, zwo, Result.andThen_ok, run_underlying hT]
     have h0 : (0 : Int) ≤ (n : Int) := by omega
     simp [hb]
   · cases h
 · rename_i len e hT
   obtain ⟨n, hn, h⟩ := Option.bind_eq_some_iff.1 h
   obtain ⟨ik, rfl⟩ := zxo hi hn
   split at h
   · rename_i hlt
     have hpos : ∃ i, P.info? e = some i ∧ i.size = P.cellsOf e := by
      unfold yv1 at h
      split at h
      · obtain ⟨r, _, h⟩ := Option.bind_eq_some_iff.1 h
        unfold mkPV at h
        cases he : P.underlying e with
        | none => simp [he] at h
        | some d => exact zvl he
      · cases h
     obtain ⟨arr, rfl, u', w', g', hrun, rest⟩ := ykj hm hx h
     refine ⟨u', w', g', ?_, rest⟩
     obtain ⟨ii, hii, hsz⟩ := hpos
     unfold Instr.index
     simp only [Sem.run_bind, zwo, Result.andThen_ok, run_underlying hT]
     rw [Sem.run_ite, if_pos (by omega)]
     simp only [Sem.run_bind, sizeOf, typeInfo, run_program, Result.andThen_ok, hii, Sem.run_pure, hsz, Int.toNat_natCast]
     exact hrun
   · cases h
 · cases h
theorem y7a (hm : MRel g H A w) {T : TypeId} {x v : PV} {u : Value} {f : Nat} (hx : PRep g A x u) (h : y02 P T x f = some v) : POk P g H A w (Instr.fieldAt T u f) v := by
 unfold y02 at h
 split at h
 · rename_i fs hT
   obtain ⟨q, hq, h⟩ := Option.bind_eq_some_iff.1 h
   split at h
   · cases h
   · rename_i hne
     obtain ⟨b, o, rfl, hv⟩ := yjq hx h
     refine .here hm ?_ hv
     unfold Instr.fieldAt
     simp only [Sem.run_bind, run_underlying hT, Result.andThen_ok, hq, Instr.sureAddr, Sem.run_pure, fieldPlace, zxc (show 0 < P.cellsOf q.type by omega)]
     rw [Sem.run_ite, if_neg hne]
     simp [zx0]
 · cases h
theorem y98 (hm : MRel g H A w) {T : TypeId} {x v : PV} {u : Value} {f : Nat} (hx : PRep g A x u) (h : fldS P T x f = some v) : POk P g H A w (Instr.field T u f) v := by
 unfold fldS at h
 split at h
 · rename_i fs hT
   obtain ⟨q, hq, h⟩ := Option.bind_eq_some_iff.1 h
   obtain ⟨arr, rfl, u', w', g', hrun, rest⟩ := ykj hm hx h
   refine ⟨u', w', g', ?_, rest⟩
   unfold Instr.field
   simp only [Sem.run_bind, run_underlying hT, Result.andThen_ok, hq, asAgg, Sem.run_pure]
   exact hrun
 · cases h
theorem yjz (hm : MRel g H A w) {x v : PV} {u : Value} {i : Nat} (hx : PRep g A x u) (h : extS x i = some v) : POk P g H A w (Instr.extract u i) v := by
 unfold extS at h
 split at h
 · obtain ⟨arr, rfl, hs, hr⟩ := hx
   obtain ⟨t, ht, rfl⟩ := Option.map_eq_some_iff.1 h
   obtain ⟨u', hu', htr⟩ := hr i t ht
   refine .here hm (u := u') ?_ (zw8.2 htr)
   unfold Instr.extract
   simp [hu']
 · cases h
theorem z7z {xs : List PV} {vs : List Value} (h : z0f xs = some vs) : ∀ us : List Value, us.length = xs.length → (∀ (k : Nat) (x : PV) (u : Value), xs[k]? = some x → us[k]? = some u → PRep g A x u) → us = vs := by
 induction xs generalizing vs with
 | nil => intro us hl _; simp [z0f] at h; subst h; exact List.length_eq_zero_iff.1 (by simpa using hl)
 | cons x r ih =>
   intro us hl hr
   cases us with
   | nil => simp at hl
   | cons u us =>
     unfold z0f at h
     split at h
     · rename_i e; cases e
     · rename_i k n r' e
       obtain ⟨xs', hxs, rfl⟩ := Option.map_eq_some_iff.1 h
       cases e
       have e1 := zzv (hr 0 _ u rfl rfl)
       rw [e1, ih hxs us (by simpa using hl) (fun k x u h1 h2 => hr (k + 1) x u (by simpa using h1) (by simpa using h2))]
     · cases h
theorem xzo (hm : MRel g H A w) {t T : TypeId} {x v : PV} {u : Value} (hx : PRep g A x u) (h : lenT P t x = some v) : POk P g H A w (Builtin.len_ #[t] T #[u]) v := by
 unfold lenT at h
 split at h
 · rename_i e hT
   have : ∃ a n cap, u = .slice a n cap ∧ v = lit (.int .i64 n) := by
    unfold lenE at h
    split at h
    · cases h
      obtain ⟨a, cap, els, rfl, _⟩ := hx
      exact ⟨a, _, cap, rfl, rfl⟩
    · cases h
      obtain ⟨a, cap, els, rfl, _⟩ := hx
      exact ⟨a, _, cap, rfl, rfl⟩
    · cases h
      obtain ⟨b, hb, rfl⟩ := hx
      exact ⟨_, _, _, rfl, rfl⟩
    · cases h
      cases hx
      exact ⟨_, _, _, rfl, rfl⟩
    · cases h
      cases hx
      exact ⟨_, _, _, rfl, rfl⟩
    · obtain ⟨els, he, rfl⟩ := Option.map_eq_some_iff.1 h
      obtain ⟨a, cap, rfl, _⟩ := z0q (zxj hx he)
      exact ⟨a, _, cap, rfl, rfl⟩
   obtain ⟨a, n, cap, rfl, rfl⟩ := this
   refine .here hm ?_ (zq2 rfl)
   simp [Builtin.len_, run_underlying hT, goInt]
 · rename_i hT
   obtain ⟨s, hs, rfl⟩ := Option.map_eq_some_iff.1 h
   unfold strOf? at hs
   split at hs
   · cases hs
     have e := zzv hx
     subst e
     refine .here hm ?_ (zq2 rfl)
     simp [Builtin.len_, run_underlying hT, goInt]
   · cases hs
 · rename_i n e hT
   cases h
   refine .here hm ?_ (zq2 rfl)
   simp [Builtin.len_, run_underlying hT, goInt]
 · cases h
theorem yk7 {xs : List PV} {cs : List (Nat × Nat)} (h : zjn xs = some cs) : ∀ us : List Value, us.length = xs.length → (∀ (k : Nat) (x : PV) (u : Value), xs[k]? = some x → us[k]? = some u → PRep g A x u) →
 us.length = cs.length ∧ ∀ (k : Nat) (p : Nat × Nat), cs[k]? = some p → ∃ b, g.β p.1 = some b ∧ us[k]? = some (.pointer (some ⟨b, p.2, none⟩)) := by
 induction xs generalizing cs with
 | nil => intro us hl _; simp [zjn] at h; subst h; exact ⟨by simpa using hl, by simp⟩
 | cons x r ih =>
   intro us hl hr
   cases us with
   | nil => simp at hl
   | cons u us =>
     unfold zjn at h
     split at h
     · rename_i e; cases e
     · rename_i id off r' e
       obtain ⟨xs', hxs, rfl⟩ := Option.map_eq_some_iff.1 h
       cases e
       obtain ⟨b, hb, e1⟩ := hr 0 _ u rfl rfl
       obtain ⟨h1, h2⟩ := ih hxs us (by simpa using hl) (fun k x u h1 h2 => hr (k + 1) x u (by simpa using h1) (by simpa using h2))
       refine ⟨by simp [h1], fun k p hk => ?_⟩
       cases k with
       | zero => simp at hk; subst hk; exact ⟨b, hb, by simp [e1]⟩
       | succ k => obtain ⟨b', hb', e'⟩ := h2 k p (by simpa using hk); exact ⟨b', hb', by simpa using e'⟩
     · cases h
theorem zj4 {x : Option PV} {d n : Nat} {u : Option Value} (hx : ∀ y, x = some y → ∃ v, u = some v ∧ PRep g A y v) (hn : x = none → u = none) (h : zz0 x d = some n) : (u = none ∧ n = d) ∨ ∃ k, u = some (.int k (n : Int)) := by
 unfold zz0 at h
 split at h
 · cases h; exact .inl ⟨hn rfl, rfl⟩
 · rename_i y
   obtain ⟨v, rfl, hv⟩ := hx y rfl
   obtain ⟨k, rfl⟩ := zxo hv h
   exact .inr ⟨k, rfl⟩
theorem zxy (k : IntKind) (n y : Nat) (code : BoundsCode) (h : n ≤ y) : (Instr.sliceBound (.int k (n : Int)) y code).run P w = .ok n w := by
 rw [run_sliceBound w k (n : Int) y code (by omega) (by omega)]; simp
theorem zjs {isSlice : Bool} {len cap l h : Nat} {lo hi : Option Value} (hl : (lo = none ∧ l = 0) ∨ ∃ k, lo = some (.int k (l : Int))) (hh : (hi = none ∧ h = len) ∨ ∃ k, hi = some (.int k (h : Int)))
 (h1 : l ≤ h) (h2 : h ≤ len) (h3 : len ≤ cap) : (Instr.sliceBounds isSlice len cap lo hi none).run P w = .ok (l, h, cap) w := by
 unfold Instr.sliceBounds
 rcases hl with ⟨rfl, rfl⟩ | ⟨k, rfl⟩ <;> rcases hh with ⟨rfl, rfl⟩ | ⟨k', rfl⟩ <;>
  simp [zxy (P := P) (w := w) _ _ _ _ h1, zxy (P := P) (w := w) _ _ _ _ (Nat.le_trans h2 h3)]
theorem z4m {len cap l h : Nat} {lo hi : Option Value} {km : IntKind} (hl : (lo = none ∧ l = 0) ∨ ∃ k, lo = some (.int k (l : Int))) (hh : ∃ k, hi = some (.int k (h : Int)))
 (h1 : l ≤ h) (h2 : h ≤ len) (h3 : len ≤ cap) : (Instr.sliceBounds true len cap lo hi (some (.int km (h : Int)))).run P w = .ok (l, h, h) w := by
 unfold Instr.sliceBounds
 obtain ⟨k', rfl⟩ := hh
 rcases hl with ⟨rfl, rfl⟩ | ⟨k, rfl⟩ <;>
  simp [zxy (P := P) (w := w) _ _ _ _ h1, zxy (P := P) (w := w) _ _ _ _ (Nat.le_trans h2 h3), zxy (P := P) (w := w) _ _ _ _ (Zlr h)]
theorem z25 {els : List (List D)} {u : Value} (hr : DRep g.C g.π (.sl els) u) {sz l h m : Nat} (hs : Szd sz els) (h1 : l ≤ h) (h2 : h ≤ els.length) (hm : h ≤ m) :
 ∃ a cap, u = .slice a els.length cap ∧ els.length ≤ cap ∧ (m ≤ cap → DRep g.C g.π (.sl ((els.drop l).take (h - l))) (.slice (if m = l then a else a.map (·.add (l * sz))) (h - l) (m - l))) := by
 cases hr with
 | nil a =>
   refine ⟨a, 0, rfl, by simp, fun hmc => ?_⟩
   obtain rfl : m = 0 := by omega
   obtain rfl : h = 0 := by simpa using h2
   obtain rfl : l = 0 := by omega
   simp
   exact .nil _
 | sl els b o cap sz' n val hn hcap hsz hC hd =>
   subst hn
   refine ⟨_, cap, rfl, hcap, fun _ => ?_⟩
   have hlen : ((els.drop l).take (h - l)).length = h - l := by simp; omega
   have hmap : (Option.map (fun x => x.add (l * sz)) (some (⟨b, o, none⟩ : Addr))) = some ⟨b, o + l * sz, none⟩ := by simp [zx0]
   rw [hmap]
   have hget : ∀ i e', ((els.drop l).take (h - l))[i]? = some e' → i < h - l ∧ els[l + i]? = some e' := by
    intro i e' hi
    rw [List.getElem?_take] at hi
    split at hi
    · rename_i hlt
      rw [List.getElem?_drop] at hi
      exact ⟨hlt, hi⟩
    · cases hi
   by_cases hne : els = []
   · subst hne
     obtain rfl : h = 0 := by simpa using h2
     obtain rfl : l = 0 := by omega
     simp only [Nat.sub_zero, List.drop_nil, List.take_nil]
     split
     · exact .sl [] b o m 0 0 (fun _ _ => undef) rfl (by omega) (by simp) (by simp) (by simp)
     · exact .sl [] b _ m 0 0 (fun _ _ => undef) rfl (by omega) (by simp) (by simp) (by simp)
   · obtain ⟨e0, r0, rfl⟩ : ∃ e r, els = e :: r := by cases els with | nil => exact (hne rfl).elim | cons e r => exact ⟨e, r, rfl⟩
     have e1 : sz' = sz := by rw [← hs e0 (by simp), hsz e0 (by simp)]
     subst e1
     split
     · rename_i hml
       obtain rfl : h = l := by omega
       have : ((e0 :: r0).drop h).take (h - h) = [] := by simp
       rw [this, hml]
       exact .sl [] b o _ 0 _ (fun _ _ => undef) (by simp) (by omega) (by simp) (by simp) (by simp)
     · refine .sl _ b (o + l * sz') (m - l) sz' _ (fun i k => val (l + i) k) hlen.symm (by omega) (fun e he => hsz e (List.mem_of_mem_drop (List.mem_of_mem_take he))) (fun i k hi hk => ?_) (fun i k e x he hx => ?_)
       · have := hC (l + i) k (by omega) hk
         rw [show o + l * sz' + i * sz' + k = o + (l + i) * sz' + k by rw [Nat.add_mul]; omega]
         exact this
       · obtain ⟨_, he'⟩ := hget i e he
         exact hd (l + i) k e x he' hx
theorem xz0 (hm : MRel g H A w) {T : TypeId} {x : PV} {u : Value} {lo hi mx : Option PV} {lo' hi' mx' : Option Value} (hx : PRep g A x u)
 (hlo : ∀ y, lo = some y → ∃ v, lo' = some v ∧ PRep g A y v) (hlo0 : lo = none → lo' = none)
 (hhi : ∀ y, hi = some y → ∃ v, hi' = some v ∧ PRep g A y v) (hhi0 : hi = none → hi' = none)
 (hmx : ∀ y, mx = some y → ∃ v, mx' = some v ∧ PRep g A y v) (hmx0 : mx = none → mx' = none) {K : PV → Prop} (h : slcV P T x lo hi mx K) :
 ∃ v, K v ∧ POk P g H A w (Instr.sliceAt T u lo' hi' mx') v := by
 unfold slcV at h
 split at h
 · rename_i hT
   obtain ⟨hnone, h⟩ := h
   cases mx with
   | some m => cases hnone
   | none =>
     have hm0 := hmx0 rfl
     subst hm0
     cases hs : strOf? x with
     | none => simp [hs, Opt] at h
     | some s =>
       cases hl : zz0 lo 0 with
       | none => simp [hs, hl, Opt] at h
       | some l =>
         cases hh : zz0 hi s.size with
         | none => simp [hs, hl, hh, Opt] at h
         | some e =>
           simp only [hs, hl, hh, Opt] at h
           obtain ⟨⟨h1, h2⟩, hK⟩ := h
           refine ⟨_, hK, ?_⟩
           unfold strOf? at hs
           split at hs
           · cases hs
             have e' := zzv hx
             subst e'
             refine .here hm ?_ (zq2 rfl)
             have hb := zjs (P := P) (w := w) (isSlice := false) (len := s.size) (cap := s.size) (l := l) (h := e) (lo := lo') (hi := hi')
              (zj4 hlo hlo0 hl) (zj4 hhi hhi0 hh) h1 h2 (Zlr _)
             unfold Instr.sliceAt
             simp only [Sem.run_bind, run_underlying hT, Result.andThen_ok]
             unfold Instr.slice
             simp [run_underlying hT, hb]
           · cases hs
 · rename_i e hT
   obtain ⟨hpos, h⟩ := h
   cases hs : zqc x with
   | none =>
     rw [hs] at h
     simp only at h
     unfold slcW at h
     split at h
     · rename_i κ sz n L
       obtain ⟨⟨rfl, rfl, rfl⟩, h⟩ := h
       cases hh : zz0 hi n with
       | none => simp [hh, Opt] at h
       | some e' =>
         simp only [hh, Opt] at h
         obtain ⟨h1, hK⟩ := h
         obtain rfl := hlo0 rfl
         obtain rfl := hmx0 rfl
         obtain ⟨a, cap, els, rfl, ha, hA, ⟨q1, q2, q3⟩, ht⟩ := hx
         refine ⟨_, hK, ?_⟩
         have bhi : (hi' = none ∧ e' = n) ∨ ∃ k, hi' = some (.int k (e' : Int)) := zj4 hhi hhi0 hh
         have hb := zjs (P := P) (w := w) (isSlice := true) (lo := none) (.inl ⟨rfl, rfl⟩) bhi (Nat.zero_le _) h1 q3
         have ha0 : (if cap = 0 then a else a.map (·.add (0 * P.cellsOf e))) = a := by
          split
          · rfl
          · cases a with
            | none => rfl
            | some b => cases b; simp [Addr.add]
         refine .here hm (u := .slice (if cap = 0 then a else a.map (·.add (0 * P.cellsOf e))) (e' - 0) (cap - 0)) ?_ ?_
         · unfold Instr.sliceAt
           simp only [Sem.run_bind, run_underlying hT, Result.andThen_ok]
           unfold Instr.slice
           simp [run_underlying hT, hb, zxc hpos]
         · rw [ha0]
           refine ⟨a, cap, els, rfl, fun hp => ha (by omega), hA, ⟨by omega, q2, by omega⟩, fun hn => ?_⟩
           rcases ht hn with h | ⟨e0, a', h⟩
           · exact .inl h
           · injection h with _ x1 x2
             exact .inr ⟨e0, a, by congr 1 <;> omega⟩
     · rename_i p sz n
       obtain ⟨⟨rfl, rfl⟩, h⟩ := h
       cases hl : zz0 lo 0 with
       | none => simp [hl, Opt] at h
       | some l =>
         cases hh : zz0 hi n with
         | none => simp [hl, hh, Opt] at h
         | some m =>
           simp only [hl, hh, Opt] at h
           obtain ⟨⟨h1, h2⟩, hK⟩ := h
           obtain rfl := hmx0 rfl
           cases hx with
           | sa _ _ _ cap a hp hcp h0 =>
             refine ⟨_, hK, ?_⟩
             have blo : (lo' = none ∧ l = 0) ∨ ∃ k, lo' = some (.int k (l : Int)) := zj4 hlo hlo0 hl
             have bhi : (hi' = none ∧ m = n) ∨ ∃ k, hi' = some (.int k (m : Int)) := zj4 hhi hhi0 hh
             have hb := zjs (P := P) (w := w) (isSlice := true) blo bhi h1 h2 hcp
             refine .here hm (u := .slice (if cap = l then a else a.map (·.add (l * P.cellsOf e))) (m - l) (cap - l)) ?_ (.vw _ _ _ l _ cap _ a _ hp (by omega) fun hn => ?_)
             · unfold Instr.sliceAt
               simp only [Sem.run_bind, run_underlying hT, Result.andThen_ok]
               unfold Instr.slice
               simp [run_underlying hT, hb, zxc hpos]
             · obtain ⟨b, rfl⟩ := h0 (by omega)
               refine ⟨b, rfl, ?_⟩
               rw [if_neg (by omega)]
               simp [zx0]
     · exact h.elim
   | some els =>
     rw [hs] at h
     simp only at h
     cases hl : zz0 lo 0 with
     | none => simp [hl, Opt] at h
     | some l =>
       cases hh : zz0 hi els.length with
       | none => simp [hl, hh, Opt] at h
       | some e' =>
         simp only [hl, hh, Opt] at h
         obtain ⟨⟨h1, h2, h3, h4⟩, h⟩ := h
         have hd := zxj hx hs
         have blo : (lo' = none ∧ l = 0) ∨ ∃ k, lo' = some (.int k (l : Int)) := zj4 hlo hlo0 hl
         have bhi : (hi' = none ∧ e' = els.length) ∨ ∃ k, hi' = some (.int k (e' : Int)) := zj4 hhi hhi0 hh
         unfold slcM at h
         split at h
         · have hm0 := hmx0 rfl
           subst hm0
           refine ⟨_, h, ?_⟩
           obtain ⟨a, cap, rfl, hcap, _⟩ := z25 hd h3 h1 h2 (m := els.length) h2
           obtain ⟨a', cap', e1, _, hrep⟩ := z25 hd h3 h1 h2 (m := cap) (by omega)
           cases e1
           refine .here hm (u := .slice (if cap = l then a else a.map (·.add (l * P.cellsOf e))) (e' - l) (cap - l)) ?_ (hrep (Zlr _))
           have hb := zjs (P := P) (w := w) (isSlice := true) blo bhi h1 h2 hcap
           unfold Instr.sliceAt
           simp only [Sem.run_bind, run_underlying hT, Result.andThen_ok]
           unfold Instr.slice
           simp [run_underlying hT, hb, zxc hpos]
         · rename_i m
           unfold Opt at h
           split at h
           · rename_i m' hm'
             obtain ⟨rfl, hK⟩ := h
             obtain ⟨mv, hmv, hmr⟩ := hmx m rfl
             obtain ⟨km, rfl⟩ := zxo hmr hm'
             subst hmv
             refine ⟨_, hK, ?_⟩
             obtain ⟨a, cap, rfl, hcap, hrep⟩ := z25 hd h3 h1 h2 (m := m') (Zlr _)
             rcases bhi with ⟨rfl, rfl⟩ | bhi
             · cases hi with
               | none => cases h4 rfl
               | some y => obtain ⟨v, hv, _⟩ := hhi y rfl; cases hv
             · have hb := z4m (P := P) (w := w) (km := km) blo bhi h1 h2 hcap
               refine .here hm (u := .slice (if m' = l then a else a.map (·.add (l * P.cellsOf e))) (m' - l) (m' - l)) ?_ ⟨hrep (by omega), rfl⟩
               unfold Instr.sliceAt
               simp only [Sem.run_bind, run_underlying hT, Result.andThen_ok]
               unfold Instr.slice
               simp [run_underlying hT, hb, zxc hpos]
           · exact h.elim
 · exact h.elim
end Go.PW
