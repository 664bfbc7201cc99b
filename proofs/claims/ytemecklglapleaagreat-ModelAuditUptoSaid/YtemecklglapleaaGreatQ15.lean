/-
  Parts of the proof, laid together: PwP, PwQ.
-/
import Derived.Test.YtemecklglapleaaGreatQ14

namespace Go.PW
variable {P : Program} {g : Gh} {H : HMap} {A : AMap} {w : World}
def entry (args : List PV) : Nat → PV := fun t => (args[t]?).getD (.c .any)
def zzn (P : Program) (S : St) : ResultVar → Option PV
 | .tmp t => some (S.ρ t)
 | .cell t T => z53 P none S.H S.A T (S.ρ t)
def RetT (A : AMap) (k : Option Tok) (r : RT) (p : PV) : Prop :=
 match r with
 | .d x => p.frz = .c (.d x) ∨ ∃ κ sz els, k = some κ ∧ x = .sl els ∧ p = .c (.mt κ sz els.length) ∧ A κ = some (.mu sz els)
 | .agg cs => p.frz = .agg (cs.map .d)
 | .own sz els => (∃ κ, k = some κ ∧ p = .c (.own κ els) ∧ A κ = some (.co sz els.length)) ∨ p = .c (.full els)
 | .mu sz els => (∃ κ, k = some κ ∧ p = .c (.mt κ sz els.length) ∧ A κ = some (.mu sz els)) ∨ (p = .c (.full []) ∧ els = [])
def RetL (P : Program) (S : St) (ks : List (Option Tok)) : List ResultVar → List RT → Prop
 | [], [] => ks = []
 | v :: vs, r :: rs => ∃ p, zzn P S v = some p ∧ RetT S.A ks.head?.join r p ∧ RetL P S ks.tail vs rs
 | _, _ => False
def Apart (ks : List (Option Tok)) : Prop := ∀ (i j : Nat) (κ : Tok), ks[i]? = some (some κ) → ks[j]? = some (some κ) → i = j
def Ret (P : Program) (fn : Func) (r : RV) (S : St) : Prop :=
 (match r with | .one _ => True | .tup rs => rs.length ≠ 1) ∧ ∃ ks, Apart ks ∧ RetL P S ks fn.results.toList r.list
def OneR (g : Gh) (A : AMap) (w : World) (k : Option Tok) (r : RT) (u : Value) : Prop :=
 match r with
 | .d x => DRep g.C g.π x u ∨ ∃ κ sz els, k = some κ ∧ x = .sl els ∧ zqa g w κ (.mu sz els) ∧ (g.τ κ = u ∨ (els = [] ∧ ∃ a, u = .slice a 0 0))
 | .agg cs => ∃ arr : Array Value, u = .agg arr ∧ zq8 g A (cs.map .d) arr.toList
 | .own sz els => DRep g.C g.π (.sl els) u ∧ ((∃ κ, k = some κ ∧ g.τ κ = u ∧ zqa g w κ (.co sz els.length)) ∨ z0b u)
 | .mu sz els => (∃ κ a cap, k = some κ ∧ g.τ κ = u ∧ zqa g w κ (.mu sz els) ∧ u = .slice a els.length cap ∧ (0 < els.length → ∃ b, a = some ⟨b, 0, none⟩)) ∨ (els = [] ∧ ∃ a, u = .slice a 0 0)
theorem y7w (hm : MRel g H A w) {k : Option Tok} {r : RT} {p : PV} {u : Value} (h : RetT A k r p) (hp : PRep g A p u) : OneR g A w k r u := by
 cases r with
 | d x =>
   rcases h with h | ⟨κ, sz, els, hk, hx, rfl, hA⟩
   · have := z8h hp
     rw [show p.frz = .c (.d x) from h] at this
     exact .inl this
   · obtain ⟨a, cap, els', e, ha, hA', hl, ht⟩ := hp
     rw [hA] at hA'
     cases hA'
     rcases ht rfl with ht | ⟨a', e'⟩
     · exact .inr ⟨κ, sz, els, hk, hx, hm.tok κ _ hA, .inl ht⟩
     · rw [e'] at e
       injection e with _ e1 e2
       exact .inr ⟨κ, sz, els, hk, hx, hm.tok κ _ hA, .inr ⟨List.length_eq_zero_iff.1 e1.symm, a', e'⟩⟩
 | agg cs =>
   have := z8h hp
   rw [show p.frz = .agg (cs.map .d) from h] at this
   exact this
 | own sz els =>
   rcases h with ⟨κ, hk, rfl, hA⟩ | rfl
   · obtain ⟨hd, sz', n, hA', hl, ht⟩ := hp
     rw [hA] at hA'
     cases hA'
     refine ⟨hd, ?_⟩
     rcases ht rfl with ht | ⟨a, e⟩
     · exact .inl ⟨κ, hk, ht, hm.tok κ _ hA⟩
     · exact .inr (by rw [e]; rfl)
   · exact ⟨hp.1, .inr hp.2⟩
 | mu sz els =>
   rcases h with ⟨κ, hk, rfl, hA⟩ | ⟨rfl, rfl⟩
   · obtain ⟨a, cap, els', e, ha, hA', hl, ht⟩ := hp
     rw [hA] at hA'
     cases hA'
     rcases ht rfl with ht | ⟨a', e'⟩
     · exact .inl ⟨κ, a, cap, hk, ht, hm.tok κ _ hA, e, ha⟩
     · rw [e'] at e
       injection e with _ e1 e2
       exact .inr ⟨List.length_eq_zero_iff.1 e1.symm, a', e'⟩
   · obtain ⟨hd, hf⟩ := hp
     obtain ⟨a, cap, rfl, _⟩ := z0q hd
     simp only [z0b] at hf
     subst hf
     exact .inr ⟨rfl, a, rfl⟩
theorem yj5 : ∀ (rs : List RT) (k : Nat) (κ : Tok) (ar : Arr), RT.install 0 noA k rs κ = some ar → ∃ j r, κ = (0, k + j) ∧ rs[j]? = some r ∧ r.ar = some ar
 | [], _, _, _, h => by cases h
 | r :: rs, k, κ, ar, h => by
   unfold RT.install at h
   have rest : RT.install 0 noA (k + 1) rs κ = some ar → ∃ j r', κ = (0, k + j) ∧ (r :: rs)[j]? = some r' ∧ r'.ar = some ar := fun h => by
    obtain ⟨j, r', h1, h2, h3⟩ := yj5 rs (k + 1) κ ar h
    exact ⟨j + 1, r', by rw [h1]; congr 1; omega, by simpa using h2, h3⟩
   cases hr : r.ar with
   | none => rw [hr] at h; exact rest h
   | some ar' =>
     rw [hr] at h
     simp only at h
     by_cases hk : κ = (0, k)
     · subst hk
       rw [zzc] at h
       cases h
       exact ⟨0, r, rfl, rfl, hr⟩
     · rw [zza _ _ hk] at h
       exact rest h
theorem y1a : ∀ (rs : List RT) (k j : Nat) (r : RT) (ar : Arr), rs[j]? = some r → r.ar = some ar → RT.install 0 noA k rs (0, k + j) = some ar
 | [], _, _, _, _, h, _ => by simp at h
 | r :: rs, k, 0, r', ar, h, hr => by
   simp at h
   subst h
   unfold RT.install
   rw [hr]
   exact zzc _ _ _
 | r :: rs, k, j + 1, r', ar, h, hr => by
   have ih := y1a rs (k + 1) j r' ar (by simpa using h) hr
   rw [show k + 1 + j = k + (j + 1) by omega] at ih
   unfold RT.install
   cases r.ar with
   | none => exact ih
   | some ar' =>
     simp only
     rw [zza _ _ (by simp)]
     exact ih
open Classical in
theorem xzx {C : Nat → Nat → Option Value} {π : Nat → Option Value} {w0 : World} (hm : MRel g H A w) (he : Evol (zko C π) noA w0 g A w) (rs : List RT) (ks : List (Option Tok)) (us : List Value) (hap : Apart ks) (hl : us.length = rs.length)
 (h : ∀ (k : Nat) (r : RT) (u : Value), rs[k]? = some r → us[k]? = some u → OneR g A w (ks[k]?).join r u) :
 ∃ g', MRel g' noH (RT.install 0 noA 0 rs) w ∧ Evol (zko C π) noA w0 g' (RT.install 0 noA 0 rs) w ∧ ∀ (k : Nat) (r : RT) (u : Value), rs[k]? = some r → us[k]? = some u → TRep g' (RT.install 0 noA 0 rs) (r.tv (0, k)) u := by
 let G : Nat → Prop := fun b => ∃ (k : Nat) (κ : Tok) (x : D), rs[k]? = some (.d x) ∧ ks[k]? = some (some κ) ∧ g.O b = some (.tok κ)
 let g' : Gh := { C := fun b o => if G b then w.cell? ⟨b, o, none⟩ else g.C b o, β := fun _ => none, τ := fun κ => us.getD κ.2 undef, π := g.π, O := fun b => if h : ∃ (k : Nat) (κ : Tok), ks[k]? = some (some κ) ∧ g.O b = some (.tok κ) then some (.tok (0, Classical.choose h)) else none }
 have hO : ∀ (b k : Nat) (κ : Tok), ks[k]? = some (some κ) → g.O b = some (.tok κ) → g'.O b = some (.tok (0, k)) := by
  intro b k κ h1 h2
  have hex : ∃ (k : Nat) (κ : Tok), ks[k]? = some (some κ) ∧ g.O b = some (.tok κ) := ⟨k, κ, h1, h2⟩
  simp only [g', dif_pos hex]
  obtain ⟨κ', h3, h4⟩ := Classical.choose_spec hex
  rw [h2] at h4
  cases h4
  rw [hap _ _ _ h3 h1]
 have hOn : ∀ b, g.O b = none → g'.O b = none := by
  intro b hb
  have : ¬ ∃ (k : Nat) (κ : Tok), ks[k]? = some (some κ) ∧ g.O b = some (.tok κ) := by rintro ⟨k, κ, _, h⟩; rw [hb] at h; cases h
  simp only [g', dif_neg this]
 have hCm : ∀ b o v, g.C b o = some v → g'.C b o = some v := by
  intro b o v e
  simp only [g']
  split
  · exact hm.com b o v e
  · exact e
 have hCn : ∀ b o, ¬ G b → g'.C b o = g.C b o := by
  intro b o e
  simp only [g', if_neg e]
 have hCg : ∀ b o, G b → g'.C b o = w.cell? ⟨b, o, none⟩ := by
  intro b o e
  simp only [g', if_pos e]
 have hGt : ∀ (b j : Nat) (κ : Tok) (r : RT), rs[j]? = some r → (∀ x, r ≠ .d x) → ks[j]? = some (some κ) → g.O b = some (.tok κ) → ¬ G b := by
  rintro b j κ r h1 h2 h3 h4 ⟨k', κ', x, h5, h6, h7⟩
  rw [h4] at h7
  cases h7
  have := hap _ _ _ h3 h6
  subst this
  rw [h1] at h5
  exact h2 x (Option.some.inj h5)
 have hτ : ∀ k u, us[k]? = some u → g'.τ (0, k) = u := fun k u hu => by simp [g', List.getD_eq_getElem?_getD, hu]
 have hk : ∀ (k : Nat) (κ : Tok), (ks[k]?).join = some κ → ks[k]? = some (some κ) := fun k κ h => by
  cases hh : ks[k]? with
  | none => rw [hh] at h; cases h
  | some x => rw [hh] at h; simp at h; rw [h]
 refine ⟨g', ⟨?_, fun id b hb => (by cases hb), ?_, ?_⟩, ⟨⟨fun b o v e => hCm b o v (he.mono.C b o v e), fun id b hb => (by cases hb), fun κ ar hA => (by cases hA), he.mono.π⟩, he.frame, fun b hb ho => hOn b (he.own b hb ho), fun b hb ho o => (hCn b o (by rintro ⟨k', κ', x, _, _, h7⟩; rw [he.own b hb ho] at h7; cases h7)).trans (he.old b hb ho o), he.size, he.os, he.tape, he.output, fun _ => ⟨(he.np ykh).1, ykh.inst _ _⟩⟩, ?_⟩
 · intro b o v e
   by_cases hG : G b
   · rw [← hCg b o hG]; exact e
   · rw [hCn b o hG] at e; exact hm.com b o v e
 · intro κ ar hA
   obtain ⟨j, r, rfl, hr, har⟩ := yj5 rs 0 κ ar hA
   rw [Nat.zero_add]
   have hlt := (List.getElem?_eq_some_iff.1 hr).1
   have hu : us[j]? = some us[j] := Zge (by omega)
   have h1 := h j r us[j] hr hu
   have ht := hτ j us[j] hu
   generalize us[j] = u at *
   cases r with
   | d x => cases har
   | agg cs => cases har
   | own sz els =>
     cases har
     obtain ⟨hd, h2⟩ := h1
     rcases h2 with ⟨κ, hkk, hτκ, htr⟩ | hf
     · obtain ⟨a, cap, e1, e2, e3⟩ := htr
       refine ⟨a, cap, by rw [ht, ← hτκ]; exact e1, e2, e3.imp id ?_⟩
       rintro ⟨b, rfl, ho, hC, rest⟩
       exact ⟨b, rfl, hO b j κ (hk j κ hkk) ho, fun o h => (hCn b o (hGt b j κ _ hr (fun x e => by cases e) (hk j κ hkk) ho)).trans (hC o h), rest⟩
     · obtain ⟨a, cap, rfl, hle, _⟩ := z0q hd
       simp only [z0b] at hf
       exact ⟨a, cap, ht, hle, .inl hf⟩
   | mu sz els =>
     cases har
     rcases h1 with ⟨κ, a', cap', hkk, hτκ, htr, _, _⟩ | ⟨rfl, a, rfl⟩
     · obtain ⟨hs, a, cap, e1, e2, e3⟩ := htr
       refine ⟨hs, a, cap, by rw [ht, ← hτκ]; exact e1, e2, e3.imp id ?_⟩
       rintro ⟨b, rfl, ho, hC, vs, e, fz, q1, q2, q3, q4⟩
       refine ⟨b, rfl, hO b j κ (hk j κ hkk) ho, fun o => (hCn b o (hGt b j κ _ hr (fun x e => by cases e) (hk j κ hkk) ho)).trans (hC o), vs, e, fz, q1, q2, q3, fun i k e' x h1 h2 => ?_⟩
       obtain ⟨u, hu, hd⟩ := q4 i k e' x h1 h2
       exact ⟨u, hu, DRep.mono hCm (fun _ _ h => h) hd⟩
     · exact ⟨by simp [Szd], a, 0, ht, Zlr _, .inl rfl⟩
 · intro b o ho
   cases hb : g.O b with
   | none => rw [hOn b hb] at ho; cases ho
   | some o' => exact hm.own b o' hb
 · intro k r u hr hu
   have h1 := h k r u hr hu
   have hat := fun ar har => y1a rs 0 k r ar hr har
   rw [Nat.zero_add] at hat
   cases r with
   | d x =>
     rcases h1 with h1 | ⟨κ, sz, els, hkk, rfl, htr, hu⟩
     · exact DRep.mono hCm (fun _ _ h => h) h1
     · rcases hu with hτκ | ⟨rfl, a, rfl⟩
       · obtain ⟨hs, a, cap', e1, e2, e3⟩ := htr
         rw [e1] at hτκ
         subst hτκ
         rcases e3 with e3 | ⟨b, rfl, ho, hC, vs, e, fz, q1, q2, q3, q4⟩
         · subst e3
           obtain rfl : els = [] := List.length_eq_zero_iff.1 (by omega)
           exact .nil a
         · have hG : G b := ⟨k, κ, _, hr, hk k κ hkk, ho⟩
           refine .sl els b 0 cap' sz els.length (fun i k => (vs[i * sz + k]?).getD undef) rfl e2 hs (fun i k' hi hk' => ?_) (fun i k' e' x h1 h2 => ?_)
           · obtain ⟨u, hu, _⟩ := q4 i k' els[i] (els[i][k']'(by rw [hs _ (List.getElem_mem hi)]; exact hk')) (Zge hi) (Zge _)
             rw [hCg b _ hG, Nat.zero_add]
             show _ = some ((vs[i * sz + k']?).getD undef)
             rw [hu]
             exact zqs q1 hu
           · obtain ⟨u, hu, hd⟩ := q4 i k' e' x h1 h2
             show DRep g'.C g'.π x ((vs[i * sz + k']?).getD undef)
             rw [hu]
             exact DRep.mono hCm (fun _ _ h => h) hd
       · exact .nil a
   | agg cs =>
     obtain ⟨arr, e, h2, h3⟩ := h1
     refine ⟨arr, e, h2, fun k c hk => ?_⟩
     obtain ⟨v, hv, hr⟩ := h3 k c hk
     refine ⟨v, hv, ?_⟩
     simp only [List.getElem?_map, Zms] at hk
     obtain ⟨x, _, rfl⟩ := hk
     exact DRep.mono hCm (fun _ _ h => h) hr
   | own sz els => exact ⟨DRep.mono hCm (fun _ _ h => h) h1.1, sz, _, hat _ rfl, Zlr _, fun _ => .inl (hτ k u hu)⟩
   | mu sz els =>
     rcases h1 with ⟨κ, a, cap, hkk, hτκ, htr, e, ha⟩ | ⟨rfl, a, rfl⟩
     · exact ⟨a, cap, els, e, ha, hat _ rfl, Zlr _, fun _ => .inl (hτ k u hu)⟩
     · exact ⟨a, 0, [], rfl, by simp, hat _ rfl, Zlr _, fun _ => .inr ⟨a, rfl⟩⟩
def z67 (tmps : Array Value) : ResultVar → Sem Value
 | .tmp t => pure (tmps.getD t undef)
 | .cell t T => do loadVar T (← asAddr (tmps.getD t undef))
theorem z75 (hm : MRel g H A w) {S : St} (hS : S.H = H ∧ S.A = A) {a : Act} (hf : FRep g A S.ρ a) : ∀ (vs : List ResultVar) (rs : List RT) (ks : List (Option Tok)), RetL P S ks vs rs →
 ∃ us : List Value, (vs.mapM (z67 a.tmps)).run P w = .ok us w ∧ us.length = rs.length ∧
   ∀ (k : Nat) (r : RT) (u : Value), rs[k]? = some r → us[k]? = some u → OneR g A w (ks[k]?).join r u
 | [], [], ks, h => ⟨[], by simp, rfl, by simp⟩
 | v :: vs, r :: rs, ks, h => by
   obtain ⟨p, hp, hrt, h⟩ := h
   obtain ⟨us, h1, h2, h3⟩ := z75 hm hS hf vs rs ks.tail h
   obtain ⟨hSH, hSA⟩ := hS
   have hone : ∃ u, ((z67 a.tmps) v).run P w = .ok u w ∧ PRep g A p u := by
    cases v with
    | tmp t =>
      cases hp
      exact ⟨_, rfl, hf t⟩
    | cell t T =>
      unfold zzn at hp
      simp only at hp
      rw [hSH, hSA] at hp
      obtain ⟨X, hX, hpr⟩ := yxv (P := P) hm (hf t) hp
      refine ⟨X, ?_, hpr⟩
      show (do loadVar T (← asAddr (a.tmps.getD t undef)) : Sem Value).run P w = _
      unfold Instr.loadAt at hX
      simp only [Sem.run_bind] at hX ⊢
      generalize a.tmps.getD t undef = x at *
      cases x <;> first | (simp [Instr.sureAddr] at hX; done) | skip
      rename_i ad
      cases ad with
      | none => simp [Instr.sureAddr] at hX
      | some ad => exact hX
   obtain ⟨u, hu, hpr⟩ := hone
   refine ⟨u :: us, ?_, by simp [h2], fun k r' u' hr' hu' => ?_⟩
   · rw [List.mapM_cons, Sem.run_bind, hu, Result.andThen_ok, Sem.run_bind, h1]
     rfl
   · cases k with
     | zero =>
       simp at hr' hu'
       subst hr' hu'
       have := y7w hm (by rw [← hSA]; exact hrt) hpr
       rwa [List.head?_eq_getElem?] at this
     | succ k =>
       have := h3 k r' u' (by simpa using hr') (by simpa using hu')
       rwa [List.getElem?_tail] at this
 | [], _ :: _, _, h => h.elim
 | _ :: _, [], _, h => h.elim
def y1c : List Value → Value
 | [u] => u
 | us => .tuple us.toArray
theorem zwp (fn : Func) (tmps : Array Value) {us : List Value} (h : (fn.results.toList.mapM (z67 tmps)).run P w = .ok us w) :
 (results fn tmps).run P w = .ok (y1c us) w := by
 show ((fn.results.mapM (z67 tmps) >>= fun vs => pure (if h : vs.size = 1 then vs[0] else .tuple vs)) : Sem Value).run P w = _
 rw [Array.mapM_eq_mapM_toList, Sem.run_bind, Sem.run_map, h]
 simp only [Result.andThen_ok, Sem.run_pure]
 congr 1
 match us with
 | [] => rfl
 | [u] => rfl
 | _ :: _ :: _ => rfl
theorem zvs {E : Env} (hE : EnvOK E) {f : FuncId} {fn : Func} {c : Code} (hf : E.P.funcs[f]? = some fn) (hb : fn.body = some c) (hext : ∀ (args : Array Value) (w : World), (callFunc f args).run E.P w = .ok (.enter f args) w)
 (hc : zkh E fn.ntmps c = true) {args : List PV} (hcl : args.all PV.closed = true) (hn : args.length ≤ fn.ntmps) {r : RV}
 (h : VC E noH noA c ⟨Ret E.P fn r, Ret E.P fn r, fun _ _ => False⟩ ⟨entry args, noH, noA⟩) : zzr E.P f args r := by
 refine ⟨hcl, fun C π w vals hC har => .inl ⟨hext vals w, ?_⟩⟩
 refine calls_of_wp hf hb ?_
 have hvl : vals.size = args.length := by rw [← Array.length_toList]; exact har.1
 have hrs : RS [] fn.ntmps (zko C π) noA w ⟨entry args, noH, noA⟩ { tmps := vals ++ Array.replicate (fn.ntmps - vals.size) undef, defers := [] } w := by
  refine ⟨zko C π, ⟨hC, fun id b hb => (by cases hb), fun κ ar hA => (by cases hA), fun b o ho => (by cases ho)⟩, fun _ _ => rfl, fun t => ?_, .refl _ _ _, by simp; omega, rfl⟩
  show PRep (zko C π) noA ((args[t]?).getD (.c .any)) _
  cases ht : args[t]? with
  | none => exact Zti
  | some x =>
    obtain ⟨v, hv, hp⟩ := har.2 t x ht
    have hlt := (List.getElem?_eq_some_iff.1 ht).1
    rw [Array.getD_eq_getD_getElem?, Array.getElem?_append, if_pos (by omega)]
    rw [Array.getElem?_toList] at hv
    rw [hv]
    exact hp
 refine wp_mono (zk7 hE (fun _ _ => rfl) c hc _ _ _ w h hrs) (fun e a' w' hq => ?_)
 have fin : (∃ S, RS [] fn.ntmps (zko C π) noA w S a' w' ∧ Ret E.P fn r S) → a'.defers = [] ∧ ∃ v, (results fn a'.tmps).run E.P w' = .ok v w' ∧
  ∃ v_1, Ending.returned v = .returned v_1 ∧ ∃ g', PRep g' r.am (r.pv 0) v_1 ∧ MRel g' noH r.am w' ∧ Evol (zko C π) noA w g' r.am w' := by
  rintro ⟨S, ⟨g, hm, hd, hfr, he, hnn, hdf⟩, hlen, ks, hap, hret⟩
  obtain ⟨us, h1, h2, h3⟩ := z75 hm ⟨rfl, rfl⟩ hfr _ _ ks hret
  obtain ⟨g', m1, m2, m3⟩ := xzx hm he r.list ks us hap h2 h3
  refine ⟨hdf, _, zwp fn a'.tmps h1, _, rfl, g', ?_, m1, m2⟩
  cases r with
  | one r =>
    match us, h2 with
    | [u], _ => exact zw8.2 (m3 0 r u rfl rfl)
  | tup rs =>
    have hne : us.length ≠ 1 := by rw [h2]; exact hlen
    have hval : y1c us = .tuple us.toArray := by
     match us, hne with
     | [], _ => rfl
     | _ :: _ :: _, _ => rfl
    rw [hval]
    refine ⟨us.toArray, rfl, by rw [z0z, List.size_toArray]; exact h2, fun k x hk => ?_⟩
    rw [getElem?_tvs] at hk
    obtain ⟨r, hr, rfl⟩ := Option.map_eq_some_iff.1 hk
    have hlt := (List.getElem?_eq_some_iff.1 hr).1
    have hl2 : us.length = rs.length := h2
    rw [Nat.zero_add]
    exact ⟨us[k], by simp, m3 k r us[k] hr (Zge (by omega))⟩
 cases e with
 | normal => exact fin hq
 | ret => exact fin hq
 | exit id => obtain ⟨S, _, hq⟩ := hq; exact hq.elim
 | _ => exact hq.elim
end Go.PW
namespace Go.PW
variable {P : Program} {g : Gh} {H : HMap} {A : AMap} {w : World}
def xzv (P : Program) (S : St) : List ResultVar → Option PV
 | [] => some (.c .any)
 | [v] => zzn P S v
 | _ => none
def RetE (P : Program) (fn : Func) (H : HMap) (A : AMap) (v : PV) (H' : HMap) (A' : AMap) (S : St) : Prop :=
 ∃ p, xzv P S fn.results.toList = some p ∧ Weak H A ⟨fun _ => p, S.H, S.A⟩ ⟨fun _ => v, H', A'⟩
theorem yko (hm : MRel g H A w) {S : St} (hS : S.H = H ∧ S.A = A) {a : Act} (hf : FRep g A S.ρ a) {vs : List ResultVar} {p : PV} (h : xzv P S vs = some p) :
 ∃ us, (vs.mapM (z67 a.tmps)).run P w = .ok us w ∧ PRep g A p (y1c us) := by
 obtain ⟨hSH, hSA⟩ := hS
 match vs, h with
 | [], h => cases h; exact ⟨[], rfl, Zti⟩
 | [.tmp t], h =>
   cases h
   exact ⟨[a.tmps.getD t undef], rfl, hf t⟩
 | [.cell t T], h =>
   have h : z53 P none S.H S.A T (S.ρ t) = some p := h
   rw [hSH, hSA] at h
   obtain ⟨X, hX, hpr⟩ := yxv (P := P) hm (hf t) h
   refine ⟨[X], ?_, hpr⟩
   have h1 : (z67 a.tmps (.cell t T)).run P w = .ok X w := by
    show (do loadVar T (← asAddr (a.tmps.getD t undef)) : Sem Value).run P w = _
    unfold Instr.loadAt at hX
    simp only [Sem.run_bind] at hX ⊢
    generalize a.tmps.getD t undef = x at *
    cases x <;> first | (simp [Instr.sureAddr] at hX; done) | skip
    rename_i ad
    cases ad with
    | none => simp [Instr.sureAddr] at hX
    | some ad => exact hX
   rw [List.mapM_cons, Sem.run_bind, h1]
   rfl
theorem y5p {E : Env} (hE : EnvOK E) {f : FuncId} {fn : Func} {c : Code} (hf : E.P.funcs[f]? = some fn) (hb : fn.body = some c) (hext : ∀ (args : Array Value) (w : World), (callFunc f args).run E.P w = .ok (.enter f args) w)
 (hc : zkh E fn.ntmps c = true) {args : List PV} (hn : args.length ≤ fn.ntmps) {off : Nat} {v : PV} {H' : HMap} {A' : AMap}
 (h : Above off H A → VC E H A c ⟨RetE E.P fn H A v H' A', RetE E.P fn H A v H' A', fun _ _ => False⟩ ⟨entry args, H, A⟩) : zqf E.P f off H A args v H' A' := by
 intro g w vals hm hd hab har
 refine .inl ⟨hext vals w, ?_⟩
 refine calls_of_wp hf hb ?_
 have hvl : vals.size = args.length := by rw [← Array.length_toList]; exact har.1
 have hrs : RS [] fn.ntmps g A w ⟨entry args, H, A⟩ { tmps := vals ++ Array.replicate (fn.ntmps - vals.size) undef, defers := [] } w := by
  refine ⟨g, hm, hd, fun t => ?_, .refl _ _ _, by simp; omega, rfl⟩
  show PRep g A ((args[t]?).getD (.c .any)) _
  cases ht : args[t]? with
  | none => exact Zti
  | some x =>
    obtain ⟨v, hv, hp⟩ := har.2 t x ht
    have hlt := (List.getElem?_eq_some_iff.1 ht).1
    rw [Array.getD_eq_getD_getElem?, Array.getElem?_append, if_pos (by omega)]
    rw [Array.getElem?_toList] at hv
    rw [hv]
    exact hp
 refine wp_mono (zk7 hE hd c hc _ _ _ w (h hab) hrs) (fun e a' w' hq => ?_)
 have fin : (∃ S, RS [] fn.ntmps g A w S a' w' ∧ RetE E.P fn H A v H' A' S) → a'.defers = [] ∧ ∃ u, (results fn a'.tmps).run E.P w' = .ok u w' ∧
  ∃ u_1, Ending.returned u = .returned u_1 ∧ ∃ g', PRep g' A' v u_1 ∧ MRel g' H' A' w' ∧ Evol g A w g' A' w' ∧ zjk g' H' := by
  rintro ⟨S, ⟨g1, hm1, hd1, hfr, he, hnn, hdf⟩, p, hp, hw⟩
  obtain ⟨us, h1, h2⟩ := yko hm1 ⟨rfl, rfl⟩ hfr hp
  obtain ⟨g', m1, m2, m3, m4⟩ := z9w (S := ⟨fun _ => p, S.H, S.A⟩) hd hw hm1 he
  exact ⟨hdf, _, zwp fn a'.tmps h1, _, rfl, g', m4 0 _ h2, m1, m3, m2⟩
 cases e with
 | normal => exact fin hq
 | ret => exact fin hq
 | exit id => obtain ⟨S, _, hq⟩ := hq; exact hq.elim
 | _ => exact hq.elim
theorem zk0 {n id : Nat} {cs : List CV} (h : Above n H A) (hid : id < n) : Above n (upd H id (some cs)) A := fun i hi => ⟨by rw [zza _ _ (by omega)]; exact (h i hi).1, (h i hi).2⟩
theorem vSq {E : Env} {H0 : HMap} {A0 : AMap} {a b : Code} {Q : Post} {S : St} (h : ∀ K : St → Prop, (∀ S, VC E H0 A0 b Q S → K S) → VC E H0 A0 a ⟨K, Q.ret, Q.ext⟩ S) : VC E H0 A0 (.seq a b) Q S := h _ fun _ h => h
theorem z0a {E : Env} {H0 : HMap} {A0 : AMap} {id : Nat} {l : List Oper} {draw : Bool} {Q : Post} {S : St} (h : RunV E (fbOf E id l.toArray draw) l.toArray l S Q.nrm) : VC E H0 A0 (.region id l.toArray draw) Q S := by
 show RunV E _ _ l.toArray.toList S Q.nrm
 rw [List.toList_toArray]
 exact h
theorem y6i {E : Env} {H0 : HMap} {A0 : AMap} {c : Operand} {x y : Code} {Q : Post} {S : St} (b : Bool) (hb : boolOf? (ev S.ρ c) = some b) (ht : b = true → VC E H0 A0 x Q S) (hf : b = false → VC E H0 A0 y Q S) : VC E H0 A0 (.cond c x y) Q S :=
 Opt.iff.2 ⟨b, hb, ht, hf⟩
theorem vBl {E : Env} {H0 : HMap} {A0 : AMap} {id : Nat} {c : Code} {Q : Post} {S : St} (h : VC E H0 A0 c ⟨Q.nrm, Q.ret, fun j S' => if j = id then Q.nrm S' else Q.ext j S'⟩ S) : VC E H0 A0 (.block id c) Q S := h
end Go.PW
