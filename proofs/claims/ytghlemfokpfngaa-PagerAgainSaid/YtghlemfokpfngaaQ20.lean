/-
  Parts of the proof, laid together: PwDi, PwGa, PwGb, PwGc.
-/
import Derived.Test.YtghlemfokpfngaaQ19
import Derived.Defers
import Derived.Recover
import Derived.Laws.Build

namespace Go.Proofs
open Go.PW
section disk
variable {H : HMap} {A : AMap} {id : Nat} {κm κc : Tok} {d : Dk}
set_option maxRecDepth 8000 in
set_option maxHeartbeats 16000000 in
theorem Try.kDirty (off : Nat) (hw : Wf H A) (hd : DkAt H A id κm κc d) (hn : 0 < d.n) (hl : d.cache.length ≤ 1000000) : EffOK Try.prog 11 off H A [.c (.ptr id 0)] (.c (.d (.sl (ints (d.cache.map (·.1)))))) H A := by
  refine effr_ok (E := envOf Try.prog [26] off [] []) (envOf_ok Try.mixed) Try.func11 rfl Try.call11 (by kernel_rfl) (by exact Nat.le_of_ble_eq_true rfl) (fun hab => ?_)
  have kl := Try.kLen (off + 1000) hw hd
  have hz : ((d.n : Int) == 0) = false := by rw [beq_eq_false_iff_ne]; omega
  have hid := hd.h
  unfold encDk at hid
  repeat' (first
   |with_reducible first|refine vSq fun K hK=>?_|refine vRg ?_|refine vBl ?_|refine vSc ?_|refine vIf ?_|refine vSk ?_|refine vEx ?_|refine vRt ?_
   |(with_reducible first|refine gNt (fun h=>?_) (fun h=>?_)|refine gCs (fun h=>?_) (fun h=>?_))<;>(try simp only[h])
   |refine C_call rfl kl rfl (Above_mono hab (by omega)) ?_
   |with_reducible first|(refine hK _ ?_;clear hK K)|(clear hK K;refine hK _ ?_;clear hK K)|(clear hK K;clear hK K;refine hK _ ?_;clear hK K)|(clear hK K;clear hK K;clear hK K;refine hK _ ?_;clear hK K)
   |(with_reducible refine todo ?_;simp +decide only[go_sem, hz, hid]))
  have hlt := hd.lt hab
  have hn5 : H (off + 5) = none := (hab _ (Nat.le_add_right _ _)).1
  have hne5 : off + 5 ≠ id := by omega
  have ha : A (off + 22, 0) = none := (hab _ (Nat.le_add_right _ _)).2 _
  have hptr : ∀ {A1 A2 : AMap}, PV.wk (hOver [] H) A1 A2 (.c (.ptr id 0)) (.c (.ptr id 0)) = True := eq_true (wkP_ptr (by show H id ≠ none; rw [hid]; simp))
  refine VC_range d.cache.length (fun _ => True) (fun i => overA [(0, .c (.ptr id 0)), (3, .c (.own (off + 22, 0) (ints ((d.cache.take i).map (·.1))))), (12, .c (.d (.sl (d.cache.map encW)))), (13, pD (.lit (.int .i64 d.cache.length))), (14, pD (.lit (.int .i64 i)))] []
    [((off + 22, 0), .co 1 i)] H A) True.intro ?_ ?_
  · refine Weak_overA hw kp_refl (fun _ _ => rfl) (fun p hp => by rw [List.mem_singleton.1 hp]; exact ha) ?_ ?_ ?_ (fun _ h => h) (fun _ h => h)
    · simp +decide only [go_sem, hptr]
      exact wkP_new ha (sz := 1) (if_pos rfl)
    · simp +decide only [go_sem]
    · simp +decide only [go_sem, ha]
  · intro i hi _
    rcases Nat.lt_or_ge i d.cache.length with hi2 | hi2
    · have hc := int_lt_true hi2
      have hnx := int_next hi2 (by omega)
      have h3 : d.cache[i]? = some d.cache[i] := List.getElem?_eq_getElem hi2
      have hst : ints ((d.cache.take (i + 1)).map (·.1)) = ints ((d.cache.take i).map (·.1)) ++ [[.lit (.int .i64 d.cache[i].1)]] := by
        rw [List.take_add_one, h3, Option.toList_some, List.map_append]
        unfold ints
        rw [List.map_append]
        rfl
      have hll : (ints ((d.cache.take i).map (·.1))).length = i := by simp [ints]; omega
      have hszi : Szd 1 (ints ((d.cache.take i).map (·.1))) := fun e he => by
        obtain ⟨w, _, rfl⟩ := List.mem_map.1 he
        rfl
      generalize d.cache[i] = x at *
      generalize ints ((d.cache.take i).map (·.1)) = L at *
      repeat' (first
       |with_reducible first|refine vSq fun K hK=>?_|refine vRg ?_|refine vBl ?_|refine vSc ?_|refine vIf ?_|refine vSk ?_|refine vEx ?_|refine vRt ?_
       |(with_reducible first|refine gNt (fun h=>?_) (fun h=>?_)|refine gCs (fun h=>?_) (fun h=>?_))<;>(try simp only[h])
       |(refine W_own Try.appI rfl hszi (szOne rfl) (by simp only [List.length_singleton]; omega) (by rw [hll]; exact if_pos rfl) ?_)
       |with_reducible first|(refine hK _ ?_;clear hK K)|(clear hK K;refine hK _ ?_;clear hK K)|(clear hK K;clear hK K;refine hK _ ?_;clear hK K)|(clear hK K;clear hK K;clear hK K;refine hK _ ?_;clear hK K)
       |(with_reducible refine todo ?_;simp +decide only[go_sem, hc, hnx, h3, hn5]))
      refine Next_of hi2 True.intro (Weak_overA hw (kp_upd hn5 (kp_upd hn5 kp_nil)) (fun κ hκ => ?_) (fun p hp => by rw [List.mem_singleton.1 hp]; exact ha) ?_ ?_ ?_ (fun _ h => h) (fun _ h => h))
      · have hne : κ ≠ (off + 22, 0) := fun e => hκ (by rw [e]; exact ha)
        show upd _ _ _ κ = _
        rw [upd_other _ _ hne]
        exact if_neg hne
      · simp +decide only [go_sem, hptr, hst]
        exact wkP_own (by rw [aOver_hd]; simp) (by rw [upd_same, hll]; exact aOver_hd)
      · simp +decide only [go_sem]
      · simp +decide only [go_sem, hll]
    · have hc := int_lt_false hi2
      rw [List.take_of_length_le hi2]
      repeat' (first
       |with_reducible first|refine vSq fun K hK=>?_|refine vRg ?_|refine vBl ?_|refine vSc ?_|refine vIf ?_|refine vSk ?_|refine vEx ?_|refine vRt ?_
       |(with_reducible first|refine gNt (fun h=>?_) (fun h=>?_)|refine gCs (fun h=>?_) (fun h=>?_))<;>(try simp only[h])
       |with_reducible first|(refine hK _ ?_;clear hK K)|(clear hK K;refine hK _ ?_;clear hK K)|(clear hK K;clear hK K;refine hK _ ?_;clear hK K)|(clear hK K;clear hK K;clear hK K;refine hK _ ?_;clear hK K)
       |(with_reducible refine todo ?_;simp +decide only[go_sem, hc]))
      refine RetR_same rfl (by simp +decide only [go_sem]) True.intro hw kp_nil (fun κ hκ => if_neg (fun e => hκ (by rw [e]; exact ha)))
end disk
end Go.Proofs

namespace Go.PW
variable {D : List Deferred}
theorem list_real2 {E : Env} (hE : EnvOK E) {n : Nat} {g0 : Gh} {A0 : AMap} {w0 : World} {ops : Array Oper} {K : St → Prop} {Q : Exit → Act → World → Prop} {l2 : List Oper}
    (hQ : ∀ S a w, RS D n g0 A0 w0 S a w → K S → wpList E.P ops Q l2 a w) :
    ∀ (l : List Oper) (S : St) (a : Act) (w : World), (∀ o ∈ l, ∀ d, o.dst = some d → d < n) → RunV E none ops l S K → RS D n g0 A0 w0 S a w → wpList E.P ops Q (l ++ l2) a w
  | [], S, a, w, _, h, hr => hQ S a w hr h
  | o :: l, S, a, w, hd, h, hr => by
    exact head_real hE (hd o (by simp)) h hr (fun S' a' w' hK hr' => list_real2 hE hQ l S' a' w' (fun o ho => hd o (by simp [ho])) hK hr')
def postP (D : List Deferred) (n : Nat) (g0 : Gh) (A0 : AMap) (w0 : World) (Q : Post) (R : Value → St → Prop) : Exit → Act → World → Prop
  | .normal, a, w => ∃ S, RS D n g0 A0 w0 S a w ∧ Q.nrm S
  | .ret, a, w => ∃ S, RS D n g0 A0 w0 S a w ∧ Q.ret S
  | .exit id, a, w => ∃ S, RS D n g0 A0 w0 S a w ∧ Q.ext id S
  | .panic ch, a, w => ∃ S v, RS D n g0 A0 w0 S a w ∧ ch = [{ v, recovered := false }] ∧ R v S
  | _, _, _ => False
theorem postP_of {n : Nat} {g0 : Gh} {A0 : AMap} {w0 : World} {Q : Post} {R : Value → St → Prop} {e : Exit} {a : Act} {w : World} (h : postX D n g0 A0 w0 Q e a w) : postP D n g0 A0 w0 Q R e a w := by
  cases e <;> first | exact h | exact h.elim
def VX (E : Env) (D : List Deferred) (n : Nat) (H0 : HMap) (A0 : AMap) (c : Code) (Q : Post) (R : Value → St → Prop) (S : St) : Prop :=
  ∀ g0 w0 a w, DomOK g0 H0 → RS D n g0 A0 w0 S a w → c.wp E.P (postP D n g0 A0 w0 Q R) a w
section
variable {E : Env} {n : Nat} {H0 : HMap} {A0 : AMap} {Q : Post} {R : Value → St → Prop} {S : St}
theorem VX_of (hE : EnvOK E) {c : Code} (hc : codeOK E n c = true) (h : VC E H0 A0 c Q S) : VX E D n H0 A0 c Q R S := fun _ _ a w hd hr =>
  wp_mono (code_ok hE hd c hc Q S a w h hr) fun _ _ _ hq => postP_of hq
theorem VX_seq {x y : Code} (h : VX E D n H0 A0 x ⟨VX E D n H0 A0 y Q R, Q.ret, Q.ext⟩ R S) : VX E D n H0 A0 (.seq x y) Q R S := fun g0 w0 a w hd hr => by
  refine wp_seq (wp_mono (h g0 w0 a w hd hr) fun e a' w' hq => ?_)
  cases e with
  | normal => obtain ⟨S', hr', h'⟩ := hq; exact h' g0 w0 a' w' hd hr'
  | ret => exact hq
  | exit id => exact hq
  | panic ch => exact hq
  | _ => exact hq.elim
theorem VX_cond {c : Operand} {x y : Code} (b : Bool) (hb : boolOf? (ev S.ρ c) = some b) (h : VX E D n H0 A0 (if b then x else y) Q R S) : VX E D n H0 A0 (.cond c x y) Q R S := fun g0 w0 a w hd hr => by
  obtain ⟨g, hm, hd', hf, he, hn, hdf⟩ := id hr
  exact wp_cond (boolOf_rep (PRep_ev hf c) hb) (h g0 w0 a w hd hr)
theorem VX_seqK {x y : Code} (h : ∀ K : St → Prop, (∀ S, VX E D n H0 A0 y Q R S → K S) → VX E D n H0 A0 x ⟨K, Q.ret, Q.ext⟩ R S) : VX E D n H0 A0 (.seq x y) Q R S := VX_seq (h _ fun _ h => h)
theorem VX_if {c : Operand} {x y : Code} (h : Todo (GuardP (boolOf? (ev S.ρ c)) (VX E D n H0 A0 x Q R S) (VX E D n H0 A0 y Q R S))) : VX E D n H0 A0 (.cond c x y) Q R S := by
  unfold Todo at h
  cases hb : boolOf? (ev S.ρ c) with
  | none => rw [hb] at h; exact h.elim
  | some b =>
    rw [hb] at h
    exact VX_cond b hb (by cases b <;> exact h)
theorem VX_block {id : Nat} {c : Code} (h : VX E D n H0 A0 c ⟨Q.nrm, Q.ret, fun j S => if j = id then Q.nrm S else Q.ext j S⟩ R S) : VX E D n H0 A0 (.block id c) Q R S := fun g0 w0 a w hd hr => by
  refine wp_block (wp_mono (h g0 w0 a w hd hr) fun e a' w' hq => ?_)
  cases e with
  | normal => exact hq
  | ret => exact hq
  | panic ch => exact hq
  | exit j =>
    obtain ⟨S', hr', h'⟩ := hq
    simp only at h'
    show (if j = id then postP D n g0 A0 w0 Q R .normal a' w' else postP D n g0 A0 w0 Q R (.exit j) a' w')
    split at h'
    · rename_i e
      rw [if_pos e]
      exact ⟨S', hr', h'⟩
    · rename_i e
      rw [if_neg e]
      exact ⟨S', hr', h'⟩
  | _ => exact hq.elim
theorem VX_scope {c : Code} (h : VX E D n H0 A0 c Q R S) : VX E D n H0 A0 (.scope c) Q R S := fun g0 w0 a w hd hr => by
  refine wp_scope_straight (wp_mono (h g0 w0 a w hd hr) fun e a' w' hq => ?_)
  cases e with
  | goto l => exact hq.elim
  | _ => exact hq
theorem VX_skip (h : Q.nrm S) : VX E D n H0 A0 .skip Q R S := fun _ _ _ _ _ hr => wp_skip ⟨S, hr, h⟩
theorem VX_exit {id : Nat} (h : Q.ext id S) : VX E D n H0 A0 (.exit id) Q R S := fun _ _ _ _ _ hr => wp_exit ⟨S, hr, h⟩
theorem VX_ret (h : Q.ret S) : VX E D n H0 A0 .ret Q R S := fun _ _ _ _ _ hr => wp_ret ⟨S, hr, h⟩
theorem VX_loop {c : Code} {ι : Type} (F : ι → St) (μ : ι → Nat) (i0 : ι) (h0 : Weak H0 A0 S (F i0))
    (h : ∀ i, VX E D n H0 A0 c ⟨fun S' => ∃ j, Weak H0 A0 S' (F j) ∧ μ j < μ i, Q.ret, Q.ext⟩ R (F i)) : VX E D n H0 A0 (.loop c) Q R S := fun g0 w0 a w hd hr => by
  refine wp_loop_ghost (fun k a w => ∃ i, μ i = k ∧ RS D n g0 A0 w0 (F i) a w) (μ i0) ⟨i0, rfl, hr.weak hd h0⟩ ?_
  rintro _ a w ⟨i, rfl, hi⟩
  refine wp_mono (h i g0 w0 a w hd hi) (fun e a' w' hq => ?_)
  cases e with
  | normal =>
    obtain ⟨S', hr', j, hwj, hlt⟩ := hq
    exact ⟨μ j, hlt, j, rfl, hr'.weak hd hwj⟩
  | ret => exact hq
  | exit id => exact hq
  | panic ch => exact hq
  | _ => exact hq.elim
theorem VX_region (hE : EnvOK E) {id : Nat} {l : List Oper} {draw : Bool} (hc : codeOK E n (.region id l.toArray draw) = true) (h : Todo (RunV E (fbOf E id l.toArray draw) l.toArray l S Q.nrm)) : VX E D n H0 A0 (.region id l.toArray draw) Q R S := VX_of hE hc (vRg h)
def EffPan (P : Program) (f : FuncId) (off : Nat) (H : HMap) (A : AMap) (args : List PV) (x : Value) (H' : HMap) (A' : AMap) : Prop :=
  ∀ (g : Gh) (w : World) (vals : Array Value), MRel g H A w → DomOK g H → Above off H A → ArgsRep g A args vals.toList →
    (callFunc f vals).run P w = .ok (.enter f vals) w ∧ Calls P f vals w (fun e w' => e = .panicked [{ v := x, recovered := false }] ∧ ∃ g', MRel g' H' A' w' ∧ Evol g A w g' A' w' ∧ DomOK g' H')
theorem VX_panic (hE : EnvOK E) {id : Nat} {l : List Oper} {T : TypeId} {t t' : Nat} {x : Value} {o1 o2 : Oper} (hd : dstsOK n l.toArray = true) (h1 : o1.op = .makeInterface T (.tmp t)) (h1g : o1.guard = none) (h1d : o1.dst = some t') (ht' : t' < n) (h2 : o2.op = .panic (.tmp t')) (h2g : o2.guard = none)
    (hmi : E.P.concrete T = true) (h : RunV E none (l ++ [o1, o2]).toArray l S (fun S' => S'.ρ t = .agg [.d (.lit x)] ∧ ∀ ρ, R (.iface T (.agg #[x])) ⟨ρ, S'.H, S'.A⟩)) :
    VX E D n H0 A0 (.region id (l ++ [o1, o2]).toArray false) Q R S := fun g0 w0 a w hd0 hr => by
  refine wp_region_list ?_
  rw [List.toList_toArray]
  refine list_real2 hE (l2 := [o1, o2]) (fun S' a w hr' hk => ?_) l S a w (by simpa using dstsOK_spec hd) h hr
  obtain ⟨g, hm, hd', hf, he, hn, hdf⟩ := hr'
  have hv : a.eval (.tmp t) = .agg #[x] := by
    have := hf t
    rw [hk.1] at this
    obtain ⟨arr, e, h1, h2⟩ := this
    obtain ⟨u, hu, hx⟩ := h2 0 _ rfl
    show a.tmps.getD t undef = _
    rw [e]
    congr 1
    obtain ⟨al⟩ := arr
    match al, h1, hu with
    | [y], _, hu =>
      cases hu
      rw [PRep_lit_inv (g := g) (A := S'.A) (show PRep g S'.A (.c (.d (.lit x))) u from hx)]
  have r1 : (execOp a.eval o1).run E.P w = .ok (.value (.iface T (.agg #[x]))) w := by
    simp only [execOp, h1, hv, Sem.run_bind, run_makeInterface w T _ hmi, Result.andThen_ok, Sem.run_pure]
  have hr2 := RS.step (D := D) (dst := o1.dst) (v := .c .any) (u := .iface T (.agg #[x])) hm hd' hf he (.refl g S'.A w) hn hdf True.intro (fun d e => by rw [h1d] at e; cases e; exact ht')
  unfold wpList
  rw [show Region.wanted o1 (yielded (l ++ [o1, o2]).toArray a.tmps) = true by unfold Region.wanted; rw [h1g], if_pos rfl]
  refine .inl ?_
  unfold Oper.wp
  rw [r1]
  show wpList E.P _ _ [o2] (a.put o1.dst _) w
  have hv2 : (a.put o1.dst (.iface T (.agg #[x]))).eval (.tmp t') = .iface T (.agg #[x]) := by
    rw [h1d]
    show (a.tmps.setIfInBounds t' _).getD t' undef = _
    rw [Array.getD_eq_getD_getElem?, Array.getElem?_setIfInBounds_self_of_lt (by rw [hn]; exact ht')]
    rfl
  have r2 : (execOp (a.put o1.dst (.iface T (.agg #[x]))).eval o2).run E.P w = .halt (.panic (.iface T (.agg #[x]))) w := by
    simp only [execOp, h2, hv2]
    rfl
  unfold wpList
  rw [show Region.wanted o2 (yielded (l ++ [o1, o2]).toArray (a.put o1.dst (.iface T (.agg #[x]))).tmps) = true by unfold Region.wanted; rw [h2g], if_pos rfl]
  refine .inl ?_
  unfold Oper.wp
  rw [r2]
  exact ⟨_, _, hr2, rfl, hk.2 _⟩
theorem VX_callp (hE : EnvOK E) {id : Nat} {l l2 : List Oper} {f : FuncId} {x : Value} {H' : HMap} {A' : AMap} {o : Oper} {args : Array Operand} {ats : Array TypeId} (hd : dstsOK n l.toArray = true) (h1 : o.op = .call ⟨.value (.func f), args, ats⟩) (hg : o.guard = none)
    (h : RunV E none (l ++ o :: l2).toArray l S (fun S' => Above (E.off + 1000) S'.H S'.A ∧ EffPan E.P f (E.off + 1000) S'.H S'.A ((args.toList.map (ev S'.ρ)).map PV.frz) x H' A' ∧ ∀ ρ, R x ⟨ρ, H', A'⟩)) :
    VX E D n H0 A0 (.region id (l ++ o :: l2).toArray false) Q R S := fun g0 w0 a w hd0 hr => by
  refine wp_region_list ?_
  rw [List.toList_toArray]
  refine list_real2 hE (l2 := o :: l2) (fun S' a w hr' hk => ?_) l S a w (by simpa using dstsOK_spec hd) h hr
  obtain ⟨g, hm, hd', hf, he, hn, hdf⟩ := hr'
  obtain ⟨hab, hp, hR⟩ := hk
  obtain ⟨q1, q2⟩ := hp g w (args.map a.eval) hm hd' hab (ArgsRep_map hf args)
  have r1 : (execOp a.eval o).run E.P w = .ok (.enter f (args.map a.eval)) w := by
    rw [← q1]
    simp [execOp, h1, resolve, Deferred.ofValue, invoke, Act.eval]
  unfold wpList
  rw [show Region.wanted o (yielded (l ++ o :: l2).toArray a.tmps) = true by unfold Region.wanted; rw [hg], if_pos rfl]
  refine .inl ?_
  unfold Oper.wp
  rw [r1]
  refine Calls.mono q2 (fun e w' he' => ?_)
  obtain ⟨rfl, g', m1, m2, m3⟩ := he'
  exact ⟨⟨fun _ => .c .any, H', A'⟩, x, ⟨g', m1, m3, fun t => True.intro, he.trans m2, hn, hdf⟩, rfl, hR _⟩
theorem VX_panic3 (hE : EnvOK E) {id : Nat} {T : TypeId} {t t' : Nat} {x : Value} {o0 o1 o2 : Oper} (hd : dstsOK n [o0].toArray = true) (h1 : o1.op = .makeInterface T (.tmp t)) (h1g : o1.guard = none) (h1d : o1.dst = some t') (ht' : t' < n) (h2 : o2.op = .panic (.tmp t')) (h2g : o2.guard = none)
    (hmi : E.P.concrete T = true) (h : Todo (RunV E none [o0, o1, o2].toArray [o0] S (fun S' => S'.ρ t = .agg [.d (.lit x)] ∧ ∀ ρ, R (.iface T (.agg #[x])) ⟨ρ, S'.H, S'.A⟩))) : VX E D n H0 A0 (.region id [o0, o1, o2].toArray false) Q R S :=
  VX_panic (l := [o0]) hE hd h1 h1g h1d ht' h2 h2g hmi h
theorem VX_callp3 (hE : EnvOK E) {id : Nat} {o0 o o2 : Oper} {f : FuncId} {x : Value} {H' : HMap} {A' : AMap} {args : Array Operand} {ats : Array TypeId} (hd : dstsOK n [o0].toArray = true) (h1 : o.op = .call ⟨.value (.func f), args, ats⟩) (hg : o.guard = none)
    (h : Todo (RunV E none [o0, o, o2].toArray [o0] S (fun S' => Above (E.off + 1000) S'.H S'.A ∧ EffPan E.P f (E.off + 1000) S'.H S'.A ((args.toList.map (ev S'.ρ)).map PV.frz) x H' A' ∧ ∀ ρ, R x ⟨ρ, H', A'⟩))) : VX E D n H0 A0 (.region id [o0, o, o2].toArray false) Q R S :=
  VX_callp (l := [o0]) (l2 := [o2]) hE hd h1 hg h
end
theorem effp_ok {E : Env} {f : FuncId} {fn : Func} {c : Code} (hf : E.P.funcs[f]? = some fn) (hb : fn.body = some c) (hext : ∀ (args : Array Value) (w : World), (callFunc f args).run E.P w = .ok (.enter f args) w) {H : HMap} {A : AMap}
    {args : List PV} (hn : args.length ≤ fn.ntmps) {off : Nat} {x : Value}
    (h : Above off H A → VX E [] fn.ntmps H A c ⟨fun _ => False, fun _ => False, fun _ _ => False⟩ (fun v S => v = x ∧ S.H = H ∧ S.A = A) ⟨entry args, H, A⟩) : EffPan E.P f off H A args x H A := by
  intro g w vals hm hd hab har
  refine ⟨hext vals w, ?_⟩
  refine calls_of_wp hf hb ?_
  have hvl : vals.size = args.length := by rw [← Array.length_toList]; exact har.1
  have hrs : RS [] fn.ntmps g A w ⟨entry args, H, A⟩ { tmps := vals ++ Array.replicate (fn.ntmps - vals.size) undef, defers := [] } w := by
    refine ⟨g, hm, hd, fun t => ?_, .refl _ _ _, by simp; omega, rfl⟩
    show PRep g A ((args[t]?).getD (.c .any)) _
    cases ht : args[t]? with
    | none => exact True.intro
    | some x =>
      obtain ⟨v, hv, hp⟩ := har.2 t x ht
      have hlt := (List.getElem?_eq_some_iff.1 ht).1
      rw [Array.getD_eq_getD_getElem?, Array.getElem?_append, if_pos (by omega)]
      rw [Array.getElem?_toList] at hv
      rw [hv]
      exact hp
  refine wp_mono (h hab g w _ w hd hrs) (fun e a' w' hq => ?_)
  cases e with
  | normal => obtain ⟨S, _, hq⟩ := hq; exact hq.elim
  | ret => obtain ⟨S, _, hq⟩ := hq; exact hq.elim
  | exit id => obtain ⟨S, _, hq⟩ := hq; exact hq.elim
  | panic ch =>
    obtain ⟨S, v, ⟨g1, hm1, hd1, hfr, he, hnn, hdf⟩, rfl, rfl, hH, hA⟩ := hq
    rw [hH] at hm1 hd1
    rw [hA] at hm1 he
    exact ⟨hdf, rfl, g1, hm1, he, hd1⟩
  | _ => exact hq.elim
end Go.PW

namespace Go.Proofs
open Go.PW
structure Rd where
  s : List UInt8
  at_ : Nat
  e : Int
def encRd (r : Rd) : List CV := [.d (dS r.s), .d (.lit (.int .i64 r.at_)), .d (.lit (.int .i64 r.e))]
theorem encRd_D (r : Rd) : (encRd r).all CV.isD = true := rfl
theorem encRd_ok {hk : Nat → Prop} {tk : Tok → Prop} (r : Rd) : ∀ c ∈ encRd r, c.ok hk tk := fun _ h => isD_ok (List.all_eq_true.1 (encRd_D r) _ h)
section rd
variable {H : HMap} {A : AMap} {id : Nat} {r : Rd}
set_option maxRecDepth 8000 in
set_option maxHeartbeats 4000000 in
theorem Try.kRdNew (off : Nat) (hw : Wf H A) (s : List UInt8) (hid : H id = none) : EffOK Try.prog 66 off H A [pD (dS s)] (.c (.ptr id 0)) (upd H id (some (encRd ⟨s, 0, 0⟩))) A := by
  refine effr_ok (E := envOf Try.prog [] off [] []) (envOf_ok Try.mixed) Try.func66 rfl Try.call66 (by kernel_rfl) (by exact Nat.le_of_ble_eq_true rfl) (fun hab => ?_)
  have hi' : H (off + 5) = none := (hab _ (Nat.le_add_right _ _)).1
  repeat' (first
   |with_reducible first|refine vSq fun K hK=>?_|refine vRg ?_|refine vBl ?_|refine vSc ?_|refine vIf ?_|refine vSk ?_|refine vEx ?_|refine vRt ?_
   |(with_reducible first|refine gNt (fun h=>?_) (fun h=>?_)|refine gCs (fun h=>?_) (fun h=>?_))<;>(try simp only[h])
   |refine And.intro hi' ?_
   |with_reducible first|(refine hK _ ?_;clear hK K)|(clear hK K;refine hK _ ?_;clear hK K)|(clear hK K;clear hK K;refine hK _ ?_;clear hK K)|(clear hK K;clear hK K;clear hK K;refine hK _ ?_;clear hK K)
   |(with_reducible refine todo ?_;simp +decide only[go_sem]))
  refine RetR_obj (H1 := H) (A1 := A) (A'' := A) (i' := off + 5) (h := fun κ => κ) (ds := encRd ⟨s, 0, 0⟩) rfl ?_ (by show upd _ _ _ _ ≠ none; rw [upd_same]; simp) hw (fun _ h => h) (fun _ h => h) hid hi' (encRd_ok _) ?_ ?_ ?_ (fun _ h => ⟨rfl, h⟩) (fun _ _ h => h) (fun _ _ _ _ h => h) (fun κ => ?_)
  · show PV.wk _ _ _ (.c (.ptr (swp id (off + 5) id) 0)) _
    rw [show swp id (off + 5) id = off + 5 from if_pos rfl]
    exact wkP_ptr (by rw [upd_same]; simp)
  · intro i es hi
    have hne : i ≠ off + 5 := fun e => by rw [e, hi'] at hi; cases hi
    refine ⟨es, by show upd _ _ _ _ = _; rw [upd_other _ _ hne]; exact hi, wkC_same fun c hc => ok_mono (fun j hj => ?_) (fun κ hκ => ⟨hκ, rfl⟩) (hw i es c hi hc)⟩
    rw [upd_apply']; split
    · simp
    · exact hj
  · show upd _ _ _ _ = _
    rw [upd_same]; rfl
  · exact wkC_same fun c hc => encRd_ok (tk := fun κ => A κ ≠ none ∧ A κ = A κ) ⟨s, 0, 0⟩ c hc
  · exact .inr (.inl rfl)
set_option maxRecDepth 8000 in
set_option maxHeartbeats 4000000 in
theorem Try.kErr (off : Nat) (hw : Wf H A) (hr : H id = some (encRd r)) : EffOK Try.prog 68 off H A [.c (.ptr id 0)] (pD (.lit (.int .i64 r.e))) H A := by
  refine effr_ok (E := envOf Try.prog [] off [] []) (envOf_ok Try.mixed) Try.func68 rfl Try.call68 (by kernel_rfl) (by exact Nat.le_of_ble_eq_true rfl) (fun hab => ?_)
  repeat' (first
   |with_reducible first|refine vSq fun K hK=>?_|refine vRg ?_|refine vBl ?_|refine vSc ?_|refine vIf ?_|refine vSk ?_|refine vEx ?_|refine vRt ?_
   |(with_reducible first|refine gNt (fun h=>?_) (fun h=>?_)|refine gCs (fun h=>?_) (fun h=>?_))<;>(try simp only[h])
   |with_reducible first|(refine hK _ ?_;clear hK K)|(clear hK K;refine hK _ ?_;clear hK K)|(clear hK K;clear hK K;refine hK _ ?_;clear hK K)|(clear hK K;clear hK K;clear hK K;refine hK _ ?_;clear hK K)
   |(with_reducible refine todo ?_;simp +decide only[go_sem, hr, encRd]))
  exact RetR_same rfl (by simp +decide only [go_sem]) True.intro hw kp_refl (fun _ _ => rfl)
set_option maxRecDepth 8000 in
set_option maxHeartbeats 4000000 in
theorem Try.kLeft (off : Nat) (hw : Wf H A) (hr : H id = some (encRd r)) (h1 : r.at_ ≤ r.s.length) (h2 : r.s.length ≤ 1000000) : EffOK Try.prog 69 off H A [.c (.ptr id 0)] (pD (.lit (.int .i64 (r.s.length - r.at_ : Nat)))) H A := by
  refine effr_ok (E := envOf Try.prog [] off [] []) (envOf_ok Try.mixed) Try.func69 rfl Try.call69 (by kernel_rfl) (by exact Nat.le_of_ble_eq_true rfl) (fun hab => ?_)
  have hwr : IntKind.i64.wrap ((r.s.length : Int) - (r.at_ : Int)) = ((r.s.length - r.at_ : Nat) : Int) := by rw [Go.IntWalk.i64_in _ (by omega)]; omega
  repeat' (first
   |with_reducible first|refine vSq fun K hK=>?_|refine vRg ?_|refine vBl ?_|refine vSc ?_|refine vIf ?_|refine vSk ?_|refine vEx ?_|refine vRt ?_
   |(with_reducible first|refine gNt (fun h=>?_) (fun h=>?_)|refine gCs (fun h=>?_) (fun h=>?_))<;>(try simp only[h])
   |with_reducible first|(refine hK _ ?_;clear hK K)|(clear hK K;refine hK _ ?_;clear hK K)|(clear hK K;clear hK K;refine hK _ ?_;clear hK K)|(clear hK K;clear hK K;clear hK K;refine hK _ ?_;clear hK K)
   |(with_reducible refine todo ?_;simp +decide only[go_sem, hr, encRd, hwr]))
  exact RetR_same rfl (by simp +decide only [go_sem]) True.intro hw kp_refl (fun _ _ => rfl)
theorem RetR_rd {P : Program} {fn : Func} {v p : PV} {S : St} {cs : List CV} (hw : Wf H A) (hid : H id ≠ none) (hc : cs.all CV.isD = true) (hp : resPVs P S fn.results.toList = some p) (hv : PV.wk (upd H id (some cs)) S.A A v p) (hok : v.oks (fun i => upd H id (some cs) i ≠ none) (fun κ => A κ ≠ none))
    (h1 : S.H id = some cs) (h2 : ∀ i, i ≠ id → S.H i = H i) (h3 : S.A = A) : RetR P fn H A v (upd H id (some cs)) A S := by
  subst h3
  exact RetR_set hp hv hok hw hid h1 (wkC_same fun c h => isD_ok (List.all_eq_true.1 hc c h)) (fun c h => isD_ok (List.all_eq_true.1 hc c h)) (fun i hi _ => h2 i hi) (fun κ => .inr (.inl rfl)) (fun κ h => ⟨h, rfl⟩)
set_option maxRecDepth 8000 in
set_option maxHeartbeats 8000000 in
theorem Try.kNextB (off : Nat) (hw : Wf H A) (hr : H id = some (encRd r)) (b : UInt8) (h1 : r.s[r.at_]? = some b) (h2 : r.s.length ≤ 1000000) : EffOK Try.prog 84 off H A [.c (.ptr id 0)] (pD (.lit (.int .u8 b.toNat))) (upd H id (some (encRd { r with at_ := r.at_ + 1 }))) A := by
  refine effr_ok (E := envOf Try.prog [] off [] []) (envOf_ok Try.mixed) Try.func84 rfl Try.call84 (by kernel_rfl) (by exact Nat.le_of_ble_eq_true rfl) (fun hab => ?_)
  have hlt : r.at_ < r.s.length := (List.getElem?_eq_some_iff.1 h1).1
  unfold encRd at hr
  have hc : ((r.s.length : Int) ≤ (r.at_ : Int)) = False := eq_false (by omega)
  have hw1 : IntKind.i64.wrap ((r.at_ : Int) + 1) = ((r.at_ + 1 : Nat) : Int) := Go.IntWalk.i64_in _ (by omega)
  have hw2 : IntKind.i64.wrap (((r.at_ + 1 : Nat) : Int) - 1) = (r.at_ : Int) := by rw [Go.IntWalk.i64_in _ (by omega)]; omega
  repeat' (first
   |with_reducible first|refine vSq fun K hK=>?_|refine vRg ?_|refine vBl ?_|refine vSc ?_|refine vIf ?_|refine vSk ?_|refine vEx ?_|refine vRt ?_
   |(with_reducible first|refine gNt (fun h=>?_) (fun h=>?_)|refine gCs (fun h=>?_) (fun h=>?_))<;>(try simp only[h])
   |with_reducible first|(refine hK _ ?_;clear hK K)|(clear hK K;refine hK _ ?_;clear hK K)|(clear hK K;clear hK K;refine hK _ ?_;clear hK K)|(clear hK K;clear hK K;clear hK K;refine hK _ ?_;clear hK K)
   |(with_reducible refine todo ?_;simp +decide only[go_sem, hr, hc, hw1, hw2, h1]))
  refine RetR_rd hw (by rw [hr]; simp) (encRd_D _) rfl (by simp +decide only [go_sem]) True.intro ?_ ?_ rfl
  · simp +decide only [go_sem, encRd]
  · intro i hi
    simp +decide only [go_sem, hi]
end rd
end Go.Proofs

namespace Go.Proofs
open Go.PW
def short : Value := .iface 107 (.agg #[.int .i64 8])
section rd
variable {H : HMap} {A : AMap} {id : Nat} {r : Rd}
set_option maxRecDepth 8000 in
set_option maxHeartbeats 8000000 in
theorem Try.kNextP (off : Nat) (hr : H id = some (encRd r)) (h1 : r.s.length ≤ r.at_) : EffPan Try.prog 84 off H A [.c (.ptr id 0)] short H A := by
  refine effp_ok (E := envOf Try.prog [] off [] []) Try.func84 rfl Try.call84 (by exact Nat.le_of_ble_eq_true rfl) (fun hab => ?_)
  unfold encRd at hr
  have hc : ((r.s.length : Int) ≤ (r.at_ : Int)) = True := eq_true (by omega)
  repeat' (first
    | with_reducible refine VX_seqK fun K hK => ?_
    | refine VX_panic3 (x := .int .i64 8) (envOf_ok Try.mixed) (by rfl) rfl rfl rfl (by decide) rfl rfl (by kernel_rfl) ?_
    | with_reducible refine VX_block ?_
    | with_reducible refine VX_scope ?_
    | with_reducible refine VX_if ?_
    | with_reducible refine VX_skip ?_
    | with_reducible refine VX_exit ?_
    | with_reducible refine VX_ret ?_
    | refine VX_region (envOf_ok Try.mixed) (by kernel_rfl) ?_
    | (with_reducible refine hK _ ?_; clear hK K)
    | (clear hK K; with_reducible refine hK _ ?_; clear hK K)
    | (with_reducible refine todo ?_; simp +decide only [go_sem, hr, hc]))
  exact fun _ => rfl
set_option maxRecDepth 8000 in
set_option maxHeartbeats 8000000 in
theorem Try.kUintP (off : Nat) (hw : Wf H A) (hr : H id = some (encRd r)) (h1 : r.s.length ≤ r.at_) : EffPan Try.prog 78 off H A [.c (.ptr id 0)] short H A := by
  refine effp_ok (E := envOf Try.prog [84] off [] []) Try.func78 rfl Try.call78 (by exact Nat.le_of_ble_eq_true rfl) (fun hab => ?_)
  have kp := Try.kNextP (A := A) (off + 1000) hr h1
  have hptr : ∀ {A1 A2 : AMap}, PV.wk (hOver [] H) A1 A2 (.c (.ptr id 0)) (.c (.ptr id 0)) = True := eq_true (wkP_ptr (by show H id ≠ none; rw [hr]; simp))
  repeat' (first
    | with_reducible refine VX_seqK fun K hK => ?_
    | with_reducible refine VX_block ?_
    | with_reducible refine VX_scope ?_
    | with_reducible refine VX_if ?_
    | with_reducible refine VX_skip ?_
    | with_reducible refine VX_exit ?_
    | with_reducible refine VX_ret ?_
    | refine VX_region (envOf_ok Try.mixed) (by kernel_rfl) ?_
    | (with_reducible refine hK _ ?_; clear hK K)
    | (clear hK K; with_reducible refine hK _ ?_; clear hK K)
    | (with_reducible refine todo ?_; simp +decide only [go_sem]))
  refine VX_loop (ι := Unit) (fun _ => over [(0, .c (.ptr id 0)), (3, pD (.lit (.int .u64 0))), (6, pD (.lit (.int .i64 0)))] [] H A) (fun _ => 0) () ?_ ?_
  · refine Weak_over hw kp_refl rfl ?_ ?_
    · simp +decide only [go_sem, hptr]
    · simp +decide only [go_sem]
  · intro _
    repeat' (first
      | with_reducible refine VX_seqK fun K hK => ?_
      | refine VX_callp3 (x := short) (H' := H) (A' := A) (envOf_ok Try.mixed) (by rfl) rfl rfl ?_
      | with_reducible refine VX_block ?_
      | with_reducible refine VX_scope ?_
      | with_reducible refine VX_if ?_
      | with_reducible refine VX_skip ?_
      | with_reducible refine VX_exit ?_
      | with_reducible refine VX_ret ?_
      | refine VX_region (envOf_ok Try.mixed) (by kernel_rfl) ?_
      | (with_reducible refine hK _ ?_; clear hK K)
      | (clear hK K; with_reducible refine hK _ ?_; clear hK K)
      | (with_reducible refine todo ?_; simp +decide only [go_sem]))
    exact ⟨Above_mono hab (by omega), kp, fun _ => True.intro⟩
end rd
end Go.Proofs
