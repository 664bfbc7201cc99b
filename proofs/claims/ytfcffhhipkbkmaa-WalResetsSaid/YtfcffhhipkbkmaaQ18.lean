import Derived.Test.YtfcffhhipkbkmaaQ17

/-
  The disk: a flush.
-/

namespace Go.Proofs
open Go.PW

def layAll (m : List (Int × List UInt8)) (l : List (Int × List UInt8)) : List (Int × List UInt8) := l.foldl layN m
def flD (d : Dk) : Dk := { d with left := IntKind.i64.wrap (d.left - 1), stays := layAll d.stays d.cache, cache := [], flushes := IntKind.i64.wrap (d.flushes + 1) }
theorem upd_twice {α β : Type} [DecidableEq α] {f : α → β} {a : α} {x y : β} : upd (upd f a x) a y = upd f a y := by
  funext t
  by_cases h : t = a
  · subst h; rw [upd_same, upd_same]
  · rw [upd_other _ _ h, upd_other _ _ h, upd_other _ _ h]
theorem upd_self {α β : Type} [DecidableEq α] {f : α → β} {a : α} {x : β} (h : f a = x) : upd f a x = f := by
  funext t
  by_cases e : t = a
  · subst e; rw [upd_same, h]
  · rw [upd_other _ _ e]
theorem Weak_overG {H0 H : HMap} {A0 A : AMap} {S : St} {l : List (Nat × PV)} {h : List (Nat × List CV)} (hw : Wf H A) (hb : ∀ id, H id ≠ none → S.H id = H id) (hA : S.A = A) (h1 : keepP (hOver h H) A A S.ρ l) (h2 : keepH (hOver h H) A A S.H h)
    (kH : ∀ id, H0 id ≠ none → H id ≠ none) (kA : ∀ κ, A0 κ ≠ none → A κ ≠ none) : Weak H0 A0 S (over l h H A) :=
  have w := Weak_over hw hb hA h1 h2
  ⟨w.ρ, w.H, w.A, fun id e => w.kH id (kH id e), fun κ e => w.kA κ (kA κ e)⟩
theorem Wf_set {H : HMap} {A A' : AMap} {id : Nat} {cs : List CV} (hw : Wf H A) (hc : ∀ c ∈ cs, c.ok (fun i => upd H id (some cs) i ≠ none) (fun κ => A' κ ≠ none)) (h4 : ∀ κ, A κ ≠ none → A' κ ≠ none) : Wf (upd H id (some cs)) A' := fun i ds c hd hc' => by
  rw [upd_apply'] at hd
  split at hd
  · cases hd; exact hc c hc'
  · refine ok_mono (fun i hi => ?_) h4 (hw i ds c hd hc')
    rw [upd_apply']; split
    · simp
    · exact hi

section disk
variable {H : HMap} {A : AMap} {id : Nat} {κm κc κ' : Tok} {d : Dk}
theorem DkAt.ne (hd : DkAt H A id κm κc d) : κc ≠ κm := fun e => by have := hd.c; rw [e, hd.m] at this; cases this
/-- A disk that has changed. -/
theorem DkAt.set (hd : DkAt H A id κm κc d) (d' : Dk) : DkAt (upd H id (some (encDk κm κc d'))) (upd (upd A κm (some (.mp (encNS d'.stays)))) κc (some (.co 2 d'.cache.length))) id κm κc d' :=
  ⟨upd_same _ _ _, by rw [upd_other _ _ hd.ne.symm, upd_same], upd_same _ _ _⟩
theorem DkAt.wf (hw : Wf H A) (hd : DkAt H A id κm κc d) (d' : Dk) {A' : AMap} (h4 : ∀ κ, A κ ≠ none → A' κ ≠ none) : Wf (upd H id (some (encDk κm κc d'))) A' :=
  Wf_set hw (DkAt.ok (h4 κm (by rw [hd.m]; simp)) (h4 κc (by rw [hd.c]; simp))) h4
theorem DkAt.updH (hd : DkAt H A id κm κc d) {u : Nat} {x : Option (List CV)} (h : id ≠ u) : DkAt (upd H u x) A id κm κc d := ⟨by rw [upd_other _ _ h]; exact hd.h, hd.m, hd.c⟩
theorem DkAt.lt (hd : DkAt H A id κm κc d) {off : Nat} (hab : Above off H A) : id < off ∧ κm.1 < off ∧ κc.1 < off := by
  refine ⟨?_, ?_, ?_⟩
  · refine Nat.lt_of_not_le fun h => ?_
    have := hd.h; rw [(hab id h).1] at this; cases this
  · refine Nat.lt_of_not_le fun h => ?_
    have := hd.m; rw [(hab κm.1 h).2 κm.2] at this; cases this
  · refine Nat.lt_of_not_le fun h => ?_
    have := hd.c; rw [(hab κc.1 h).2 κc.2] at this; cases this
def encDkF (κm : Tok) (d : Dk) : List CV := [.d (.lit (.int .i64 d.n)), .mpr κm, .full [], .d (.lit (.int .i64 d.writes)), .d (.lit (.int .i64 d.flushes)), .d (.lit (.bool d.fused)), .d (.lit (.int .i64 d.left))]
/-- The end of what makes the disk forget what is not flushed. -/
theorem DkAt.retF {P : Program} {fn : Func} {v p : PV} {S : St} {d' : Dk} (hw : Wf H A) (hd : DkAt H A id κm κc d) (he : d'.cache = []) (hp : resPVs P S fn.results.toList = some p)
    (hv : PV.wk (upd H id (some (encDk κm κ' d'))) S.A (upd (upd A κm (some (.mp (encNS d'.stays)))) κ' (some (.co 2 0))) v p) (hok : v.oks (fun i => upd H id (some (encDk κm κ' d')) i ≠ none) (fun κ => upd (upd A κm (some (.mp (encNS d'.stays)))) κ' (some (.co 2 0)) κ ≠ none))
    (h1 : S.H id = some (encDkF κm d')) (h2 : ∀ i, i ≠ id → H i ≠ none → S.H i = H i) (h3 : S.A = upd A κm (some (.mp (encNS d'.stays)))) (hκ : A κ' = none) :
    RetR P fn H A v (upd H id (some (encDk κm κ' d'))) (upd (upd A κm (some (.mp (encNS d'.stays)))) κ' (some (.co 2 0))) S := by
  have hne : κ' ≠ κm := fun e => by rw [e, hd.m] at hκ; cases hκ
  have hSκ : S.A κ' = none := by rw [h3, upd_other _ _ hne]; exact hκ
  have hA : ∀ κ, κ ≠ κ' → upd (upd A κm (some (.mp (encNS d'.stays)))) κ' (some (.co 2 0)) κ = S.A κ := fun κ h => by rw [upd_other _ _ h, h3]
  have hκ2 : upd (upd A κm (some (.mp (encNS d'.stays)))) κ' (some (.co 2 0)) κ' = some (.co 2 0) := upd_same _ _ _
  have hmm : upd (upd A κm (some (.mp (encNS d'.stays)))) κ' (some (.co 2 0)) κm = some (.mp (encNS d'.stays)) := by rw [upd_other _ _ hne.symm, upd_same]
  refine RetR_set hp hv hok hw (by rw [hd.h]; simp) h1 ?_ (DkAt.ok (H := upd H id (some (encDk κm κ' d'))) (d := d') (by rw [hmm]; simp) (by rw [hκ2]; simp)) h2 (fun κ => ?_) (fun κ h => ?_)
  · unfold encDk encDkF
    rw [he]
    refine ⟨?_, ?_, ?_, ?_, ?_, ?_, ?_, True.intro⟩
    · rw [wk_d]; exact True.intro
    · exact .inr (.inl ⟨rfl, by rw [hmm]; simp, by rw [hmm, h3, upd_same]⟩)
    · exact .inr (.inr (.inr (.inl ⟨rfl, κ', 2, rfl, hSκ, hκ2⟩)))
    · rw [wk_d]; exact True.intro
    · rw [wk_d]; exact True.intro
    · rw [wk_d]; exact True.intro
    · rw [wk_d]; exact True.intro
  · by_cases e : κ = κ'
    · subst e; exact .inr (.inr ⟨hSκ, 2, .inl hκ2⟩)
    · exact .inr (.inl (hA κ e))
  · have e : κ ≠ κ' := fun e => h (by rw [e]; exact hκ)
    have h5 : upd (upd A κm (some (.mp (encNS d'.stays)))) κ' (some (.co 2 0)) κ ≠ none := by
      rw [upd_other _ _ e]; exact upd_keep κ h
    exact ⟨h5, hA κ e⟩
set_option maxRecDepth 8000 in
set_option maxHeartbeats 16000000 in
theorem Try.kFlushNo (off : Nat) (hw : Wf H A) (hd : DkAt H A id κm κc d) (hn : 0 < d.n) (hb : burnt d = true) : EffOK Try.prog 41 off H A [.c (.ptr id 0)] (pD (.lit (.int .i64 6))) H A := by
  refine effr_ok (E := envOf Try.prog [31, 54, 42] off [] []) (envOf_ok Try.mixed) Try.func41 rfl Try.call41 (by kernel_rfl) (by exact Nat.le_of_ble_eq_true rfl) (fun hab => ?_)
  have kl := Try.kLen (off + 1000) hw hd
  have kb := Try.kBurnt (off + 1000) hw hd
  rw [hb] at kb
  have hz : ((d.n : Int) == 0) = false := by rw [beq_eq_false_iff_ne]; omega
  repeat' (first
    | with_reducible refine VC_seq fun K hK => ?_
    | with_reducible refine W_region ?_
    | with_reducible refine VC_block ?_
    | with_reducible refine VC_scope ?_
    | with_reducible refine VC_if ?_
    | with_reducible refine VC_skip ?_
    | with_reducible refine VC_exit ?_
    | with_reducible refine VC_ret ?_
    | (with_reducible refine G_not (fun h => ?_) (fun h => ?_) <;> (try simp only [h]))
    | (with_reducible refine G_cases (fun h => ?_) (fun h => ?_) <;> (try simp only [h]))
    | refine C_call rfl kl rfl (Above_mono hab (by omega)) ?_
    | refine C_call rfl kb rfl (Above_mono hab (by omega)) ?_
    | (with_reducible refine hK _ ?_; clear hK K)
    | (clear hK K; with_reducible refine hK _ ?_; clear hK K)
    | (clear hK K; clear hK K; with_reducible refine hK _ ?_; clear hK K)
    | (clear hK K; clear hK K; clear hK K; with_reducible refine hK _ ?_; clear hK K)
    | (with_reducible refine todo ?_; simp +decide only [go_sem, hz]))
  exact RetR_same rfl (by simp +decide only [go_sem]) True.intro hw kp_refl (fun _ _ => rfl)
set_option maxRecDepth 8000 in
set_option maxHeartbeats 16000000 in
theorem Try.kFlush (off : Nat) (hw : Wf H A) (hd : DkAt H A id κm κc d) (hn : 0 < d.n) (hl : d.cache.length ≤ 1000000) (hb : burnt d = false) (hκ : A κ' = none) :
    EffOK Try.prog 41 off H A [.c (.ptr id 0)] (pD (.lit (.int .i64 0))) (upd H id (some (encDk κm κ' (flD d)))) (upd (upd A κm (some (.mp (encNS (flD d).stays)))) κ' (some (.co 2 0))) := by
  refine effr_ok (E := envOf Try.prog [31, 54, 42] off [] []) (envOf_ok Try.mixed) Try.func41 rfl Try.call41 (by kernel_rfl) (by exact Nat.le_of_ble_eq_true rfl) (fun hab => ?_)
  have kl := Try.kLen (off + 1000) hw hd
  have kb := Try.kBurnt (off + 1000) hw hd
  rw [hb] at kb
  have hz : ((d.n : Int) == 0) = false := by rw [beq_eq_false_iff_ne]; omega
  have hid := hd.h
  unfold encDk at hid
  have hlt := hd.lt hab
  have hn4 : H (off + 4) = none := (hab _ (Nat.le_add_right _ _)).1
  have hne4 : off + 4 ≠ id := by omega
  have hw1 : ∀ i, Wf (upd H id (some (encDk κm κc { d with left := IntKind.i64.wrap (d.left - 1) }))) (upd A κm (some (.mp (encNS (layAll d.stays (d.cache.take i)))))) := fun i => DkAt.wf hw hd _ upd_keep
  have hd1 : ∀ i, DkAt (upd H id (some (encDk κm κc { d with left := IntKind.i64.wrap (d.left - 1) }))) (upd A κm (some (.mp (encNS (layAll d.stays (d.cache.take i)))))) id κm κc { d with left := IntKind.i64.wrap (d.left - 1), stays := layAll d.stays (d.cache.take i) } :=
    fun i => ⟨upd_same _ _ _, upd_same _ _ _, by rw [upd_other _ _ hd.ne]; exact hd.c⟩
  have hptr : ∀ {A1 A2 : AMap} {x : List CV}, PV.wk (hOver [] (upd H id (some x))) A1 A2 (.c (.ptr id 0)) (.c (.ptr id 0)) = True := eq_true (wkP_ptr (by show upd _ _ _ _ ≠ none; rw [upd_same]; simp))
  repeat' (first
    | with_reducible refine VC_seq fun K hK => ?_
    | with_reducible refine W_region ?_
    | with_reducible refine VC_block ?_
    | with_reducible refine VC_scope ?_
    | with_reducible refine VC_if ?_
    | with_reducible refine VC_skip ?_
    | with_reducible refine VC_exit ?_
    | with_reducible refine VC_ret ?_
    | (with_reducible refine G_not (fun h => ?_) (fun h => ?_) <;> (try simp only [h]))
    | (with_reducible refine G_cases (fun h => ?_) (fun h => ?_) <;> (try simp only [h]))
    | refine C_call rfl kl rfl (Above_mono hab (by omega)) ?_
    | refine C_call rfl kb rfl (Above_mono hab (by omega)) ?_
    | (with_reducible refine hK _ ?_; clear hK K)
    | (clear hK K; with_reducible refine hK _ ?_; clear hK K)
    | (clear hK K; clear hK K; with_reducible refine hK _ ?_; clear hK K)
    | (clear hK K; clear hK K; clear hK K; with_reducible refine hK _ ?_; clear hK K)
    | (with_reducible refine todo ?_; simp +decide only [go_sem, hz, hid]))
  refine VC_range d.cache.length (fun _ => True) (fun i => over [(0, .c (.ptr id 0)), (22, .c (.d (.sl (d.cache.map encW)))), (23, pD (.lit (.int .i64 d.cache.length))), (24, pD (.lit (.int .i64 i)))] []
    (upd H id (some (encDk κm κc { d with left := IntKind.i64.wrap (d.left - 1) }))) (upd A κm (some (.mp (encNS (layAll d.stays (d.cache.take i))))))) True.intro ?_ ?_
  · refine Weak_overG (hw1 0) (fun _ _ => rfl) (upd_self hd.m).symm ?_ ?_ (fun i hi => ?_) upd_keep
    · simp +decide only [go_sem, hptr]
    · simp +decide only [go_sem]
    · rw [upd_apply']; split
      · simp
      · exact hi
  · intro i hi _
    rcases Nat.lt_or_ge i d.cache.length with hi2 | hi2
    · have hc := int_lt_true hi2
      have hnx := int_next hi2 (by omega)
      have h3 : d.cache[i]? = some d.cache[i] := List.getElem?_eq_getElem hi2
      have hst : layAll d.stays (d.cache.take (i + 1)) = layN (layAll d.stays (d.cache.take i)) d.cache[i] := by
        unfold layAll
        rw [List.take_add_one, h3, Option.toList_some, List.foldl_append]
        rfl
      have hwi := hw1 i
      have hdi := hd1 i
      generalize d.cache[i] = x at *
      repeat' (first
        | with_reducible refine VC_seq fun K hK => ?_
        | with_reducible refine W_region ?_
        | with_reducible refine VC_block ?_
        | with_reducible refine VC_scope ?_
        | with_reducible refine VC_if ?_
        | with_reducible refine VC_skip ?_
        | with_reducible refine VC_exit ?_
        | with_reducible refine VC_ret ?_
        | (with_reducible refine G_not (fun h => ?_) (fun h => ?_) <;> (try simp only [h]))
        | (with_reducible refine G_cases (fun h => ?_) (fun h => ?_) <;> (try simp only [h]))
        | refine C_call rfl (Try.kLay (off + 1000) (Wf_upd (Wf_upd hwi rfl) rfl) ((hdi.updH hne4.symm).updH hne4.symm) x) rfl (Above_updH (Above_updH (Above_updA (Above_updH (Above_mono hab (by omega)) (by omega)) (by omega)) (by omega)) (by omega)) ?_
        | (with_reducible refine hK _ ?_; clear hK K)
        | (clear hK K; with_reducible refine hK _ ?_; clear hK K)
        | (clear hK K; clear hK K; with_reducible refine hK _ ?_; clear hK K)
        | (clear hK K; clear hK K; clear hK K; with_reducible refine hK _ ?_; clear hK K)
        | (with_reducible refine todo ?_; simp +decide only [go_sem, hc, hnx, h3, hn4, hne4]))
      refine Next_of hi2 True.intro (Weak_overG (hw1 (i + 1)) ?_ ?_ ?_ ?_ (fun i hi => ?_) upd_keep)
      · exact kp_upd (by rw [upd_other _ _ hne4]; exact hn4) (kp_upd (by rw [upd_other _ _ hne4]; exact hn4) kp_refl)
      · rw [hst]
        exact upd_twice
      · simp +decide only [go_sem, hptr]
      · simp +decide only [go_sem]
      · rw [upd_apply']; split
        · simp
        · exact hi
    · have hc := int_lt_false hi2
      repeat' (first
        | with_reducible refine VC_seq fun K hK => ?_
        | with_reducible refine W_region ?_
        | with_reducible refine VC_block ?_
        | with_reducible refine VC_scope ?_
        | with_reducible refine VC_if ?_
        | with_reducible refine VC_skip ?_
        | with_reducible refine VC_exit ?_
        | with_reducible refine VC_ret ?_
        | (with_reducible refine G_not (fun h => ?_) (fun h => ?_) <;> (try simp only [h]))
        | (with_reducible refine G_cases (fun h => ?_) (fun h => ?_) <;> (try simp only [h]))
        | (with_reducible refine hK _ ?_; clear hK K)
        | (clear hK K; with_reducible refine hK _ ?_; clear hK K)
        | (clear hK K; clear hK K; with_reducible refine hK _ ?_; clear hK K)
        | (clear hK K; clear hK K; clear hK K; with_reducible refine hK _ ?_; clear hK K)
        | (with_reducible refine todo ?_; simp +decide only [go_sem, hc, encDk]))
      refine DkAt.retF (d' := flD d) hw hd rfl rfl (by simp +decide only [go_sem]) True.intro ?_ ?_ ?_ hκ
      · simp +decide only [go_sem, flD, encDkF]
      · intro j hj hjn
        simp +decide only [go_sem, hj]
      · rw [show d.cache.take i = d.cache from List.take_of_length_le hi2]
        simp +decide only [go_sem, flD]
end disk
end Go.Proofs

/-
  Functions that hand back a new object; a new disk.
-/

namespace Go.PW
theorem im_same {f : Nat → Nat} {h : Tok → Tok} {hk : Nat → Prop} {tk : Tok → Prop} (h1 : ∀ i, hk i → f i = i) (h2 : ∀ κ, tk κ → h κ = κ) {c : CV} (hc : c.ok hk tk) : c.im f h = c := by
  cases c with
  | own κ els => show CV.own (h κ) els = _; rw [h2 κ hc]
  | mt κ sz n => show CV.mt (h κ) sz n = _; rw [h2 κ hc]
  | mptr κ sz n i o => show CV.mptr (h κ) sz n i o = _; rw [h2 κ hc]
  | ptr id o => show CV.ptr (f id) o = _; rw [h1 id hc]
  | fn k caps =>
    show CV.fn k (caps.map fun p => (f p.1, p.2)) = _
    congr 1
    refine (List.map_congr_left fun p hp => ?_).trans (List.map_id caps)
    show (f p.1, p.2) = p
    rw [h1 _ (hc p hp)]
  | mpr κ => show CV.mpr (h κ) = _; rw [h2 κ hc]
  | _ => rfl
def swp (id i' : Nat) (i : Nat) : Nat := if i = id then i' else i
/-- The end: a new object is handed back; its names are the caller's. -/
theorem RetR_obj {P : Program} {fn : Func} {H H1 : HMap} {A A1 A' A'' : AMap} {v p : PV} {S : St} {id i' : Nat} {cs ds : List CV} {h : Tok → Tok} (hp : resPVs P S fn.results.toList = some p)
    (hv : PV.wk (upd H1 i' (some (cs.map (CV.im (swp id i') h)))) S.A A'' (v.im (swp id i') h) p) (hok : v.oks (fun i => upd H1 id (some cs) i ≠ none) (fun κ => A' κ ≠ none)) (hw : Wf H1 A1) (k1 : ∀ i, H i ≠ none → H1 i ≠ none) (k2 : ∀ κ, A κ ≠ none → A1 κ ≠ none)
    (hid : H1 id = none) (hi' : H1 i' = none) (hcok : ∀ c ∈ cs, c.ok (fun i => upd H1 id (some cs) i ≠ none) (fun κ => A' κ ≠ none))
    (hS : ∀ i es, H1 i = some es → ∃ ds, S.H i = some ds ∧ wkCells (upd H1 i' (some (cs.map (CV.im (swp id i') h)))) S.A A'' es ds) (hSi : S.H i' = some ds) (hSw : wkCells (upd H1 i' (some (cs.map (CV.im (swp id i') h)))) S.A A'' (cs.map (CV.im (swp id i') h)) ds)
    (hh : ∀ κ, A1 κ ≠ none → h κ = κ ∧ A' κ ≠ none) (hA : ∀ κ ar, A' κ = some ar → A'' (h κ) = some ar) (iA : ∀ i j, A' i ≠ none → A' j ≠ none → h i = h j → i = j)
    (hSA : ∀ κ, A'' κ = none ∨ A'' κ = S.A κ ∨ (S.A κ = none ∧ ∃ sz, A'' κ = some (.co sz 0) ∨ A'' κ = some (.mu sz []))) : RetR P fn H A v (upd H1 id (some cs)) A' S := by
  have hne : ∀ i, H1 i ≠ none → i ≠ id ∧ i ≠ i' := fun i hi => ⟨fun e => hi (by rw [e]; exact hid), fun e => hi (by rw [e]; exact hi')⟩
  have hsw : ∀ i, H1 i ≠ none → swp id i' i = i := fun i hi => if_neg (hne i hi).1
  have kk : ∀ i, H1 i ≠ none → upd H1 id (some cs) i ≠ none := fun i hi => by rw [upd_other _ _ (hne i hi).1]; exact hi
  refine ⟨p, ⟨fun _ => v.im (swp id i') h, upd H1 i' (some (cs.map (CV.im (swp id i') h))), A''⟩, swp id i', h, hp, ⟨fun _ => hv, fun i => ?_, hSA, fun i hi => ?_, fun κ hκ => ?_⟩, rfl, hok, ⟨fun i hi => ⟨hsw i (k1 i hi), kk i (k1 i hi)⟩, fun κ hκ => hh κ (k2 κ hκ), ?_, iA, ?_, hA⟩⟩
  · show upd H1 i' _ i = none ∨ _
    by_cases e : i = i'
    · subst e
      obtain ⟨h3, h4⟩ := wkCells_spec hSw
      exact .inr ⟨_, ds, upd_same _ _ _, hSi, h3, h4⟩
    · cases hi : H1 i with
      | none => exact .inl (by rw [upd_other _ _ e]; exact hi)
      | some es =>
        obtain ⟨ds', h1, h2⟩ := hS i es hi
        obtain ⟨h3, h4⟩ := wkCells_spec h2
        exact .inr ⟨es, ds', by show upd H1 i' _ i = _; rw [upd_other _ _ e]; exact hi, h1, h3, h4⟩
  · show upd H1 i' _ i ≠ none
    rw [upd_other _ _ (hne i (k1 i hi)).2]
    exact k1 i hi
  · show A'' κ ≠ none
    obtain ⟨h1, h2⟩ := hh κ (k2 κ hκ)
    cases hc : A' κ with
    | none => exact (h2 hc).elim
    | some ar => have := hA κ ar hc; rw [h1] at this; rw [this]; simp
  · intro i j hi hj e
    have val : ∀ i, upd H1 id (some cs) i ≠ none → (i = id ∧ swp id i' i = i') ∨ (H1 i ≠ none ∧ swp id i' i = i) := fun i hi => by
      by_cases e : i = id
      · exact .inl ⟨e, if_pos e⟩
      · rw [upd_other _ _ e] at hi
        exact .inr ⟨hi, if_neg e⟩
    rcases val i hi with ⟨a1, a2⟩ | ⟨a1, a2⟩ <;> rcases val j hj with ⟨b1, b2⟩ | ⟨b1, b2⟩ <;> rw [a2, b2] at e
    · rw [a1, b1]
    · exact ((hne j b1).2 e.symm).elim
    · exact ((hne i a1).2 e).elim
    · exact e
  · intro j es hj
    show upd H1 i' _ (swp id i' j) = _ ∧ _
    by_cases e : j = id
    · subst e
      rw [upd_same] at hj
      cases hj
      exact ⟨by rw [show swp j i' j = i' from if_pos rfl, upd_same], hcok⟩
    · rw [upd_other _ _ e] at hj
      have hj' : H1 j ≠ none := by rw [hj]; simp
      have hes : ∀ c ∈ es, c.ok (fun i => H1 i ≠ none) (fun κ => A1 κ ≠ none) := fun c hc => hw j es c hj hc
      refine ⟨?_, fun c hc => ok_mono kk (fun κ hκ => (hh κ hκ).2) (hes c hc)⟩
      rw [hsw j hj', upd_other _ _ (hne j hj').2, hj]
      congr 1
      exact ((List.map_congr_left fun c hc => im_same hsw (fun κ hκ => (hh κ hκ).1) (hes c hc)).trans (List.map_id es)).symm
def swt (κ a : Tok) (τ : Tok) : Tok := if τ = κ then a else τ
theorem tok1 {A : AMap} {κ a : Tok} {r : Arr} (h1 : A κ = none) (h2 : A a = none) : (∀ τ, A τ ≠ none → swt κ a τ = τ ∧ upd A κ (some r) τ ≠ none) ∧ (∀ τ ar, upd A κ (some r) τ = some ar → upd A a (some r) (swt κ a τ) = some ar) ∧
    (∀ i j, upd A κ (some r) i ≠ none → upd A κ (some r) j ≠ none → swt κ a i = swt κ a j → i = j) := by
  have n1 : ∀ τ, A τ ≠ none → τ ≠ κ ∧ τ ≠ a := fun τ h => ⟨fun e => h (by rw [e]; exact h1), fun e => h (by rw [e]; exact h2)⟩
  have val : ∀ i, upd A κ (some r) i ≠ none → (i = κ ∧ swt κ a i = a) ∨ (A i ≠ none ∧ swt κ a i = i) := fun i hi => by
    by_cases e : i = κ
    · exact .inl ⟨e, if_pos e⟩
    · rw [upd_other _ _ e] at hi
      exact .inr ⟨hi, if_neg e⟩
  refine ⟨fun τ h => ⟨if_neg (n1 τ h).1, by rw [upd_other _ _ (n1 τ h).1]; exact h⟩, fun τ ar h => ?_, fun i j hi hj e => ?_⟩
  · rcases val τ (by rw [h]; simp) with ⟨b1, b2⟩ | ⟨b1, b2⟩
    · rw [b2, upd_same]; rw [b1, upd_same] at h; exact h
    · rw [b2, upd_other _ _ (n1 τ b1).2]; rw [upd_other _ _ (n1 τ b1).1] at h; exact h
  · rcases val i hi with ⟨a1, a2⟩ | ⟨a1, a2⟩ <;> rcases val j hj with ⟨b1, b2⟩ | ⟨b1, b2⟩ <;> rw [a2, b2] at e
    · rw [a1, b1]
    · exact ((n1 j b1).2 e.symm).elim
    · exact ((n1 i a1).2 e).elim
    · exact e
theorem tok2 {A : AMap} {κ1 κ2 a1 a2 : Tok} {r1 r2 : Arr} (h1 : A κ1 = none) (h2 : A κ2 = none) (h3 : A a1 = none) (h4 : A a2 = none) (n1 : κ1 ≠ κ2) (n2 : a1 ≠ a2) : ∃ h : Tok → Tok, h κ1 = a1 ∧ h κ2 = a2 ∧ (∀ τ, A τ ≠ none → h τ = τ ∧ upd (upd A κ1 (some r1)) κ2 (some r2) τ ≠ none) ∧
    (∀ τ ar, upd (upd A κ1 (some r1)) κ2 (some r2) τ = some ar → upd (upd A a1 (some r1)) a2 (some r2) (h τ) = some ar) ∧
    (∀ i j, upd (upd A κ1 (some r1)) κ2 (some r2) i ≠ none → upd (upd A κ1 (some r1)) κ2 (some r2) j ≠ none → h i = h j → i = j) := by
  have e1 : (fun τ => if τ = κ1 then a1 else if τ = κ2 then a2 else τ) κ1 = a1 := if_pos rfl
  have e2 : (fun τ => if τ = κ1 then a1 else if τ = κ2 then a2 else τ) κ2 = a2 := by show (if κ2 = κ1 then a1 else if κ2 = κ2 then a2 else κ2) = a2; rw [if_neg n1.symm, if_pos rfl]
  have e3 : ∀ τ, A τ ≠ none → (fun τ => if τ = κ1 then a1 else if τ = κ2 then a2 else τ) τ = τ := fun τ h => by
    show (if τ = κ1 then a1 else if τ = κ2 then a2 else τ) = τ
    rw [if_neg (fun e => h (by rw [e]; exact h1)), if_neg (fun e => h (by rw [e]; exact h2))]
  generalize (fun τ => if τ = κ1 then a1 else if τ = κ2 then a2 else τ) = h at *
  have ne : ∀ τ, A τ ≠ none → τ ≠ κ1 ∧ τ ≠ κ2 ∧ τ ≠ a1 ∧ τ ≠ a2 := fun τ h => ⟨fun e => h (by rw [e]; exact h1), fun e => h (by rw [e]; exact h2), fun e => h (by rw [e]; exact h3), fun e => h (by rw [e]; exact h4)⟩
  have val : ∀ i, upd (upd A κ1 (some r1)) κ2 (some r2) i ≠ none → i = κ1 ∨ i = κ2 ∨ A i ≠ none := fun i hi => by
    by_cases e : i = κ2
    · exact .inr (.inl e)
    · rw [upd_other _ _ e] at hi
      by_cases e' : i = κ1
      · exact .inl e'
      · rw [upd_other _ _ e'] at hi
        exact .inr (.inr hi)
  refine ⟨h, e1, e2, fun τ hτ => ⟨e3 τ hτ, by rw [upd_other _ _ (ne τ hτ).2.1, upd_other _ _ (ne τ hτ).1]; exact hτ⟩, fun τ ar hτ => ?_, fun i j hi hj e => ?_⟩
  · rcases val τ (by rw [hτ]; simp) with b | b | b
    · subst b
      rw [e1, upd_other _ _ n2, upd_same]
      rw [upd_other _ _ n1, upd_same] at hτ; exact hτ
    · subst b
      rw [e2, upd_same]
      rw [upd_same] at hτ; exact hτ
    · rw [e3 τ b, upd_other _ _ (ne τ b).2.2.2, upd_other _ _ (ne τ b).2.2.1]
      rw [upd_other _ _ (ne τ b).2.1, upd_other _ _ (ne τ b).1] at hτ; exact hτ
  · rcases val i hi with b | b | b <;> rcases val j hj with c | c | c
    · rw [b, c]
    · rw [b, c, e1, e2] at e; exact (n2 e).elim
    · rw [b, e1, e3 j c] at e; exact ((ne j c).2.2.1 e.symm).elim
    · rw [b, c, e1, e2] at e; exact (n2 e.symm).elim
    · rw [b, c]
    · rw [b, e2, e3 j c] at e; exact ((ne j c).2.2.2 e.symm).elim
    · rw [c, e1, e3 i b] at e; exact ((ne i b).2.2.1 e).elim
    · rw [c, e2, e3 i b] at e; exact ((ne i b).2.2.2 e).elim
    · rw [e3 i b, e3 j c] at e; exact e
theorem wk_pairP {H' : HMap} {A A' : AMap} {id : Nat} {y : D} (h : H' id ≠ none) : PV.wk H' A A' (.tup [.c (.ptr id 0), .c (.d y)]) (.tup [.c (.ptr id 0), .c (.d y)]) := by
  refine ⟨rfl, fun k a b h1 h2 => ?_⟩
  rw [h1] at h2
  cases h2
  match k, h1 with
  | 0, e => cases e; exact .inr (.inl ⟨rfl, h⟩)
  | 1, e => cases e; exact .inr (.inl ⟨rfl, True.intro⟩)
theorem oks_pairP {hk : Nat → Prop} {tk : Tok → Prop} {id : Nat} {y : D} (h : hk id) : PV.oks hk tk (.tup [.c (.ptr id 0), .c (.d y)]) := fun z hz => by
  rcases List.mem_cons.1 hz with rfl | hz
  · exact h
  · rw [List.mem_singleton.1 hz]; exact True.intro
end Go.PW
namespace Go.Proofs
open Go.PW
def newD (n : Nat) : Dk := ⟨n, [], [], 0, 0, false, 0⟩
section disk
variable {H : HMap} {A : AMap} {id : Nat} {κm κc κ' : Tok} {d : Dk}
set_option maxRecDepth 8000 in
set_option maxHeartbeats 16000000 in
theorem Try.kDiskNew (off : Nat) (hw : Wf H A) (n : Nat) (h1 : 1 ≤ n) (h2 : n ≤ 4096) (hid : H id = none) (hκm : A κm = none) (hκc : A κc = none) (hne : κm ≠ κc) :
    EffOK Try.prog 22 off H A [pD (.lit (.int .i64 n))] (.tup [.c (.ptr id 0), .c (.d (.lit (.int .i64 0)))]) (upd H id (some (encDk κm κc (newD n)))) (upd (upd A κm (some (.mp []))) κc (some (.co 2 0))) := by
  refine effr_ok (E := envOf Try.prog [] off [] []) (envOf_ok Try.mixed) Try.func22 rfl Try.call22 (by kernel_rfl) (by exact Nat.le_of_ble_eq_true rfl) (fun hab => ?_)
  have hc1 : ((n : Int) < 1) = False := eq_false (by omega)
  have hc2 : ((4096 : Int) < (n : Int)) = False := eq_false (by omega)
  have hi' : H (off + 13) = none := (hab _ (Nat.le_add_right _ _)).1
  have ha1 : A (off + 11, 0) = none := (hab _ (Nat.le_add_right _ _)).2 _
  have ha2 : A (off + 12, 0) = none := (hab _ (Nat.le_add_right _ _)).2 _
  have han : ((off + 11, 0) : Tok) ≠ (off + 12, 0) := fun e => by cases e
  repeat' (first
    | with_reducible refine VC_seq fun K hK => ?_
    | with_reducible refine W_region ?_
    | with_reducible refine VC_block ?_
    | with_reducible refine VC_scope ?_
    | with_reducible refine VC_if ?_
    | with_reducible refine VC_skip ?_
    | with_reducible refine VC_exit ?_
    | with_reducible refine VC_ret ?_
    | (with_reducible refine G_not (fun h => ?_) (fun h => ?_) <;> (try simp only [h]))
    | (with_reducible refine G_cases (fun h => ?_) (fun h => ?_) <;> (try simp only [h]))
    | refine And.intro ha1 (And.intro hi' ?_)
    | (with_reducible refine hK _ ?_; clear hK K)
    | (clear hK K; with_reducible refine hK _ ?_; clear hK K)
    | (clear hK K; clear hK K; with_reducible refine hK _ ?_; clear hK K)
    | (clear hK K; clear hK K; clear hK K; with_reducible refine hK _ ?_; clear hK K)
    | (with_reducible refine todo ?_; simp +decide only [go_sem, hc1, hc2]))
  obtain ⟨h, e1, e2, t1, t2, t3⟩ := tok2 (r1 := .mp []) (r2 := .co 2 0) hκm hκc ha1 ha2 hne han
  have hm1 : upd (upd A κm (some (.mp []))) κc (some (.co 2 0)) κm ≠ none := by rw [upd_other _ _ hne, upd_same]; simp
  have hc1 : upd (upd A κm (some (.mp []))) κc (some (.co 2 0)) κc ≠ none := by rw [upd_same]; simp
  have him : (encDk κm κc (newD n)).map (CV.im (swp id (off + 13)) h) = encDk (off + 11, 0) (off + 12, 0) (newD n) := by
    show [_, CV.mpr (h κm), CV.own (h κc) _, _, _, _, _] = _
    rw [e1, e2]; rfl
  have hSκ : upd (upd A (off + 11, 0) (some (.mp []))) (off + 12, 0) (some (.co 2 0)) (off + 12, 0) = some (.co 2 0) := upd_same _ _ _
  have hSm : upd (upd A (off + 11, 0) (some (.mp []))) (off + 12, 0) (some (.co 2 0)) (off + 11, 0) = some (.mp []) := by rw [upd_other _ _ han, upd_same]
  refine RetR_obj (H1 := H) (A1 := A) (A'' := upd (upd A (off + 11, 0) (some (.mp []))) (off + 12, 0) (some (.co 2 0))) (i' := off + 13) (h := h) (ds := encDkF (off + 11, 0) (newD n)) rfl ?_ (oks_pairP (by rw [upd_same]; simp)) hw (fun _ h => h) (fun _ h => h) hid hi' (DkAt.ok (H := upd H id _) hm1 hc1) ?_ ?_ ?_ t1 t2 t3 ?_
  · show PV.wk _ _ _ (.tup [.c (.ptr (swp id (off + 13) id) 0), _]) _
    rw [show swp id (off + 13) id = off + 13 from if_pos rfl]
    exact wk_pairP (by rw [upd_same]; simp)
  · intro i es hi
    have hne : i ≠ off + 13 := fun e => by rw [e, hi'] at hi; cases hi
    refine ⟨es, by show upd _ _ _ _ = _; rw [upd_other _ _ hne]; exact hi, wkC_same fun c hc => ok_mono (fun j hj => ?_) (fun κ hκ => ?_) (hw i es c hi hc)⟩
    · rw [upd_apply']; split
      · simp
      · exact hj
    · have n1 : κ ≠ (off + 11, 0) := fun e => hκ (by rw [e]; exact ha1)
      have n2 : κ ≠ (off + 12, 0) := fun e => hκ (by rw [e]; exact ha2)
      refine ⟨by rw [upd_other _ _ n2, upd_other _ _ n1]; exact hκ, ?_⟩
      show _ = upd A _ _ κ
      rw [upd_other _ _ n2]
  · show upd _ _ _ _ = _
    rw [upd_same]; rfl
  · rw [him]
    refine ⟨?_, ?_, ?_, ?_, ?_, ?_, ?_, True.intro⟩
    · rw [wk_d]; exact True.intro
    · exact .inr (.inl ⟨rfl, by rw [hSm]; simp, by rw [hSm]; exact (upd_same _ _ _).symm⟩)
    · exact .inr (.inr (.inr (.inl ⟨rfl, (off + 12, 0), 2, rfl, by show upd _ _ _ _ = _; rw [upd_other _ _ han.symm]; exact ha2, hSκ⟩)))
    · rw [wk_d]; exact True.intro
    · rw [wk_d]; exact True.intro
    · rw [wk_d]; exact True.intro
    · rw [wk_d]; exact True.intro
  · intro κ
    by_cases e : κ = (off + 12, 0)
    · subst e
      exact .inr (.inr ⟨by show upd _ _ _ _ = _; rw [upd_other _ _ han.symm]; exact ha2, 2, .inl hSκ⟩)
    · exact .inr (.inl (by rw [upd_other _ _ e]))
end disk
end Go.Proofs
