/-
  Parts of the proof, laid together: PwDe, PwDf, PwDg, PwDh.
-/
import Derived.Test.YtghlemfokpfngaaQ18

namespace Go.Proofs
open Go.PW
def layAll (m : List (Int × List UInt8)) (l : List (Int × List UInt8)) : List (Int × List UInt8) := l.foldl layN m
def flD (d : Dk) : Dk := { d with left := IntKind.i64.wrap (d.left - 1), stays := layAll d.stays d.cache, cache := [], flushes := IntKind.i64.wrap (d.flushes + 1) }
theorem upd_twice {α β : Type} [DecidableEq α] {f : α → β} {a : α} {x y : β} : upd (upd f a x) a y = upd f a y := by
  funext t
  by_cases h : t = a
  · subst h; rw [upd_same, upd_same]
  · rw [upd_other _ _ h, upd_other _ _ h, upd_other _ _ h]
theorem upd_self {α β : Type} [DecidableEq α] {f : α → β} {a : α} {x : β} (h : f a = x) : upd f a x = f := by
  funext t
  by_cases e : t = a
  · subst e; rw [upd_same, h]
  · rw [upd_other _ _ e]
theorem Weak_overG {H0 H : HMap} {A0 A : AMap} {S : St} {l : List (Nat × PV)} {h : List (Nat × List CV)} (hw : Wf H A) (hb : ∀ id, H id ≠ none → S.H id = H id) (hA : S.A = A) (h1 : keepP (hOver h H) A A S.ρ l) (h2 : keepH (hOver h H) A A S.H h)
    (kH : ∀ id, H0 id ≠ none → H id ≠ none) (kA : ∀ κ, A0 κ ≠ none → A κ ≠ none) : Weak H0 A0 S (over l h H A) :=
  have w := Weak_over hw hb hA h1 h2
  ⟨w.ρ, w.H, w.A, fun id e => w.kH id (kH id e), fun κ e => w.kA κ (kA κ e)⟩
theorem Wf_set {H : HMap} {A A' : AMap} {id : Nat} {cs : List CV} (hw : Wf H A) (hc : ∀ c ∈ cs, c.ok (fun i => upd H id (some cs) i ≠ none) (fun κ => A' κ ≠ none)) (h4 : ∀ κ, A κ ≠ none → A' κ ≠ none) : Wf (upd H id (some cs)) A' := fun i ds c hd hc' => by
  rw [upd_apply'] at hd
  split at hd
  · cases hd; exact hc c hc'
  · refine ok_mono (fun i hi => ?_) h4 (hw i ds c hd hc')
    rw [upd_apply']; split
    · simp
    · exact hi
section disk
variable {H : HMap} {A : AMap} {id : Nat} {κm κc κ' : Tok} {d : Dk}
theorem DkAt.ne (hd : DkAt H A id κm κc d) : κc ≠ κm := fun e => by have := hd.c; rw [e, hd.m] at this; cases this
theorem DkAt.wf (hw : Wf H A) (hd : DkAt H A id κm κc d) (d' : Dk) {A' : AMap} (h4 : ∀ κ, A κ ≠ none → A' κ ≠ none) : Wf (upd H id (some (encDk κm κc d'))) A' :=
  Wf_set hw (DkAt.ok (h4 κm (by rw [hd.m]; simp)) (h4 κc (by rw [hd.c]; simp))) h4
theorem DkAt.updH (hd : DkAt H A id κm κc d) {u : Nat} {x : Option (List CV)} (h : id ≠ u) : DkAt (upd H u x) A id κm κc d := ⟨by rw [upd_other _ _ h]; exact hd.h, hd.m, hd.c⟩
theorem DkAt.lt (hd : DkAt H A id κm κc d) {off : Nat} (hab : Above off H A) : id < off ∧ κm.1 < off ∧ κc.1 < off := by
  refine ⟨?_, ?_, ?_⟩
  · refine Nat.lt_of_not_le fun h => ?_
    have := hd.h; rw [(hab id h).1] at this; cases this
  · refine Nat.lt_of_not_le fun h => ?_
    have := hd.m; rw [(hab κm.1 h).2 κm.2] at this; cases this
  · refine Nat.lt_of_not_le fun h => ?_
    have := hd.c; rw [(hab κc.1 h).2 κc.2] at this; cases this
def encDkF (κm : Tok) (d : Dk) : List CV := [.d (.lit (.int .i64 d.n)), .mpr κm, .full [], .d (.lit (.int .i64 d.writes)), .d (.lit (.int .i64 d.flushes)), .d (.lit (.bool d.fused)), .d (.lit (.int .i64 d.left))]
theorem DkAt.retF {P : Program} {fn : Func} {v p : PV} {S : St} {d' : Dk} (hw : Wf H A) (hd : DkAt H A id κm κc d) (he : d'.cache = []) (hp : resPVs P S fn.results.toList = some p)
    (hv : PV.wk (upd H id (some (encDk κm κ' d'))) S.A (upd (upd A κm (some (.mp (encNS d'.stays)))) κ' (some (.co 2 0))) v p) (hok : v.oks (fun i => upd H id (some (encDk κm κ' d')) i ≠ none) (fun κ => upd (upd A κm (some (.mp (encNS d'.stays)))) κ' (some (.co 2 0)) κ ≠ none))
    (h1 : S.H id = some (encDkF κm d')) (h2 : ∀ i, i ≠ id → H i ≠ none → S.H i = H i) (h3 : S.A = upd A κm (some (.mp (encNS d'.stays)))) (hκ : A κ' = none) :
    RetR P fn H A v (upd H id (some (encDk κm κ' d'))) (upd (upd A κm (some (.mp (encNS d'.stays)))) κ' (some (.co 2 0))) S := by
  have hne : κ' ≠ κm := fun e => by rw [e, hd.m] at hκ; cases hκ
  have hSκ : S.A κ' = none := by rw [h3, upd_other _ _ hne]; exact hκ
  have hA : ∀ κ, κ ≠ κ' → upd (upd A κm (some (.mp (encNS d'.stays)))) κ' (some (.co 2 0)) κ = S.A κ := fun κ h => by rw [upd_other _ _ h, h3]
  have hκ2 : upd (upd A κm (some (.mp (encNS d'.stays)))) κ' (some (.co 2 0)) κ' = some (.co 2 0) := upd_same _ _ _
  have hmm : upd (upd A κm (some (.mp (encNS d'.stays)))) κ' (some (.co 2 0)) κm = some (.mp (encNS d'.stays)) := by rw [upd_other _ _ hne.symm, upd_same]
  refine RetR_set hp hv hok hw (by rw [hd.h]; simp) h1 ?_ (DkAt.ok (H := upd H id (some (encDk κm κ' d'))) (d := d') (by rw [hmm]; simp) (by rw [hκ2]; simp)) h2 (fun κ => ?_) (fun κ h => ?_)
  · unfold encDk encDkF
    rw [he]
    refine ⟨?_, ?_, ?_, ?_, ?_, ?_, ?_, True.intro⟩
    · rw [wk_d]; exact True.intro
    · exact .inr (.inl ⟨rfl, by rw [hmm]; simp, by rw [hmm, h3, upd_same]⟩)
    · exact .inr (.inr (.inr (.inl ⟨rfl, κ', 2, rfl, hSκ, hκ2⟩)))
    · rw [wk_d]; exact True.intro
    · rw [wk_d]; exact True.intro
    · rw [wk_d]; exact True.intro
    · rw [wk_d]; exact True.intro
  · by_cases e : κ = κ'
    · subst e; exact .inr (.inr (.inl ⟨hSκ, 2, .inl hκ2⟩))
    · exact .inr (.inl (hA κ e))
  · have e : κ ≠ κ' := fun e => h (by rw [e]; exact hκ)
    have h5 : upd (upd A κm (some (.mp (encNS d'.stays)))) κ' (some (.co 2 0)) κ ≠ none := by
      rw [upd_other _ _ e]; exact upd_keep κ h
    exact ⟨h5, hA κ e⟩
set_option maxRecDepth 8000 in
set_option maxHeartbeats 16000000 in
theorem Try.kFlushNo (off : Nat) (hw : Wf H A) (hd : DkAt H A id κm κc d) (hn : 0 < d.n) (hb : burnt d = true) : EffOK Try.prog 60 off H A [.c (.ptr id 0)] (pD (.lit (.int .i64 6))) H A := by
  refine effr_ok (E := envOf Try.prog [26, 74, 38] off [] []) (envOf_ok Try.mixed) Try.func60 rfl Try.call60 (by kernel_rfl) (by exact Nat.le_of_ble_eq_true rfl) (fun hab => ?_)
  have kl := Try.kLen (off + 1000) hw hd
  have kb := Try.kBurnt (off + 1000) hw hd
  rw [hb] at kb
  have hz : ((d.n : Int) == 0) = false := by rw [beq_eq_false_iff_ne]; omega
  repeat' (first
   |with_reducible first|refine vSq fun K hK=>?_|refine vRg ?_|refine vBl ?_|refine vSc ?_|refine vIf ?_|refine vSk ?_|refine vEx ?_|refine vRt ?_
   |(with_reducible first|refine gNt (fun h=>?_) (fun h=>?_)|refine gCs (fun h=>?_) (fun h=>?_))<;>(try simp only[h])
   |refine C_call rfl kl rfl (Above_mono hab (by omega)) ?_
   |refine C_call rfl kb rfl (Above_mono hab (by omega)) ?_
   |with_reducible first|(refine hK _ ?_;clear hK K)|(clear hK K;refine hK _ ?_;clear hK K)|(clear hK K;clear hK K;refine hK _ ?_;clear hK K)|(clear hK K;clear hK K;clear hK K;refine hK _ ?_;clear hK K)
   |(with_reducible refine todo ?_;simp +decide only[go_sem, hz]))
  exact RetR_same rfl (by simp +decide only [go_sem]) True.intro hw kp_refl (fun _ _ => rfl)
set_option maxRecDepth 8000 in
set_option maxHeartbeats 16000000 in
theorem Try.kFlush (off : Nat) (hw : Wf H A) (hd : DkAt H A id κm κc d) (hn : 0 < d.n) (hl : d.cache.length ≤ 1000000) (hb : burnt d = false) (hκ : A κ' = none) :
    EffOK Try.prog 60 off H A [.c (.ptr id 0)] (pD (.lit (.int .i64 0))) (upd H id (some (encDk κm κ' (flD d)))) (upd (upd A κm (some (.mp (encNS (flD d).stays)))) κ' (some (.co 2 0))) := by
  refine effr_ok (E := envOf Try.prog [26, 74, 38] off [] []) (envOf_ok Try.mixed) Try.func60 rfl Try.call60 (by kernel_rfl) (by exact Nat.le_of_ble_eq_true rfl) (fun hab => ?_)
  have kl := Try.kLen (off + 1000) hw hd
  have kb := Try.kBurnt (off + 1000) hw hd
  rw [hb] at kb
  have hz : ((d.n : Int) == 0) = false := by rw [beq_eq_false_iff_ne]; omega
  have hid := hd.h
  unfold encDk at hid
  have hlt := hd.lt hab
  have hn4 : H (off + 4) = none := (hab _ (Nat.le_add_right _ _)).1
  have hne4 : off + 4 ≠ id := by omega
  have hw1 : ∀ i, Wf (upd H id (some (encDk κm κc { d with left := IntKind.i64.wrap (d.left - 1) }))) (upd A κm (some (.mp (encNS (layAll d.stays (d.cache.take i)))))) := fun i => DkAt.wf hw hd _ upd_keep
  have hd1 : ∀ i, DkAt (upd H id (some (encDk κm κc { d with left := IntKind.i64.wrap (d.left - 1) }))) (upd A κm (some (.mp (encNS (layAll d.stays (d.cache.take i)))))) id κm κc { d with left := IntKind.i64.wrap (d.left - 1), stays := layAll d.stays (d.cache.take i) } :=
    fun i => ⟨upd_same _ _ _, upd_same _ _ _, by rw [upd_other _ _ hd.ne]; exact hd.c⟩
  have hptr : ∀ {A1 A2 : AMap} {x : List CV}, PV.wk (hOver [] (upd H id (some x))) A1 A2 (.c (.ptr id 0)) (.c (.ptr id 0)) = True := eq_true (wkP_ptr (by show upd _ _ _ _ ≠ none; rw [upd_same]; simp))
  repeat' (first
   |with_reducible first|refine vSq fun K hK=>?_|refine vRg ?_|refine vBl ?_|refine vSc ?_|refine vIf ?_|refine vSk ?_|refine vEx ?_|refine vRt ?_
   |(with_reducible first|refine gNt (fun h=>?_) (fun h=>?_)|refine gCs (fun h=>?_) (fun h=>?_))<;>(try simp only[h])
   |refine C_call rfl kl rfl (Above_mono hab (by omega)) ?_
   |refine C_call rfl kb rfl (Above_mono hab (by omega)) ?_
   |with_reducible first|(refine hK _ ?_;clear hK K)|(clear hK K;refine hK _ ?_;clear hK K)|(clear hK K;clear hK K;refine hK _ ?_;clear hK K)|(clear hK K;clear hK K;clear hK K;refine hK _ ?_;clear hK K)
   |(with_reducible refine todo ?_;simp +decide only[go_sem, hz, hid]))
  refine VC_range d.cache.length (fun _ => True) (fun i => over [(0, .c (.ptr id 0)), (22, .c (.d (.sl (d.cache.map encW)))), (23, pD (.lit (.int .i64 d.cache.length))), (24, pD (.lit (.int .i64 i)))] []
    (upd H id (some (encDk κm κc { d with left := IntKind.i64.wrap (d.left - 1) }))) (upd A κm (some (.mp (encNS (layAll d.stays (d.cache.take i))))))) True.intro ?_ ?_
  · refine Weak_overG (hw1 0) (fun _ _ => rfl) (upd_self hd.m).symm ?_ ?_ (fun i hi => ?_) upd_keep
    · simp +decide only [go_sem, hptr]
    · simp +decide only [go_sem]
    · rw [upd_apply']; split
      · simp
      · exact hi
  · intro i hi _
    rcases Nat.lt_or_ge i d.cache.length with hi2 | hi2
    · have hc := int_lt_true hi2
      have hnx := int_next hi2 (by omega)
      have h3 : d.cache[i]? = some d.cache[i] := List.getElem?_eq_getElem hi2
      have hst : layAll d.stays (d.cache.take (i + 1)) = layN (layAll d.stays (d.cache.take i)) d.cache[i] := by
        unfold layAll
        rw [List.take_add_one, h3, Option.toList_some, List.foldl_append]
        rfl
      have hwi := hw1 i
      have hdi := hd1 i
      generalize d.cache[i] = x at *
      repeat' (first
       |with_reducible first|refine vSq fun K hK=>?_|refine vRg ?_|refine vBl ?_|refine vSc ?_|refine vIf ?_|refine vSk ?_|refine vEx ?_|refine vRt ?_
       |(with_reducible first|refine gNt (fun h=>?_) (fun h=>?_)|refine gCs (fun h=>?_) (fun h=>?_))<;>(try simp only[h])
       |refine C_call rfl (Try.kLay (off + 1000) (Wf_upd (Wf_upd hwi rfl) rfl) ((hdi.updH hne4.symm).updH hne4.symm) x) rfl (Above_updH (Above_updH (Above_updA (Above_updH (Above_mono hab (by omega)) (by omega)) (by omega)) (by omega)) (by omega)) ?_
       |with_reducible first|(refine hK _ ?_;clear hK K)|(clear hK K;refine hK _ ?_;clear hK K)|(clear hK K;clear hK K;refine hK _ ?_;clear hK K)|(clear hK K;clear hK K;clear hK K;refine hK _ ?_;clear hK K)
       |(with_reducible refine todo ?_;simp +decide only[go_sem, hc, hnx, h3, hn4, hne4]))
      refine Next_of hi2 True.intro (Weak_overG (hw1 (i + 1)) ?_ ?_ ?_ ?_ (fun i hi => ?_) upd_keep)
      · exact kp_upd (by rw [upd_other _ _ hne4]; exact hn4) (kp_upd (by rw [upd_other _ _ hne4]; exact hn4) kp_refl)
      · rw [hst]
        exact upd_twice
      · simp +decide only [go_sem, hptr]
      · simp +decide only [go_sem]
      · rw [upd_apply']; split
        · simp
        · exact hi
    · have hc := int_lt_false hi2
      repeat' (first
       |with_reducible first|refine vSq fun K hK=>?_|refine vRg ?_|refine vBl ?_|refine vSc ?_|refine vIf ?_|refine vSk ?_|refine vEx ?_|refine vRt ?_
       |(with_reducible first|refine gNt (fun h=>?_) (fun h=>?_)|refine gCs (fun h=>?_) (fun h=>?_))<;>(try simp only[h])
       |with_reducible first|(refine hK _ ?_;clear hK K)|(clear hK K;refine hK _ ?_;clear hK K)|(clear hK K;clear hK K;refine hK _ ?_;clear hK K)|(clear hK K;clear hK K;clear hK K;refine hK _ ?_;clear hK K)
       |(with_reducible refine todo ?_;simp +decide only[go_sem, hc, encDk]))
      refine DkAt.retF (d' := flD d) hw hd rfl rfl (by simp +decide only [go_sem]) True.intro ?_ ?_ ?_ hκ
      · simp +decide only [go_sem, flD, encDkF]
      · intro j hj hjn
        simp +decide only [go_sem, hj]
      · rw [show d.cache.take i = d.cache from List.take_of_length_le hi2]
        simp +decide only [go_sem, flD]
end disk
end Go.Proofs

namespace Go.PW
theorem im_same {f : Nat → Nat} {h : Tok → Tok} {hk : Nat → Prop} {tk : Tok → Prop} (h1 : ∀ i, hk i → f i = i) (h2 : ∀ κ, tk κ → h κ = κ) {c : CV} (hc : c.ok hk tk) : c.im f h = c := by
  cases c with
  | own κ els => show CV.own (h κ) els = _; rw [h2 κ hc]
  | mt κ sz n => show CV.mt (h κ) sz n = _; rw [h2 κ hc]
  | tv κ sz n L => show CV.tv (h κ) sz n L = _; rw [h2 κ hc]
  | mptr κ sz n i o => show CV.mptr (h κ) sz n i o = _; rw [h2 κ hc]
  | ptr id o => show CV.ptr (f id) o = _; rw [h1 id hc]
  | fn k caps =>
    show CV.fn k (caps.map fun p => (f p.1, p.2)) = _
    congr 1
    refine (List.map_congr_left fun p hp => ?_).trans (List.map_id caps)
    show (f p.1, p.2) = p
    rw [h1 _ (hc p hp)]
  | mpr κ => show CV.mpr (h κ) = _; rw [h2 κ hc]
  | itr κ bi => show CV.itr (h κ) bi = _; rw [h2 κ hc]
  | sit κ => show CV.sit (h κ) = _; rw [h2 κ hc]
  | vsl id n => show CV.vsl (f id) n = _; rw [h1 id hc]
  | bfn k fst caps =>
    have key : ∀ l : List (Nat × Nat), (∀ p ∈ l, hk p.1) → (l.map fun p => (f p.1, p.2)) = l := fun l hl => by
      refine (List.map_congr_left fun p hp => ?_).trans (List.map_id l)
      show (f p.1, p.2) = p
      rw [h1 _ (hl p hp)]
    show CV.bfn k (fst.map fun p => (f p.1, p.2)) (caps.map fun p => (f p.1, p.2)) = _
    rw [key fst hc.1, key caps hc.2]
  | _ => rfl
def swp (id i' : Nat) (i : Nat) : Nat := if i = id then i' else i
theorem RetR_obj {P : Program} {fn : Func} {H H1 : HMap} {A A1 A' A'' : AMap} {v p : PV} {S : St} {id i' : Nat} {cs ds : List CV} {h : Tok → Tok} (hp : resPVs P S fn.results.toList = some p)
    (hv : PV.wk (upd H1 i' (some (cs.map (CV.im (swp id i') h)))) S.A A'' (v.im (swp id i') h) p) (hok : v.oks (fun i => upd H1 id (some cs) i ≠ none) (fun κ => A' κ ≠ none)) (hw : Wf H1 A1) (k1 : ∀ i, H i ≠ none → H1 i ≠ none) (k2 : ∀ κ, A κ ≠ none → A1 κ ≠ none)
    (hid : H1 id = none) (hi' : H1 i' = none) (hcok : ∀ c ∈ cs, c.ok (fun i => upd H1 id (some cs) i ≠ none) (fun κ => A' κ ≠ none))
    (hS : ∀ i es, H1 i = some es → ∃ ds, S.H i = some ds ∧ wkCells (upd H1 i' (some (cs.map (CV.im (swp id i') h)))) S.A A'' es ds) (hSi : S.H i' = some ds) (hSw : wkCells (upd H1 i' (some (cs.map (CV.im (swp id i') h)))) S.A A'' (cs.map (CV.im (swp id i') h)) ds)
    (hh : ∀ κ, A1 κ ≠ none → h κ = κ ∧ A' κ ≠ none) (hA : ∀ κ ar, A' κ = some ar → A'' (h κ) = some ar) (iA : ∀ i j, A' i ≠ none → A' j ≠ none → h i = h j → i = j)
    (hSA : ∀ κ, A'' κ = none ∨ A'' κ = S.A κ ∨ (S.A κ = none ∧ ∃ sz, A'' κ = some (.co sz 0) ∨ A'' κ = some (.mu sz [])) ∨ permA (S.A κ) (A'' κ)) : RetR P fn H A v (upd H1 id (some cs)) A' S := by
  have hne : ∀ i, H1 i ≠ none → i ≠ id ∧ i ≠ i' := fun i hi => ⟨fun e => hi (by rw [e]; exact hid), fun e => hi (by rw [e]; exact hi')⟩
  have hsw : ∀ i, H1 i ≠ none → swp id i' i = i := fun i hi => if_neg (hne i hi).1
  have kk : ∀ i, H1 i ≠ none → upd H1 id (some cs) i ≠ none := fun i hi => by rw [upd_other _ _ (hne i hi).1]; exact hi
  refine ⟨p, ⟨fun _ => v.im (swp id i') h, upd H1 i' (some (cs.map (CV.im (swp id i') h))), A''⟩, swp id i', h, hp, ⟨fun _ => hv, fun i => ?_, hSA, fun i hi => ?_, fun κ hκ => ?_⟩, rfl, hok, ⟨fun i hi => ⟨hsw i (k1 i hi), kk i (k1 i hi)⟩, fun κ hκ => hh κ (k2 κ hκ), ?_, iA, ?_, hA⟩⟩
  · show upd H1 i' _ i = none ∨ _
    by_cases e : i = i'
    · subst e
      obtain ⟨h3, h4⟩ := wkCells_spec hSw
      exact .inr ⟨_, ds, upd_same _ _ _, hSi, h3, h4⟩
    · cases hi : H1 i with
      | none => exact .inl (by rw [upd_other _ _ e]; exact hi)
      | some es =>
        obtain ⟨ds', h1, h2⟩ := hS i es hi
        obtain ⟨h3, h4⟩ := wkCells_spec h2
        exact .inr ⟨es, ds', by show upd H1 i' _ i = _; rw [upd_other _ _ e]; exact hi, h1, h3, h4⟩
  · show upd H1 i' _ i ≠ none
    rw [upd_other _ _ (hne i (k1 i hi)).2]
    exact k1 i hi
  · show A'' κ ≠ none
    obtain ⟨h1, h2⟩ := hh κ (k2 κ hκ)
    cases hc : A' κ with
    | none => exact (h2 hc).elim
    | some ar => have := hA κ ar hc; rw [h1] at this; rw [this]; simp
  · intro i j hi hj e
    have val : ∀ i, upd H1 id (some cs) i ≠ none → (i = id ∧ swp id i' i = i') ∨ (H1 i ≠ none ∧ swp id i' i = i) := fun i hi => by
      by_cases e : i = id
      · exact .inl ⟨e, if_pos e⟩
      · rw [upd_other _ _ e] at hi
        exact .inr ⟨hi, if_neg e⟩
    rcases val i hi with ⟨a1, a2⟩ | ⟨a1, a2⟩ <;> rcases val j hj with ⟨b1, b2⟩ | ⟨b1, b2⟩ <;> rw [a2, b2] at e
    · rw [a1, b1]
    · exact ((hne j b1).2 e.symm).elim
    · exact ((hne i a1).2 e).elim
    · exact e
  · intro j es hj
    show upd H1 i' _ (swp id i' j) = _ ∧ _
    by_cases e : j = id
    · subst e
      rw [upd_same] at hj
      cases hj
      exact ⟨by rw [show swp j i' j = i' from if_pos rfl, upd_same], hcok⟩
    · rw [upd_other _ _ e] at hj
      have hj' : H1 j ≠ none := by rw [hj]; simp
      have hes : ∀ c ∈ es, c.ok (fun i => H1 i ≠ none) (fun κ => A1 κ ≠ none) := fun c hc => hw j es c hj hc
      refine ⟨?_, fun c hc => ok_mono kk (fun κ hκ => (hh κ hκ).2) (hes c hc)⟩
      rw [hsw j hj', upd_other _ _ (hne j hj').2, hj]
      congr 1
      exact ((List.map_congr_left fun c hc => im_same hsw (fun κ hκ => (hh κ hκ).1) (hes c hc)).trans (List.map_id es)).symm
def swt (κ a : Tok) (τ : Tok) : Tok := if τ = κ then a else τ
theorem tok1 {A : AMap} {κ a : Tok} {r : Arr} (h1 : A κ = none) (h2 : A a = none) : (∀ τ, A τ ≠ none → swt κ a τ = τ ∧ upd A κ (some r) τ ≠ none) ∧ (∀ τ ar, upd A κ (some r) τ = some ar → upd A a (some r) (swt κ a τ) = some ar) ∧
    (∀ i j, upd A κ (some r) i ≠ none → upd A κ (some r) j ≠ none → swt κ a i = swt κ a j → i = j) := by
  have n1 : ∀ τ, A τ ≠ none → τ ≠ κ ∧ τ ≠ a := fun τ h => ⟨fun e => h (by rw [e]; exact h1), fun e => h (by rw [e]; exact h2)⟩
  have val : ∀ i, upd A κ (some r) i ≠ none → (i = κ ∧ swt κ a i = a) ∨ (A i ≠ none ∧ swt κ a i = i) := fun i hi => by
    by_cases e : i = κ
    · exact .inl ⟨e, if_pos e⟩
    · rw [upd_other _ _ e] at hi
      exact .inr ⟨hi, if_neg e⟩
  refine ⟨fun τ h => ⟨if_neg (n1 τ h).1, by rw [upd_other _ _ (n1 τ h).1]; exact h⟩, fun τ ar h => ?_, fun i j hi hj e => ?_⟩
  · rcases val τ (by rw [h]; simp) with ⟨b1, b2⟩ | ⟨b1, b2⟩
    · rw [b2, upd_same]; rw [b1, upd_same] at h; exact h
    · rw [b2, upd_other _ _ (n1 τ b1).2]; rw [upd_other _ _ (n1 τ b1).1] at h; exact h
  · rcases val i hi with ⟨a1, a2⟩ | ⟨a1, a2⟩ <;> rcases val j hj with ⟨b1, b2⟩ | ⟨b1, b2⟩ <;> rw [a2, b2] at e
    · rw [a1, b1]
    · exact ((n1 j b1).2 e.symm).elim
    · exact ((n1 i a1).2 e).elim
    · exact e
theorem tok2 {A : AMap} {κ1 κ2 a1 a2 : Tok} {r1 r2 : Arr} (h1 : A κ1 = none) (h2 : A κ2 = none) (h3 : A a1 = none) (h4 : A a2 = none) (n1 : κ1 ≠ κ2) (n2 : a1 ≠ a2) : ∃ h : Tok → Tok, h κ1 = a1 ∧ h κ2 = a2 ∧ (∀ τ, A τ ≠ none → h τ = τ ∧ upd (upd A κ1 (some r1)) κ2 (some r2) τ ≠ none) ∧
    (∀ τ ar, upd (upd A κ1 (some r1)) κ2 (some r2) τ = some ar → upd (upd A a1 (some r1)) a2 (some r2) (h τ) = some ar) ∧
    (∀ i j, upd (upd A κ1 (some r1)) κ2 (some r2) i ≠ none → upd (upd A κ1 (some r1)) κ2 (some r2) j ≠ none → h i = h j → i = j) := by
  have e1 : (fun τ => if τ = κ1 then a1 else if τ = κ2 then a2 else τ) κ1 = a1 := if_pos rfl
  have e2 : (fun τ => if τ = κ1 then a1 else if τ = κ2 then a2 else τ) κ2 = a2 := by show (if κ2 = κ1 then a1 else if κ2 = κ2 then a2 else κ2) = a2; rw [if_neg n1.symm, if_pos rfl]
  have e3 : ∀ τ, A τ ≠ none → (fun τ => if τ = κ1 then a1 else if τ = κ2 then a2 else τ) τ = τ := fun τ h => by
    show (if τ = κ1 then a1 else if τ = κ2 then a2 else τ) = τ
    rw [if_neg (fun e => h (by rw [e]; exact h1)), if_neg (fun e => h (by rw [e]; exact h2))]
  generalize (fun τ => if τ = κ1 then a1 else if τ = κ2 then a2 else τ) = h at *
  have ne : ∀ τ, A τ ≠ none → τ ≠ κ1 ∧ τ ≠ κ2 ∧ τ ≠ a1 ∧ τ ≠ a2 := fun τ h => ⟨fun e => h (by rw [e]; exact h1), fun e => h (by rw [e]; exact h2), fun e => h (by rw [e]; exact h3), fun e => h (by rw [e]; exact h4)⟩
  have val : ∀ i, upd (upd A κ1 (some r1)) κ2 (some r2) i ≠ none → i = κ1 ∨ i = κ2 ∨ A i ≠ none := fun i hi => by
    by_cases e : i = κ2
    · exact .inr (.inl e)
    · rw [upd_other _ _ e] at hi
      by_cases e' : i = κ1
      · exact .inl e'
      · rw [upd_other _ _ e'] at hi
        exact .inr (.inr hi)
  refine ⟨h, e1, e2, fun τ hτ => ⟨e3 τ hτ, by rw [upd_other _ _ (ne τ hτ).2.1, upd_other _ _ (ne τ hτ).1]; exact hτ⟩, fun τ ar hτ => ?_, fun i j hi hj e => ?_⟩
  · rcases val τ (by rw [hτ]; simp) with b | b | b
    · subst b
      rw [e1, upd_other _ _ n2, upd_same]
      rw [upd_other _ _ n1, upd_same] at hτ; exact hτ
    · subst b
      rw [e2, upd_same]
      rw [upd_same] at hτ; exact hτ
    · rw [e3 τ b, upd_other _ _ (ne τ b).2.2.2, upd_other _ _ (ne τ b).2.2.1]
      rw [upd_other _ _ (ne τ b).2.1, upd_other _ _ (ne τ b).1] at hτ; exact hτ
  · rcases val i hi with b | b | b <;> rcases val j hj with c | c | c
    · rw [b, c]
    · rw [b, c, e1, e2] at e; exact (n2 e).elim
    · rw [b, e1, e3 j c] at e; exact ((ne j c).2.2.1 e.symm).elim
    · rw [b, c, e1, e2] at e; exact (n2 e.symm).elim
    · rw [b, c]
    · rw [b, e2, e3 j c] at e; exact ((ne j c).2.2.2 e.symm).elim
    · rw [c, e1, e3 i b] at e; exact ((ne i b).2.2.1 e).elim
    · rw [c, e2, e3 i b] at e; exact ((ne i b).2.2.2 e).elim
    · rw [e3 i b, e3 j c] at e; exact e
theorem wk_pairP {H' : HMap} {A A' : AMap} {id : Nat} {y : D} (h : H' id ≠ none) : PV.wk H' A A' (.tup [.c (.ptr id 0), .c (.d y)]) (.tup [.c (.ptr id 0), .c (.d y)]) := by
  refine ⟨rfl, fun k a b h1 h2 => ?_⟩
  rw [h1] at h2
  cases h2
  match k, h1 with
  | 0, e => cases e; exact .inr (.inl ⟨rfl, h⟩)
  | 1, e => cases e; exact .inr (.inl ⟨rfl, True.intro⟩)
theorem oks_pairP {hk : Nat → Prop} {tk : Tok → Prop} {id : Nat} {y : D} (h : hk id) : PV.oks hk tk (.tup [.c (.ptr id 0), .c (.d y)]) := fun z hz => by
  rcases List.mem_cons.1 hz with rfl | hz
  · exact h
  · rw [List.mem_singleton.1 hz]; exact True.intro
end Go.PW
namespace Go.Proofs
open Go.PW
def newD (n : Nat) : Dk := ⟨n, [], [], 0, 0, false, 0⟩
section disk
variable {H : HMap} {A : AMap} {id : Nat} {κm κc κ' : Tok} {d : Dk}
set_option maxRecDepth 8000 in
set_option maxHeartbeats 16000000 in
theorem Try.kDiskNew (off : Nat) (hw : Wf H A) (n : Nat) (h1 : 1 ≤ n) (h2 : n ≤ 4096) (hid : H id = none) (hκm : A κm = none) (hκc : A κc = none) (hne : κm ≠ κc) :
    EffOK Try.prog 4 off H A [pD (.lit (.int .i64 n))] (.tup [.c (.ptr id 0), .c (.d (.lit (.int .i64 0)))]) (upd H id (some (encDk κm κc (newD n)))) (upd (upd A κm (some (.mp []))) κc (some (.co 2 0))) := by
  refine effr_ok (E := envOf Try.prog [] off [] []) (envOf_ok Try.mixed) Try.func4 rfl Try.call4 (by kernel_rfl) (by exact Nat.le_of_ble_eq_true rfl) (fun hab => ?_)
  have hc1 : ((n : Int) < 1) = False := eq_false (by omega)
  have hc2 : ((4096 : Int) < (n : Int)) = False := eq_false (by omega)
  have hi' : H (off + 13) = none := (hab _ (Nat.le_add_right _ _)).1
  have ha1 : A (off + 11, 0) = none := (hab _ (Nat.le_add_right _ _)).2 _
  have ha2 : A (off + 12, 0) = none := (hab _ (Nat.le_add_right _ _)).2 _
  have han : ((off + 11, 0) : Tok) ≠ (off + 12, 0) := fun e => by cases e
  repeat' (first
   |with_reducible first|refine vSq fun K hK=>?_|refine vRg ?_|refine vBl ?_|refine vSc ?_|refine vIf ?_|refine vSk ?_|refine vEx ?_|refine vRt ?_
   |(with_reducible first|refine gNt (fun h=>?_) (fun h=>?_)|refine gCs (fun h=>?_) (fun h=>?_))<;>(try simp only[h])
   |refine And.intro ha1 (And.intro hi' ?_)
   |with_reducible first|(refine hK _ ?_;clear hK K)|(clear hK K;refine hK _ ?_;clear hK K)|(clear hK K;clear hK K;refine hK _ ?_;clear hK K)|(clear hK K;clear hK K;clear hK K;refine hK _ ?_;clear hK K)
   |(with_reducible refine todo ?_;simp +decide only[go_sem, hc1, hc2]))
  obtain ⟨h, e1, e2, t1, t2, t3⟩ := tok2 (r1 := .mp []) (r2 := .co 2 0) hκm hκc ha1 ha2 hne han
  have hm1 : upd (upd A κm (some (.mp []))) κc (some (.co 2 0)) κm ≠ none := by rw [upd_other _ _ hne, upd_same]; simp
  have hc1 : upd (upd A κm (some (.mp []))) κc (some (.co 2 0)) κc ≠ none := by rw [upd_same]; simp
  have him : (encDk κm κc (newD n)).map (CV.im (swp id (off + 13)) h) = encDk (off + 11, 0) (off + 12, 0) (newD n) := by
    show [_, CV.mpr (h κm), CV.own (h κc) _, _, _, _, _] = _
    rw [e1, e2]; rfl
  have hSκ : upd (upd A (off + 11, 0) (some (.mp []))) (off + 12, 0) (some (.co 2 0)) (off + 12, 0) = some (.co 2 0) := upd_same _ _ _
  have hSm : upd (upd A (off + 11, 0) (some (.mp []))) (off + 12, 0) (some (.co 2 0)) (off + 11, 0) = some (.mp []) := by rw [upd_other _ _ han, upd_same]
  refine RetR_obj (H1 := H) (A1 := A) (A'' := upd (upd A (off + 11, 0) (some (.mp []))) (off + 12, 0) (some (.co 2 0))) (i' := off + 13) (h := h) (ds := encDkF (off + 11, 0) (newD n)) rfl ?_ (oks_pairP (by rw [upd_same]; simp)) hw (fun _ h => h) (fun _ h => h) hid hi' (DkAt.ok (H := upd H id _) hm1 hc1) ?_ ?_ ?_ t1 t2 t3 ?_
  · show PV.wk _ _ _ (.tup [.c (.ptr (swp id (off + 13) id) 0), _]) _
    rw [show swp id (off + 13) id = off + 13 from if_pos rfl]
    exact wk_pairP (by rw [upd_same]; simp)
  · intro i es hi
    have hne : i ≠ off + 13 := fun e => by rw [e, hi'] at hi; cases hi
    refine ⟨es, by show upd _ _ _ _ = _; rw [upd_other _ _ hne]; exact hi, wkC_same fun c hc => ok_mono (fun j hj => ?_) (fun κ hκ => ?_) (hw i es c hi hc)⟩
    · rw [upd_apply']; split
      · simp
      · exact hj
    · have n1 : κ ≠ (off + 11, 0) := fun e => hκ (by rw [e]; exact ha1)
      have n2 : κ ≠ (off + 12, 0) := fun e => hκ (by rw [e]; exact ha2)
      refine ⟨by rw [upd_other _ _ n2, upd_other _ _ n1]; exact hκ, ?_⟩
      show _ = upd A _ _ κ
      rw [upd_other _ _ n2]
  · show upd _ _ _ _ = _
    rw [upd_same]; rfl
  · rw [him]
    refine ⟨?_, ?_, ?_, ?_, ?_, ?_, ?_, True.intro⟩
    · rw [wk_d]; exact True.intro
    · exact .inr (.inl ⟨rfl, by rw [hSm]; simp, by rw [hSm]; exact (upd_same _ _ _).symm⟩)
    · exact .inr (.inr (.inr (.inl ⟨rfl, (off + 12, 0), 2, rfl, by show upd _ _ _ _ = _; rw [upd_other _ _ han.symm]; exact ha2, hSκ⟩)))
    · rw [wk_d]; exact True.intro
    · rw [wk_d]; exact True.intro
    · rw [wk_d]; exact True.intro
    · rw [wk_d]; exact True.intro
  · intro κ
    by_cases e : κ = (off + 12, 0)
    · subst e
      exact .inr (.inr (.inl ⟨by show upd _ _ _ _ = _; rw [upd_other _ _ han.symm]; exact ha2, 2, .inl hSκ⟩))
    · exact .inr (.inl (by rw [upd_other _ _ e]))
end disk
end Go.Proofs

namespace Go.PW
def aOver : List (Tok × Arr) → AMap → AMap
  | [], A, t => A t
  | (u, x) :: r, A, t => if t = u then some x else aOver r A t
def overA (l : List (Nat × PV)) (h : List (Nat × List CV)) (a : List (Tok × Arr)) (H : HMap) (A : AMap) : St := ⟨rhoOf l, hOver h H, aOver a A⟩
@[go_sem] theorem aOver_nil {A : AMap} {t : Tok} : aOver [] A t = A t := rfl
@[go_sem] theorem aOver_cons {A : AMap} {t u : Tok} {x : Arr} {r : List (Tok × Arr)} : aOver ((u, x) :: r) A t = if t = u then some x else aOver r A t := rfl
@[go_sem] theorem overA_eq (l : List (Nat × PV)) (h : List (Nat × List CV)) (a : List (Tok × Arr)) (H : HMap) (A : AMap) : overA l h a H A = ⟨rhoOf l, hOver h H, aOver a A⟩ := rfl
theorem aOver_hd {A : AMap} {κ : Tok} {x : Arr} {r : List (Tok × Arr)} : aOver ((κ, x) :: r) A κ = some x := if_pos rfl
theorem aOver_old {A : AMap} {κ : Tok} (h : A κ ≠ none) : ∀ {a : List (Tok × Arr)}, (∀ p ∈ a, A p.1 = none) → aOver a A κ = A κ
  | [], _ => rfl
  | p :: r, hf => by
    show (if κ = p.1 then some p.2 else aOver r A κ) = _
    rw [if_neg (fun e => h (by rw [e]; exact hf p List.mem_cons_self)), aOver_old h fun q hq => hf q (List.mem_cons_of_mem _ hq)]
theorem Weak_overA {H0 H : HMap} {A0 A : AMap} {S : St} {l : List (Nat × PV)} {h : List (Nat × List CV)} {a : List (Tok × Arr)} (hw : Wf H A) (hb : ∀ id, H id ≠ none → S.H id = H id) (hbA : ∀ κ, A κ ≠ none → S.A κ = A κ) (hf : ∀ p ∈ a, A p.1 = none)
    (h1 : keepP (hOver h H) S.A (aOver a A) S.ρ l) (h2 : keepH (hOver h H) S.A (aOver a A) S.H h) (h3 : keepA S.A a) (kH : ∀ id, H0 id ≠ none → H id ≠ none) (kA : ∀ κ, A0 κ ≠ none → A κ ≠ none) : Weak H0 A0 S (overA l h a H A) := by
  refine ⟨fun t => keepP_spec h1 t, fun id => ?_, fun κ => ?_, fun id e => hOver_old (kH id e), fun κ e => ?_⟩
  · show hOver h H id = none ∨ ∃ cs ds, hOver h H id = some cs ∧ _
    have key : ∀ {l : List (Nat × List CV)}, keepH (hOver h H) S.A (aOver a A) S.H l → ∀ id, hOver l H id = none ∨ ∃ cs ds, hOver l H id = some cs ∧ S.H id = some ds ∧ cs.length = ds.length ∧ ∀ (k : Nat) (c d : CV), cs[k]? = some c → ds[k]? = some d → CV.wk (hOver h H) S.A (aOver a A) c d := by
      intro l
      induction l with
      | nil =>
        intro _ t
        cases hH : H t with
        | none => exact .inl hH
        | some cs =>
          refine .inr ⟨cs, cs, hH, by rw [hb t (by rw [hH]; simp), hH], rfl, fun k c d h1 h2 => ?_⟩
          rw [h1] at h2
          cases h2
          exact .inr (.inl ⟨rfl, ok_mono (fun i hi => hOver_old hi) (fun κ hκ => by rw [aOver_old hκ hf]; exact ⟨hκ, (hbA κ hκ).symm⟩) (hw t cs c hH (List.mem_of_getElem? h1))⟩)
      | cons p r ih =>
        obtain ⟨u, x⟩ := p
        intro hk t
        unfold hOver
        split
        · rename_i e
          subst e
          right
          obtain ⟨h1, _⟩ := hk
          cases hH : S.H t with
          | none => rw [hH] at h1; exact h1.elim
          | some ds => rw [hH] at h1; exact ⟨x, ds, rfl, rfl, wkCells_spec h1⟩
        · exact ih hk.2 t
    exact key h2 id
  · show aOver a A κ = none ∨ aOver a A κ = S.A κ ∨ (S.A κ = none ∧ ∃ sz, aOver a A κ = some (.co sz 0) ∨ aOver a A κ = some (.mu sz [])) ∨ permA (S.A κ) (aOver a A κ)
    clear h1 h2
    induction a with
    | nil =>
      cases hA : A κ with
      | none => exact .inl hA
      | some ar => exact .inr (.inl (by show A κ = _; rw [hbA κ (by rw [hA]; simp)]))
    | cons p r ih =>
      obtain ⟨u, x⟩ := p
      by_cases e : κ = u
      · subst e
        rw [show aOver ((κ, x) :: r) A κ = some x from if_pos rfl]
        right
        obtain ⟨h1, _⟩ := h3
        cases hA : S.A κ with
        | none =>
          rw [hA] at h1
          right
          left
          refine ⟨rfl, ?_⟩
          cases x with
          | co sz n => exact ⟨sz, .inl (by rw [show n = 0 from h1])⟩
          | mu sz els => exact ⟨sz, .inr (by rw [show els = [] from h1])⟩
          | mp m => exact False.elim h1
          | mpi m c l i => exact False.elim h1
          | si s p => exact False.elim h1
        | some y => rw [hA] at h1; exact .inl (by rw [show y = x from h1])
      · rw [show aOver ((u, x) :: r) A κ = aOver r A κ from if_neg e]
        exact ih (fun q hq => hf q (List.mem_cons_of_mem _ hq)) h3.2
  · show aOver a A κ ≠ none
    rw [aOver_old (kA κ e) hf]
    exact kA κ e
end Go.PW
namespace Go.Proofs
open Go.PW
def fuseD (d : Dk) (n : Int) : Dk := { d with fused := true, left := if 0 > n then 0 else n }
def keptL (l : List (Int × List UInt8)) (keep : List Bool) : List (Int × List UInt8) := ((l.zip keep).filter (·.2)).map (·.1)
def crD (d : Dk) (keep : List Bool) : Dk := { d with stays := layAll d.stays (keptL d.cache keep), cache := [], fused := false }
def bools (l : List Bool) : List (List D) := l.map fun b => [.lit (.bool b)]
def ints (l : List Int) : List (List D) := l.map fun n => [.lit (.int .i64 n)]
theorem Try.appI : AppT Try.prog 40 3 1 8 := ⟨Try.underlying40, Try.cl3, Try.by3, Try.zo3, by decide, by decide⟩
section disk
variable {H : HMap} {A : AMap} {id : Nat} {κm κc κ' : Tok} {d : Dk}
def zipK (d : Dk) (keep : List Bool) (i : Nat) : List (Int × List UInt8) := (((d.cache.zip keep).take i).filter (·.2)).map (·.1)
theorem Wf_arr {A' : AMap} (hw : Wf H A) (h4 : ∀ κ, A κ ≠ none → A' κ ≠ none) : Wf H A' := fun i cs c hi hc => ok_mono (fun _ h => h) h4 (hw i cs c hi hc)
set_option maxRecDepth 8000 in
set_option maxHeartbeats 16000000 in
theorem Try.kCrash (off : Nat) (hw : Wf H A) (hd : DkAt H A id κm κc d) (hn : 0 < d.n) (hl : d.cache.length ≤ 1000000) (keep : List Bool) (hk : keep.length ≤ d.cache.length) (hκ : A κ' = none) :
    EffOK Try.prog 10 off H A [.c (.ptr id 0), .c (.d (.sl (bools keep)))] (pD (.lit (.int .i64 0))) (upd H id (some (encDk κm κ' (crD d keep)))) (upd (upd A κm (some (.mp (encNS (crD d keep).stays)))) κ' (some (.co 2 0))) := by
  refine effr_ok (E := envOf Try.prog [26, 38] off [] []) (envOf_ok Try.mixed) Try.func10 rfl Try.call10 (by kernel_rfl) (by exact Nat.le_of_ble_eq_true rfl) (fun hab => ?_)
  have kl := Try.kLen (off + 1000) hw hd
  have hz : ((d.n : Int) == 0) = false := by rw [beq_eq_false_iff_ne]; omega
  have hid := hd.h
  unfold encDk at hid
  have hlt := hd.lt hab
  have hcl : ((d.cache.length : Int) < (keep.length : Int)) = False := eq_false (by omega)
  have hbl : (bools keep).length = keep.length := by simp [bools]
  have hptr : ∀ {A1 A2 : AMap}, PV.wk (hOver [] H) A1 A2 (.c (.ptr id 0)) (.c (.ptr id 0)) = True := eq_true (wkP_ptr (by show H id ≠ none; rw [hid]; simp))
  have hwi : ∀ i, Wf H (upd A κm (some (.mp (encNS (layAll d.stays (zipK d keep i)))))) := fun i => Wf_arr hw upd_keep
  have hdi : ∀ i, DkAt H (upd A κm (some (.mp (encNS (layAll d.stays (zipK d keep i)))))) id κm κc { d with stays := layAll d.stays (zipK d keep i) } :=
    fun i => ⟨hd.h, upd_same _ _ _, by rw [upd_other _ _ hd.ne]; exact hd.c⟩
  repeat' (first
   |with_reducible first|refine vSq fun K hK=>?_|refine vRg ?_|refine vBl ?_|refine vSc ?_|refine vIf ?_|refine vSk ?_|refine vEx ?_|refine vRt ?_
   |(with_reducible first|refine gNt (fun h=>?_) (fun h=>?_)|refine gCs (fun h=>?_) (fun h=>?_))<;>(try simp only[h])
   |refine C_call rfl kl rfl (Above_mono hab (by omega)) ?_
   |with_reducible first|(refine hK _ ?_;clear hK K)|(clear hK K;refine hK _ ?_;clear hK K)|(clear hK K;clear hK K;refine hK _ ?_;clear hK K)|(clear hK K;clear hK K;clear hK K;refine hK _ ?_;clear hK K)
   |(with_reducible refine todo ?_;simp +decide only[go_sem, hz, hid, hcl, hbl]))
  refine VC_range keep.length (fun _ => True) (fun i => over [(0, .c (.ptr id 0)), (20, .c (.d (.sl (bools keep)))), (21, pD (.lit (.int .i64 keep.length))), (22, pD (.lit (.int .i64 i)))] []
    H (upd A κm (some (.mp (encNS (layAll d.stays (zipK d keep i))))))) True.intro ?_ ?_
  · refine Weak_overG (hwi 0) (fun _ _ => rfl) (upd_self hd.m).symm ?_ ?_ (fun i hi => hi) upd_keep
    · simp +decide only [go_sem, hptr]
    · simp +decide only [go_sem]
  · intro i hi _
    rcases Nat.lt_or_ge i keep.length with hi2 | hi2
    · have hc := int_lt_true hi2
      have hnx := int_next hi2 (by omega)
      have h3 : d.cache[i]? = some d.cache[i] := List.getElem?_eq_getElem (by omega)
      have h4 : keep[i]? = some keep[i] := List.getElem?_eq_getElem hi2
      have h5 : (bools keep)[i]? = some [.lit (.bool keep[i])] := by unfold bools; rw [List.getElem?_map, h4]; rfl
      have hst : zipK d keep (i + 1) = zipK d keep i ++ if keep[i] then [d.cache[i]] else [] := by
        have hz : (d.cache.zip keep)[i]? = some (d.cache[i], keep[i]) := by rw [List.getElem?_zip_eq_some]; exact ⟨h3, h4⟩
        unfold zipK
        rw [List.take_add_one, hz, Option.toList_some, List.filter_append, List.map_append]
        cases keep[i] <;> rfl
      have hwi1 := hwi i
      have hdi1 := hdi i
      have hwi2 := hwi (i + 1)
      generalize d.cache[i] = x at *
      cases hb : keep[i] with
      | true =>
        rw [hb] at h5 hst
        repeat' (first
         |with_reducible first|refine vSq fun K hK=>?_|refine vRg ?_|refine vBl ?_|refine vSc ?_|refine vIf ?_|refine vSk ?_|refine vEx ?_|refine vRt ?_
         |(with_reducible first|refine gNt (fun h=>?_) (fun h=>?_)|refine gCs (fun h=>?_) (fun h=>?_))<;>(try simp only[h])
         |refine C_call rfl (Try.kLay (off + 1000) hwi1 hdi1 x) rfl (Above_updA (Above_mono hab (by omega)) (by omega)) ?_
         |with_reducible first|(refine hK _ ?_;clear hK K)|(clear hK K;refine hK _ ?_;clear hK K)|(clear hK K;clear hK K;refine hK _ ?_;clear hK K)|(clear hK K;clear hK K;clear hK K;refine hK _ ?_;clear hK K)
         |(with_reducible refine todo ?_;simp +decide only[go_sem, hc, hnx, h3, h5, hid]))
        refine Next_of hi2 True.intro (Weak_overG hwi2 kp_nil ?_ ?_ ?_ (fun i hi => hi) upd_keep)
        · rw [hst]
          unfold layAll
          rw [List.foldl_append]
          exact upd_twice
        · simp +decide only [go_sem, hptr]
        · simp +decide only [go_sem]
      | false =>
        rw [hb] at h5 hst
        repeat' (first
         |with_reducible first|refine vSq fun K hK=>?_|refine vRg ?_|refine vBl ?_|refine vSc ?_|refine vIf ?_|refine vSk ?_|refine vEx ?_|refine vRt ?_
         |(with_reducible first|refine gNt (fun h=>?_) (fun h=>?_)|refine gCs (fun h=>?_) (fun h=>?_))<;>(try simp only[h])
         |with_reducible first|(refine hK _ ?_;clear hK K)|(clear hK K;refine hK _ ?_;clear hK K)|(clear hK K;clear hK K;refine hK _ ?_;clear hK K)|(clear hK K;clear hK K;clear hK K;refine hK _ ?_;clear hK K)
         |(with_reducible refine todo ?_;simp +decide only[go_sem, hc, hnx, h5]))
        refine Next_of hi2 True.intro (Weak_overG hwi2 kp_nil ?_ ?_ ?_ (fun i hi => hi) upd_keep)
        · rw [hst]
          simp
        · simp +decide only [go_sem, hptr]
        · simp +decide only [go_sem]
    · have hc := int_lt_false hi2
      have he : zipK d keep i = keptL d.cache keep := by
        unfold zipK keptL
        rw [List.take_of_length_le (by rw [List.length_zip]; omega)]
      repeat' (first
       |with_reducible first|refine vSq fun K hK=>?_|refine vRg ?_|refine vBl ?_|refine vSc ?_|refine vIf ?_|refine vSk ?_|refine vEx ?_|refine vRt ?_
       |(with_reducible first|refine gNt (fun h=>?_) (fun h=>?_)|refine gCs (fun h=>?_) (fun h=>?_))<;>(try simp only[h])
       |with_reducible first|(refine hK _ ?_;clear hK K)|(clear hK K;refine hK _ ?_;clear hK K)|(clear hK K;clear hK K;refine hK _ ?_;clear hK K)|(clear hK K;clear hK K;clear hK K;refine hK _ ?_;clear hK K)
       |(with_reducible refine todo ?_;simp +decide only[go_sem, hc, hid]))
      refine DkAt.retF (d' := crD d keep) hw hd rfl rfl (by simp +decide only [go_sem]) True.intro ?_ ?_ ?_ hκ
      · simp +decide only [go_sem, crD, encDkF]
      · intro j hj hjn
        simp +decide only [go_sem, hj]
      · rw [he]
        rfl
end disk
end Go.Proofs

namespace Go.Proofs
open Go.PW
section disk
variable {H : HMap} {A : AMap} {id : Nat} {κm κc : Tok} {d : Dk}
set_option maxRecDepth 8000 in
set_option maxHeartbeats 16000000 in
theorem Try.kFuse (off : Nat) (hw : Wf H A) (hd : DkAt H A id κm κc d) (hn : 0 < d.n) (n : Int) : EffOK Try.prog 8 off H A [.c (.ptr id 0), pD (.lit (.int .i64 n))] (.c .any) (upd H id (some (encDk κm κc (fuseD d n)))) A := by
  refine effr_ok (E := envOf Try.prog [26] off [] []) (envOf_ok Try.mixed) Try.func8 rfl Try.call8 (by kernel_rfl) (by exact Nat.le_of_ble_eq_true rfl) (fun hab => ?_)
  have kl := Try.kLen (off + 1000) hw hd
  have hz : ((0 : Int) < (d.n : Int)) = True := eq_true (by omega)
  have hid := hd.h
  unfold encDk at hid
  repeat' (first
   |with_reducible first|refine vSq fun K hK=>?_|refine vRg ?_|refine vBl ?_|refine vSc ?_|refine vIf ?_|refine vSk ?_|refine vEx ?_|refine vRt ?_
   |(with_reducible first|refine gNt (fun h=>?_) (fun h=>?_)|refine gCs (fun h=>?_) (fun h=>?_))<;>(try simp only[h])
   |refine C_call rfl kl rfl (Above_mono hab (by omega)) ?_
   |with_reducible first|(refine hK _ ?_;clear hK K)|(clear hK K;refine hK _ ?_;clear hK K)|(clear hK K;clear hK K;refine hK _ ?_;clear hK K)|(clear hK K;clear hK K;clear hK K;refine hK _ ?_;clear hK K)
   |(with_reducible refine todo ?_;simp +decide only[go_sem, hz, hid]))
  refine DkAt.ret hw hd rfl (by simp +decide only [go_sem]) True.intro ?_ ?_ rfl (fun _ h => h)
  · simp +decide only [go_sem, encDk, fuseD]
  · intro i hi
    simp +decide only [go_sem, hi]
end disk
end Go.Proofs
