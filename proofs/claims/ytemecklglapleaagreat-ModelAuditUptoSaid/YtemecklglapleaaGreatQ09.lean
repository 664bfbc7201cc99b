/-
  Parts of the proof, laid together: PwJb.
-/
import Derived.Test.YtemecklglapleaaGreatQ08

namespace Go.PW
variable {P : Program} {g : Gh} {H : HMap} {A : AMap} {w : World}
theorem CRep.xfer {g1 g2 : Gh} {A1 A2 : AMap} {c : CV} {v0 v : Value} (h0 : CRep g A c v0) (h1 : CRep g1 A1 c v) (hτ : ∀ κ ar, A κ = some ar → ar.isPr = false → A2 κ = A1 κ ∧ g2.τ κ = g1.τ κ)
 (hC : g2.C = g1.C) (hβ : g2.β = g1.β) (hπ : ∀ p v, g1.π p = some v → g2.π p = some v) : CRep g2 A2 c v := by
 have hd : ∀ {x u}, DRep g1.C g1.π x u → DRep g2.C g2.π x u := fun h => h.mono (fun b o v e => by rw [hC]; exact e) hπ
 cases c with
 | any => trivial
 | skip => exact h1
 | d x => exact hd h1
 | full els => exact ⟨hd h1.1, h1.2⟩
 | own κ els =>
   obtain ⟨_, sz, n, hA, _⟩ := h0
   obtain ⟨e1, e2⟩ := hτ κ _ hA rfl
   obtain ⟨r1, sz', n', r2, r3, r4⟩ := h1
   exact ⟨hd r1, sz', n', e1.trans r2, r3, fun q => by rw [e2]; exact r4 q⟩
 | mt κ sz n =>
   obtain ⟨_, _, _, _, _, hA, _⟩ := h0
   obtain ⟨e1, e2⟩ := hτ κ _ hA rfl
   obtain ⟨a, cap, els, r1, r2, r3, r4, r5⟩ := h1
   exact ⟨a, cap, els, r1, r2, e1.trans r3, r4, fun q => by rw [e2]; exact r5 q⟩
 | tv κ sz n L =>
   obtain ⟨_, _, _, _, _, hA, _⟩ := h0
   obtain ⟨e1, e2⟩ := hτ κ _ hA rfl
   obtain ⟨a, cap, els, r1, r2, r3, r4, r5⟩ := h1
   exact ⟨a, cap, els, r1, r2, e1.trans r3, r4, fun q => by rw [e2]; exact r5 q⟩
 | ptr id off => obtain ⟨b, hb, e⟩ := h1; exact ⟨b, by rw [hβ]; exact hb, e⟩
 | eptr e off =>
   obtain ⟨b, o, hv, hc⟩ := h1
   exact ⟨b, o, hv, fun k x hk => let ⟨u, hu, r⟩ := hc k x hk; ⟨u, by rw [hC]; exact hu, hd r⟩⟩
 | mptr κ sz n i off =>
   obtain ⟨_, _, _, hA, _⟩ := h0
   obtain ⟨e1, e2⟩ := hτ κ _ hA rfl
   obtain ⟨b, els, r1, r2, r3, r4⟩ := h1
   exact ⟨b, els, r1, e1.trans r2, r3, fun q => by rw [e2]; exact r4 q⟩
 | fn f caps => obtain ⟨vs, r1, r2, r3⟩ := h1; exact ⟨vs, r1, r2, fun k p hk => by rw [hβ]; exact r3 k p hk⟩
 | mpr κ =>
   obtain ⟨_, _, ar, hA, hmp⟩ := h0
   have hpr : ar.isPr = false := by cases ar <;> first | rfl | cases hmp
   obtain ⟨e1, e2⟩ := hτ κ _ hA hpr
   obtain ⟨r1, r2, ar', r3, r4⟩ := h1
   exact ⟨r1, by rw [e2]; exact r2, ar', e1.trans r3, r4⟩
 | vsl id n => obtain ⟨b, hb, e⟩ := h1; exact ⟨b, by rw [hβ]; exact hb, e⟩
 | bfn f fst caps => obtain ⟨us, vs, e, r1, r2⟩ := h1; exact ⟨us, vs, e, by rw [hβ]; exact r1, by rw [hβ]; exact r2⟩
 | itr κ bi => exact h1
 | sit κ =>
   obtain ⟨_, _, s, pos, hA⟩ := h0
   obtain ⟨e1, e2⟩ := hτ κ _ hA rfl
   obtain ⟨r1, r2, s', pos', r3⟩ := h1
   exact ⟨r1, by rw [e2]; exact r2, s', pos', e1.trans r3⟩
theorem zqa.move {g2 : Gh} {κ κ2 : Tok} {ar : Arr} (h : zqa g w κ ar) (hp : ar.isPr = false) (hτ : g2.τ κ2 = g.τ κ) (hC : g2.C = g.C) (hπ : ∀ p v, g.π p = some v → g2.π p = some v) (hO : ∀ b, g.O b = some (.tok κ) → g2.O b = some (.tok κ2)) : zqa g2 w κ2 ar := by
 have hC' : ∀ b o v, g.C b o = some v → g2.C b o = some v := fun b o v e => by rw [hC]; exact e
 cases ar with
 | co sz n =>
   obtain ⟨a, cap, h1, h2, h3⟩ := h
   refine ⟨a, cap, hτ.trans h1, h2, h3.imp id ?_⟩
   rintro ⟨b, rfl, ho, hc, rest⟩
   exact ⟨b, rfl, hO b ho, fun j hj => by rw [hC]; exact hc j hj, rest⟩
 | mu sz els =>
   obtain ⟨hs, a, cap, h1, h2, h3⟩ := h
   refine ⟨hs, a, cap, hτ.trans h1, h2, h3.imp id ?_⟩
   rintro ⟨b, rfl, ho, hc, vs, e, fz, hh, hu, hcap, hr⟩
   exact ⟨b, rfl, hO b ho, fun j => by rw [hC]; exact hc j, vs, e, fz, hh, hu, hcap, fun i k e' x h1 h2 => let ⟨u, hu, r⟩ := hr i k e' x h1 h2; ⟨u, hu, r.mono hC' hπ⟩⟩
 | mp m =>
   obtain ⟨b, es, clock, m0, h1, ho, hc, hh, hr, he⟩ := h
   exact ⟨b, es, clock, m0, hτ.trans h1, hO b ho, fun j => by rw [hC]; exact hc j, hh, hr, he.mono hC' hπ⟩
 | mpi m cur left bi =>
   obtain ⟨b, es, clock, m0, h1, ho, hc, hh, hr, he, seen, cur0, left0, ho2, hc2, hh2, hr2, he2, he3⟩ := h
   exact ⟨b, es, clock, m0, hτ.trans h1, hO b ho, fun j => by rw [hC]; exact hc j, hh, hr, he.mono hC' hπ, seen, cur0, left0, hO bi ho2, fun j => by rw [hC]; exact hc2 j, hh2, hr2, he2.mono hC' hπ, he3.mono hC' hπ⟩
 | si s pos =>
   obtain ⟨b, h1, ho, hc, hh⟩ := h
   exact ⟨b, hτ.trans h1, hO b ho, fun j => by rw [hC]; exact hc j, hh⟩
 | ob ds =>
   obtain ⟨b, vs, e, fz, h1, ho, hc, hh, hu, hl, hr⟩ := h
   exact ⟨b, vs, e, fz, hτ.trans h1, hO b ho, fun j => by rw [hC]; exact hc j, hh, hu, hl, fun k x hk => let ⟨u, hu, r⟩ := hr k x hk; ⟨u, hu, r.mono hC' hπ⟩⟩
 | pr => cases hp
 | cnt => cases hp
 | dead => trivial
theorem fixP {g1 : Gh} {Au A1 : AMap} {w1 : World} (hm0 : MRel g H A w) (hm : MRel g1 H A1 w1) (he : Evol g Au w g1 A1 w1) (hβ : g1.β = g.β) {κ : Tok} {c : Nat} {ar : Arr} {q : Option Nat} {u : Value} (hcnt : A (0, 0) = some (.cnt c)) (hc0 : A (0, c) = none)
 (hq : match q with | none => κ = (0, c) ∧ Au = A | some p => κ = (0, p) ∧ (∃ a, A (0, p) = some (.pr p a)) ∧ ∀ κ', κ' ≠ (0, p) → Au κ' = A κ')
 (hA1 : ∀ κ', κ' ≠ κ → A1 κ' = Au κ') (hκ : A1 κ = some ar) (hpr : ar.isPr = false) (hu : u = g1.τ κ ∨ ∃ sz a, ar = .mu sz [] ∧ u = .slice a 0 0) :
 ∃ g2, MRel g2 H (upd (upd (z5n A q) (0, c) (some (.pr c ar))) (0, 0) (some (.cnt (c + 1)))) w1 ∧ Evol g A w g2 (upd (upd (z5n A q) (0, c) (some (.pr c ar))) (0, 0) (some (.cnt (c + 1)))) w1 ∧ g2.β = g.β ∧ g2.π c = some u ∧ g2.C = g1.C ∧ ∀ p v, g1.π p = some v → g2.π p = some v := by
 have hc00 : c ≠ 0 := fun e => by rw [e, hcnt] at hc0; cases hc0
 have hk0 : κ ≠ (0, 0) := by
  cases q with
  | none => rw [hq.1]; intro e; cases e; exact hc00 rfl
  | some p =>
    obtain ⟨rfl, ⟨a, ha⟩, _⟩ := hq
    intro e
    rw [e, hcnt] at ha
    cases ha
 have hAu : ∀ κ', κ' ≠ κ → Au κ' = A κ' := fun κ' hk => by
  cases q with
  | none => rw [hq.2]
  | some p => exact hq.2.2 κ' (by rw [← hq.1]; exact hk)
 have hA10 : ∀ κ', κ' ≠ κ → A1 κ' = A κ' := fun κ' hk => (hA1 κ' hk).trans (hAu κ' hk)
 have hcnt1 := hm.tok (0, 0) (.cnt c) ((hA10 _ hk0.symm).trans hcnt)
 have hκA : ∀ ar, A κ = some ar → ∃ p, q = some p ∧ ∃ a, ar = .pr p a := fun ar' h => by
  cases q with
  | none => rw [hq.1, hc0] at h; cases h
  | some p =>
    obtain ⟨a, ha⟩ := hq.2.1
    rw [hq.1, ha] at h
    cases h
    exact ⟨p, rfl, a, rfl⟩
 have hdead : ∀ κ', κ' ≠ κ → z5n A q κ' = A κ' := fun κ' hk => by
  cases q with
  | none => rfl
  | some p => exact zza _ _ (by rw [← hq.1]; exact hk)
 let g2 : Gh := { g1 with τ := upd g1.τ (0, c) u, O := fun b => if g1.O b = some (.tok κ) then some (.tok (0, c)) else g1.O b, π := upd g1.π c (some u) }
 have hτ : ∀ κ', κ' ≠ (0, c) → g2.τ κ' = g1.τ κ' := fun κ' hk => zza _ _ hk
 have hτc : g2.τ (0, c) = u := zzc _ _ _
 have hπc : g2.π c = some u := zzc _ _ _
 have hπ : ∀ p v, g1.π p = some v → g2.π p = some v := fun p v e => by
  have hne : p ≠ c := fun e' => by rw [e', hcnt1.2 c (Zlr _)] at e; cases e
  exact (zza _ _ hne).trans e
 have hOt : ∀ b κ', g1.O b = some (.tok κ') → κ' ≠ κ → g2.O b = some (.tok κ') := fun b κ' ho hk => by
  show (if _ then _ else _) = _
  rw [if_neg (by rw [ho]; intro e; cases e; exact hk rfl)]
  exact ho
 have hOκ : ∀ b, g1.O b = some (.tok κ) → g2.O b = some (.tok (0, c)) := fun b ho => if_pos ho
 have hOv : ∀ b id, g1.O b = some (.var id) → g2.O b = some (.var id) := fun b id ho => by
  show (if _ then _ else _) = _
  rw [if_neg (by rw [ho]; intro e; cases e)]
  exact ho
 have hOn : ∀ b, g1.O b = none → g2.O b = none := fun b ho => by
  show (if _ then _ else _) = _
  rw [if_neg (by rw [ho]; intro e; cases e)]
  exact ho
 generalize hA2 : upd (upd (z5n A q) (0, c) (some (.pr c ar))) (0, 0) (some (.cnt (c + 1))) = A2
 have h20 : A2 (0, 0) = some (.cnt (c + 1)) := by rw [← hA2, zzc]
 have h0c : ((0, c) : Tok) ≠ (0, 0) := fun e => by cases e; exact hc00 rfl
 have h2c : A2 (0, c) = some (.pr c ar) := by rw [← hA2, zza _ _ h0c, zzc]
 have h2o : ∀ κ', κ' ≠ (0, 0) → κ' ≠ (0, c) → A2 κ' = z5n A q κ' := fun κ' k1 k2 => by rw [← hA2, zza _ _ k1, zza _ _ k2]
 clear hA2
 have hM : Mono g A g2 A2 := by
  refine ⟨he.mono.C, fun id b e => ?_, fun κ' ar' hA => ?_, fun p v e => hπ _ _ (he.mono.π p v e)⟩
  · show g1.β id = some b
    rw [hβ]; exact e
  · by_cases k0 : κ' = (0, 0)
    · subst k0
      rw [hcnt] at hA
      cases hA
      exact ⟨_, h20, Nat.le_succ _⟩
    · have kc : κ' ≠ (0, c) := fun e => by rw [e, hc0] at hA; cases hA
      rw [h2o κ' k0 kc]
      by_cases kk : κ' = κ
      · obtain ⟨p, rfl, a, rfl⟩ := hκA ar' (by rw [← kk]; exact hA)
        refine ⟨.dead, ?_, trivial⟩
        rw [kk, hq.1]
        exact zzc _ _ _
      · obtain ⟨ar2, e1, e2⟩ := he.mono.τ κ' ar' ((hAu κ' kk).trans hA)
        rw [hA10 κ' kk] at e1
        exact ⟨ar2, (hdead κ' kk).trans e1, by rw [hτ κ' kc]; exact e2⟩
 refine ⟨g2, ⟨hm.com, fun id b hb => ?_, fun κ' ar' hA => ?_, fun b o ho => ?_⟩, ⟨hM, he.frame, fun b h1 h2 => hOn b (he.own b h1 h2), he.old, he.size, he.os, he.tape, he.output, fun hn => (hn _ _ hcnt).elim⟩, hβ, hπc, rfl, hπ⟩
 · obtain ⟨ho, hCb, cs, vs, e, fz, hH, hh, hu', hr⟩ := hm.var id b hb
   obtain ⟨_, _, cs0, vs0, _, _, hH0, _, _, hr0⟩ := hm0.var id b (by rw [← hβ]; exact hb)
   rw [hH] at hH0
   cases hH0
   refine ⟨hOv b id ho, hCb, cs, vs, e, fz, hH, hh, hu', hr.1, fun k x hk => ?_⟩
   obtain ⟨v, hv, r1⟩ := hr.2 k x hk
   obtain ⟨v0, _, r0⟩ := hr0.2 k x hk
   refine ⟨v, hv, r0.xfer r1 (fun κ' ar' ha hp' => ?_) rfl rfl hπ⟩
   have k0 : κ' ≠ (0, 0) := fun e => by rw [e, hcnt] at ha; cases ha; cases hp'
   have kc : κ' ≠ (0, c) := fun e => by rw [e, hc0] at ha; cases ha
   have kk : κ' ≠ κ := fun e => by
    obtain ⟨p, _, a, rfl⟩ := hκA ar' (by rw [← e]; exact ha)
    cases hp'
   exact ⟨(h2o κ' k0 kc).trans ((hdead κ' kk).trans (hA10 κ' kk).symm), hτ κ' kc⟩
 · by_cases k0 : κ' = (0, 0)
   · subst k0
     rw [h20] at hA
     cases hA
     refine ⟨rfl, fun p hp => ?_⟩
     have hne : p ≠ c := by omega
     exact (zza _ _ hne).trans (hcnt1.2 p (by omega))
   · by_cases kc : κ' = (0, c)
     · subst kc
       rw [h2c] at hA
       cases hA
       refine ⟨?_, by rw [hπc, hτc], hpr⟩
       rcases hu with hu | ⟨sz, a, rfl, hu⟩
       · exact (hm.tok κ ar hκ).move hpr (hτc.trans hu) rfl hπ hOκ
       · exact ⟨by simp [Szd], a, 0, hτc.trans hu, Zlr _, .inl rfl⟩
     · rw [h2o κ' k0 kc] at hA
       by_cases kk : κ' = κ
       · rw [kk] at hA
         cases q with
         | none => exact (kc (kk.trans hq.1)).elim
         | some p =>
           rw [hq.1] at hA
           cases (show some Arr.dead = some ar' from (zzc _ _ _).symm.trans hA)
           trivial
       · rw [hdead κ' kk, ← hA10 κ' kk] at hA
         exact zqa.frameP (hτ κ' kc) (fun _ _ _ h => h) hπ (.inr k0) (fun b ho => ⟨hOt b κ' ho kk, rfl, fun _ => rfl⟩) (hm.tok κ' ar' hA)
 · cases ho1 : g1.O b with
   | none => rw [hOn b ho1] at ho; cases ho
   | some o' => exact hm.own b o' ho1
theorem newobj (hm : MRel g H A w) {cs : List CV} {ds : List D} {vs : Array Value} (hr : zq8 g A cs vs.toList) (hds : z7a cs = some ds) (e : TypeId) {c : Nat} (hcnt : A (0, 0) = some (.cnt c)) (hc0 : A (0, c) = none) :
 ∃ g', MRel g' H (upd (upd A (0, c) (some (.pr c (.ob ds)))) (0, 0) (some (.cnt (c + 1)))) (w.alloc (.cells vs e)) ∧ Evol g A w g' (upd (upd A (0, c) (some (.pr c (.ob ds)))) (0, 0) (some (.cnt (c + 1)))) (w.alloc (.cells vs e)) ∧ g'.β = g.β ∧
   g'.π c = some (.pointer (some ⟨w.heap.size, 0, none⟩)) := by
 let g1 : Gh := { g with τ := upd g.τ (0, c) (.pointer (some ⟨w.heap.size, 0, none⟩)), O := upd g.O w.heap.size (some (.tok (0, c))) }
 have hold : ∀ b, b < w.heap.size → (w.alloc (.cells vs e)).heap[b]? = w.heap[b]? := fun b hb => heap_alloc_old w _ b hb
 obtain ⟨d1, d2⟩ := yq6 (g := g) (A := A) hds
 obtain ⟨m1, m2⟩ := tokstep (g' := g1) (κ := (0, c)) (ar' := .ob ds) (w' := w.alloc (.cells vs e)) hm rfl (fun κ' hk => zza _ _ hk) (fun _ _ _ h => h) (fun _ _ _ _ => rfl) (fun b hb => zza _ _ (by omega))
  (fun b o ho => by
    by_cases hb : b = w.heap.size
    · subst hb; simp
    · rw [show g1.O b = g.O b from zza _ _ hb] at ho
      have := hm.own b o ho
      simp; omega)
  (fun b hb _ => hold b hb)
  (fun b o v hc => by
    rw [World.cell?_of_block (w := w) (hold b (C_lt hm hc))]
    exact hm.com b o v hc)
  (fun ar ha => by rw [hc0] at ha; cases ha)
  ⟨w.heap.size, vs, e, (0, 0), zzc _ _ _, zzc _ _ _, fun j => zk1 hm j, heap_alloc_new w _, fun o _ => by simp, by rw [← Array.length_toList, hr.1, d1], fun k x hk => by
    obtain ⟨c', hc, hrep⟩ := d2 k x hk
    obtain ⟨v, hv, hcr⟩ := hr.2 k c' hc
    exact ⟨v, by simpa using hv, hrep v hcr⟩⟩ (by simp) rfl rfl rfl
 obtain ⟨g2, q1, q2, q3, q4, _⟩ := fixP (u := .pointer (some ⟨w.heap.size, 0, none⟩)) hm m1 m2 rfl (q := none) hcnt hc0 ⟨rfl, rfl⟩ (fun κ' hk => zza _ _ hk) (zzc _ _ _) rfl (.inl (zzc _ _ _).symm)
 exact ⟨g2, q1, q2, q3, q4⟩
theorem Flat.sub {C : Nat → Nat → Option Value} {π : Nat → Option Value} {sz : Nat} {els : List (List D)} {us : List Value} (h : Flat C π sz els us) (hs : Szd sz els) {lo n : Nat} (hl : lo + n ≤ els.length) : Flat C π sz ((els.drop lo).take n) ((us.drop (lo * sz)).take (n * sz)) := by
 have hm : (lo + n) * sz ≤ els.length * sz := Nat.mul_le_mul_right _ hl
 rw [Nat.add_mul] at hm
 refine ⟨?_, fun v hv => h.2.1 v (List.mem_of_mem_drop (List.mem_of_mem_take hv)), fun i k e x he hx => ?_⟩
 · simp only [Zlt, List.length_drop, h.1]
   rw [Nat.min_eq_left (by omega), Nat.min_eq_left (by omega)]
 · rw [List.getElem?_take] at he
   split at he
   · rename_i hi
     rw [List.getElem?_drop] at he
     have hk : k < sz := by rw [← hs e (Zme he)]; exact (List.getElem?_eq_some_iff.1 hx).1
     have := Nat.mul_le_mul_right sz (show i + 1 ≤ n from hi)
     rw [Nat.add_mul, Nat.one_mul] at this
     obtain ⟨v, hv, hd⟩ := h.2.2 _ k e x he hx
     refine ⟨v, ?_, hd⟩
     rw [List.getElem?_take, if_pos (by omega), List.getElem?_drop, ← hv]
     congr 1
     rw [Nat.add_mul]
     omega
   · cases he
theorem xz1 (hm : MRel g H A w) {y : PV} {uy : Value} {sz : Nat} {o : Option Nat} {ys : List (List D)} (hy : PRep g A y uy) (h : z0i A y = some (o, ys)) (hs : Szd sz ys) :
 ∃ (news : List Value) (a' : Option Addr) (c' : Nat), Flat g.C g.π sz ys news ∧ uy = .slice a' ys.length c' ∧ ∀ w2 : World, w2.heap = w.heap → (Builtin.firstCells sz ys.length (.slice a' ys.length c')).run P w2 = .ok news.toArray w2 := by
 have nil : ∀ (a' : Option Addr) (c' : Nat), ys = [] → uy = .slice a' ys.length c' → ∃ (news : List Value) (a' : Option Addr) (c' : Nat), Flat g.C g.π sz ys news ∧ uy = .slice a' ys.length c' ∧ ∀ w2 : World, w2.heap = w.heap → (Builtin.firstCells sz ys.length (.slice a' ys.length c')).run P w2 = .ok news.toArray w2 := fun a' c' h1 h2 =>
  ⟨[], a', c', by rw [h1]; exact ⟨by simp, by simp, by simp⟩, h2, fun w2 hw => zvf (w := w) (by rw [h1]; simp) (.inl rfl) w2 hw⟩
 unfold z0i at h
 split at h
 · rename_i q sz' n
   split at h
   · rename_i q' sz2 els hA
     split at h
     · rename_i hc
       obtain ⟨rfl, rfl, rfl⟩ := hc
       cases h
       obtain ⟨⟨hs1, a, cap, h1, h2, h3⟩, hπ, _⟩ := hm.tok _ _ hA
       cases hy with
       | sa _ _ _ cap' a' hp hcp h0 =>
         rw [hp, h1] at hπ
         cases hπ
         by_cases hne : ys = []
         · exact nil _ _ hne rfl
         · have hlen : 0 < ys.length := List.length_pos_iff.2 hne
           obtain ⟨e0, r0, rfl⟩ : ∃ e r, ys = e :: r := by cases ys with | nil => exact (hne rfl).elim | cons e r => exact ⟨e, r, rfl⟩
           have e1 : sz2 = sz := by rw [← hs e0 (by simp), hs1 e0 (by simp)]
           subst e1
           rcases h3 with h3 | ⟨b, rfl, ho, hC, vs, te, fz, hh, hu, hcp2, hrep⟩
           · omega
           · obtain ⟨olds, r1, r2⟩ := z9b (g := g) hs1 h2 hh hcp2 hrep
             exact ⟨olds, _, _, r1, rfl, fun w2 hw => zvf (w := w) r1.1 (.inr ⟨b, 0, rfl, fun j v hj => by rw [Nat.zero_add]; exact r2 j v hj⟩) w2 hw⟩
     · cases h
   · cases h
 · rename_i q sz' L lo n
   split at h
   · rename_i q' sz2 els hA
     split at h
     · rename_i hc
       obtain ⟨rfl, rfl, rfl⟩ := hc
       cases h
       obtain ⟨⟨hs1, a, cap, h1, h2, h3⟩, hπ, _⟩ := hm.tok _ _ hA
       cases hy with
       | vw _ _ _ _ _ cap0 cap' a0 a' hp hn h0 =>
         rw [hp, h1] at hπ
         cases hπ
         have hlen : ((els.drop lo).take n).length = n := by simp; omega
         by_cases hne : (els.drop lo).take n = []
         · exact nil a' cap' hne (by rw [hlen])
         · have hlen2 : 0 < n := by rw [← hlen]; exact List.length_pos_iff.2 hne
           have e1 : sz2 = sz := by
            have hg : ((els.drop lo).take n)[0]? = some (((els.drop lo).take n)[0]'(by omega)) := Zge (by omega)
            have m1 := Zme hg
            rw [← hs _ m1, hs1 _ (List.mem_of_mem_drop (List.mem_of_mem_take m1))]
           subst e1
           obtain ⟨b, rfl, rfl⟩ := h0 hlen2
           rcases h3 with h3 | ⟨b', hb', ho, hC, vs, te, fz, hh, hu, hcp2, hrep⟩
           · omega
           · cases hb'
             obtain ⟨olds, r1, r2⟩ := z9b (g := g) hs1 h2 hh hcp2 hrep
             have r3 := r1.sub hs1 hn
             refine ⟨_, _, cap', r3, by rw [hlen], fun w2 hw => zvf (w := w) r3.1 (.inr ⟨b, lo * sz2, rfl, fun j v hj => ?_⟩) w2 hw⟩
             rw [List.getElem?_take] at hj
             split at hj
             · rw [List.getElem?_drop] at hj
               exact r2 _ _ hj
             · cases hj
     · cases h
   · cases h
 · obtain ⟨els, he, h⟩ := Option.map_eq_some_iff.1 h
   cases h
   exact zkl hm (zxj hy he) hs
theorem unwrap (hm : MRel g H A w) {p q : Nat} {ar : Arr} (hA : A (0, p) = some (.pr q ar)) : MRel g H (upd A (0, p) (some ar)) w := by
 refine ⟨hm.com, fun id b hb => ?_, fun κ ar' h => ?_, hm.own⟩
 · obtain ⟨ho, hC, cs, vs, e, fz, hH, hh, hu, hr⟩ := hm.var id b hb
   refine ⟨ho, hC, cs, vs, e, fz, hH, hh, hu, hr.1, fun k x hk => ?_⟩
   obtain ⟨v, hv, r⟩ := hr.2 k x hk
   refine ⟨v, hv, r.xfer r (fun κ' ar' ha hp => ⟨zza _ _ (fun e => ?_), rfl⟩) rfl rfl (fun _ _ h => h)⟩
   rw [e, hA] at ha
   cases ha
   cases hp
 · by_cases hk : κ = (0, p)
   · subst hk
     rw [zzc] at h
     cases h
     exact (hm.tok _ _ hA).1
   · rw [zza _ _ hk] at h
     exact hm.tok κ ar' h
theorem y2e {c sz : Nat} {els : List (List D)} {u : Value} {g2 : Gh} {A2 : AMap} (hm : MRel g2 H A2 w) (hA : A2 (0, c) = some (.pr c (.mu sz els))) (hp : g2.π c = some u) : PRep g2 A2 (.c (.d (.sa c sz els.length))) u := by
 obtain ⟨⟨_, a, cap, h1, h2, h3⟩, hπ, _⟩ := hm.tok _ _ hA
 rw [hp, h1] at hπ
 cases hπ
 refine DRep.sa c sz _ cap a (hp.trans ?_) h2 fun hpos => ?_
 · rfl
 · rcases h3 with h3 | ⟨b, rfl, _⟩
   · omega
   · exact ⟨b, rfl⟩
theorem y9r (hm : MRel g H A w) {ats : List TypeId} {x y v : PV} {A' : AMap} {ux uy : Value} (hx : PRep g A x ux) (hy : PRep g A y uy) (ty : TypeId) (h : apdV P A ats x y (fun v' A'' => v' = v ∧ A'' = A')) :
 ∃ t, ats = [t, t] ∧ ∃ u' w' g', (Builtin.append_ #[t, t] ty #[ux, uy]).run P w = .ok u' w' ∧ PRep g' A' v u' ∧ MRel g' H A' w' ∧ Evol g A w g' A' w' ∧ g'.β = g.β := by
 unfold apdV at h
 split at h
 · rename_i t t'
   split at h
   · rename_i e ht
     obtain ⟨⟨rfl, hpos, hz, hbp⟩, h⟩ := h
     refine ⟨t, rfl, ?_⟩
     obtain ⟨zc, hzc⟩ := Option.isSome_iff_exists.1 hz
     obtain ⟨i, z, hi, hzz, hzs, hsz, _, _⟩ := zqy hzc
     have hby : P.bytesOf e = i.bytes := by simp [Program.bytesOf, hi]
     obtain ⟨⟨q, els⟩, hdst, h⟩ := Opt.iff.1 h
     obtain ⟨⟨o, ys⟩, hsrcE, ⟨hs1, hs2, hbnd, hqo⟩, h⟩ := Opt.iff.1 h
     simp only at hs1 hs2 hbnd hqo h
     obtain ⟨news, a', c', hfy, rfl, hsrc⟩ := xz1 (P := P) hm hy hsrcE hs2
     rw [← hsz] at hs1 hs2 hfy hsrc h
     rw [hby] at hbnd hbp
     unfold newP at h
     split at h
     · rename_i c hc
       obtain ⟨hcn, rfl, rfl⟩ := h
       unfold yjy at hdst
       have fresh : ux = .slice none 0 0 ∨ (∃ a cap, ux = .slice a 0 cap ∧ (cap = 0)) → q = none → els = [] → ∃ u' w' g', (Builtin.append_ #[t, t] ty #[ux, .slice a' ys.length c']).run P w = .ok u' w' ∧ PRep g' (upd (upd (z5n A q) (0, c) (some (.pr c (.mu i.size (els ++ ys))))) (0, 0) (some (.cnt (c + 1)))) (.c (.d (.sa c i.size (els ++ ys).length))) u' ∧
        MRel g' H (upd (upd (z5n A q) (0, c) (some (.pr c (.mu i.size (els ++ ys))))) (0, 0) (some (.cnt (c + 1)))) w' ∧ Evol g A w g' (upd (upd (z5n A q) (0, c) (some (.pr c (.mu i.size (els ++ ys))))) (0, 0) (some (.cnt (c + 1)))) w' ∧ g'.β = g.β := by
        rintro hux rfl rfl
        have hux : ∃ a, ux = .slice a 0 0 := by
         rcases hux with h | ⟨a, cap, h, rfl⟩
         · exact ⟨none, h⟩
         · exact ⟨a, h⟩
        obtain ⟨a, rfl⟩ := hux
        have hc' : A (0, 0) = some (.cnt c) := hc
        have hcn' : A (0, c) = none := hcn
        by_cases hm0 : ys = []
        · subst hm0
          obtain rfl : news = [] := List.length_eq_zero_iff.1 (by rw [hfy.1]; simp)
          obtain ⟨g1, m1, m2, m3, m4, m5⟩ := z9o (κ := (0, c)) (ar' := .mu i.size []) (u := .slice a 0 0) hm (fun ar ha => by rw [hcn'] at ha; cases ha) (fun g' hg' => ⟨by simp [Szd], a, 0, hg', Zlr _, .inl rfl⟩)
          obtain ⟨g2, q1, q2, q3, q4, _⟩ := fixP (u := .slice a 0 0) hm m1 m2 m4 (q := none) hc' hcn' ⟨rfl, rfl⟩ (fun κ' hk => zza _ _ hk) (zzc _ _ _) rfl (.inl m3.symm)
          refine ⟨_, w, g2, zxx ht hi hsrc (Zlr _), y2e q1 ?_ q4, q1, q2, q3⟩
          rw [zza _ _ (by intro e; cases e; rw [hc'] at hcn'; cases hcn'), zzc]; try rfl
        · have hpos' : 0 < ys.length := List.length_pos_iff.2 hm0
          have h63 : ((0 + ys.length : Nat) : Int) ≤ 9223372036854775807 := by
           have : ys.length ≤ ys.length * i.bytes := Nat.le_mul_of_pos_right _ hbp
           simp only [List.length_nil, Nat.zero_add] at hbnd
           omega
          obtain ⟨u', w', hr, hgr⟩ := z4t (ty := ty) (a := a) (olds := []) (n := 0) (cap := 0) ht hi hzz hzs (by simp) hfy.1 (fun w2 hw => zvf (w := w) (by simp) (.inl rfl) w2 hw) hsrc (by omega) (by simpa using hbnd) h63
          rw [List.nil_append, Nat.zero_add] at hgr
          obtain ⟨g1, m1, m2, m3, m4⟩ := zwj (κ := (0, c)) hm hgr hfy hs2 rfl (fun ar ha => by rw [hcn'] at ha; cases ha)
          have hu : u' = g1.τ (0, c) ∨ ∃ sz a, Arr.mu i.size ys = .mu sz [] ∧ u' = .slice a 0 0 := by
           obtain ⟨_, _, els', e1, _, e2, _, e3⟩ := m3
           rw [zzc] at e2
           cases e2
           rcases e3 rfl with e3 | ⟨a3, e3⟩
           · exact .inl e3.symm
           · have := e1.symm.trans e3; injection this with _ x1 _; omega
          obtain ⟨g2, q1, q2, q3, q4, _⟩ := fixP (u := u') hm m1 m2 m4 (q := none) hc' hcn' ⟨rfl, rfl⟩ (fun κ' hk => zza _ _ hk) (zzc _ _ _) rfl hu
          refine ⟨_, w', g2, hr, y2e q1 ?_ q4, q1, q2, q3⟩
          rw [zza _ _ (by intro e; cases e; rw [hc'] at hcn'; cases hcn'), zzc]; try rfl
       split at hdst
       · cases hdst
         obtain ⟨hd, hf⟩ := hx
         refine fresh ?_ rfl rfl
         cases hd with
         | nil a => exact .inr ⟨a, 0, rfl, rfl⟩
         | sl els b o cap sz n val hn hcap hsz hC hd =>
           obtain rfl : n = 0 := hn
           exact .inr ⟨_, cap, rfl, hf⟩
       · rename_i p sz' n
         split at hdst
         · rename_i q' sz2 els' hA
           split at hdst
           · rename_i hcc
             obtain ⟨rfl, rfl, rfl⟩ := hcc
             cases hdst
             have hc' : A (0, 0) = some (.cnt c) := by
              by_cases e : ((0, 0) : Tok) = (0, q')
              · rw [← e] at hA
                rw [show z5n A (some q') (0, 0) = some .dead by rw [e]; exact zzc _ _ _] at hc
                cases hc
              · rw [← hc]; exact (zza _ _ e).symm
             have hcp : ((0, c) : Tok) ≠ (0, q') := fun e => by rw [e] at hcn; rw [show z5n A (some q') (0, q') = some .dead from zzc _ _ _] at hcn; cases hcn
             have hcn' : A (0, c) = none := by rw [← hcn]; exact (zza _ _ hcp).symm
             have hc0 : ((0, 0) : Tok) ≠ (0, c) := fun e => by rw [← e, hc'] at hcn'; cases hcn'
             have hp0 : ((0, 0) : Tok) ≠ (0, q') := fun e => by rw [← e, hc'] at hA; cases hA
             have hmu := unwrap hm hA
             obtain ⟨⟨hsA, a, cap, h1, h2, h3⟩, hπ, _⟩ := hm.tok _ _ hA
             have e2 : P.cellsOf e = i.size := hsz.symm
             cases hx with
             | sa _ _ _ cap' a2 hp hcp2 h0 =>
               rw [hp, h1] at hπ
               cases hπ
               have hmuA : upd A (0, q') (some (.mu i.size els)) (0, q') = some (.mu i.size els) := zzc _ _ _
               rw [e2] at hmu
               have hmu' := hmu
               obtain ⟨u', w', g1, hr, hpr, m1, m2, m3⟩ := z95 (ty := ty) hmu' ht hi hzz hzs hmuA (ux := .slice a els.length cap) ⟨a, cap, els, rfl, h0, hmuA, Zlr _, fun _ => .inl h1⟩ hfy hsrc hs2 hbnd hbp
               have hu : u' = g1.τ (0, q') ∨ ∃ sz a, Arr.mu i.size (els ++ ys) = .mu sz [] ∧ u' = .slice a 0 0 := by
                obtain ⟨_, _, els', e1, _, e2, _, e3⟩ := hpr
                rw [zzc] at e2
                cases e2
                rcases e3 rfl with e3 | ⟨a3, e3⟩
                · exact .inl e3.symm
                · have := e1.symm.trans e3
                  injection this with _ x1 _
                  exact .inr ⟨_, a3, by rw [List.length_eq_zero_iff.1 x1], e3⟩
               obtain ⟨g2, q1, q2, q3, q4, _⟩ := fixP (u := u') hm m1 m2 m3 (q := some q') hc' hcn' ⟨rfl, ⟨_, hA⟩, fun κ' hk => zza _ _ hk⟩ (fun κ' hk => zza _ _ hk) (zzc _ _ _) rfl hu
               refine ⟨_, w', g2, hr, y2e q1 ?_ q4, q1, q2, q3⟩
               rw [zza _ _ hc0.symm, zzc]
           · cases hdst
         · cases hdst
       · cases hdst
     · exact h.elim
   · exact h.elim
 · exact h.elim
end Go.PW
