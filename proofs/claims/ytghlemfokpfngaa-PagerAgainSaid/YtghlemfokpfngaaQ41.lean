/-
  Parts of the proof, laid together: PwVe, PwVc.
-/
import Derived.Test.YtghlemfokpfngaaQ40
import Derived.Test.YtghlemfokpfngaaQ39

namespace Go.Proofs
open Go.PW
theorem lay_comm {H L : HMap} (h : ∀ i, L i ≠ none → H i = none) : layH L H = layH H L := by
  funext i
  have := h i
  unfold layH
  cases hl : L i <;> cases hh : H i <;> simp_all
theorem layA_comm {H L : AMap} (h : ∀ i, L i ≠ none → H i = none) : layA L H = layA H L := by
  funext i
  have := h i
  unfold layA
  cases hl : L i <;> cases hh : H i <;> simp_all
theorem layA_updV (A M : AMap) (κ : Tok) (c : Arr) : upd (layA A M) κ (some c) = layA A (upd M κ (some c)) := by
  funext j
  by_cases e : j = κ
  · subst e
    rw [upd_same]
    unfold layA
    rw [upd_same]
  · rw [upd_other _ _ e]
    unfold layA
    rw [upd_other _ _ e]
theorem oks_mono {hk hk' : Nat → Prop} {tk tk' : Tok → Prop} (h : ∀ i, hk i → hk' i) (h' : ∀ κ, tk κ → tk' κ) {v : PV} (hv : v.oks hk tk) : v.oks hk' tk' := by
  cases v with
  | c x => exact ok_mono h h' hv
  | agg cs => exact fun c hc => ok_mono h h' (hv c hc)
  | tup xs =>
    intro x hx
    have := hv x hx
    cases x with
    | c y => exact ok_mono h h' this
    | agg cs => exact fun c hc => ok_mono h h' (this c hc)
def wH (cs : List CV) (X L : HMap) : HMap := layH (upd X 4 (some cs)) L
structure GW (k k2 : Nat) (X : HMap) (Y : AMap) (L : HMap) (Q : AMap) : Prop where
  wx : Wf X Y
  ax : Above k X Y
  x4 : X 4 = none
  wl : Wf L Q
  al : Above k2 L Q
  ll : ∀ i, L i ≠ none → 500 ≤ i
  lq : ∀ τ, Q τ ≠ none → 500 ≤ τ.1
  hk : k ≤ 500
  hk2 : k2 ≤ 1000
section gw
variable {P : Program} {k k2 k' : Nat} {X X' L L' : HMap} {Y Y' Q Q' : AMap} {cs : List CV} {f : FuncId} {args : List PV} {v : PV}
theorem wH_comm (cs : List CV) (h : GW k k2 X Y L Q) : layH L (upd X 4 (some cs)) = wH cs X L := lay_comm fun i hi => by
  have := h.ll i hi
  have := h.hk
  rw [upd_other _ _ (by omega)]
  exact (h.ax i (by omega)).1
theorem GW.commA (h : GW k k2 X Y L Q) : layA Q Y = layA Y Q := layA_comm fun i hi => by
  have := h.lq i hi
  have := h.hk
  exact (h.ax i.1 (by omega)).2 i.2
theorem GW.ab (h : GW k k2 X Y L Q) : Above (0 + 1000) (wH cs X L) (layA Y Q) := fun i hi => by
  have q1 := h.hk
  have q2 := h.hk2
  refine ⟨?_, fun q => ?_⟩
  · unfold wH
    rw [layH_h (h.al i (by omega)).1, upd_other _ _ (by omega)]
    exact (h.ax i (by omega)).1
  · rw [layA_h ((h.al i (by omega)).2 q)]
    exact (h.ax i (by omega)).2 q
theorem GW.wf4 (h : GW k k2 X Y L Q) (hcs : ∀ c ∈ cs, ∀ hk tk, CV.ok hk tk c) : Wf (upd X 4 (some cs)) Y :=
  Wf_set h.wx (fun c hc => hcs c hc _ _) (fun _ h => h)
theorem GW.d (h : GW k k2 X Y L Q) (hcs : ∀ c ∈ cs, ∀ hk tk, CV.ok hk tk c) (e : EffOK P f 1000 X Y args v X' Y') (ha : ∀ tk, ∀ x ∈ args, x.oks (fun i => X i ≠ none) tk) (w' : Wf X' Y') (a' : Above k' X' Y') (x4' : X' 4 = none) (hk' : k' ≤ 500) :
    EffOK P f 1000 (wH cs X L) (layA Y Q) args v (wH cs X' L) (layA Y' Q) ∧ GW k' k2 X' Y' L Q := by
  have e1 := eff_frame (id := 4) (cs := cs) e h.wx (ha _) h.x4 x4'
  have q1 := h.hk
  refine ⟨eff_over e1 (h.wf4 hcs) (fun tk x hx => oks_mono (fun i hi => ?_) (fun _ h => h) (ha tk x hx)) (fun i hi => ?_) (fun τ hτ => ?_), ⟨w', a', x4', h.wl, h.al, h.ll, h.lq, hk', h.hk2⟩⟩
  · by_cases e : i = 4
    · rw [e, upd_same]; simp
    · rw [upd_other _ _ e]; exact hi
  · have := h.ll i hi
    exact ⟨by rw [upd_other _ _ (by omega)]; exact (h.ax i (by omega)).1, by rw [upd_other _ _ (by omega)]; exact (a' i (by omega)).1⟩
  · have := h.lq τ hτ
    exact ⟨(h.ax τ.1 (by omega)).2 τ.2, (a' τ.1 (by omega)).2 τ.2⟩
theorem GW.o (h : GW k k2 X Y L Q) (e : EffOK P f 1000 L Q args v L' Q') (ha : ∀ tk, ∀ x ∈ args, x.oks (fun i => L i ≠ none) tk) (w' : Wf L' Q') (a' : Above k' L' Q') (l' : ∀ i, L' i ≠ none → 500 ≤ i) (q' : ∀ τ, Q' τ ≠ none → 500 ≤ τ.1) (hk' : k' ≤ 1000) :
    EffOK P f 1000 (wH cs X L) (layA Y Q) args v (wH cs X L') (layA Y Q') ∧ GW k k' X Y L' Q' := by
  have g' : GW k k' X Y L' Q' := ⟨h.wx, h.ax, h.x4, w', a', l', q', h.hk, hk'⟩
  have q1 := h.hk
  have no : ∀ {M : HMap}, (∀ i, M i ≠ none → 500 ≤ i) → ∀ i, upd X 4 (some cs) i ≠ none → M i = none := fun hM i hi => by
    refine Classical.byContradiction fun hn => hi ?_
    have := hM i hn
    rw [upd_other _ _ (by omega)]
    exact (h.ax i (by omega)).1
  have nq : ∀ {M : AMap}, (∀ τ, M τ ≠ none → 500 ≤ τ.1) → ∀ τ, Y τ ≠ none → M τ = none := fun hM τ hi => by
    refine Classical.byContradiction fun hn => hi ?_
    have := hM τ hn
    exact (h.ax τ.1 (by omega)).2 τ.2
  have e1 := eff_over (L := upd X 4 (some cs)) (M := Y) e h.wl ha (fun i hi => ⟨no h.ll i hi, no l' i hi⟩) (fun τ hτ => ⟨nq h.lq τ hτ, nq q' τ hτ⟩)
  rw [wH_comm cs h, wH_comm cs g', h.commA, g'.commA] at e1
  exact ⟨e1, g'⟩
end gw
section px
variable {H : HMap} {A : AMap} {k did N logs M : Nat} {b : Nat → List UInt8}
theorem Try.vOpenY (off : Nat) (h : DY H A k did N logs M b) (hk : k + 60 ≤ off) (hN : N - logs ≤ 30) (hM : M + 2 < 1000000) : ∃ pid H' A', EffOK Try.prog 6 off H A [.c (.ptr did 0), pD (.lit (.int .i64 logs))] (.tup [.c (.ptr pid 0), .c (.d (.lit (.int .i64 0)))]) H' A' ∧
    QX (LV logs N (M + 2) False) H' A' (k + 13) did pid N logs [] b ∧ KP k H A H' A' := by
  obtain ⟨κm, κc, d, L, hr, hf, lo, big⟩ := h
  obtain ⟨H', A', x, v, e, q, lo', κc', d', L', a1, a2, a3, r⟩ := Try.wOpen off L lo hk hN big hr hM hf
  rcases r with ⟨rfl, hfu, pid, lid, κr', κp', l', rfl, w, st, T, hT, hp, hl, hb⟩ | ⟨_, h, _⟩
  · have hd' : d'.fused = true → False := fun h => by rw [hfu] at h; cases h
    exact ⟨pid, H', A', e, ⟨lid, κm, κc', κr', κp', d', l', _, ⟨w, st⟩, rfl, hb, rfl, hd', T, hT, hp, hl⟩, q⟩
  · cases h
theorem Try.vCopy (h : DY H A k did N logs M b) (hk : k ≤ 500) : ∃ L Q, EffOK Try.prog 12 1000 H A [.c (.ptr did 0)] (.c (.ptr 500 0)) (layH H L) (layA A Q) ∧ DY L Q 501 500 N logs M b ∧ (∀ i, L i ≠ none → i = 500) ∧ ∀ τ, Q τ ≠ none → τ.1 = 500 := by
  obtain ⟨κm, κc, d, L, hr, hf, lo, big⟩ := h
  obtain ⟨T, B, old, h1, h2, h3, h4⟩ := id hr
  obtain ⟨_, _, _, _, _, _, _, _, _, o5⟩ := h2.ex
  have hdn : d.n = N := o5.dn
  have hlo := o5.n1
  have e := Try.kCopy (id := 500) (κm' := (500, 0)) (κc' := (500, 1)) 1000 L.wf L.dk h2.g (by omega) (by rw [h2.c]; exact Nat.zero_le _) (L.ab _ hk).1 ((L.ab 500 hk).2 0) ((L.ab 500 hk).2 1) (by decide)
  obtain ⟨L2, hL2⟩ : ∃ L2 : HMap, L2 = upd noH 500 (some (encDk (500, 0) (500, 1) d)) := ⟨_, rfl⟩
  obtain ⟨Q2, hQ2⟩ : ∃ Q2 : AMap, Q2 = upd (upd noA (500, 0) (some (.mp (encNS d.stays)))) (500, 1) (some (.co 2 d.cache.length)) := ⟨_, rfl⟩
  have n01 : ((500, 0) : Tok) ≠ (500, 1) := fun e => by cases e
  rw [show upd H 500 (some (encDk (500, 0) (500, 1) d)) = layH H L2 by rw [hL2, ← layH_upd]; rfl,
    show upd (upd A (500, 0) (some (.mp (encNS d.stays)))) (500, 1) (some (.co 2 d.cache.length)) = layA A Q2 by rw [hQ2, ← layA_updV, ← layA_updV]; rfl] at e
  have l2 : ∀ i, L2 i ≠ none → i = 500 := fun i hi => by
    by_cases e : i = 500
    · exact e
    · rw [hL2, upd_other _ _ e] at hi
      exact (hi rfl).elim
  have q2 : ∀ τ, Q2 τ ≠ none → τ.1 = 500 := fun τ hτ => by
    by_cases e : τ = (500, 1)
    · rw [e]
    · rw [hQ2, upd_other _ _ e] at hτ
      by_cases e2 : τ = (500, 0)
      · rw [e2]
      · rw [upd_other _ _ e2] at hτ
        exact (hτ rfl).elim
  have qm : Q2 (500, 0) = some (.mp (encNS d.stays)) := by rw [hQ2, upd_other _ _ n01, upd_same]
  have qc : Q2 (500, 1) = some (.co 2 d.cache.length) := by rw [hQ2, upd_same]
  refine ⟨L2, Q2, e, ⟨(500, 0), (500, 1), d, ⟨?_, ?_, ⟨by rw [hL2, upd_same], qm, qc⟩⟩, hr, hf, fun j hj => ⟨?_, fun q => ?_⟩, big⟩, l2, q2⟩
  · rw [hL2]
    exact Wf_set (A := Q2) (fun i cs c h => by cases h) (DkAt.ok (by rw [qm]; simp) (by rw [qc]; simp)) (fun _ h => h)
  · intro i hi
    refine ⟨?_, fun q => ?_⟩
    · cases h : L2 i with
      | none => rfl
      | some c => have := l2 i (by rw [h]; simp); omega
    · cases h : Q2 (i, q) with
      | none => rfl
      | some c => have := q2 (i, q) (by rw [h]; simp); simp only at this; omega
  · cases h : L2 j with
    | none => rfl
    | some c => have := l2 j (by rw [h]; simp); omega
  · cases h : Q2 (j, q) with
    | none => rfl
    | some c => have := q2 (j, q) (by rw [h]; simp); simp only at this; omega
theorem DY.nums (h : DY H A k did N logs M b) : Wf H A ∧ Above k H A ∧ H did ≠ none ∧ ∀ j, j < 200 → H j = none ∧ ∀ q, A (j, q) = none := by
  obtain ⟨κm, κc, d, L, _, _, lo, _⟩ := h
  exact ⟨L.wf, L.ab, by rw [L.dk.h]; simp, lo⟩
def EE (f : FuncId) (P : Program) (X : HMap) (Y : AMap) (args : List PV) (v : PV) (X' : HMap) (Y' : AMap) : Prop := EffOK P f 1000 X Y args v X' Y' ∧ Above (0 + 1000) X Y
theorem Try.vAgain {pid : Nat} {ch : List (Int × List UInt8)} {cs : List CV} (hcs : ∀ c ∈ cs, ∀ hk tk, CV.ok hk tk c) (P : QX (LV 40 60 2 False) H A 214 200 pid 60 40 ch b) (n1 n2 : Int) (keep : List Bool) :
    ∃ (W1 W2 W3 W4 W5 W6 W7 W8 W9 : HMap) (Y1 Y2 Y3 Y4 Y5 Y6 Y7 Y8 Y9 : AMap) (X1 X2 : List Int) (v1 v2 : Int) (x : CV) (p2 p3 : Nat) (l : List (List UInt8)), l.length ≤ 1000000 ∧ W5 4 = some cs ∧
      EE 8 Try.prog (upd H 4 (some cs)) A [.c (.ptr 200 0), pD (.lit (.int .i64 n1))] (.c .any) W1 Y1 ∧
      EE 9 Try.prog W1 Y1 [.c (.ptr pid 0)] (pD (.lit (.int .i64 v1))) W2 Y2 ∧
      EE 11 Try.prog W2 Y2 [.c (.ptr 200 0)] (.c (.d (.sl (ints X1)))) W2 Y2 ∧
      EE 10 Try.prog W2 Y2 [.c (.ptr 200 0), .c (.d (.sl (bools (keep.take (min keep.length X1.length)))))] (pD (.lit (.int .i64 0))) W3 Y3 ∧
      EE 12 Try.prog W3 Y3 [.c (.ptr 200 0)] (.c (.ptr 500 0)) W4 Y4 ∧
      EE 6 Try.prog W4 Y4 [.c (.ptr 500 0), pD (.lit (.int .i64 (40 : Nat)))] (.tup [.c (.ptr p2 0), .c (.d (.lit (.int .i64 0)))]) W5 Y5 ∧
      EE 8 Try.prog W5 Y5 [.c (.ptr 200 0), pD (.lit (.int .i64 n2))] (.c .any) W6 Y6 ∧
      EE 6 Try.prog W6 Y6 [.c (.ptr 200 0), pD (.lit (.int .i64 (40 : Nat)))] (.tup [.c x, .c (.d (.lit (.int .i64 v2)))]) W7 Y7 ∧
      EE 11 Try.prog W7 Y7 [.c (.ptr 200 0)] (.c (.d (.sl (ints X2)))) W7 Y7 ∧
      EE 10 Try.prog W7 Y7 [.c (.ptr 200 0), .c (.d (.sl (bools (keep.take (min keep.length X2.length)))))] (pD (.lit (.int .i64 0))) W8 Y8 ∧
      EE 6 Try.prog W8 Y8 [.c (.ptr 200 0), pD (.lit (.int .i64 (40 : Nat)))] (.tup [.c (.ptr p3 0), .c (.d (.lit (.int .i64 0)))]) W9 Y9 ∧
      EE 14 Try.prog W9 Y9 [.c (.ptr p2 0)] (.c (.d (.sl (textsD l)))) W9 Y9 ∧
      EE 14 Try.prog W9 Y9 [.c (.ptr p3 0)] (.c (.d (.sl (textsD l)))) W9 Y9 := by
  have lt4 : ∀ {R : Dk → Lg → Bool → Prop} {X : HMap} {Y : AMap} {kx px : Nat} {c : List (Int × List UInt8)} {bx : Nat → List UInt8}, QX R X Y kx 200 px 60 40 c bx → Wf X Y ∧ Above kx X Y ∧ X 4 = none ∧ X 200 ≠ none ∧ X px ≠ none := fun h => by
    obtain ⟨_, _, _, _, _, _, _, _, _, w, a, h1, h2, lo, _⟩ := h.nums
    exact ⟨w, a, (lo 4 (by omega)).1, h1, h2⟩
  have dy4 : ∀ {X : HMap} {Y : AMap} {kx M : Nat} {bx : Nat → List UInt8}, DY X Y kx 200 60 40 M bx → Wf X Y ∧ Above kx X Y ∧ X 4 = none ∧ X 200 ≠ none := fun h => by
    obtain ⟨w, a, h1, lo⟩ := h.nums
    exact ⟨w, a, (lo 4 (by omega)).1, h1⟩
  obtain ⟨w0, a0, z0, i0, j0⟩ := lt4 P
  have g0 : GW 214 0 H A noH noA := ⟨w0, a0, z0, (fun i cs c h => nomatch h), fun i _ => ⟨rfl, fun _ => rfl⟩, fun i h => (h rfl).elim, fun i h => (h rfl).elim, by omega, by omega⟩
  obtain ⟨HF, AF, eF, PF, _, _⟩ := Try.xFuse (Q' := LV 40 60 2 True) 1000 P n1 (fun _ _ _ h => h.fuse _)
  obtain ⟨w1, a1, z1, i1, j1⟩ := lt4 PF
  obtain ⟨eF', g1⟩ := g0.d hcs eF (fun tk => oks_args (l := [.lit (.int .i64 n1)]) i0) w1 a1 z1 (by omega)
  have hcm : ∃ (v : Int) (HC : HMap) (AC : AMap) (X : List Int) (HX : HMap) (AX : AMap) (bf : Nat → List UInt8), EffOK Try.prog 9 1000 HF AF [.c (.ptr pid 0)] (pD (.lit (.int .i64 v))) HC AC ∧ (Wf HC AC ∧ Above 217 HC AC ∧ HC 4 = none ∧ HC 200 ≠ none) ∧
      EffOK Try.prog 11 1000 HC AC [.c (.ptr 200 0)] (.c (.d (.sl (ints X)))) HC AC ∧ EffOK Try.prog 10 1000 HC AC [.c (.ptr 200 0), .c (.d (.sl (bools (keep.take (min keep.length X.length)))))] (pD (.lit (.int .i64 0))) HX AX ∧ DY HX AX 218 200 60 40 3 bf := by
    obtain ⟨_, ⟨rfl, HC, AC, eC, PC, _, _⟩ | ⟨rfl, _, bd, HC, AC, eC, PC, _, _⟩⟩ := Try.xCommit 1000 PF (by omega) (by omega) (by omega) (fun _ => PF.fit)
    · obtain ⟨X, eD, hX, hcr⟩ := Try.xCrashAny 1000 PC
      obtain ⟨d9, l9, x9, q9, s9, r9', HX, AX, eX, hD⟩ := hcr (keep.take (min keep.length X.length)) (by rw [List.length_take]; omega)
      obtain ⟨w, a, z, i, _⟩ := lt4 PC
      exact ⟨_, HC, AC, X, HX, AX, _, eC, ⟨w, a, z, i⟩, eD, eX, hD 3 _ (q9.crash (by omega) s9 r9' _)⟩
    · obtain ⟨X, eD, hX, hcr⟩ := Try.xCrashAny 1000 PC
      obtain ⟨d9, l9, x9, q9, s9, r9', HX, AX, eX, hD⟩ := hcr (keep.take (min keep.length X.length)) (by rw [List.length_take]; omega)
      obtain ⟨w, a, z, i, _⟩ := lt4 PC
      rcases q9.2 (keep.take (min keep.length X.length)) with h | h
      · exact ⟨_, HC, AC, X, HX, AX, _, eC, ⟨w, a, z, i⟩, eD, eX, hD 3 _ h⟩
      · exact ⟨_, HC, AC, X, HX, AX, _, eC, ⟨w, a, z, i⟩, eD, eX, hD 3 _ h⟩
  obtain ⟨v1, HC, AC, X1, HX, AX, bf, eC, ⟨w2, a2, z2, i2⟩, eD, eX, DX⟩ := hcm
  obtain ⟨eC', g2⟩ := g1.d hcs eC (fun tk => oks_ptr1 j1) w2 a2 z2 (by omega)
  obtain ⟨eD', _⟩ := g2.d hcs eD (fun tk => oks_ptr1 i2) w2 a2 z2 (by omega)
  obtain ⟨w3, a3, z3, i3⟩ := dy4 DX
  obtain ⟨eX', g3⟩ := g2.d hcs eX (fun tk => oks_args (l := [.sl (bools (keep.take (min keep.length X1.length)))]) i2) w3 a3 z3 (by omega)
  obtain ⟨L, Q, eO, DO, l4, q4⟩ := Try.vCopy DX (by omega)
  obtain ⟨w4, a4, i4, _⟩ := DO.nums
  have g4 : GW 218 501 HX AX L Q := ⟨w3, a3, z3, w4, a4, fun i hi => by rw [l4 i hi]; omega, fun τ hτ => by rw [q4 τ hτ]; omega, by omega, by omega⟩
  have L4 : L 4 = none := Classical.byContradiction fun h => by have := l4 4 h; omega
  have eO' := eff_frame (id := 4) (cs := cs) eO w3 (oks_ptr1 i3) z3 (by rw [layH_h L4]; exact z3)
  have hO4 : upd (layH HX L) 4 (some cs) = wH cs HX L := by
    funext i
    unfold wH
    by_cases e : i = 4
    · subst e
      rw [upd_same, layH_h L4, upd_same]
    · rw [upd_other _ _ e]
      unfold layH
      rw [upd_other _ _ e]
  rw [hO4] at eO'
  obtain ⟨p2, L5, Q5, eP, PP, kP⟩ := Try.vOpenY 1000 DO (by omega) (by omega) (by omega)
  obtain ⟨_, _, _, _, _, _, _, _, _, w5, a5, i5, j5, _⟩ := PP.nums
  obtain ⟨eP', g5⟩ := g4.o (cs := cs) eP (fun tk => oks_args (l := [.lit (.int .i64 ((40 : Nat) : Int))]) i4) w5 a5 (fun i hi => Classical.byContradiction fun hn => hi (kP.nH i (by omega) (Classical.byContradiction fun h => by have := l4 i h; omega)))
    (fun τ hτ => Classical.byContradiction fun hn => hτ (kP.nA τ (by omega) (Classical.byContradiction fun h => by have := q4 τ h; omega))) (by omega)
  obtain ⟨κm, κc, dd, LD, hr, hfd, lo3, big⟩ := DX
  obtain ⟨T9, B9, old9, r1, r2, r3, r4⟩ := id hr
  have hcl := r2.c
  obtain ⟨_, _, _, _, _, _, _, _, _, o5⟩ := r2.ex
  have hdn : dd.n = 60 := o5.dn
  obtain ⟨HG, AG, eG, rfl, LG, fG⟩ := Try.tFuse 1000 LD (by omega) n2
  have lo6 : ∀ j, j < 200 → HG j = none ∧ ∀ q, AG (j, q) = none := fun j hj => ⟨by rw [fG j (by omega)]; exact (lo3 j hj).1, (lo3 j hj).2⟩
  obtain ⟨eG', g6⟩ := g5.d hcs eG (fun tk => oks_args (l := [.lit (.int .i64 n2)]) i3) LG.wf LG.ab (lo6 4 (by omega)).1 (by omega)
  have rG : RX 40 60 3 bf (fuseD dd n2) := hr.congr rfl rfl hcl
  obtain ⟨HZ, AZ, x, v2, eZ, kZ, CZ⟩ := Try.vOpen 1000 LG lo6 (by omega) (by omega) big rG (by omega)
  obtain ⟨w7, a7, i7, lo7, _⟩ := CZ.nums
  obtain ⟨eZ', g7⟩ := g6.d hcs eZ (fun tk => oks_args (l := [.lit (.int .i64 ((40 : Nat) : Int))]) (by rw [LG.dk.h]; simp)) w7 a7 (lo7 4 (by omega)).1 (by omega)
  obtain ⟨X2, eE, hX2, hcr2⟩ := Try.vCrash 1000 CZ
  obtain ⟨eE', _⟩ := g7.d hcs eE (fun tk => oks_ptr1 i7) w7 a7 (lo7 4 (by omega)).1 (by omega)
  obtain ⟨HW, AW, eW, DW⟩ := hcr2 (keep.take (min keep.length X2.length)) (by rw [List.length_take]; omega)
  obtain ⟨w8, a8, z8, i8⟩ := dy4 DW
  obtain ⟨eW', g8⟩ := g7.d hcs eW (fun tk => oks_args (l := [.sl (bools (keep.take (min keep.length X2.length)))]) i7) w8 a8 z8 (by omega)
  obtain ⟨p3, HB, AB, eB, PB, kB⟩ := Try.vOpenY 1000 DW (by omega) (by omega) (by omega)
  obtain ⟨w9, a9, z9, i9, j9⟩ := lt4 PB
  obtain ⟨eB', g9⟩ := g8.d hcs eB (fun tk => oks_args (l := [.lit (.int .i64 ((40 : Nat) : Int))]) i8) w9 a9 z9 (by omega)
  have e1 := Try.xPages 1000 PP
  have e2 := Try.xPages 1000 PB
  obtain ⟨e1', _⟩ := g9.o (cs := cs) e1 (fun tk => oks_ptr1 j5) g9.wl g9.al g9.ll g9.lq g9.hk2
  obtain ⟨e2', _⟩ := g9.d hcs e2 (fun tk => oks_ptr1 j9) w9 a9 z9 (by omega)
  exact ⟨_, _, _, _, _, _, _, _, _, _, _, _, _, _, _, _, _, _, X1, X2, v1, v2, x, p2, p3, pgsL bf [] (60 - 40), by rw [pgsL_len]; omega, by unfold wH; rw [layH_h (Classical.byContradiction fun h => by have := g5.ll 4 h; omega), upd_same], ⟨eF', g0.ab⟩, ⟨eC', g1.ab⟩, ⟨eD', g2.ab⟩, ⟨eX', g2.ab⟩, ⟨eO', g3.ab⟩, ⟨eP', g4.ab⟩, ⟨eG', g5.ab⟩, ⟨eZ', g6.ab⟩, ⟨eE', g7.ab⟩, ⟨eW', g7.ab⟩, ⟨eB', g8.ab⟩, ⟨e1', g9.ab⟩, ⟨e2', g9.ab⟩⟩
end px
end Go.Proofs

namespace Go.Proofs
open Go.PW
structure GSt where
  i : Nat
  H : HMap
  A : AMap
  ch : List (Int × List UInt8)
structure GV (pid : Nat) (y : GSt) : Prop where
  px : QX (LV 40 60 2 False) y.H y.A 214 200 pid 60 40 y.ch knZ
  i : y.i ≤ 30
def fzC (f0 f1 : Nat) : List CV := [.d (.lit (.int .u8 f0)), .d (.lit (.int .u8 f1))]
theorem fz_ok {f0 f1 : Nat} : ∀ c ∈ fzC f0 f1, ∀ hk tk, CV.ok hk tk c := fun c hc hk tk => by
  unfold fzC at hc
  rcases List.mem_cons.1 hc with rfl | hc
  · exact True.intro
  · rw [List.mem_singleton.1 hc]; exact True.intro
def FrG (script : List OpP) (keep : List Bool) (f0 f1 pid : Nat) (y : GSt) : St :=
  over [(0, .c (.d (.sl (opsP script)))), (2, .c (.d (.sl (bools keep)))), (4, .c (.ptr 4 0)), (7, .c (.ptr 200 0)), (9, .c (.ptr pid 0)), (11, pD (.lit (.int .i64 y.i)))] [] (upd y.H 4 (some (fzC f0 f1))) y.A
theorem P2w {Q : Dk → Lg → Bool → Prop} {H : HMap} {A : AMap} {k pid : Nat} {ch : List (Int × List UInt8)} {b : Nat → List UInt8} (cs : List CV) (hcs : ∀ c ∈ cs, ∀ hk tk, CV.ok hk tk c) (P : QX Q H A k 200 pid 60 40 ch b) : Wf (upd H 4 (some cs)) A :=
  Wf_set P.wf.1 (fun c hc => hcs c hc _ _) (fun _ h => h)
theorem vw {Q : Dk → Lg → Bool → Prop} {H : HMap} {A : AMap} {k pid : Nat} {ch : List (Int × List UInt8)} {b : Nat → List UInt8} (cs : List CV) (P : QX Q H A k 200 pid 60 40 ch b) {X Y : AMap} : PV.wk (hOver [] (upd H 4 (some cs))) X Y (.c (.ptr 200 0)) (.c (.ptr 200 0)) = True ∧ PV.wk (hOver [] (upd H 4 (some cs))) X Y (.c (.ptr pid 0)) (.c (.ptr pid 0)) = True ∧
    PV.wk (hOver [] (upd H 4 (some cs))) X Y (.c (.ptr 4 0)) (.c (.ptr 4 0)) = True := by
  have h := P.wf
  refine ⟨eq_true (wkP_ptr (upd_keepH _ h.2.2.1)), eq_true (wkP_ptr (upd_keepH _ h.2.2.2)), eq_true (wkP_ptr ?_)⟩
  show upd _ _ _ _ ≠ none
  rw [upd_same]; simp
set_option maxRecDepth 8000 in
set_option maxHeartbeats 64000000 in
theorem Try.kPagerAgain (script : List OpP) (f0 f1 : Nat) (h0 : f0 < 256) (h1 : f1 < 256) (keep : List Bool) : PureOK Try.prog 3 [.c (.d (.sl (opsP script))), .agg [.d (.lit (.int .u8 f0)), .d (.lit (.int .u8 f1))], .c (.d (.sl (bools keep)))] (.one (.d (.lit (.bool true)))) := by
  have e0 : ∀ {H : HMap} {A : AMap}, EffOK Try.prog 5 1000 H A [] (.c (.d (.lit (.bool true)))) H A := eff_pure Try.kKnown
  obtain ⟨H1, A1, e1, L1, lo1, lo2⟩ := Try.sNew 200 60 (by omega) (by omega)
  have D1 := DY.new (logs := 40) L1 (by omega) (by omega) (by omega) (by omega) (by omega) (fun j hj => ⟨lo1 j (by omega), fun q => lo2 _ (by show j ≠ 200; omega)⟩)
  obtain ⟨pid, H2, A2, e2, P2, _, _⟩ := Try.xOpen 1000 D1 (by omega) (by omega) (by omega)
  have P2 : QX (LV 40 60 2 False) H2 A2 214 200 pid 60 40 [] knZ := P2
  have b1 : Above 1000 H1 A1 := Above_mono L1.ab (by omega)
  have hls := opsP_len script
  have bl := bools_len keep
  have F : ∀ {X X' : HMap} {Y Y' : AMap} {f : FuncId} {args : List PV} {v : PV}, EffOK Try.prog f 1000 X Y args v X' Y' → Wf X Y → (∀ x ∈ args, x.oks (fun i => X i ≠ none) (fun κ => Y κ ≠ none)) → X 4 = none → X' 4 = none →
      EffOK Try.prog f 1000 (upd X 4 (some (fzC f0 f1))) Y args v (upd X' 4 (some (fzC f0 f1))) Y' := fun e hw ha q1 q2 => eff_frame e hw ha q1 q2
  have ab4 : ∀ {X : HMap} {Y : AMap}, Above 1000 X Y → Above (0 + 1000) (upd X 4 (some (fzC f0 f1))) Y := fun h => Above_updH h (by omega)
  have n4 : ∀ {Q : Dk → Lg → Bool → Prop} {X : HMap} {Y : AMap} {kx px : Nat} {c : List (Int × List UInt8)} {bx : Nat → List UInt8}, QX Q X Y kx 200 px 60 40 c bx → X 4 = none := fun h => by
    obtain ⟨_, _, _, _, _, _, _, _, _, _, _, _, _, lo, _⟩ := h.nums
    exact (lo 4 (by omega)).1
  have f1' := F e1 (fun i cs c h => by cases h) (fun x hx => by rw [List.mem_singleton.1 hx]; exact True.intro) rfl (lo1 4 (by omega))
  have f2' := F e2 L1.wf (oks_args (l := [.lit (.int .i64 ((40 : Nat) : Int))]) (by rw [L1.dk.h]; simp)) (lo1 4 (by omega)) (n4 P2)
  refine pure_eff rfl (effr_ok (E := envOf Try.prog [4, 6, 7, 14, 9, 8, 11, 10, 12, 2000000 + 5, 2000000 + 13] 0 [] []) (envOf_ok Try.mixed) Try.func3 rfl Try.call3 (by kernel_rfl) (by exact Nat.le_of_ble_eq_true rfl) (fun hab => ?_))
  have u4 : noH 4 = none := rfl
  have abN : Above 1000 noH noA := Above_mono hab (by omega)
  by_cases hkl : 100 < keep.length
  · have g0 : ((100 : Int) < ((bools keep).length : Int)) = True := eq_true (by rw [bl]; omega)
    unfold fzC at f1' f2' ab4
    repeat' (first
     |with_reducible first|refine vSq fun K hK=>?_|refine vRg ?_|refine vBl ?_|refine vSc ?_|refine vIf ?_|refine vSk ?_|refine vEx ?_|refine vRt ?_
     |(with_reducible first|refine gNt (fun h=>?_) (fun h=>?_)|refine gCs (fun h=>?_) (fun h=>?_))<;>(try simp only[h])
     |refine And.intro u4 ?_
     |refine C_call rfl f1' rfl (ab4 abN) ?_
     |refine C_quiet rfl rfl e0 rfl (ab4 b1) ?_
     |with_reducible first|(refine hK _ ?_;clear hK K)|(clear hK K;refine hK _ ?_;clear hK K)|(clear hK K;clear hK K;refine hK _ ?_;clear hK K)|(clear hK K;clear hK K;clear hK K;refine hK _ ?_;clear hK K)
     |(with_reducible refine todo ?_;simp +decide only[go_sem, zne, g0]))
    exact RetR_same rfl (by simp +decide only [go_sem]) True.intro (fun i cs c h => by cases h) (fun i h => (h rfl).elim) (fun i h => (h rfl).elim)
  · have g0 : ((100 : Int) < ((bools keep).length : Int)) = False := eq_false (by rw [bl]; omega)
    have f1n := f1'
    have f2n := f2'
    have ab4n := fun {X : HMap} {Y : AMap} (h : Above 1000 X Y) => ab4 h
    unfold fzC at f1n f2n ab4n
    repeat' (first
     |with_reducible first|refine vSq fun K hK=>?_|refine vRg ?_|refine vBl ?_|refine vSc ?_|refine vIf ?_|refine vSk ?_|refine vEx ?_|refine vRt ?_
     |(with_reducible first|refine gNt (fun h=>?_) (fun h=>?_)|refine gCs (fun h=>?_) (fun h=>?_))<;>(try simp only[h])
     |refine And.intro u4 ?_
     |refine C_call rfl f1n rfl (ab4n abN) ?_
     |refine C_call rfl f2n rfl (ab4n b1) ?_
     |with_reducible first|(refine hK _ ?_;clear hK K)|(clear hK K;refine hK _ ?_;clear hK K)|(clear hK K;clear hK K;refine hK _ ?_;clear hK K)|(clear hK K;clear hK K;clear hK K;refine hK _ ?_;clear hK K)
     |(with_reducible refine todo ?_;simp +decide only[go_sem, zne, g0]))
    clear f1n f2n ab4n
    have rest : ∀ y : GSt, GV pid y → ∀ S : St, S.H = upd y.H 4 (some (fzC f0 f1)) → S.A = y.A → S.ρ 2 = .c (.d (.sl (bools keep))) → S.ρ 4 = .c (.ptr 4 0) → S.ρ 7 = .c (.ptr 200 0) → S.ρ 9 = .c (.ptr pid 0) → K S := by
      rintro ⟨i, H, A, ch⟩ ⟨P, hi⟩ ⟨ρ, HS, AS⟩ hHS hAS r2 r4 r7 r9
      simp only at P hi hHS hAS r2 r4 r7 r9
      subst hHS
      subst hAS
      refine hK _ ?_
      clear hK
      obtain ⟨W1, W2, W3, W4, W5, W6, W7, W8, W9, Y1, Y2, Y3, Y4, Y5, Y6, Y7, Y8, Y9, X1, X2, v1, v2, x, p2, p3, l, hl, w5, c1, c2, c3, c4, c5, c6, c7, c8, c9, c10, c11, c12, c13⟩ := Try.vAgain (cs := fzC f0 f1) fz_ok P ((f0 % 50 : Nat) : Int) ((f1 % 20 : Nat) : Int) keep
      have c50 : Int.tmod (f0 : Int) 50 = ((f0 % 50 : Nat) : Int) := tmod_nat f0 50
      have cf0 : IntKind.i64.wrap (f0 : Int) = (f0 : Int) := Go.IntWalk.i64_in _ (by omega)
      have c20 : Int.tmod (f1 : Int) 20 = ((f1 % 20 : Nat) : Int) := tmod_nat f1 20
      have cf1 : IntKind.i64.wrap (f1 : Int) = (f1 : Int) := Go.IntWalk.i64_in _ (by omega)
      have hmin : ∀ (X : List Int), (if (X.length : Int) < (keep.length : Int) then (X.length : Int) else (keep.length : Int)) = ((min keep.length X.length : Nat) : Int) := fun X => by split <;> omega
      have hm1 := hmin X1
      have hm2 := hmin X2
      have iX1 := ints_len X1
      have iX2 := ints_len X2
      have btk1 := bools_take keep (min keep.length X1.length)
      have btk2 := bools_take keep (min keep.length X2.length)
      have on : ∀ (n a : Nat), optNat (some (.c (.d (.lit (.int .i64 ((n : Nat) : Int)))))) a = some n := fun n a => by simp [optNat, natOf?, intOf?]
      have eT := Try.kTexts l l hl
      rw [beq_self_eq_true] at eT
      have eTq : ∀ {H : HMap} {A : AMap}, EffOK Try.prog 13 1000 H A [tx l, tx l] (.c (.d (.lit (.bool true)))) H A := eff_pure eT
      unfold tx at eTq
      have fz4 : upd H 4 (some (fzC f0 f1)) 4 = some [.d (.lit (.int .u8 f0)), .d (.lit (.int .u8 f1))] := upd_same _ _ _
      have z4 : (fzC f0 f1) = [.d (.lit (.int .u8 f0)), .d (.lit (.int .u8 f1))] := rfl
      rw [z4] at w5
      repeat' (first
       |with_reducible first|refine vSq fun K hK=>?_|refine vRg ?_|refine vBl ?_|refine vSc ?_|refine vIf ?_|refine vSk ?_|refine vEx ?_|refine vRt ?_
       |(with_reducible first|refine gNt (fun h=>?_) (fun h=>?_)|refine gCs (fun h=>?_) (fun h=>?_))<;>(try simp only[h])
       |refine C_call rfl c1.1 rfl c1.2 ?_
       |refine C_call rfl c2.1 rfl c2.2 ?_
       |refine C_call rfl c3.1 rfl c3.2 ?_
       |refine C_call rfl c4.1 rfl c4.2 ?_
       |refine C_call rfl c5.1 rfl c5.2 ?_
       |refine C_call rfl c6.1 rfl c6.2 ?_
       |refine C_call rfl c7.1 rfl c7.2 ?_
       |refine C_call rfl c8.1 rfl c8.2 ?_
       |refine C_call rfl c9.1 rfl c9.2 ?_
       |refine C_call rfl c10.1 rfl c10.2 ?_
       |refine C_call rfl c11.1 rfl c11.2 ?_
       |refine C_call rfl c12.1 rfl c12.2 ?_
       |refine C_call rfl c13.1 rfl c13.2 ?_
       |refine C_quiet rfl rfl eTq rfl c13.2 ?_
       |refine C_quiet rfl rfl e0 rfl c13.2 ?_
       |(refine W_slc (els := bools keep) (l := 0) Try.appB rfl rfl (on (min keep.length X1.length) _) (Nat.zero_le _) (by rw [bl]; exact Nat.min_le_left _ _) (szd_bools _) ?_)
       |(refine W_slc (els := bools keep) (l := 0) Try.appB rfl rfl (on (min keep.length X2.length) _) (Nat.zero_le _) (by rw [bl]; exact Nat.min_le_left _ _) (szd_bools _) ?_)
       |with_reducible first|(refine hK _ ?_;clear hK K)|(clear hK K;refine hK _ ?_;clear hK K)|(clear hK K;clear hK K;refine hK _ ?_;clear hK K)|(clear hK K;clear hK K;clear hK K;refine hK _ ?_;clear hK K)
       |(with_reducible refine todo ?_;simp +decide only[go_sem, r2, r4, r7, r9, c50, cf0, c20, cf1, fz4, w5, hm1, hm2, iX1, iX2, bl, btk1, btk2, zne]))
      exact RetR_same rfl (by simp +decide only [go_sem]) True.intro (fun i cs c h => by cases h) (fun i h => (h rfl).elim) (fun i h => (h rfl).elim)
    refine VC_while (ι := GSt) (GV pid) (FrG script keep f0 f1 pid) (fun y => 30 - y.i) ⟨0, H2, A2, []⟩ ⟨P2, by show 0 ≤ 30; omega⟩ ?_ ?_
    · unfold FrG
      refine Weak_overG (P2w (fzC f0 f1) fz_ok P2) (fun _ _ => rfl) rfl ?_ ?_ (fun i hi => (hi rfl).elim) (fun τ h => (h rfl).elim)
      · have w := fun {X Y : AMap} => vw (fzC f0 f1) P2 (X := X) (Y := Y)
        simp +decide only [go_sem, w]
      · simp +decide only [go_sem]
    · rintro ⟨i, H, A, ch⟩ hy
      have hrest := rest _ hy
      obtain ⟨P, hi⟩ := hy
      simp only at P hi hrest
      clear hK rest
      have hnx : IntKind.i64.wrap ((i : Int) + 1) = ((i + 1 : Nat) : Int) := by rw [Go.IntWalk.i64_in _ (by omega)]; omega
      unfold FrG
      by_cases q1 : i < script.length
      · have v1 : ((i : Int) < ((opsP script).length : Int)) = True := eq_true (by rw [hls]; omega)
        by_cases q2 : i < 30
        · have v2 : ((i : Int) < 30) = True := eq_true (by omega)
          have hg := opsP_get q1
          generalize script[i] = o at hg
          have nxt : ∀ {H' : HMap} {A' : AMap} {ch' : List (Int × List UInt8)} {S : St}, QX (LV 40 60 2 False) H' A' 214 200 pid 60 40 ch' knZ → S.H = upd H' 4 (some (fzC f0 f1)) → S.A = A' → S.ρ 0 = .c (.d (.sl (opsP script))) → S.ρ 2 = .c (.d (.sl (bools keep))) → S.ρ 4 = .c (.ptr 4 0) → S.ρ 7 = .c (.ptr 200 0) → S.ρ 9 = .c (.ptr pid 0) → S.ρ 11 = pD (.lit (.int .i64 (i + 1 : Nat))) →
              ∃ j : {y : GSt // GV pid y}, Weak noH noA S (FrG script keep f0 f1 pid j.1) ∧ 30 - j.1.i < 30 - i := fun {H'} {A'} {ch'} {S} hx y3 y4 y5 y6 y7 y8 y9 y10 => by
            refine ⟨⟨⟨i + 1, H', A', ch'⟩, ⟨hx, by show i + 1 ≤ 30; omega⟩⟩, ?_, by show 30 - (i + 1) < 30 - i; omega⟩
            have w := fun {X Y : AMap} => vw (fzC f0 f1) hx (X := X) (Y := Y)
            unfold FrG
            refine Weak_overG (P2w (fzC f0 f1) fz_ok hx) (fun j _ => by rw [y3]) y4 ?_ ?_ (fun i hi => (hi rfl).elim) (fun τ h => (h rfl).elim)
            · simp +decide only [go_sem, w, y5, y6, y7, y8, y9, y10]
            · simp +decide only [go_sem]
          have abP : Above (0 + 1000) (upd H 4 (some (fzC f0 f1))) A := ab4 (P.ab (by omega))
          by_cases q3 : o.kind < 3 ∧ o.s.length < 200
          · have v3 : (o.kind < 3) = True := eq_true q3.1
            have v4 : ((o.s.length : Int) < 200) = True := eq_true (by omega)
            obtain ⟨x, y, z, ch', HD, AD, ed, PD, _, _⟩ := Try.xDo 1000 P o (by omega) (by omega)
            have ed' := F ed P.wf.1 (fun x hx => by
              simp only [List.mem_cons, List.not_mem_nil, or_false] at hx
              rcases hx with rfl | rfl
              · exact P.wf.2.2.2
              · intro c hc
                unfold oPC at hc
                simp only [List.mem_cons, List.not_mem_nil, or_false] at hc
                rcases hc with rfl | rfl | rfl | rfl <;> exact True.intro) (n4 P) (n4 PD)
            unfold oPC at ed'
            repeat' (first
             |with_reducible first|refine vSq fun K hK=>?_|refine vRg ?_|refine vBl ?_|refine vSc ?_|refine vIf ?_|refine vSk ?_|refine vEx ?_|refine vRt ?_
             |(with_reducible first|refine gNt (fun h=>?_) (fun h=>?_)|refine gCs (fun h=>?_) (fun h=>?_))<;>(try simp only[h])
             |refine C_call rfl ed' rfl abP ?_
             |with_reducible first|(refine hK _ ?_;clear hK K)|(clear hK K;refine hK _ ?_;clear hK K)|(clear hK K;clear hK K;refine hK _ ?_;clear hK K)|(clear hK K;clear hK K;clear hK K;refine hK _ ?_;clear hK K)
             |(with_reducible refine todo ?_;simp +decide only[go_sem, v1, v2, v3, v4, hg, hnx]))
            exact nxt PD rfl rfl rfl rfl rfl rfl rfl rfl
          · by_cases q4 : o.kind < 3
            · have v3 : (o.kind < 3) = True := eq_true q4
              have v4 : ((o.s.length : Int) < 200) = False := eq_false (by omega)
              repeat' (first
               |with_reducible first|refine vSq fun K hK=>?_|refine vRg ?_|refine vBl ?_|refine vSc ?_|refine vIf ?_|refine vSk ?_|refine vEx ?_|refine vRt ?_
               |(with_reducible first|refine gNt (fun h=>?_) (fun h=>?_)|refine gCs (fun h=>?_) (fun h=>?_))<;>(try simp only[h])
               |with_reducible first|(refine hK _ ?_;clear hK K)|(clear hK K;refine hK _ ?_;clear hK K)|(clear hK K;clear hK K;refine hK _ ?_;clear hK K)|(clear hK K;clear hK K;clear hK K;refine hK _ ?_;clear hK K)
               |(with_reducible refine todo ?_;simp +decide only[go_sem, v1, v2, v3, v4, hg, hnx]))
              exact nxt P rfl rfl rfl rfl rfl rfl rfl rfl
            · have v3 : (o.kind < 3) = False := eq_false q4
              repeat' (first
               |with_reducible first|refine vSq fun K hK=>?_|refine vRg ?_|refine vBl ?_|refine vSc ?_|refine vIf ?_|refine vSk ?_|refine vEx ?_|refine vRt ?_
               |(with_reducible first|refine gNt (fun h=>?_) (fun h=>?_)|refine gCs (fun h=>?_) (fun h=>?_))<;>(try simp only[h])
               |with_reducible first|(refine hK _ ?_;clear hK K)|(clear hK K;refine hK _ ?_;clear hK K)|(clear hK K;clear hK K;refine hK _ ?_;clear hK K)|(clear hK K;clear hK K;clear hK K;refine hK _ ?_;clear hK K)
               |(with_reducible refine todo ?_;simp +decide only[go_sem, v1, v2, v3, hg, hnx]))
              exact nxt P rfl rfl rfl rfl rfl rfl rfl rfl
        · have v2 : ((i : Int) < 30) = False := eq_false (by omega)
          repeat' (first
           |with_reducible first|refine vSq fun K hK=>?_|refine vRg ?_|refine vBl ?_|refine vSc ?_|refine vIf ?_|refine vSk ?_|refine vEx ?_|refine vRt ?_
           |(with_reducible first|refine gNt (fun h=>?_) (fun h=>?_)|refine gCs (fun h=>?_) (fun h=>?_))<;>(try simp only[h])
           |with_reducible first|(refine hK _ ?_;clear hK K)|(clear hK K;refine hK _ ?_;clear hK K)|(clear hK K;clear hK K;refine hK _ ?_;clear hK K)|(clear hK K;clear hK K;clear hK K;refine hK _ ?_;clear hK K)
           |(with_reducible refine todo ?_;simp +decide only[go_sem, v1, v2]))
          exact hrest _ rfl rfl rfl rfl rfl rfl
      · have v1 : ((i : Int) < ((opsP script).length : Int)) = False := eq_false (by rw [hls]; omega)
        repeat' (first
         |with_reducible first|refine vSq fun K hK=>?_|refine vRg ?_|refine vBl ?_|refine vSc ?_|refine vIf ?_|refine vSk ?_|refine vEx ?_|refine vRt ?_
         |(with_reducible first|refine gNt (fun h=>?_) (fun h=>?_)|refine gCs (fun h=>?_) (fun h=>?_))<;>(try simp only[h])
         |with_reducible first|(refine hK _ ?_;clear hK K)|(clear hK K;refine hK _ ?_;clear hK K)|(clear hK K;clear hK K;refine hK _ ?_;clear hK K)|(clear hK K;clear hK K;clear hK K;refine hK _ ?_;clear hK K)
         |(with_reducible refine todo ?_;simp +decide only[go_sem, v1]))
        exact hrest _ rfl rfl rfl rfl rfl rfl
end Go.Proofs
