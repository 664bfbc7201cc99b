/-
  Parts of the proof, laid together: PwRd, PwRe.
-/
import Derived.Test.YtghlemfokpfngaaQ36

namespace Go.Proofs
open Go.PW
def h5 {α : Type} (a b c d e : α) : Nat → α
  | 0 => a
  | 1 => b
  | 2 => c
  | 3 => d
  | _ => e
structure QSt (N logs : Nat) (d : Dk) (p : Pg) : Prop where
  dn : d.n = N
  n1 : 4 ≤ logs
  n2 : logs ≤ 1000
  hN : N ≤ 4096
  big : N ≤ logs + 1024 ∧ logs < N
  cl : d.cache.length ≤ 2000
  p1 : p.logs = logs
  ks : KsOK (N - logs) p.ch
  sec : ∀ j, j < N - logs → (rd d ((logs + j : Nat) : Int)).length = 128
def Sec (N logs : Nat) (d : Dk) : Prop := ∀ j, j < N - logs → (rd d ((logs + j : Nat) : Int)).length = 128
section sec
variable {N logs : Nat} {d : Dk}
theorem sec_fl (hg : DkG d) (h : Sec N logs d) : Sec N logs (flD d) := fun j hj => by rw [rd_fl hg]; exact h j hj
theorem sec_wr (h : Sec N logs d) {i : Nat} (hi : i < logs) (s : List UInt8) : Sec N logs (wrD d (i : Int) s) := fun j hj => by
  rw [rd_wr, if_neg (by omega)]; exact h j hj
theorem sec_home (h : Sec N logs d) {m : List (Int × List UInt8)} (hm : ∀ k r, findN k m 0 = some r → r.2.length ≤ 128) (K : Nat) : Sec N logs (homeD d logs m K) := fun j hj => by
  rcases Nat.lt_or_ge j K with h1 | h1
  · rw [rd_home_in h1]
    have hf := valR_find (j : Int) m
    cases e : valR (j : Int) m with
    | none => exact h j hj
    | some s =>
      rw [e] at hf
      cases hf2 : findN (j : Int) m 0 with
      | none => rw [hf2] at hf; cases hf
      | some r =>
        rw [hf2] at hf
        cases hf
        exact pad_len (hm _ _ hf2)
  · rw [rd_home_out (fun i hi => by omega)]; exact h j hj
theorem sec_ap (h : Sec N logs d) {l : Lg} (hl : l.from_ + 2 + l.places ≤ logs) {s : List UInt8} {m : Nat} {cut : List (List UInt8)} {k : Nat} (hk : l.used + k ≤ l.places) : Sec N logs (apD l s m cut d k) := fun j hj => by
  rw [rd_ap (fun i hi => by omega)]; exact h j hj
end sec
def CmG (off pid did lid : Nat) (κp : Tok) (p : Pg) (X : HMap) (Y : AMap) : Prop := Wf X Y ∧ Above off X Y ∧ PgAt X Y pid did lid κp p ∧ X lid ≠ none
section cm
variable {off pid did lid : Nat} {κp : Tok} {p : Pg} {s : List UInt8} {H0 H1 H2 H3 H4 : HMap} {A0 A1 A2 A3 A4 : AMap} {e : Nat → Int} {m : Nat}
theorem Try.cms5 (g0 : CmG off pid did lid κp p H0 A0) (g1 : CmG off pid did lid κp p H1 A1) (g2 : CmG off pid did lid κp p H2 A2) (g3 : CmG off pid did lid κp p H3 A3) (g4 : CmG off pid did lid κp p H4 A4) {n1 n2 n3 n4 : Nat} (k1 : KP n1 H0 A0 H1 A1) (k2 : KP n2 H1 A1 H2 A2) (k3 : KP n3 H2 A2 H3 A3) (k4 : KP n4 H3 A3 H4 A4)
    (c0 : 0 ≤ m → EffOK Try.prog 33 (off + 2000) H0 A0 [.c (.ptr lid 0), pD (dS s)] (pD (.lit (.int .i64 (e 0)))) H1 A1)
    (c1 : 1 ≤ m → EffOK Try.prog 34 (off + 1000) H1 A1 [.c (.ptr lid 0)] (pD (.lit (.int .i64 (e 1)))) H2 A2)
    (c2 : 2 ≤ m → EffOK Try.prog 36 (off + 2000) H2 A2 [.c (.ptr pid 0), .c (.mpr κp)] (pD (.lit (.int .i64 (e 2)))) H3 A3)
    (c3 : 3 ≤ m → EffOK Try.prog 37 (off + 1000) H3 A3 [.c (.ptr pid 0)] (pD (.lit (.int .i64 (e 3)))) H4 A4)
    (m4 : m ≤ 4) (z : ∀ i, i < m → e i = 0) (nz : m < 4 → e m ≠ 0) : Try.CmS off pid did lid κp p s (h5 H0 H1 H2 H3 H4) (h5 A0 A1 A2 A3 A4) e m :=
  have C : ∀ R : HMap → AMap → Prop, R H0 A0 → R H1 A1 → R H2 A2 → R H3 A3 → R H4 A4 → ∀ i, i ≤ 4 → R (h5 H0 H1 H2 H3 H4 i) (h5 A0 A1 A2 A3 A4 i) := fun R r0 r1 r2 r3 r4 i hi => by
    match i, hi with
    | 0, _ => exact r0
    | 1, _ => exact r1
    | 2, _ => exact r2
    | 3, _ => exact r3
    | 4, _ => exact r4
  have a2 : ∀ j, H0 j ≠ none → H2 j ≠ none := fun j h => k2.kH j (k1.kH j h)
  have a3 : ∀ j, H0 j ≠ none → H3 j ≠ none := fun j h => k3.kH j (a2 j h)
  have b2 : ∀ τ, A0 τ ≠ none → A2 τ ≠ none := fun τ h => k2.kA τ (k1.kA τ h)
  have b3 : ∀ τ, A0 τ ≠ none → A3 τ ≠ none := fun τ h => k3.kA τ (b2 τ h)
  { wf := C (fun X Y => Wf X Y) g0.1 g1.1 g2.1 g3.1 g4.1
    ab := C (fun X Y => Above off X Y) g0.2.1 g1.2.1 g2.2.1 g3.2.1 g4.2.1
    pg := C (fun X Y => PgAt X Y pid did lid κp p) g0.2.2.1 g1.2.2.1 g2.2.2.1 g3.2.2.1 g4.2.2.1
    lg := C (fun X _ => X lid ≠ none) g0.2.2.2 g1.2.2.2 g2.2.2.2 g3.2.2.2 g4.2.2.2
    kH := C (fun X _ => ∀ j, H0 j ≠ none → X j ≠ none) (fun _ h => h) k1.kH a2 a3 (fun j h => k4.kH j (a3 j h))
    kA := C (fun _ Y => ∀ τ, A0 τ ≠ none → Y τ ≠ none) (fun _ h => h) k1.kA b2 b3 (fun τ h => k4.kA τ (b3 τ h))
    sH := fun i hi => by
      match i, hi with
      | 0, _ => exact k1.kH
      | 1, _ => exact k2.kH
      | 2, _ => exact k3.kH
      | 3, _ => exact k4.kH
    sA := fun i hi => by
      match i, hi with
      | 0, _ => exact k1.kA
      | 1, _ => exact k2.kA
      | 2, _ => exact k3.kA
      | 3, _ => exact k4.kA
    c0 := c0
    c1 := c1
    c2 := c2
    c3 := c3
    m4 := m4
    z := z
    nz := nz }
end cm
section st
variable {H H' : HMap} {A A' : AMap} {k k' did pid lid : Nat} {κm κc κc' κr κr' κp : Tok} {d d' : Dk} {l l' : Lg} {p : Pg}
theorem WXs.up (h : WXs H A k did pid lid κm κc κr κp d l p) (hk : k ≤ k') : WXs H A k' did pid lid κm κc κr κp d l p := ⟨⟨h.lw.wf, Above_mono h.lw.ab hk, h.lw.dk⟩, h.lg, h.pg, h.ne, h.lo⟩
theorem WXs.cmg (h : WXs H A k did pid lid κm κc κr κp d l p) {off : Nat} (hk : k ≤ off) : CmG off pid did lid κp p H A := ⟨h.lw.wf, Above_mono h.lw.ab hk, h.pg, by rw [h.lg.h]; simp⟩
theorem WXs.halt (h : WXs H A k did pid lid κm κc κr κp d l p) (q : Bool) : WXs (upd H pid (some (encPg did lid κp { p with halted := q }))) A k did pid lid κm κc κr κp d l { p with halted := q } := by
  obtain ⟨_, _, q3, q4, q5, q6, _, _, q9, _⟩ := h.nums
  have h1 : H did ≠ none := by rw [h.lw.dk.h]; simp
  have h2 : H lid ≠ none := by rw [h.lg.h]; simp
  refine ⟨⟨Wf_set h.lw.wf (encPg_ok (upd_keepH _ h1) (upd_keepH _ h2) (by rw [h.pg.m]; simp)) (fun _ h => h), Above_updH h.lw.ab q5, h.lw.dk.updH q3.symm⟩, h.lg.mv (upd_other _ _ q4.symm) rfl, ⟨upd_same _ _ _, h.pg.m⟩, h.ne, fun j hj => ⟨?_, (h.lo j hj).2⟩⟩
  rw [upd_other _ _ (by omega)]; exact (h.lo j hj).1
theorem WXs.ch (h : WXs H A k did pid lid κm κc κr κp d l p) (m : List (Int × List UInt8)) : WXs H (upd A κp (some (.mp (encNS m)))) k did pid lid κm κc κr κp d l { p with ch := m } := by
  obtain ⟨q1, q2, _, _, _, q6, _, _, _, _, _, _, q13, _⟩ := h.nums
  refine ⟨⟨Wf_arr h.lw.wf upd_keep, Above_updA h.lw.ab q6, ⟨h.lw.dk.h, by rw [upd_other _ _ h.ne.symm]; exact h.lw.dk.m, by rw [upd_other _ _ q1.symm]; exact h.lw.dk.c⟩⟩, h.lg.mv rfl (upd_other _ _ q2.symm), ⟨h.pg.h, upd_same _ _ _⟩, h.ne, fun j hj => ⟨(h.lo j hj).1, fun q => ?_⟩⟩
  rw [upd_other _ _ (tok_ne (by show j ≠ κp.1; omega))]
  exact (h.lo j hj).2 q
theorem Try.qFail {off m : Nat} {Hs : Nat → HMap} {As : Nat → AMap} {e : Nat → Int} (cs : Try.CmS off pid did lid κp p (recK p.ch (pgN d p)) Hs As e m) (hm : m < 4) (he : e m = 6) (hx : WXs (Hs 0) (As 0) k did pid lid κm κc κr κp d l p) (hw : WXs (Hs (m + 1)) (As (m + 1)) k' did pid lid κm κc' κr' κp d' l' p) (kp : KP k (Hs 0) (As 0) (Hs (m + 1)) (As (m + 1)))
    (hh : p.halted = false) (hne : p.ch ≠ []) (hl : p.logs ≤ d.n) (hn : d.n ≤ 4096) (hfit : l.used + needN (recK p.ch (pgN d p)).length ≤ l.places) (hlp : l.places ≤ 1000) (hml : p.ch.length ≤ 1000000) (hlen : ∀ k r, findN k p.ch 0 = some r → r.2.length ≤ 128) (hrl : (recK p.ch (pgN d p)).length ≤ 100000) :
    ∃ H' A', EffOK Try.prog 9 off (Hs 0) (As 0) [.c (.ptr pid 0)] (pD (.lit (.int .i64 6))) H' A' ∧ WXs H' A' k' did pid lid κm κc' κr' κp d' l' { p with halted := true } ∧ KP k (Hs 0) (As 0) H' A' := by
  have h := Try.kPgCommitG cs hh hne hx.lw.dk hl hn hx.lg hfit hlp hml hlen hrl (v := pD (.lit (.int .i64 6))) (fun x => absurd x (by omega)) (fun _ => ⟨by rw [he], rfl, rfl⟩)
  refine ⟨_, _, h, hw.halt true, fun j hj => upd_keepH _ (kp.kH j hj), kp.kA, fun j hj hn => ?_, kp.nA⟩
  rw [upd_other _ _ (fun e => by rw [e, hx.pg.h] at hn; cases hn)]
  exact kp.nH j hj hn
theorem QSt.halt {N logs : Nat} (h : QSt N logs d p) (hn : d'.n = d.n) (hc : d'.cache.length ≤ 2000) (hs : Sec N logs d') (q : Bool) : QSt N logs d' { p with halted := q } :=
  ⟨hn.trans h.dn, h.n1, h.n2, h.hN, h.big, hc, h.p1, h.ks, hs⟩
set_option maxRecDepth 8000 in
set_option maxHeartbeats 4000000 in
theorem Try.qCommit {off N logs T B bb M : Nat} {S : Nat → Option Pc} {b : Nat → List UInt8} (hx : WXs H A k did pid lid κm κc κr κp d l p) (hq : QSt N logs d p) (hk : k + 4 ≤ off) (hN : N - logs ≤ 30) (hp : PI d 0 logs N T B [] [] S) (hl1 : l = ⟨0, logs - 2, T, bb, 0, [], false⟩) (hh : p.halted = false) (hT : T + 1 ≤ M) (hM : M < 1000000)
    (hne : p.ch ≠ []) (hfit : needN (recK p.ch (N - logs)).length ≤ logs - 2) (hb : ∀ j, j < N - logs → rd d ((logs + j : Nat) : Int) = b j) :
    ∃ H' A' v d' l' p' κc' κr', EffOK Try.prog 9 off H A [.c (.ptr pid 0)] (pD (.lit (.int .i64 v))) H' A' ∧ WXs H' A' (k + 3) did pid lid κm κc' κr' κp d' l' p' ∧ QSt N logs d' p' ∧ KP k H A H' A' ∧
      ((v = 0 ∧ d'.fused = d.fused ∧ p' = { p with ch := [] } ∧ (∃ B' S', PI d' 0 logs N (T + 1) B' [] [] S') ∧ (∃ bb, l' = ⟨0, logs - 2, T + 1, bb, 0, [], false⟩) ∧ ∀ j, j < N - logs → rd d' ((logs + j : Nat) : Int) = ct b p.ch j) ∨
       (v = 6 ∧ d.fused = true ∧ p' = { p with halted := true } ∧ ∀ keep, RX logs N M b (crD d' keep) ∨ RX logs N M (ct b p.ch) (crD d' keep))) := by
  obtain ⟨dn, n1, n2, hN4, ⟨hb1, hb2⟩, hcl, p1, ks, sec⟩ := hq
  have hq : QSt N logs d p := ⟨dn, n1, n2, hN4, ⟨hb1, hb2⟩, hcl, p1, ks, sec⟩
  have hpn : pgN d p = N - logs := by unfold pgN; rw [dn, p1]
  have hle := ks.le
  have hrl := recK_le (m := p.ch) (by omega) ks.find (N - logs) (by omega)
  have hsl : (recK p.ch (N - logs)).length ≤ 5000 := by omega
  have hpl := partsL_len (recK p.ch (N - logs))
  have hnb : needN (recK p.ch (N - logs)).length ≤ 50 := by unfold needN; omega
  have c0 := hp.nocache
  have cl0 : d.cache.length = 0 := by rw [c0]; rfl
  have hf128 : ∀ k r, findN k p.ch 0 = some r → r.2.length = 128 := fun k r hr => by
    have h1 := valR_find k p.ch
    rw [hr] at h1
    exact ks.len _ (valR_mem h1.symm)
  subst hl1
  have fin : ∀ {Hs : Nat → HMap} {As : Nat → AMap} {e : Nat → Int} {m : Nat} {k' : Nat} {κc' κr' : Tok} {d' : Dk} {l' : Lg}, Hs 0 = H → As 0 = A → Try.CmS off pid did lid κp p (recK p.ch (N - logs)) Hs As e m → m < 4 → e m = 6 → WXs (Hs (m + 1)) (As (m + 1)) k' did pid lid κm κc' κr' κp d' l' p → KP k (Hs 0) (As 0) (Hs (m + 1)) (As (m + 1)) → k' ≤ k + 3 → d.fused = true → d'.n = d.n → d'.cache.length ≤ 2000 → Sec N logs d' →
      (∀ keep, RX logs N M b (crD d' keep) ∨ RX logs N M (ct b p.ch) (crD d' keep)) → ∃ H' A' v d' l' p' κc' κr', EffOK Try.prog 9 off H A [.c (.ptr pid 0)] (pD (.lit (.int .i64 v))) H' A' ∧ WXs H' A' (k + 3) did pid lid κm κc' κr' κp d' l' p' ∧ QSt N logs d' p' ∧ KP k H A H' A' ∧
      ((v = 0 ∧ d'.fused = d.fused ∧ p' = { p with ch := [] } ∧ (∃ B' S', PI d' 0 logs N (T + 1) B' [] [] S') ∧ (∃ bb, l' = ⟨0, logs - 2, T + 1, bb, 0, [], false⟩) ∧ ∀ j, j < N - logs → rd d' ((logs + j : Nat) : Int) = ct b p.ch j) ∨
       (v = 6 ∧ d.fused = true ∧ p' = { p with halted := true } ∧ ∀ keep, RX logs N M b (crD d' keep) ∨ RX logs N M (ct b p.ch) (crD d' keep))) := fun {Hs As e m k' κc' κr' d' l'} e1 e2 cs hm he hw kp hk' hf' hn' hc' hs' hr' => by
    subst e1 e2
    obtain ⟨H', A', e, w, kp⟩ := Try.qFail (by rw [hpn]; exact cs) hm he hx hw kp hh hne (by omega) (by omega) (by rw [hpn]; show 0 + _ ≤ logs - 2; omega) (by show logs - 2 ≤ _; omega) (by omega) ks.find (by rw [hpn]; omega)
    exact ⟨H', A', 6, d', l', _, κc', κr', e, w.up hk', hq.halt hn' hc' hs' true, kp, .inr ⟨rfl, hf', rfl, hr'⟩⟩
  -- the record
  obtain ⟨H1, A1, v1, d1, l1, κc1, κr1, e1, w1, q1, r1⟩ := Try.wAppend (off + 2000) hx rfl (recK p.ch (N - logs)) hsl (by show 0 + _ ≤ logs - 2; omega) (by show logs - 2 ≤ _; omega) (by show T < _; omega) (by show 0 + 2 + (logs - 2) ≤ _; omega) (by omega) (by omega) (Nat.zero_le _)
  have hap := fun k0 => apD_spec (⟨0, logs - 2, T, bb, 0, [], false⟩ : Lg) (recK p.ch (N - logs)) (partsL (recK p.ch (N - logs))).length (partsL (recK p.ch (N - logs))) d k0
  have hcut : ∀ k0, k0 ≤ (partsL (recK p.ch (N - logs))).length → ∀ keep, RX logs N M b (crD (apD ⟨0, logs - 2, T, bb, 0, [], false⟩ (recK p.ch (N - logs)) (partsL (recK p.ch (N - logs))).length (partsL (recK p.ch (N - logs))) d k0) keep) ∨ RX logs N M (ct b p.ch) (crD (apD ⟨0, logs - 2, T, bb, 0, [], false⟩ (recK p.ch (N - logs)) (partsL (recK p.ch (N - logs))).length (partsL (recK p.ch (N - logs))) d k0) keep) :=
    fun k0 hk0 keep => cut_append hp (by omega) (by omega) ks hb sec (l := ⟨0, logs - 2, T, bb, 0, [], false⟩) rfl rfl rfl hfit k0 hk0 keep
  have hsecA : ∀ k0, k0 ≤ (partsL (recK p.ch (N - logs))).length → Sec N logs (apD ⟨0, logs - 2, T, bb, 0, [], false⟩ (recK p.ch (N - logs)) (partsL (recK p.ch (N - logs))).length (partsL (recK p.ch (N - logs))) d k0) := fun k0 hk0 => sec_ap sec (by show 0 + 2 + (logs - 2) ≤ logs; omega) (by show 0 + k0 ≤ logs - 2; omega)
  have g0 := hx.cmg (off := off) (by omega)
  have g1 := w1.cmg (off := off) (by omega)
  rcases r1 with ⟨rfl, rfl, rfl⟩ | ⟨rfl, hfu, rfl, k0, hk0, rfl⟩
  · -- the log's commit
    have p1' := hp.append (l := ⟨0, logs - 2, T, bb, 0, [], false⟩) rfl rfl rfl (by rw [c0]; rfl) (recK p.ch (N - logs)) (by show 0 + _ ≤ logs - 2; omega) (partsL (recK p.ch (N - logs))).length (Nat.le_refl _)
    have hr : ∀ (t : Nat) (s : List UInt8), (pcs [(t, s)]).length = (partsL s).length := fun t s => by
      show (pcsR t s ++ []).length = _
      rw [List.append_nil]
      unfold pcsR
      rw [pcK_len]
    obtain ⟨R1, p2⟩ := p1'.commit (by rw [(hap _).2.1, cl0, List.nil_append, hr, Nat.zero_add])
    have hcA := hcut _ (Nat.le_refl _)
    have hsA := hsecA _ (Nat.le_refl _)
    have nA := (hap (partsL (recK p.ch (N - logs))).length).1
    have cA := (hap (partsL (recK p.ch (N - logs))).length).2.1
    have fA := (hap (partsL (recK p.ch (N - logs))).length).2.2.1
    have rA : ∀ j, j < N - logs → rd (flD (apD ⟨0, logs - 2, T, bb, 0, [], false⟩ (recK p.ch (N - logs)) (partsL (recK p.ch (N - logs))).length (partsL (recK p.ch (N - logs))) d (partsL (recK p.ch (N - logs))).length)) ((logs + j : Nat) : Int) = b j := fun j hj => by
      rw [rd_fl p1'.g, rd_ap (fun i hi => by show ((0 + 2 + (0 + i) : Nat) : Int) ≠ _; omega), hb j hj]
    have gA := p1'.g
    generalize apD ⟨0, logs - 2, T, bb, 0, [], false⟩ (recK p.ch (N - logs)) (partsL (recK p.ch (N - logs))).length (partsL (recK p.ch (N - logs))) d (partsL (recK p.ch (N - logs))).length = d1 at *
    obtain ⟨H2, A2, v2, d2, l2, κc2, κr2, e2, w2, q2, r2⟩ := Try.wCommit (off + 1000) w1 (by omega) rfl (by omega) (by omega)
    have g2 := w2.cmg (off := off) (by omega)
    rcases r2 with ⟨rfl, rfl, rfl⟩ | ⟨rfl, hfu, rfl, rfl⟩
    · -- home
      have hs2 := sec_fl gA hsA
      have n2' : (flD d1).n = d.n := nA
      have cl2 : (flD d1).cache.length = 0 := rfl
      obtain ⟨H3, A3, v3, d3, l3, κc3, κr3, e3, w3, q3, rfl, r3⟩ := Try.wHome (off + 2000) w2 (κ := κp) (m := p.ch) (by omega) (by omega) (by omega) w2.pg.m ks.find
      have g3 := w3.cmg (off := off) (by omega)
      have hpn2 : pgN (flD d1) p = N - logs := by unfold pgN; rw [n2', dn, p1]
      have hsp := homeD_spec (flD d1) logs p.ch
      have hcH := fun K hK => cut_home p2 (by omega) (show T ≤ M by omega) ks hf128 (fun _ _ => rfl) rA hs2 K hK
      rw [p1, hpn2] at r3
      rcases r3 with ⟨rfl, rfl⟩ | ⟨rfl, hfu, K, hK, rfl⟩
      · -- settle
        have hsH := sec_home hs2 ks.find (N - logs)
        have hcl3 := (hsp (N - logs)).2.1
        have hn3 := (hsp (N - logs)).1
        obtain ⟨p4, r4', s4⟩ := home_done p2 hf128 (fun _ _ => rfl) rA hs2
        have hgH := homeD_fused (flD d1) logs p.ch (N - logs)
        have hcHf := hcH (N - logs) (Nat.le_refl _)
        generalize homeD (flD d1) logs p.ch (N - logs) = d3 at *
        obtain ⟨H4, A4, v4, d4, l4, κc4, κr4, e4, w4, q4, r4⟩ := Try.wSettle (off + 1000) w3 (by omega) rfl (by show T + 1 < _; omega) (by show 0 + 1 < d3.n; omega) (by omega) (by omega)
        have g4 := w4.cmg (off := off) (by omega)
        rcases r4 with ⟨rfl, rfl, rfl⟩ | ⟨rfl, hfu, r4⟩
        · have cs : Try.CmS off pid did lid κp p (recK p.ch (N - logs)) (h5 H H1 H2 H3 H4) (h5 A A1 A2 A3 A4) (fun _ => 0) 4 := Try.cms5 g0 g1 g2 g3 g4 q1 q2 q3 q4 (fun _ => e1) (fun _ => e2) (fun _ => e3) (fun _ => e4) (Nat.le_refl _) (fun _ _ => rfl) (fun h => absurd h (Nat.lt_irrefl _))
          obtain ⟨R2, p5⟩ := p4.reset (by omega)
          have n4 : (nextD (flD d3) 0 (T + 1) (T + 1)).n = N := p5.dn
          have hpn4 : pgN (nextD (flD d3) 0 (T + 1) (T + 1)) p = N - logs := by unfold pgN; rw [n4, p1]
          have hC := Try.kPgCommitG (d := d) (v := pD (.lit (.int .i64 0))) (H' := H4) (A' := upd A4 κp (some (.mp (encNS [])))) (by rw [hpn]; exact cs) hh hne hx.lw.dk (by omega) (by omega) hx.lg (by rw [hpn]; show 0 + _ ≤ logs - 2; omega) (by show logs - 2 ≤ _; omega) (by omega) ks.find (by rw [hpn]; omega)
            (fun _ => ⟨κm, κc4, nextD (flD d3) 0 (T + 1) (T + 1), w4.lw.dk, by rw [n4, p1]; omega, by rw [n4]; omega, rfl, rfl, by rw [hpn4, ks.gone]; rfl⟩) (fun h => absurd h (Nat.lt_irrefl _))
          have hrd : ∀ j, j < N - logs → rd (nextD (flD d3) 0 (T + 1) (T + 1)) ((logs + j : Nat) : Int) = ct b p.ch j := fun j hj => by rw [rd_wlog p4.g _ _ _ _ (by omega)]; exact r4' j hj
          refine ⟨H4, _, 0, _, _, _, _, _, hC, w4.ch [], ⟨n4, n1, n2, hN4, ⟨hb1, hb2⟩, Nat.zero_le _, p1, KsOK.nil _, fun j hj => ?_⟩, ((q1.trans q2).trans (q3.trans q4)).trans (k1 := k) ⟨fun _ h => h, upd_keep, fun _ _ h => h, fun τ hτ hn => by rw [upd_other _ _ (fun e => by rw [e, w4.pg.m] at hn; cases hn)]; exact hn⟩ (Nat.le_refl _), .inl ⟨rfl, (show d3.fused = d1.fused from hgH).trans fA, rfl, ⟨_, _, p5⟩, ⟨_, rfl⟩, hrd⟩⟩
          rw [hrd j hj, ← r4' j hj]; exact s4 j hj
        · have cs : Try.CmS off pid did lid κp p (recK p.ch (N - logs)) (h5 H H1 H2 H3 H4) (h5 A A1 A2 A3 A4) (h5 0 0 0 6 6) 3 := Try.cms5 g0 g1 g2 g3 g4 q1 q2 q3 q4 (fun _ => e1) (fun _ => e2) (fun _ => e3) (fun _ => e4) (by omega) (fun i hi => by match i, hi with | 0, _ => rfl | 1, _ => rfl | 2, _ => rfl) (fun _ => by decide)
          have hfd : d.fused = true := fA.symm.trans ((show d1.fused = d3.fused from hgH.symm).trans hfu)
          rcases r4 with rfl | rfl | rfl
          · exact fin rfl rfl cs (by omega) rfl w4 ((q1.trans q2).trans (q3.trans q4)) (by omega) hfd (by omega) (by omega) hsH (fun keep => .inr (hcHf keep))
          · exact fin rfl rfl cs (by omega) rfl w4 ((q1.trans q2).trans (q3.trans q4)) (by omega) hfd (by show d3.n = _; omega) (Nat.zero_le _) s4 (fun keep => .inr ((cut_done p4 (by omega) (by omega) ks r4' s4).cut keep))
          · exact fin rfl rfl cs (by omega) rfl w4 ((q1.trans q2).trans (q3.trans q4)) (by omega) hfd (by show d3.n = _; omega) (by show ((flD d3).cache ++ [_]).length ≤ 2000; simp [flD]) (sec_wr s4 (i := 0 + (T + 1) % 2) (by omega) _) (fun keep => .inr (cut_reset p4 (by omega) hT ks r4' s4 keep))
      · have cs : Try.CmS off pid did lid κp p (recK p.ch (N - logs)) (h5 H H1 H2 H3 H3) (h5 A A1 A2 A3 A3) (h5 0 0 6 6 6) 2 := Try.cms5 g0 g1 g2 g3 g3 q1 q2 q3 (KP.refl (k := k)) (fun _ => e1) (fun _ => e2) (fun _ => e3) (fun h => absurd h (by omega)) (by omega) (fun i hi => by match i, hi with | 0, _ => rfl | 1, _ => rfl) (fun _ => by decide)
        have hcl3 := (hsp K).2.1
        have hn3 := (hsp K).1
        exact fin rfl rfl cs (by omega) rfl w3 ((q1.trans q2).trans q3) (by omega) (fA.symm.trans hfu) (by omega) (by omega) (sec_home hs2 ks.find K) (fun keep => .inr (hcH K hK keep))
    · have cs : Try.CmS off pid did lid κp p (recK p.ch (N - logs)) (h5 H H1 H2 H2 H2) (h5 A A1 A2 A2 A2) (h5 0 6 6 6 6) 1 := Try.cms5 g0 g1 g2 g2 g2 q1 q2 (KP.refl (k := k)) (KP.refl (k := k)) (fun _ => e1) (fun _ => e2) (fun h => absurd h (by omega)) (fun h => absurd h (by omega)) (by omega) (fun i hi => by match i, hi with | 0, _ => rfl) (fun _ => by decide)
      exact fin rfl rfl cs (by omega) rfl w2 (q1.trans q2) (by omega) (fA.symm.trans hfu) nA (by omega) hsA hcA
  · have cs : Try.CmS off pid did lid κp p (recK p.ch (N - logs)) (h5 H H1 H1 H1 H1) (h5 A A1 A1 A1 A1) (h5 6 6 6 6 6) 0 := Try.cms5 g0 g1 g1 g1 g1 q1 (KP.refl (k := k)) (KP.refl (k := k)) (KP.refl (k := k)) (fun _ => e1) (fun h => absurd h (by omega)) (fun h => absurd h (by omega)) (fun h => absurd h (by omega)) (by omega) (fun i hi => absurd hi (by omega)) (fun _ => by decide)
    exact fin rfl rfl cs (by omega) rfl w1 q1 (by omega) hfu (hap k0).1 (by rw [(hap k0).2.1]; omega) (hsecA k0 hk0) (hcut k0 hk0)
end st
end Go.Proofs

namespace Go.PW
def tS (s : Nat → Nat) (κ : Tok) : Tok := (s κ.1, κ.2)
def renH (s : Nat → Nat) (H : HMap) : HMap := fun i => (H (s i)).map (List.map (CV.im s (tS s)))
def renA (s : Nat → Nat) (A : AMap) : AMap := fun κ => A (tS s κ)
section ren
variable {s : Nat → Nat}
theorem im_im (hs : ∀ i, s (s i) = i) (c : CV) : (c.im s (tS s)).im s (tS s) = c := by
  have ht : ∀ κ, tS s (tS s κ) = κ := fun κ => by unfold tS; rw [hs]
  cases c <;> simp [CV.im, ht, hs, Function.comp_def]
theorem ok_im {hk hk' : Nat → Prop} {tk tk' : Tok → Prop} (h1 : ∀ i, hk i → hk' (s i)) (h2 : ∀ κ, tk κ → tk' (tS s κ)) {c : CV} (hc : c.ok hk tk) : (c.im s (tS s)).ok hk' tk' := by
  cases c with
  | own κ els => exact h2 _ hc
  | mt κ sz n => exact h2 _ hc
  | tv κ sz n L => exact h2 _ hc
  | mptr κ sz n i o => exact h2 _ hc
  | ptr id o => exact h1 _ hc
  | mpr κ => exact h2 _ hc
  | itr κ bi => exact h2 _ hc
  | sit κ => exact h2 _ hc
  | vsl id n => exact h1 _ hc
  | fn k caps =>
    intro p hp
    obtain ⟨q, hq, rfl⟩ := List.mem_map.1 hp
    exact h1 _ (hc q hq)
  | bfn k fst caps =>
    refine ⟨fun p hp => ?_, fun p hp => ?_⟩
    · obtain ⟨q, hq, rfl⟩ := List.mem_map.1 hp
      exact h1 _ (hc.1 q hq)
    · obtain ⟨q, hq, rfl⟩ := List.mem_map.1 hp
      exact h1 _ (hc.2 q hq)
  | _ => trivial
theorem renH_of (hs : ∀ i, s (s i) = i) {H : HMap} {i : Nat} {cs : List CV} (h : H i = some cs) : renH s H (s i) = some (cs.map (CV.im s (tS s))) := by
  unfold renH
  rw [hs, h]; rfl
theorem renA_of (hs : ∀ i, s (s i) = i) {A : AMap} {κ : Tok} {ar : Arr} (h : A κ = some ar) : renA s A (tS s κ) = some ar := by
  unfold renA tS
  rw [hs]; exact h
theorem renH_ne (hs : ∀ i, s (s i) = i) {H : HMap} {i : Nat} (h : H i ≠ none) : renH s H (s i) ≠ none := by
  cases hi : H i with
  | none => exact (h hi).elim
  | some cs => rw [renH_of hs hi]; simp
theorem renA_ne (hs : ∀ i, s (s i) = i) {A : AMap} {κ : Tok} (h : A κ ≠ none) : renA s A (tS s κ) ≠ none := by
  cases hi : A κ with
  | none => exact (h hi).elim
  | some ar => rw [renA_of hs hi]; simp
theorem Wf_ren (hs : ∀ i, s (s i) = i) {H : HMap} {A : AMap} (h : Wf H A) : Wf (renH s H) (renA s A) := fun i cs c hi hc => by
  cases hh : H (s i) with
  | none => unfold renH at hi; rw [hh] at hi; cases hi
  | some ds =>
    unfold renH at hi
    rw [hh] at hi
    cases hi
    obtain ⟨e, he, rfl⟩ := List.mem_map.1 hc
    exact ok_im (fun j hj => renH_ne hs hj) (fun τ hτ => renA_ne hs hτ) (h (s i) ds e hh he)
theorem RetR_ren {P : Program} {fn : Func} {H H3 : HMap} {A A3 : AMap} {S : St} {v p : PV} (hs : ∀ i, s (s i) = i) (hp : resPVs P S fn.results.toList = some p) (hv : PV.wk H3 S.A A3 (v.im s (tS s)) p) (hok : v.oks (fun i => renH s H3 i ≠ none) (fun κ => renA s A3 κ ≠ none)) (hw : Wf H3 A3)
    (h1 : ∀ i, H3 i ≠ none → S.H i = H3 i) (h2 : ∀ κ, A3 κ ≠ none → S.A κ = A3 κ) (kH : ∀ i, H i ≠ none → s i = i ∧ H3 i ≠ none) (kA : ∀ κ, A κ ≠ none → s κ.1 = κ.1 ∧ A3 κ ≠ none) : RetR P fn H A v (renH s H3) (renA s A3) S := by
  have ht : ∀ κ, tS s (tS s κ) = κ := fun κ => by unfold tS; rw [hs]
  refine ⟨p, ⟨fun _ => v.im s (tS s), H3, A3⟩, s, tS s, hp, ⟨fun _ => hv, fun i => ?_, fun κ => ?_, fun i h => (kH i h).2, fun κ h => (kA κ h).2⟩, rfl, hok, ⟨fun i h => ⟨(kH i h).1, ?_⟩, fun κ h => ⟨?_, ?_⟩, fun i j _ _ e => ?_, fun i j _ _ e => ?_, fun i cs hi => ⟨?_, fun c hc => Wf_ren hs hw i cs c hi hc⟩, fun κ ar h => h⟩⟩
  · show H3 i = none ∨ _
    cases hi : H3 i with
    | none => exact .inl rfl
    | some cs =>
      have hw1 : wkCells H3 S.A A3 cs cs := wkC_same fun c hc => ok_mono (fun _ h => h) (fun κ h => ⟨h, (h2 κ h).symm⟩) (hw i cs c hi hc)
      obtain ⟨h3, h4⟩ := wkCells_spec hw1
      exact .inr ⟨cs, cs, hi, by show S.H i = _; rw [h1 i (by rw [hi]; simp), hi], h3, h4⟩
  · show A3 κ = none ∨ A3 κ = S.A κ ∨ _
    cases h : A3 κ with
    | none => exact .inl rfl
    | some ar => exact .inr (.inl (by rw [h2 κ (by rw [h]; simp), h]))
  · have := renH_ne hs (kH i h).2
    rwa [(kH i h).1] at this
  · unfold tS; rw [(kA κ h).1]
  · have := renA_ne hs (kA κ h).2
    unfold tS at this
    rwa [(kA κ h).1] at this
  · have := congrArg s e
    rwa [hs, hs] at this
  · have := congrArg (tS s) e
    rwa [ht, ht] at this
  · unfold renH at hi
    cases hh : H3 (s i) with
    | none => rw [hh] at hi; cases hi
    | some ds =>
      rw [hh] at hi
      cases hi
      show H3 (s i) = some _
      rw [hh, List.map_map, show (CV.im s (tS s) ∘ CV.im s (tS s)) = id from funext (im_im hs), List.map_id]
end ren
def blk (a b n i : Nat) : Nat := if a ≤ i ∧ i < a + n then i - a + b else if b ≤ i ∧ i < b + n then i - b + a else i
theorem blk_inv {a b n : Nat} (h : a + n ≤ b) (i : Nat) : blk a b n (blk a b n i) = i := by
  unfold blk
  by_cases h1 : a ≤ i ∧ i < a + n
  · rw [if_pos h1, if_neg (by omega), if_pos (by omega)]; omega
  · rw [if_neg h1]
    by_cases h2 : b ≤ i ∧ i < b + n
    · rw [if_pos h2, if_pos (by omega)]; omega
    · rw [if_neg h2, if_neg h1, if_neg h2]
theorem blk_low {a b n i : Nat} (h : a + n ≤ b) (hi : i < a) : blk a b n i = i := by
  unfold blk
  rw [if_neg (by omega), if_neg (by omega)]
theorem blk_up {a b n i : Nat} (h : a + n ≤ b) (hi : b ≤ i) (h2 : i < b + n) : blk a b n i = i - b + a := by
  unfold blk
  rw [if_neg (by omega), if_pos ⟨hi, h2⟩]
end Go.PW
namespace Go.Proofs
open Go.PW
section ren
variable {s : Nat → Nat} {H : HMap} {A : AMap} {k k' did pid lid : Nat} {κm κc κr κp : Tok} {d : Dk} {l : Lg} {p : Pg}
theorem LW.ren (hs : ∀ i, s (s i) = i) (h : LW H A k did κm κc d) (hk : ∀ i, k' ≤ i → H (s i) = none ∧ ∀ q, A (s i, q) = none) : LW (renH s H) (renA s A) k' (s did) (tS s κm) (tS s κc) d :=
  ⟨Wf_ren hs h.wf, fun i hi => ⟨by unfold renH; rw [(hk i hi).1]; rfl, fun q => (hk i hi).2 q⟩, ⟨renH_of hs h.dk.h, renA_of hs h.dk.m, renA_of hs h.dk.c⟩⟩
theorem WXs.ren (hs : ∀ i, s (s i) = i) (h : WXs H A k did pid lid κm κc κr κp d l p) (hk : ∀ i, k' ≤ i → H (s i) = none ∧ ∀ q, A (s i, q) = none) (lo : ∀ j, j < 200 → s j = j) : WXs (renH s H) (renA s A) k' (s did) (s pid) (s lid) (tS s κm) (tS s κc) (tS s κr) (tS s κp) d l p := by
  refine ⟨h.lw.ren hs hk, ⟨renH_of hs h.lg.h, renA_of hs h.lg.r⟩, ⟨renH_of hs h.pg.h, renA_of hs h.pg.m⟩, fun e => h.ne ?_, fun j hj => ⟨?_, fun q => ?_⟩⟩
  · have := congrArg (tS s) e
    unfold tS at this
    simp only [hs] at this
    exact this
  · unfold renH; rw [lo j hj, (h.lo j hj).1]; rfl
  · show A (s j, q) = none
    rw [lo j hj]; exact (h.lo j hj).2 q
end ren
section redo
variable {H H1 H2 H3 : HMap} {A A1 A2 A3 : AMap} {pid did lid : Nat} {κp κr κ : Tok} {p : Pg} {l : Lg} {s : List UInt8} {v : Int}
set_option maxRecDepth 8000 in
set_option maxHeartbeats 16000000 in
theorem Try.kRedoB (off : Nat) (hw : Wf H A) (hp : PgAt H A pid did lid κp p) (hl : LgAt H A lid did κr l) (hr : l.recs = [s]) (hv : (v != 0) = true)
    (eP : EffOK Try.prog 49 (off + 1000) H A [.c (.ptr pid 0), pD (dS s)] (.tup [.c (.mpr κ), .c (.d (.lit (.bool true)))]) H A1) (ab1 : Above (off + 1000) H A1)
    (eH : EffOK Try.prog 36 (off + 1000) H A1 [.c (.ptr pid 0), .c (.mpr κ)] (pD (.lit (.int .i64 v))) H2 A2) (hw2 : Wf H2 A2) {n : Nat} (kk : KP n H A H2 A2) :
    EffOK Try.prog 28 off H A [.c (.ptr pid 0)] (pD (.lit (.int .i64 v))) H2 A2 := by
  refine effr_ok (E := envOf Try.prog [48, 49, 36, 37] off [] []) (envOf_ok Try.mixed) Try.func28 rfl Try.call28 (by kernel_rfl) (by exact Nat.le_of_ble_eq_true rfl) (fun hab => ?_)
  have hph := hp.h
  unfold encPg at hph
  have hab' := Above_mono hab (Nat.le_add_right off 1000)
  have kr := Try.kRecords (off + 1000) hw hl (by rw [hr]; show 1 ≤ _; omega)
  rw [hr] at kr
  have v3 : (((textsD [s]).length : Int) == 0) = false := rfl
  have hptr : ∀ {X Y : AMap}, PV.wk (hOver [] H) X Y (.c (.ptr pid 0)) (.c (.ptr pid 0)) = True := eq_true (wkP_ptr (by show H pid ≠ none; rw [hp.h]; simp))
  repeat' (first
   |with_reducible first|refine vSq fun K hK=>?_|refine vRg ?_|refine vBl ?_|refine vSc ?_|refine vIf ?_|refine vSk ?_|refine vEx ?_|refine vRt ?_
   |(with_reducible first|refine gNt (fun h=>?_) (fun h=>?_)|refine gCs (fun h=>?_) (fun h=>?_))<;>(try simp only[h])
   |refine C_call rfl kr rfl hab' ?_
   |with_reducible first|(refine hK _ ?_;clear hK K)|(clear hK K;refine hK _ ?_;clear hK K)|(clear hK K;clear hK K;refine hK _ ?_;clear hK K)|(clear hK K;clear hK K;clear hK K;refine hK _ ?_;clear hK K)
   |(with_reducible refine todo ?_;simp +decide only[go_sem, hph, v3]))
  refine VC_range 1 (fun i => i = 0) (fun i => over [(0, .c (.ptr pid 0)), (17, .c (.d (.sl (textsD [s])))), (18, pD (.lit (.int .i64 ((textsD [s]).length : Int)))), (19, pD (.lit (.int .i64 i)))] [] H A) rfl ?_ ?_
  · refine Weak_overG hw (fun _ _ => rfl) rfl ?_ ?_ (fun _ h => h) (fun _ h => h)
    · simp +decide only [go_sem, hptr]
    · simp +decide only [go_sem]
  · intro i hi h0
    have hc : ((i : Int) < ((textsD [s]).length : Int)) = True := eq_true (by show (i : Int) < 1; omega)
    have g1 : (textsD [s])[i]? = some [dS s] := by rw [h0]; rfl
    repeat' (first
     |with_reducible first|refine vSq fun K hK=>?_|refine vRg ?_|refine vBl ?_|refine vSc ?_|refine vIf ?_|refine vSk ?_|refine vEx ?_|refine vRt ?_
     |(with_reducible first|refine gNt (fun h=>?_) (fun h=>?_)|refine gCs (fun h=>?_) (fun h=>?_))<;>(try simp only[h])
     |refine C_call rfl eP rfl hab' ?_
     |refine C_call rfl eH rfl ab1 ?_
     |with_reducible first|(refine hK _ ?_;clear hK K)|(clear hK K;refine hK _ ?_;clear hK K)|(clear hK K;clear hK K;refine hK _ ?_;clear hK K)|(clear hK K;clear hK K;clear hK K;refine hK _ ?_;clear hK K)
     |(with_reducible refine todo ?_;simp +decide only[go_sem, hc, hv, g1]))
    exact RetR_eq rfl (wk_c (.inr (.inl ⟨rfl, True.intro⟩))) True.intro hw2 (fun _ _ => rfl) rfl kk.kH kk.kA
set_option maxRecDepth 8000 in
set_option maxHeartbeats 16000000 in
theorem Try.kRedoG (off : Nat) (hw : Wf H A) (hp : PgAt H A pid did lid κp p) (hl : LgAt H A lid did κr l) (hr : l.recs = [s])
    (eP : EffOK Try.prog 49 (off + 1000) H A [.c (.ptr pid 0), pD (dS s)] (.tup [.c (.mpr κ), .c (.d (.lit (.bool true)))]) H A1) (ab1 : Above (off + 1000) H A1)
    (eH : EffOK Try.prog 36 (off + 1000) H A1 [.c (.ptr pid 0), .c (.mpr κ)] (pD (.lit (.int .i64 0))) H2 A2) (hw2 : Wf H2 A2) {n : Nat} (kk : KP n H A H2 A2) (hp2 : H2 pid ≠ none) (ab2 : Above (off + 1000) H2 A2)
    (eS : EffOK Try.prog 37 (off + 1000) H2 A2 [.c (.ptr pid 0)] (pD (.lit (.int .i64 v))) H3 A3) (hw3 : Wf H3 A3) (kk3 : KP n H A H3 A3) :
    EffOK Try.prog 28 off H A [.c (.ptr pid 0)] (pD (.lit (.int .i64 v))) H3 A3 := by
  refine effr_ok (E := envOf Try.prog [48, 49, 36, 37] off [] []) (envOf_ok Try.mixed) Try.func28 rfl Try.call28 (by kernel_rfl) (by exact Nat.le_of_ble_eq_true rfl) (fun hab => ?_)
  have hph := hp.h
  unfold encPg at hph
  have hab' := Above_mono hab (Nat.le_add_right off 1000)
  have kr := Try.kRecords (off + 1000) hw hl (by rw [hr]; show 1 ≤ _; omega)
  rw [hr] at kr
  have v3 : (((textsD [s]).length : Int) == 0) = false := rfl
  have hptr : ∀ {X Y : AMap}, PV.wk (hOver [] H) X Y (.c (.ptr pid 0)) (.c (.ptr pid 0)) = True := eq_true (wkP_ptr (by show H pid ≠ none; rw [hp.h]; simp))
  have hptr2 : ∀ {X Y : AMap}, PV.wk (hOver [] H2) X Y (.c (.ptr pid 0)) (.c (.ptr pid 0)) = True := eq_true (wkP_ptr (by show H2 pid ≠ none; exact hp2))
  repeat' (first
   |with_reducible first|refine vSq fun K hK=>?_|refine vRg ?_|refine vBl ?_|refine vSc ?_|refine vIf ?_|refine vSk ?_|refine vEx ?_|refine vRt ?_
   |(with_reducible first|refine gNt (fun h=>?_) (fun h=>?_)|refine gCs (fun h=>?_) (fun h=>?_))<;>(try simp only[h])
   |refine C_call rfl kr rfl hab' ?_
   |with_reducible first|(refine hK _ ?_;clear hK K)|(clear hK K;refine hK _ ?_;clear hK K)|(clear hK K;clear hK K;refine hK _ ?_;clear hK K)|(clear hK K;clear hK K;clear hK K;refine hK _ ?_;clear hK K)
   |(with_reducible refine todo ?_;simp +decide only[go_sem, hph, v3]))
  refine VC_range 1 (fun _ => True) (fun i => over [(0, .c (.ptr pid 0)), (17, .c (.d (.sl (textsD [s])))), (18, pD (.lit (.int .i64 ((textsD [s]).length : Int)))), (19, pD (.lit (.int .i64 i)))] [] (h5 H H2 H2 H2 H2 i) (h5 A A2 A2 A2 A2 i)) True.intro ?_ ?_
  · refine Weak_overG hw (fun _ _ => rfl) rfl ?_ ?_ (fun _ h => h) (fun _ h => h)
    · simp +decide only [go_sem, hptr, h5]
    · simp +decide only [go_sem]
  · intro i hi _
    rcases Nat.lt_or_ge i 1 with hi2 | hi2
    · have h0 : i = 0 := by omega
      have hc : ((i : Int) < ((textsD [s]).length : Int)) = True := eq_true (by show (i : Int) < 1; omega)
      have g1 : (textsD [s])[i]? = some [dS s] := by rw [h0]; rfl
      have hnx := int_next hi2 (by omega)
      have a0 : h5 H H2 H2 H2 H2 i = H := by rw [h0]; rfl
      have a1 : h5 A A2 A2 A2 A2 i = A := by rw [h0]; rfl
      have a2 : h5 H H2 H2 H2 H2 (i + 1) = H2 := by rw [h0]; rfl
      have a3 : h5 A A2 A2 A2 A2 (i + 1) = A2 := by rw [h0]; rfl
      rw [a0, a1]
      repeat' (first
       |with_reducible first|refine vSq fun K hK=>?_|refine vRg ?_|refine vBl ?_|refine vSc ?_|refine vIf ?_|refine vSk ?_|refine vEx ?_|refine vRt ?_
       |(with_reducible first|refine gNt (fun h=>?_) (fun h=>?_)|refine gCs (fun h=>?_) (fun h=>?_))<;>(try simp only[h])
       |refine C_call rfl eP rfl hab' ?_
       |refine C_call rfl eH rfl ab1 ?_
       |with_reducible first|(refine hK _ ?_;clear hK K)|(clear hK K;refine hK _ ?_;clear hK K)|(clear hK K;clear hK K;refine hK _ ?_;clear hK K)|(clear hK K;clear hK K;clear hK K;refine hK _ ?_;clear hK K)
       |(with_reducible refine todo ?_;simp +decide only[go_sem, hc, hnx, zne, g1]))
      refine Next_of hi2 True.intro ?_
      rw [a2, a3]
      refine Weak_overG hw2 (fun _ _ => rfl) rfl ?_ ?_ kk.kH kk.kA
      · simp +decide only [go_sem, hptr2]
      · simp +decide only [go_sem]
    · have h1 : i = 1 := by omega
      have hc : ((i : Int) < ((textsD [s]).length : Int)) = False := eq_false (by show ¬ (i : Int) < 1; omega)
      have a0 : h5 H H2 H2 H2 H2 i = H2 := by rw [h1]; rfl
      have a1 : h5 A A2 A2 A2 A2 i = A2 := by rw [h1]; rfl
      rw [a0, a1]
      repeat' (first
       |with_reducible first|refine vSq fun K hK=>?_|refine vRg ?_|refine vBl ?_|refine vSc ?_|refine vIf ?_|refine vSk ?_|refine vEx ?_|refine vRt ?_
       |(with_reducible first|refine gNt (fun h=>?_) (fun h=>?_)|refine gCs (fun h=>?_) (fun h=>?_))<;>(try simp only[h])
       |refine C_call rfl eS rfl ab2 ?_
       |with_reducible first|(refine hK _ ?_;clear hK K)|(clear hK K;refine hK _ ?_;clear hK K)|(clear hK K;clear hK K;refine hK _ ?_;clear hK K)|(clear hK K;clear hK K;clear hK K;refine hK _ ?_;clear hK K)
       |(with_reducible refine todo ?_;simp +decide only[go_sem, hc]))
      exact RetR_eq rfl (wk_c (.inr (.inl ⟨rfl, True.intro⟩))) True.intro hw3 (fun _ _ => rfl) rfl kk3.kH kk3.kA
end redo
section st
variable {H : HMap} {A : AMap} {k did pid lid : Nat} {κm κc κr κp : Tok} {d : Dk} {l : Lg} {p : Pg} {ch : List (Int × List UInt8)}
theorem Try.wRedo (off : Nat) (h : WXs H A k did pid lid κm κc κr κp d l p) (hk : k + 4 ≤ off) (hh : l.halted = false) (hr : l.recs = [recK ch (pgN d p)]) (ks : KsOK (pgN d p) ch) (hsz : (recK ch (pgN d p)).length ≤ 100000) (hs128 : ∀ k r, findN k (sortK ch (pgN d p)) 0 = some r → r.2.length ≤ 128)
    (ht : l.turn + 1 < 9223372036854775807) (hin : l.from_ + 1 < d.n) (hl : p.logs ≤ d.n) (hdn : d.n ≤ 4096) (hcl : d.cache.length ≤ 800000) :
    WSO off Try.prog 28 H A [.c (.ptr pid 0)] k (k + 3) did pid lid κm κp p fun v d' l' =>
      (v = 0 ∧ d' = nextD (flD (homeD d p.logs (sortK ch (pgN d p)) (pgN d p))) l.from_ (l.turn + 1) (l.turn + 1) ∧ l' = { l with turn := l.turn + 1, base := l.turn + 1, used := 0, recs := [] }) ∨
      (v = 6 ∧ d.fused = true ∧ ((∃ K, K ≤ pgN d p ∧ d' = homeD d p.logs (sortK ch (pgN d p)) K) ∨ d' = flD (homeD d p.logs (sortK ch (pgN d p)) (pgN d p)) ∨ d' = wrD (flD (homeD d p.logs (sortK ch (pgN d p)) (pgN d p))) ((l.from_ + (l.turn + 1) % 2 : Nat) : Int) (turnB (l.turn + 1) (l.turn + 1)))) := by
  have hA0 : A (k, 0) = none := (h.lw.ab k (Nat.le_refl _)).2 0
  have hA : ∀ {τ : Tok}, A τ ≠ none → upd A (k, 0) (some (.mp (encNS (sortK ch (pgN d p))))) τ = A τ := fun {τ} hτ => upd_other _ _ fun e => hτ (by rw [e]; exact hA0)
  have w1 : WXs H (upd A (k, 0) (some (.mp (encNS (sortK ch (pgN d p)))))) (k + 1) did pid lid κm κc κr κp d l p := by
    obtain ⟨_, _, _, _, _, _, _, _, _, q10, _⟩ := h.nums
    have hkm := h.lw.ne.2.1
    refine ⟨⟨Wf_arr h.lw.wf upd_keep, Above_updA (Above_mono h.lw.ab (by omega)) (by show k < k + 1; omega), ⟨h.lw.dk.h, by rw [hA (by rw [h.lw.dk.m]; simp)]; exact h.lw.dk.m, by rw [hA (by rw [h.lw.dk.c]; simp)]; exact h.lw.dk.c⟩⟩, h.lg.mv rfl (hA (by rw [h.lg.r]; simp)), h.pg.mv rfl (hA (by rw [h.pg.m]; simp)), h.ne, fun j hj => ⟨(h.lo j hj).1, fun q => ?_⟩⟩
    rw [upd_other _ _ (tok_ne (by show j ≠ k; omega))]
    exact (h.lo j hj).2 q
  have eP := Try.kParse (κ := (k, 0)) (off + 1000) h.lw.wf h.pg h.lw.dk hl hdn ks hsz hA0
  have q1 : KP k H A H (upd A (k, 0) (some (.mp (encNS (sortK ch (pgN d p)))))) := ⟨fun _ h => h, upd_keep, fun _ _ h => h, fun τ hτ hn => by rw [upd_other _ _ (tok_ne (by show τ.1 ≠ k; omega))]; exact hn⟩
  have ab1 : Above (off + 1000) H (upd A (k, 0) (some (.mp (encNS (sortK ch (pgN d p)))))) := Above_mono w1.lw.ab (by omega)
  obtain ⟨H2, A2, v2, d2, l2, κc2, κr2, e2, w2, q2, rfl, r2⟩ := Try.wHome (off + 1000) w1 (κ := (k, 0)) (m := sortK ch (pgN d p)) hl hdn (by omega) (upd_same _ _ _) hs128
  have hsp := homeD_spec d p.logs (sortK ch (pgN d p))
  rcases r2 with ⟨rfl, rfl⟩ | ⟨rfl, hfu, K, hK, rfl⟩
  · have hn3 := (hsp (pgN d p)).1
    have hc3 := (hsp (pgN d p)).2.1
    have hpn : pgN d p ≤ 4096 := by unfold pgN; omega
    obtain ⟨H3, A3, v3, d3, l3, κc3, κr3, e3, w3, q3, r3⟩ := Try.wSettle (off + 1000) w2 (by omega) hh ht (by omega) (by omega) (by omega)
    have hE := Try.kRedoG off h.lw.wf h.pg h.lg hr eP ab1 e2 w2.lw.wf (q1.trans q2) (by rw [w2.pg.h]; simp) (Above_mono w2.lw.ab (by omega)) e3 w3.lw.wf ((q1.trans q2).trans q3)
    refine ⟨H3, A3, v3, d3, l3, κc3, κr3, hE, w3, (q1.trans q2).trans q3, ?_⟩
    have hfu := homeD_fused d p.logs (sortK ch (pgN d p)) (pgN d p)
    rcases r3 with r | ⟨r, hf, r' | r' | r'⟩
    · exact .inl r
    · exact .inr ⟨r, hfu.symm.trans hf, .inl ⟨_, Nat.le_refl _, r'⟩⟩
    · exact .inr ⟨r, hfu.symm.trans hf, .inr (.inl r')⟩
    · exact .inr ⟨r, hfu.symm.trans hf, .inr (.inr r')⟩
  · exact ⟨H2, A2, 6, _, _, _, _, Try.kRedoB off h.lw.wf h.pg h.lg hr rfl eP ab1 e2 w2.lw.wf (q1.trans q2), w2.up (by omega), q1.trans q2, .inr ⟨rfl, hfu, .inl ⟨K, hK, rfl⟩⟩⟩
end st
end Go.Proofs
