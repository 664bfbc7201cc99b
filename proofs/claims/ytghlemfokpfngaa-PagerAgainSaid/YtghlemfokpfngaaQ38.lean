/-
  Parts of the proof, laid together: PwRf, PwRg, PwRh.
-/
import Derived.Test.YtghlemfokpfngaaQ37
import Derived.Test.YtghlemfokpfngaaQ20

namespace Go.Proofs
open Go.PW
theorem sort_vals {n : Nat} {ch : List (Int × List UInt8)} (ks : KsOK n ch) : (∀ k r, findN k (sortK ch n) 0 = some r → r.2.length = 128) ∧ ∀ j : Nat, j < n → valR (j : Int) (sortK ch n) = valR (j : Int) ch := by
  refine ⟨fun k r hr => ?_, fun j hj => by rw [sortK_val, if_pos hj]⟩
  have h1 := valR_find k (sortK ch n)
  rw [hr] at h1
  obtain ⟨_, _, r', h2, h3⟩ := sortK_key (valR_mem h1.symm)
  have h4 := valR_find k ch
  simp only at h2 h3
  rw [h2] at h4
  rw [← h3]
  exact ks.len _ (valR_mem h4.symm)
def Live (logs N M : Nat) (b : Nat → List UInt8) (d : Dk) (l : Lg) : Prop :=
  ∃ T, T ≤ M ∧ (∃ B S, PI d 0 logs N T B [] [] S) ∧ (∃ bb, l = ⟨0, logs - 2, T, bb, 0, [], false⟩) ∧ ∀ j, j < N - logs → rd d ((logs + j : Nat) : Int) = b j
theorem Live.cut {logs N M : Nat} {b : Nat → List UInt8} {d : Dk} {l : Lg} (h : Live logs N M b d l) (hM : M < 1000000) (hs : Sec N logs d) : Cut logs N M b d := by
  obtain ⟨T, hT, ⟨B, S, hp⟩, _, hb⟩ := h
  exact RX.cut ⟨T, B, [], hT, hp.rdy0 (by omega), .inl ⟨rfl, hb⟩, hs⟩
section st
variable {H HE : HMap} {A AE : AMap} {k did : Nat} {κm κc κc' κr : Tok} {d dn : Dk} {l : Lg} {logs N M T B : Nat} {old : List (Nat × List UInt8)} {S : Nat → Option Pc} {b : Nat → List UInt8}
theorem Try.wRedoAny (off : Nat) {pid lid : Nat} {κp : Tok} (h : WXs H A k did pid lid κm κc κr κp dn l ⟨logs, [], false⟩) (hk : k + 4 ≤ off) (hN : N - logs ≤ 30) (hlN : logs < N) (hp : PI dn 0 logs N T B old [] S) (hl : l = ⟨0, logs - 2, T, B, (pcs old).length, old.map (·.2), false⟩)
    (hr : Redo logs N old (fun j => rd dn ((logs + j : Nat) : Int)) b) (hs : Sec N logs dn) (hTM : T + 1 ≤ M) (hM : M < 1000000) :
    WSO off Try.prog 28 H A [.c (.ptr pid 0)] k (k + 3) did pid lid κm κp ⟨logs, [], false⟩ fun v d' l' => d'.n = N ∧ d'.cache.length ≤ 2000 ∧ Sec N logs d' ∧ Cut logs N M b d' ∧ ((v = 0 ∧ d'.fused = dn.fused ∧ Live logs N M b d' l') ∨ (v = 6 ∧ dn.fused = true)) := by
  have hn1 := hp.n1
  have hn2 := hp.n2
  have hdn := hp.dn
  have hN4 := hp.hN
  have hc := hp.nocache
  have hcl : dn.cache.length = 0 := by rw [hc]; rfl
  have hpn : pgN dn ⟨logs, [], false⟩ = N - logs := by unfold pgN; rw [hdn]
  rcases hr with ⟨rfl, hb⟩ | ⟨t, ch, rfl, ks, hb⟩
  · have hL : Live logs N M b dn l := ⟨T, by omega, ⟨B, S, hp⟩, ⟨B, hl⟩, hb⟩
    have h0 := Try.kRedo0 off h.lw.wf h.pg h.lg (by rw [hl]; rfl)
    exact ⟨H, A, 0, dn, l, κc, κr, h0, h.up (by omega), KP.refl, hdn, by omega, hs, hL.cut hM hs, .inl ⟨rfl, rfl, hL⟩⟩
  · have hle := ks.le
    have hrl := recK_le (m := ch) (by omega) ks.find (N - logs) (by omega)
    obtain ⟨h128, hv⟩ := sort_vals ks
    subst hl
    obtain ⟨H', A', v, d', l', κc1, κr1, e, w, q, r⟩ := Try.wRedo off h hk rfl (ch := ch) (by rw [hpn]; rfl) (by rw [hpn]; exact ks) (by rw [hpn]; omega) (by rw [hpn]; exact fun k r hr => Nat.le_of_eq (h128 k r hr)) (by show T + 1 < _; omega) (by show 0 + 1 < dn.n; omega) (by show logs ≤ dn.n; omega) (by omega) (by omega)
    refine ⟨H', A', v, d', l', κc1, κr1, e, w, q, ?_⟩
    rw [hpn] at r
    dsimp only at r
    have hcH := fun K hK => cut_home hp (by omega) (show T ≤ M by omega) ks h128 hv (b := fun j => rd dn ((logs + j : Nat) : Int)) (fun _ _ => rfl) hs K hK
    have hsH := fun K => sec_home hs (fun k r hr => Nat.le_of_eq (h128 k r hr)) K
    obtain ⟨p4, r4, s4⟩ := home_done hp h128 hv (b := fun j => rd dn ((logs + j : Nat) : Int)) (fun _ _ => rfl) hs
    have hsp := homeD_spec dn logs (sortK ch (N - logs))
    have hgo : ∀ {x : Dk}, Cut logs N M (ct (fun j => rd dn ((logs + j : Nat) : Int)) ch) x → Cut logs N M b x := fun {x} hx keep => by
      obtain ⟨T', B', old', a1, a2, a3, a4⟩ := hx keep
      refine ⟨T', B', old', a1, a2, ?_, a4⟩
      rcases a3 with ⟨c1, c2⟩ | ⟨t', ch', c1, c2, c3⟩
      · exact .inl ⟨c1, fun j hj => (c2 j hj).trans (hb j hj)⟩
      · exact .inr ⟨t', ch', c1, c2, fun j hj => (c3 j hj).trans (hb j hj)⟩
    rcases r with ⟨rfl, rfl, rfl⟩ | ⟨rfl, hf, r⟩
    · obtain ⟨R2, p5⟩ := p4.reset (by omega)
      have hrd : ∀ j, j < N - logs → rd (nextD (flD (homeD dn logs (sortK ch (N - logs)) (N - logs))) 0 (T + 1) (T + 1)) ((logs + j : Nat) : Int) = ct (fun j => rd dn ((logs + j : Nat) : Int)) ch j := fun j hj => by rw [rd_wlog p4.g _ _ _ _ (by omega)]; exact r4 j hj
      have hS : Sec N logs (nextD (flD (homeD dn logs (sortK ch (N - logs)) (N - logs))) 0 (T + 1) (T + 1)) := fun j hj => by rw [rd_wlog p4.g _ _ _ _ (by omega)]; exact s4 j hj
      have hL : Live logs N M b (nextD (flD (homeD dn logs (sortK ch (N - logs)) (N - logs))) 0 (T + 1) (T + 1)) ⟨0, logs - 2, T + 1, T + 1, 0, [], false⟩ := ⟨T + 1, hTM, ⟨_, _, p5⟩, ⟨_, rfl⟩, fun j hj => (hrd j hj).trans (hb j hj)⟩
      exact ⟨p5.dn, Nat.zero_le _, hS, hL.cut hM hS, .inl ⟨rfl, homeD_fused dn logs (sortK ch (N - logs)) (N - logs), hL⟩⟩
    · rcases r with ⟨K, hK, rfl⟩ | rfl | rfl
      · have h1 := (hsp K).1
        have h2 := (hsp K).2.1
        exact ⟨by omega, by omega, hsH K, hgo (hcH K hK), .inr ⟨rfl, hf⟩⟩
      · exact ⟨p4.dn, Nat.zero_le _, s4, hgo (cut_done p4 (by omega) (by omega) ks r4 s4).cut, .inr ⟨rfl, hf⟩⟩
      · exact ⟨p4.dn, by show ((flD (homeD dn logs (sortK ch (N - logs)) (N - logs))).cache ++ [_]).length ≤ 2000; simp [flD], sec_wr s4 (i := 0 + (T + 1) % 2) (by omega) _, hgo (cut_reset p4 (by omega) hTM ks r4 s4), .inr ⟨rfl, hf⟩⟩
def OpenR (logs N M : Nat) (b : Nat → List UInt8) (H : HMap) (A : AMap) (k did : Nat) (κm : Tok) (fu : Bool) (H' : HMap) (A' : AMap) (x : CV) (v : Int) : Prop :=
  KP k H A H' A' ∧ (∀ j, j < 200 → H' j = none ∧ ∀ q, A' (j, q) = none) ∧ ∃ κc' d', LW H' A' (k + 13) did κm κc' d' ∧ d'.n = N ∧ d'.cache.length ≤ 2000 ∧ Cut logs N M b d' ∧
    ((v = 0 ∧ d'.fused = fu ∧ ∃ pid lid κr' κp' l', x = .ptr pid 0 ∧ WXs H' A' (k + 13) did pid lid κm κc' κr' κp' d' l' ⟨logs, [], false⟩ ∧ QSt N logs d' ⟨logs, [], false⟩ ∧ Live logs N M b d' l') ∨ (v = 6 ∧ fu = true ∧ x = .d (.lit (.pointer none))))
set_option maxRecDepth 8000 in
set_option maxHeartbeats 16000000 in
theorem Try.wOpenIn (off : Nat) (hL : LW H A k did κm κc d) (hk : k + 60 ≤ off) (hN : N - logs ≤ 30) (big : N ≤ logs + 1024 ∧ logs < N) (hdN : d.n = N)
    (ee : EffOK Try.prog 27 (off + 1000) H A [.c (.ptr did 0), pD (.lit (.int .i64 0)), pD (.lit (.int .i64 logs))] (.tup [.c (.ptr k 0), .c (.d (.lit (.int .i64 0)))]) HE AE)
    (LE : LW HE AE (k + 1) did κm κc' dn) (gE : LgAt HE AE k did κr l) (kE : KP k H A HE AE) (loE : ∀ j, j < 200 → HE j = none ∧ ∀ q, AE (j, q) = none)
    (hp : PI dn 0 logs N T B old [] S) (hl : l = ⟨0, logs - 2, T, B, (pcs old).length, old.map (·.2), false⟩) (hr : Redo logs N old (fun j => rd dn ((logs + j : Nat) : Int)) b) (hs : Sec N logs dn) (hTM : T + 1 ≤ M) (hM : M < 1000000) :
    ∃ H' A' x v, EffOK Try.prog 6 off H A [.c (.ptr did 0), pD (.lit (.int .i64 logs))] (.tup [.c x, .c (.d (.lit (.int .i64 v)))]) H' A' ∧ OpenR logs N M b H A k did κm dn.fused H' A' x v := by
  obtain ⟨n1, n2, n3⟩ := hL.ne
  have hn1 := hp.n1
  have hn2 := hp.n2
  have hN4 := hp.hN
  have hdE : HE did ≠ none := by rw [LE.dk.h]; simp
  have hlE : HE k ≠ none := by rw [gE.h]; simp
  have hEo : HE (off + 40) = none := (LE.ab (off + 40) (by omega)).1
  have aEo : AE (off + 38, 0) = none := (LE.ab (off + 38) (by omega)).2 0
  have hb200 := lo_big loE
  have hd200 : 200 ≤ did := hb200.1 hdE
  have hkm : 200 ≤ κm.1 := hb200.2 (by rw [LE.dk.m]; simp)
  have hne : ∀ {τ : Tok}, AE τ ≠ none → τ ≠ (off + 38, 0) := fun {τ} h e => h (by rw [e]; exact aEo)
  -- the pager, ahead of redo
  have w3 : WXs (upd HE (off + 40) (some (encPg did k (off + 38, 0) ⟨logs, [], false⟩))) (upd AE (off + 38, 0) (some (.mp []))) (off + 41) did (off + 40) k κm κc' κr (off + 38, 0) dn l ⟨logs, [], false⟩ := by
    refine ⟨⟨Wf_set LE.wf (encPg_ok (upd_keepH _ hdE) (upd_keepH _ hlE) (by rw [upd_same]; simp)) upd_keep, Above_updA (Above_updH (Above_mono LE.ab (by omega)) (by omega)) (by show off + 38 < off + 41; omega), ⟨by rw [upd_other _ _ (by omega)]; exact LE.dk.h, by rw [upd_other _ _ (hne (by rw [LE.dk.m]; simp))]; exact LE.dk.m, by rw [upd_other _ _ (hne (by rw [LE.dk.c]; simp))]; exact LE.dk.c⟩⟩,
      gE.mv (upd_other _ _ (by omega)) (upd_other _ _ (hne (by rw [gE.r]; simp))), ⟨upd_same _ _ _, upd_same _ _ _⟩, (hne (by rw [LE.dk.m]; simp)).symm, fun j hj => ⟨by rw [upd_other _ _ (by omega)]; exact (loE j hj).1, fun q => by rw [upd_other _ _ (tok_ne (by show j ≠ off + 38; omega))]; exact (loE j hj).2 q⟩⟩
  obtain ⟨H3, A3, v, d3, l3, κc3, κr3, er, w4, q4, rn, rc, rs, rcut, rv⟩ := Try.wRedoAny (off + 1000) w3 (by omega) hN big.2 hp hl hr hs hTM hM
  have hab3 : Above (off + 1000) (upd HE (off + 40) (some (encPg did k (off + 38, 0) ⟨logs, [], false⟩))) (upd AE (off + 38, 0) (some (.mp []))) := Above_mono w3.lw.ab (by omega)
  -- new names
  have hs0 : k + 1 + 12 ≤ off + 38 := by omega
  have hinv := blk_inv hs0
  have b40 : blk (k + 1) (off + 38) 12 (off + 40) = k + 3 := by rw [blk_up hs0 (by omega) (by omega)]; omega
  have bk3 : blk (k + 1) (off + 38) 12 (k + 3) = off + 40 := by rw [← b40, hinv]
  have blo : ∀ {i}, i ≤ k → blk (k + 1) (off + 38) 12 i = i := fun {i} hi => blk_low hs0 (by omega)
  have btk : ∀ {τ : Tok}, τ.1 ≤ k → tS (blk (k + 1) (off + 38) 12) τ = τ := fun {τ} h => by unfold tS; rw [blo h]
  have hfree : ∀ x, k + 1 ≤ x → ¬ (off + 38 ≤ x ∧ x < off + 50) → H3 x = none ∧ ∀ q, A3 (x, q) = none := fun x h1 h2 => by
    rcases Nat.lt_or_ge x (off + 44) with h3 | h3
    · have h4 : x < off + 38 := by omega
      exact ⟨q4.nH x (by omega) (by rw [upd_other _ _ (by omega)]; exact (LE.ab x h1).1), fun q => q4.nA (x, q) (by show x < _; omega) (by rw [upd_other _ _ (tok_ne (by show x ≠ off + 38; omega))]; exact (LE.ab x h1).2 q)⟩
    · exact w4.lw.ab x (by omega)
  have hup : ∀ i, k + 13 ≤ i → H3 (blk (k + 1) (off + 38) 12 i) = none ∧ ∀ q, A3 (blk (k + 1) (off + 38) 12 i, q) = none := fun i hi => by
    unfold blk
    rw [if_neg (by omega)]
    split
    · exact hfree _ (by omega) (by omega)
    · exact hfree _ (by omega) (by omega)
  have w5 := w4.ren hinv hup (fun j hj => blo (by omega))
  rw [b40, blo (by omega), blo (Nat.le_refl k), btk (by omega)] at w5
  have kEk : ∀ i, H i ≠ none → i < k := fun i hi => Nat.lt_of_not_le fun h => hi (hL.ab i h).1
  have kEt : ∀ τ, A τ ≠ none → τ.1 < k := fun τ hi => Nat.lt_of_not_le fun h => hi ((hL.ab τ.1 h).2 τ.2)
  have kH3 : ∀ i, H i ≠ none → H3 i ≠ none := fun i hi => q4.kH i (upd_keepH i (kE.kH i hi))
  have kA3 : ∀ τ, A τ ≠ none → A3 τ ≠ none := fun τ hi => q4.kA τ (upd_keep τ (kE.kA τ hi))
  have kH5 : ∀ i, H i ≠ none → blk (k + 1) (off + 38) 12 i = i ∧ H3 i ≠ none := fun i hi => ⟨blo (by have := kEk i hi; omega), kH3 i hi⟩
  have kA5 : ∀ τ, A τ ≠ none → blk (k + 1) (off + 38) 12 τ.1 = τ.1 ∧ A3 τ ≠ none := fun τ hi => ⟨blo (by have := kEt τ hi; omega), kA3 τ hi⟩
  have qq : KP k H A (renH (blk (k + 1) (off + 38) 12) H3) (renA (blk (k + 1) (off + 38) 12) A3) := by
    refine ⟨fun j hj => ?_, fun τ hτ => ?_, fun j hj hn => ?_, fun τ hτ hn => ?_⟩
    · have := renH_ne hinv (kH3 j hj)
      rwa [(kH5 j hj).1] at this
    · have := renA_ne hinv (kA3 τ hτ)
      unfold tS at this
      rwa [(kA5 τ hτ).1] at this
    · unfold renH
      rw [blo (by omega), q4.nH j (by omega) (by rw [upd_other _ _ (by omega)]; exact kE.nH j hj hn)]; rfl
    · unfold renA
      rw [btk (by omega), q4.nA τ (by omega) (by rw [upd_other _ _ (tok_ne (by show τ.1 ≠ off + 38; omega))]; exact kE.nA τ hτ hn)]
  have kl := Try.kLen (off + 1000) hL.wf hL.dk
  rw [hdN] at kl
  have c1 : IntKind.i64.wrap ((N : Int) - (logs : Int)) = ((N - logs : Nat) : Int) := by rw [Go.IntWalk.i64_in _ (by omega)]; omega
  have z1 : ((N : Int) == 0) = false := by rw [beq_eq_false_iff_ne]; omega
  have z2 : (((N - logs : Nat) : Int) < 1) = False := eq_false (by omega)
  have z3 : ((1024 : Int) < ((N - logs : Nat) : Int)) = False := eq_false (by omega)
  have hab0 : ∀ {o : Nat}, k ≤ o → Above o H A := fun h => Above_mono hL.ab h
  have habE : Above (off + 1000) HE AE := Above_mono LE.ab (by omega)
  rcases rv with ⟨rfl, hfe, hLive⟩ | ⟨rfl, hfu⟩
  · refine ⟨_, _, .ptr (k + 3) 0, 0, ?_, qq, w5.lo, _, d3, w5.lw, rn, rc, rcut, .inl ⟨rfl, hfe, k + 3, k, _, _, l3, rfl, w5, ⟨rn, hn1, hn2, hN4, big, rc, rfl, KsOK.nil _, rs⟩, hLive⟩⟩
    refine effr_ok (E := envOf Try.prog [26, 27, 28] off [] []) (envOf_ok Try.mixed) Try.func6 rfl Try.call6 (by kernel_rfl) (by exact Nat.le_of_ble_eq_true rfl) (fun hab => ?_)
    unfold encPg at er hab3
    repeat' (first
     |with_reducible first|refine vSq fun K hK=>?_|refine vRg ?_|refine vBl ?_|refine vSc ?_|refine vIf ?_|refine vSk ?_|refine vEx ?_|refine vRt ?_
     |(with_reducible first|refine gNt (fun h=>?_) (fun h=>?_)|refine gCs (fun h=>?_) (fun h=>?_))<;>(try simp only[h])
     |refine And.intro aEo ?_
     |refine And.intro hEo ?_
     |refine C_call rfl kl rfl (hab0 (by omega)) ?_
     |refine C_call rfl ee rfl (hab0 (by omega)) ?_
     |refine C_call rfl er rfl hab3 ?_
     |with_reducible first|(refine hK _ ?_;clear hK K)|(clear hK K;refine hK _ ?_;clear hK K)|(clear hK K;clear hK K;refine hK _ ?_;clear hK K)|(clear hK K;clear hK K;clear hK K;refine hK _ ?_;clear hK K)
     |(with_reducible refine todo ?_;simp +decide only[go_sem, c1, z1, z2, z3, zne]))
    refine RetR_ren hinv rfl ?_ (oks_pairP (by rw [w5.pg.h]; simp)) w4.lw.wf (fun _ _ => rfl) (fun _ _ => rfl) kH5 kA5
    show PV.wk _ _ _ (.tup [.c (.ptr (blk (k + 1) (off + 38) 12 (k + 3)) 0), _]) _
    rw [bk3]
    exact wk_pairP (by rw [w4.pg.h]; simp)
  · refine ⟨_, _, .d (.lit (.pointer none)), 6, ?_, qq, w5.lo, _, d3, w5.lw, rn, rc, rcut, .inr ⟨rfl, hfu, rfl⟩⟩
    refine effr_ok (E := envOf Try.prog [26, 27, 28] off [] []) (envOf_ok Try.mixed) Try.func6 rfl Try.call6 (by kernel_rfl) (by exact Nat.le_of_ble_eq_true rfl) (fun hab => ?_)
    unfold encPg at er hab3
    repeat' (first
     |with_reducible first|refine vSq fun K hK=>?_|refine vRg ?_|refine vBl ?_|refine vSc ?_|refine vIf ?_|refine vSk ?_|refine vEx ?_|refine vRt ?_
     |(with_reducible first|refine gNt (fun h=>?_) (fun h=>?_)|refine gCs (fun h=>?_) (fun h=>?_))<;>(try simp only[h])
     |refine And.intro aEo ?_
     |refine And.intro hEo ?_
     |refine C_call rfl kl rfl (hab0 (by omega)) ?_
     |refine C_call rfl ee rfl (hab0 (by omega)) ?_
     |refine C_call rfl er rfl hab3 ?_
     |with_reducible first|(refine hK _ ?_;clear hK K)|(clear hK K;refine hK _ ?_;clear hK K)|(clear hK K;clear hK K;refine hK _ ?_;clear hK K)|(clear hK K;clear hK K;clear hK K;refine hK _ ?_;clear hK K)
     |(with_reducible refine todo ?_;simp +decide only[go_sem, c1, z1, z2, z3, zne, z60]))
    exact RetR_ren hinv rfl wk_pair oks_pair w4.lw.wf (fun _ _ => rfl) (fun _ _ => rfl) kH5 kA5
theorem Try.wOpen (off : Nat) (hL : LW H A k did κm κc d) (lo : ∀ j, j < 200 → H j = none ∧ ∀ q, A (j, q) = none) (hk : k + 60 ≤ off) (hN : N - logs ≤ 30) (big : N ≤ logs + 1024 ∧ logs < N) (hR : RX logs N M b d) (hM : M + 2 < 1000000) (hf : d.fused = false) :
    ∃ H' A' x v, EffOK Try.prog 6 off H A [.c (.ptr did 0), pD (.lit (.int .i64 logs))] (.tup [.c x, .c (.d (.lit (.int .i64 v)))]) H' A' ∧ OpenR logs N (M + 2) b H A k did κm false H' A' x v := by
  obtain ⟨n1, n2, n3⟩ := hL.ne
  obtain ⟨T, B, old, h1, h2, h3, h4⟩ := hR
  obtain ⟨t0, b0, t1, b1, R, o1, o2, o3, o4, o5⟩ := h2.ex
  obtain ⟨HE, AE, ee, LE, gE, _, fH, fA, kA⟩ := Try.tOpen (off + 1000) hL (by omega) o1 hf
  have b200 := lo_big lo
  have hd200 : 200 ≤ did := b200.1 (by rw [hL.dk.h]; simp)
  have hm200 : 200 ≤ κm.1 := b200.2 (by rw [hL.dk.m]; simp)
  have hc200 : 200 ≤ κc.1 := b200.2 (by rw [hL.dk.c]; simp)
  rw [o2, o3] at LE
  rw [o4] at gE
  have hdN : d.n = N := o5.dn
  have hrd : ∀ j, rd (nextD d 0 (T + 1) B) ((logs + j : Nat) : Int) = rd d ((logs + j : Nat) : Int) := fun j => rd_wlog h2.g _ _ _ _ (by have := o5.n1; omega)
  have loE : ∀ j, j < 200 → HE j = none ∧ ∀ q, AE (j, q) = none := fun j hj => ⟨by rw [fH j (by omega) (by omega)]; exact (lo j hj).1, fun q => by rw [fA _ (tok_ne (by show j ≠ κm.1; omega)) (tok_ne (by show j ≠ κc.1; omega)) (by show j < k; omega)]; exact (lo j hj).2 q⟩
  have kE : KP k H A HE AE := by
    refine ⟨fun j hj => ?_, kA, fun j hj hn => ?_, fun τ hτ hn => ?_⟩
    · by_cases x1 : j = did
      · rw [x1, LE.dk.h]; simp
      · by_cases x2 : j = k
        · rw [x2, gE.h]; simp
        · rw [fH j x1 x2]; exact hj
    · rw [fH j (fun e => by rw [e, hL.dk.h] at hn; cases hn) (by omega)]; exact hn
    · rw [fA τ (fun e => by rw [e, hL.dk.m] at hn; cases hn) (fun e => by rw [e, hL.dk.c] at hn; cases hn) hτ]; exact hn
  have h := Try.wOpenIn off hL hk hN big hdN ee LE gE kE loE o5 rfl (h3.same fun j _ => hrd j) (fun j hj => by rw [hrd]; exact h4 j hj) (show T + 1 + 1 ≤ M + 2 by omega) hM
  rw [show (nextD d 0 (T + 1) B).fused = false from hf] at h
  exact h
end st
end Go.Proofs

namespace Go.Proofs
open Go.PW
structure QXs (H : HMap) (A : AMap) (k did pid lid : Nat) (κm κc κr κp : Tok) (N logs : Nat) (d : Dk) (l : Lg) (p : Pg) : Prop extends WXs H A k did pid lid κm κc κr κp d l p where
  st : QSt N logs d p
def QX (Q : Dk → Lg → Bool → Prop) (H : HMap) (A : AMap) (k did pid N logs : Nat) (ch : List (Int × List UInt8)) (b : Nat → List UInt8) : Prop :=
  ∃ lid κm κc κr κp d l p, QXs H A k did pid lid κm κc κr κp N logs d l p ∧ p.ch = ch ∧ (∀ j, j < N - logs → rd d ((logs + j : Nat) : Int) = b j) ∧ Q d l p.halted
def QSO (Q : Dk → Lg → Bool → Prop) (off : Nat) (P : Program) (f : FuncId) (H : HMap) (A : AMap) (args : List PV) (v : PV) (k' did pid' N logs : Nat) (ch' : List (Int × List UInt8)) (b' : Nat → List UInt8) : Prop :=
  ∃ H' A', EffOK P f off H A args v H' A' ∧ QX Q H' A' k' did pid' N logs ch' b' ∧ (∀ j, H j ≠ none → H' j ≠ none) ∧ ∀ τ, A τ ≠ none → A' τ ≠ none
section px
variable {Q : Dk → Lg → Bool → Prop} {H : HMap} {A : AMap} {k did pid lid : Nat} {κm κc κr κp : Tok} {N logs : Nat} {d : Dk} {l : Lg} {p : Pg} {ch : List (Int × List UInt8)} {b : Nat → List UInt8}
theorem QSt.num (h : QSt N logs d p) : d.n = N ∧ 4 ≤ logs ∧ logs ≤ 1000 ∧ logs < N ∧ N ≤ 4096 ∧ N ≤ logs + 1024 ∧ pgN d p = N - logs ∧ d.cache.length ≤ 2000 ∧ True :=
  ⟨h.dn, h.n1, h.n2, h.big.2, h.hN, h.big.1, by unfold pgN; rw [h.dn, h.p1], h.cl, True.intro⟩
theorem QSt.cts (h : QSt N logs d p) (hb : ∀ j, j < N - logs → rd d ((logs + j : Nat) : Int) = b j) (j : Nat) (hj : j < N - logs) : pgRd d p j = ct b p.ch j := by
  rw [pgRd_val, h.p1, hb j hj]; rfl
theorem QSt.len (h : QSt N logs d p) (j : Nat) (hj : j < N - logs) : (pgRd d p j).length = 128 := by
  rw [pgRd_val, h.p1]
  cases hv : valR (j : Int) p.ch with
  | none => exact h.sec j hj
  | some s => exact h.ks.len _ (valR_mem hv)
theorem QSt.put (h : QSt N logs d p) {m : List (Int × List UInt8)} (hm : KsOK (N - logs) m) : QSt N logs d { p with ch := m } := ⟨h.dn, h.n1, h.n2, h.hN, h.big, h.cl, h.p1, hm, h.sec⟩
theorem QXs.put (h : QXs H A k did pid lid κm κc κr κp N logs d l p) {m : List (Int × List UInt8)} (hm : KsOK (N - logs) m) : QXs H (upd A κp (some (.mp (encNS m)))) k did pid lid κm κc κr κp N logs d l { p with ch := m } := ⟨h.toWXs.ch m, h.st.put hm⟩
theorem QX.nums (h : QX Q H A k did pid N logs ch b) : 4 ≤ logs ∧ logs ≤ 1000 ∧ logs < N ∧ N ≤ 4096 ∧ N ≤ logs + 1024 ∧ did < k ∧ pid < k ∧ 200 ≤ did ∧ 200 ≤ pid ∧ Wf H A ∧ Above k H A ∧ H did ≠ none ∧ H pid ≠ none ∧ (∀ j, j < 200 → H j = none ∧ ∀ q, A (j, q) = none) ∧ KsOK (N - logs) ch ∧ ∀ j, j < N - logs → (ct b ch j).length = 128 := by
  obtain ⟨lid, κm, κc, κr, κp, d, l, p, hx, rfl, hb, _⟩ := h
  obtain ⟨n1, n2, n3, n4, n5, n6, n7, n8, _⟩ := hx.st.num
  obtain ⟨_, _, _, _, q5, _, q7, _, q9, _⟩ := hx.toWXs.nums
  exact ⟨n2, n3, n4, n5, n6, hx.lw.ne.1, q5, q7, q9, hx.lw.wf, hx.lw.ab, by rw [hx.lw.dk.h]; simp, by rw [hx.pg.h]; simp, hx.lo, hx.st.ks, fun j hj => by rw [← hx.st.cts hb j hj]; exact hx.st.len j hj⟩
theorem Try.xRead (off : Nat) (h : QX Q H A k did pid N logs ch b) (j : Nat) (hj : j < N - logs) : EffOK Try.prog 19 off H A [.c (.ptr pid 0), pD (.lit (.int .i64 j))] (.tup [.c (.d (dS (ct b ch j))), .c (.d (.lit (.int .i64 0)))]) H A := by
  obtain ⟨lid, κm, κc, κr, κp, d, l, p, hx, rfl, hb, hq⟩ := h
  obtain ⟨n1, n2, n3, n4, n5, n6, n7, n8, _⟩ := hx.st.num
  rw [← hx.st.cts hb j hj]
  exact Try.kPgRead off hx.lw.wf hx.pg hx.lw.dk (by rw [hx.st.p1]; omega) (by omega) (by omega) j (by omega)
theorem Try.xLen (off : Nat) (h : QX Q H A k did pid N logs ch b) : EffOK Try.prog 24 off H A [.c (.ptr pid 0)] (pD (.lit (.int .i64 ((N - logs : Nat) : Int)))) H A := by
  obtain ⟨lid, κm, κc, κr, κp, d, l, p, hx, rfl, hb, hq⟩ := h
  obtain ⟨n1, n2, n3, n4, n5, n6, n7, n8, _⟩ := hx.st.num
  rw [← n7]
  exact Try.kPgLen off hx.lw.wf hx.pg hx.lw.dk (by rw [hx.st.p1]; omega) (by omega)
theorem Try.xDirty (off : Nat) (h : QX Q H A k did pid N logs ch b) : EffOK Try.prog 17 off H A [.c (.ptr pid 0)] (.c (.d (.sl (ints (dirtyK ch (N - logs)))))) H A := by
  obtain ⟨lid, κm, κc, κr, κp, d, l, p, hx, rfl, hb, hq⟩ := h
  obtain ⟨n1, n2, n3, n4, n5, n6, n7, n8, _⟩ := hx.st.num
  rw [← n7]
  exact Try.kPgDirty off hx.lw.wf hx.pg hx.lw.dk (by rw [hx.st.p1]; omega) (by omega)
theorem Try.xIsFree (off : Nat) (h : QX Q H A k did pid N logs ch b) (j : Nat) (hj : j < N - logs) : EffOK Try.prog 22 off H A [.c (.ptr pid 0), pD (.lit (.int .i64 j))] (pD (.lit (.bool (isF (ct b ch 0) j)))) H A := by
  obtain ⟨lid, κm, κc, κr, κp, d, l, p, hx, rfl, hb, hq⟩ := h
  obtain ⟨n1, n2, n3, n4, n5, n6, n7, n8, _⟩ := hx.st.num
  unfold isF
  by_cases h0 : j = 0
  · subst h0
    exact Try.kIsFree0 (pid := pid) off hx.lw.wf
  · have e : (j != 0) = true := by simpa using h0
    have hl0 := hx.st.len 0 (by omega)
    rw [e, Bool.true_and, ← hx.st.cts hb 0 (by omega)]
    exact Try.kIsFree off hx.lw.wf hx.pg hx.lw.dk (by rw [hx.st.p1]; omega) (by omega) (by omega) j h0 (by omega) (by omega)
theorem Try.xFrees (off : Nat) (h : QX Q H A k did pid N logs ch b) : EffOK Try.prog 23 off H A [.c (.ptr pid 0)] (pD (.lit (.int .i64 (freesK (ct b ch 0) (N - logs))))) H A := by
  obtain ⟨lid, κm, κc, κr, κp, d, l, p, hx, rfl, hb, hq⟩ := h
  obtain ⟨n1, n2, n3, n4, n5, n6, n7, n8, _⟩ := hx.st.num
  have hl0 := hx.st.len 0 (by omega)
  rw [← hx.st.cts hb 0 (by omega), ← n7]
  exact Try.kFrees off hx.lw.wf hx.pg hx.lw.dk (by rw [hx.st.p1]; omega) (by omega) (by omega) (by omega)
theorem Try.xWrite (off : Nat) (h : QX Q H A k did pid N logs ch b) (page : Nat) (h0 : page ≠ 0) (hpg : page < N - logs) (s : List UInt8) (hs : s.length ≤ 128) :
    QSO Q off Try.prog 16 H A [.c (.ptr pid 0), pD (.lit (.int .i64 page)), pD (dS s)] (pD (.lit (.int .i64 0))) k did pid N logs (putN ch page (pad s)) b := by
  obtain ⟨lid, κm, κc, κr, κp, d, l, p, hx, rfl, hb, hq⟩ := h
  obtain ⟨n1, n2, n3, n4, n5, n6, n7, n8, _⟩ := hx.st.num
  exact ⟨_, _, Try.kPgWrite off hx.lw.wf hx.pg hx.lw.dk (by rw [hx.st.p1]; omega) (by omega) page h0 (by omega) s hs, ⟨lid, κm, κc, κr, κp, d, l, _, hx.put (hx.st.ks.put (by omega) (pad_len hs)), rfl, hb, hq⟩, fun _ h => h, upd_keep⟩
theorem Try.xWriteE (off : Nat) (h : QX Q H A k did pid N logs ch b) (page : Int) (s : List UInt8) (he : pgWrE (N - logs) page s ≠ 0) :
    EffOK Try.prog 16 off H A [.c (.ptr pid 0), pD (.lit (.int .i64 page)), pD (dS s)] (pD (.lit (.int .i64 (pgWrE (N - logs) page s)))) H A := by
  obtain ⟨lid, κm, κc, κr, κp, d, l, p, hx, rfl, hb, hq⟩ := h
  obtain ⟨n1, n2, n3, n4, n5, n6, n7, n8, _⟩ := hx.st.num
  rw [← n7] at he ⊢
  exact Try.kPgWriteE off hx.lw.wf hx.pg hx.lw.dk (by rw [hx.st.p1]; omega) (by omega) page s he
theorem Try.xFree (off : Nat) (h : QX Q H A k did pid N logs ch b) (q : Nat) (h0 : q ≠ 0) (hq : q < N - logs) (hf : freeB (ct b ch 0) q = false) :
    QSO Q off Try.prog 25 H A [.c (.ptr pid 0), pD (.lit (.int .i64 q))] (pD (.lit (.int .i64 0))) k did pid N logs (putN ch ((0 : Nat) : Int) (flipB (ct b ch 0) q)) b := by
  obtain ⟨lid, κm, κc, κr, κp, d, l, p, hx, rfl, hb, hq⟩ := h
  obtain ⟨n1, n2, n3, n4, n5, n6, n7, n8, _⟩ := hx.st.num
  have hl0 := hx.st.len 0 (by omega)
  rw [← hx.st.cts hb 0 (by omega)] at hf ⊢
  exact ⟨_, _, Try.kPgFree off hx.lw.wf hx.pg hx.lw.dk (by rw [hx.st.p1]; omega) (by omega) (by omega) (by omega) (by omega) q h0 (by omega) hf, ⟨lid, κm, κc, κr, κp, d, l, _, hx.put (hx.st.ks.put (k := 0) (by omega) (by rw [flipB_len]; exact hl0)), rfl, hb, hq⟩, fun _ h => h, upd_keep⟩
theorem Try.xFreeE (off : Nat) (h : QX Q H A k did pid N logs ch b) (page : Int) (he : pgFrE (N - logs) (ct b ch 0) page ≠ 0) :
    EffOK Try.prog 25 off H A [.c (.ptr pid 0), pD (.lit (.int .i64 page))] (pD (.lit (.int .i64 (pgFrE (N - logs) (ct b ch 0) page)))) H A := by
  obtain ⟨lid, κm, κc, κr, κp, d, l, p, hx, rfl, hb, hq⟩ := h
  obtain ⟨n1, n2, n3, n4, n5, n6, n7, n8, _⟩ := hx.st.num
  have hl0 := hx.st.len 0 (by omega)
  rw [← hx.st.cts hb 0 (by omega), ← n7] at he ⊢
  exact Try.kPgFreeE off hx.lw.wf hx.pg hx.lw.dk (by rw [hx.st.p1]; omega) (by omega) (by omega) (by omega) page he
theorem Try.xAllocN (off : Nat) (h : QX Q H A k did pid N logs ch b) (hno : ∀ i, i ≠ 0 → i < N - logs → freeB (ct b ch 0) i = false) :
    EffOK Try.prog 15 off H A [.c (.ptr pid 0)] (.tup [.c (.d (.lit (.int .i64 0))), .c (.d (.lit (.int .i64 3)))]) H A := by
  obtain ⟨lid, κm, κc, κr, κp, d, l, p, hx, rfl, hb, hq⟩ := h
  obtain ⟨n1, n2, n3, n4, n5, n6, n7, n8, _⟩ := hx.st.num
  have hl0 := hx.st.len 0 (by omega)
  rw [← hx.st.cts hb 0 (by omega)] at hno
  exact Try.kPgAllocN off hx.lw.wf hx.pg hx.lw.dk (by rw [hx.st.p1]; omega) (by omega) (by omega) (by omega) (fun i h1 h2 => hno i h1 (by omega))
theorem Try.xAlloc (off : Nat) (h : QX Q H A k did pid N logs ch b) (q : Nat) (h0 : q ≠ 0) (hq : q < N - logs) (hf : freeB (ct b ch 0) q = true) (hno : ∀ i, i ≠ 0 → i < q → freeB (ct b ch 0) i = false) :
    QSO Q off Try.prog 15 H A [.c (.ptr pid 0)] (.tup [.c (.d (.lit (.int .i64 q))), .c (.d (.lit (.int .i64 0)))]) k did pid N logs (putN (putN ch ((0 : Nat) : Int) (flipB (ct b ch 0) q)) q zeros) b := by
  obtain ⟨lid, κm, κc, κr, κp, d, l, p, hx, rfl, hb, hq⟩ := h
  obtain ⟨n1, n2, n3, n4, n5, n6, n7, n8, _⟩ := hx.st.num
  have hl0 := hx.st.len 0 (by omega)
  rw [← hx.st.cts hb 0 (by omega)] at hf hno ⊢
  exact ⟨_, _, Try.kPgAlloc off hx.lw.wf hx.pg hx.lw.dk (by rw [hx.st.p1]; omega) (by omega) (by omega) (by omega) (by omega) q h0 (by omega) hf hno,
    ⟨lid, κm, κc, κr, κp, d, l, _, hx.put ((hx.st.ks.put (k := 0) (by omega) (by rw [flipB_len]; exact hl0)).put (by omega) zeros_len), rfl, hb, hq⟩, fun _ h => h, upd_keep⟩
theorem Try.xAbort (off : Nat) (h : QX Q H A k did pid N logs ch b) : QSO Q off Try.prog 18 H A [.c (.ptr pid 0)] (.c .any) k did pid N logs [] b := by
  obtain ⟨lid, κm, κc, κr, κp, d, l, p, hx, rfl, hb, hq⟩ := h
  obtain ⟨n1, n2, n3, n4, n5, n6, n7, n8, _⟩ := hx.st.num
  have ka := Try.kPgAbort off hx.lw.wf hx.pg hx.lw.dk (by rw [hx.st.p1]; omega) (by omega)
  rw [n7, hx.st.ks.gone] at ka
  exact ⟨_, _, ka, ⟨lid, κm, κc, κr, κp, d, l, _, hx.put (KsOK.nil _), rfl, hb, hq⟩, fun _ h => h, upd_keep⟩
end px
end Go.Proofs

namespace Go.Proofs
open Go.PW
def LV (logs N M : Nat) (fu : Prop) (d : Dk) (l : Lg) (h : Bool) : Prop :=
  h = false ∧ (d.fused = true → fu) ∧ ∃ T, T ≤ M ∧ (∃ B S, PI d 0 logs N T B [] [] S) ∧ ∃ bb, l = ⟨0, logs - 2, T, bb, 0, [], false⟩
def HT (logs N M : Nat) (b1 b2 : Nat → List UInt8) (d : Dk) (_ : Lg) (h : Bool) : Prop :=
  h = true ∧ ∀ keep, RX logs N M b1 (crD d keep) ∨ RX logs N M b2 (crD d keep)
def DY (H : HMap) (A : AMap) (k did N logs M : Nat) (b : Nat → List UInt8) : Prop :=
  ∃ κm κc d, LW H A k did κm κc d ∧ RX logs N M b d ∧ d.fused = false ∧ (∀ j, j < 200 → H j = none ∧ ∀ q, A (j, q) = none) ∧ (N ≤ logs + 1024 ∧ logs < N)
theorem rdy_new {logs N : Nat} (h1 : 4 ≤ logs) (h2 : logs ≤ 1000) (h3 : logs < N) (h4 : N ≤ 4096) : Rdy logs N 0 0 [] (newD N) :=
  ⟨⟨0, 0, 0, 0, _, op_new h1 h2 (by omega) h4, rfl, rfl, opL_new _ _, PI.fresh h1 h2 (by omega) h4⟩, DkG_new N, rfl⟩
theorem DY.new {H : HMap} {A : AMap} {k did N logs : Nat} {κm κc : Tok} (hL : LW H A k did κm κc (newD N)) (h1 : 4 ≤ logs) (h2 : logs ≤ 1000) (h3 : logs < N) (h4 : N ≤ 4096) (h5 : N ≤ logs + 1024) (lo : ∀ j, j < 200 → H j = none ∧ ∀ q, A (j, q) = none) : DY H A k did N logs 0 (fun _ => zeros) :=
  ⟨κm, κc, newD N, hL, ⟨0, 0, [], Nat.le_refl _, rdy_new h1 h2 h3 h4, .inl ⟨rfl, fun _ _ => rd_new _ _⟩, fun _ _ => by rw [rd_new]; exact zeros_len⟩, rfl, lo, h5, h3⟩
section px
variable {Q Q' : Dk → Lg → Bool → Prop} {H : HMap} {A : AMap} {k k' did pid : Nat} {N logs M : Nat} {ch : List (Int × List UInt8)} {b b1 b2 : Nat → List UInt8} {fu : Prop}
theorem Try.xFuse (off : Nat) (h : QX Q H A k did pid N logs ch b) (n : Int) (hQ : ∀ d l x, Q d l x → Q' (fuseD d n) l x) : QSO Q' off Try.prog 8 H A [.c (.ptr did 0), pD (.lit (.int .i64 n))] (.c .any) k did pid N logs ch b := by
  obtain ⟨lid, κm, κc, κr, κp, d, l, p, hx, e, hb, hq⟩ := h
  obtain ⟨n1, n2, n3, n4, n5, n6, n7, n8, _⟩ := hx.st.num
  obtain ⟨H', A', ee, rfl, L, f⟩ := Try.tFuse off hx.lw (by omega) n
  obtain ⟨w, q⟩ := hx.toWXs.step L (hx.lg.mv (f _ (hx.lg.ne hx.lw.dk)) rfl) (fun j a _ => f j a) (fun _ _ _ _ _ => rfl) (fun _ h => h)
  have st' : QSt N logs (fuseD d n) p := ⟨hx.st.dn, hx.st.n1, hx.st.n2, hx.st.hN, hx.st.big, hx.st.cl, hx.st.p1, hx.st.ks, hx.st.sec⟩
  exact ⟨H', A', ee, ⟨lid, κm, κc, κr, κp, fuseD d n, l, p, ⟨w, st'⟩, e, hb, hQ _ _ _ hq⟩, q.kH, q.kA⟩
theorem LV.fuse {d : Dk} {l : Lg} {h : Bool} (n : Int) (x : LV logs N M fu d l h) : LV logs N M True (fuseD d n) l h := by
  obtain ⟨a, _, T, c, ⟨B, S, p⟩, e⟩ := x
  exact ⟨a, fun _ => True.intro, T, c, ⟨B, S, p.congr rfl rfl rfl⟩, e⟩
theorem Try.xCommit (off : Nat) (h : QX (LV logs N M fu) H A k did pid N logs ch b) (hk : k + 4 ≤ off) (hN : N - logs ≤ 30) (hM : M + 1 < 1000000) (hfit : ch ≠ [] → needN (recK ch (N - logs)).length ≤ logs - 2) :
    ∃ v, (v = 0 ∧ QSO (LV logs N (M + 1) fu) off Try.prog 9 H A [.c (.ptr pid 0)] (pD (.lit (.int .i64 v))) (k + 3) did pid N logs [] (ct b ch)) ∨
      (v = 6 ∧ fu ∧ ∃ bd, QSO (HT logs N (M + 1) b (ct b ch)) off Try.prog 9 H A [.c (.ptr pid 0)] (pD (.lit (.int .i64 v))) (k + 3) did pid N logs ch bd) := by
  obtain ⟨lid, κm, κc, κr, κp, d, l, p, hx, rfl, hb, hh, hf, T, hT, ⟨B, S, hp⟩, bb, hl⟩ := h
  by_cases h0 : p.ch = []
  · have e := Try.kPgCommit0 off hx.lw.wf hx.pg hh h0
    refine ⟨0, .inl ⟨rfl, H, A, e, ⟨lid, κm, κc, κr, κp, d, l, p, ⟨hx.toWXs.up (by omega), hx.st⟩, h0, fun j hj => ?_, hh, hf, T, by omega, ⟨B, S, hp⟩, bb, hl⟩, fun _ h => h, fun _ h => h⟩⟩
    rw [h0]; exact hb j hj
  · obtain ⟨H', A', v, d', l', p', κc', κr', e, w, st, q, r⟩ := Try.qCommit (M := M + 1) hx.toWXs hx.st hk hN hp hl hh (by omega) hM h0 (hfit h0) hb
    rcases r with ⟨rfl, r2, rfl, r4, r5, r6⟩ | ⟨rfl, r2, rfl, r4⟩
    · exact ⟨0, .inl ⟨rfl, H', A', e, ⟨lid, κm, κc', κr', κp, d', l', _, ⟨w, st⟩, rfl, r6, hh, fun h => hf (r2.symm.trans h), T + 1, by omega, r4, r5⟩, q.kH, q.kA⟩⟩
    · exact ⟨6, .inr ⟨rfl, hf r2, _, H', A', e, ⟨lid, κm, κc', κr', κp, d', l', _, ⟨w, st⟩, rfl, fun _ _ => rfl, rfl, r4⟩, q.kH, q.kA⟩⟩
theorem Try.xCrashAny (off : Nat) (h : QX Q H A k did pid N logs ch b) : ∃ L : List Int, EffOK Try.prog 11 off H A [.c (.ptr did 0)] (.c (.d (.sl (ints L)))) H A ∧ L.length ≤ 2000 ∧ ∀ keep : List Bool, keep.length ≤ L.length →
    ∃ d l x, Q d l x ∧ Sec N logs d ∧ (∀ j, j < N - logs → rd d ((logs + j : Nat) : Int) = b j) ∧ ∃ H' A', EffOK Try.prog 10 off H A [.c (.ptr did 0), .c (.d (.sl (bools keep)))] (pD (.lit (.int .i64 0))) H' A' ∧ ∀ M b', RX logs N M b' (crD d keep) → DY H' A' (k + 1) did N logs M b' := by
  obtain ⟨lid, κm, κc, κr, κp, d, l, p, hx, rfl, hb, hq⟩ := h
  obtain ⟨n1, n2, n3, n4, n5, n6, n7, n8, _⟩ := hx.st.num
  refine ⟨d.cache.map (·.1), Try.kDirty off hx.lw.wf hx.lw.dk (by omega) (by omega), by rw [List.length_map]; exact n8, fun keep hkp => ⟨d, l, _, hq, hx.st.sec, hb, ?_⟩⟩
  rw [List.length_map] at hkp
  obtain ⟨H', A', e, L', g, fH, fA, kA⟩ := Try.tCrash off hx.lw (by omega) (by omega) keep hkp
  obtain ⟨w, q⟩ := hx.toWXs.step L' (g _ _ _ hx.lg) (fun j a _ => fH j a) (fun τ a _ _ c => fA τ a c) kA
  exact ⟨H', A', e, fun M b' hr => ⟨κm, (k, 0), crD d keep, L', hr, rfl, w.lo, n6, n4⟩⟩
theorem LV.crash {d : Dk} {l : Lg} {x : Bool} (h : LV logs N M fu d l x) (hM : M < 1000000) (hs : Sec N logs d) (hb : ∀ j, j < N - logs → rd d ((logs + j : Nat) : Int) = b j) (keep : List Bool) : RX logs N M b (crD d keep) := by
  obtain ⟨_, _, T, hT, hp, hl⟩ := h
  exact Live.cut ⟨T, hT, hp, hl, hb⟩ hM hs keep
theorem Try.xOpen (off : Nat) (h : DY H A k did N logs M b) (hk : k + 60 ≤ off) (hN : N - logs ≤ 30) (hM : M + 2 < 1000000) : ∃ pid, QSO (LV logs N (M + 2) False) off Try.prog 6 H A [.c (.ptr did 0), pD (.lit (.int .i64 logs))] (.tup [.c (.ptr pid 0), .c (.d (.lit (.int .i64 0)))]) (k + 13) did pid N logs [] b := by
  obtain ⟨κm, κc, d, L, hr, hf, lo, big⟩ := h
  obtain ⟨H', A', x, v, e, q, lo', κc', d', L', a1, a2, a3, r⟩ := Try.wOpen off L lo hk hN big hr hM hf
  rcases r with ⟨rfl, hfu, pid, lid, κr', κp', l', rfl, w, st, T, hT, hp, hl, hb⟩ | ⟨_, h, _⟩
  · have hd' : d'.fused = true → False := fun h => by rw [hfu] at h; cases h
    exact ⟨pid, H', A', e, ⟨lid, κm, κc', κr', κp', d', l', _, ⟨w, st⟩, rfl, hb, rfl, hd', T, hT, hp, hl⟩, q.kH, q.kA⟩
  · cases h
end px
end Go.Proofs
