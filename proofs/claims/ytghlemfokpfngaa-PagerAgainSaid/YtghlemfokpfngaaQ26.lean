/-
  Parts of the proof, laid together: PwHo, PwHp, PwHq, PwHr, PwHs.
-/
import Derived.Test.YtghlemfokpfngaaQ25

namespace Go.Proofs
open Go.PW
structure OpAt (d : Dk) (f n t0 b0 t1 b1 : Nat) (pl : Nat → Option Pc) : Prop where
  n1 : 4 ≤ n
  n2 : n ≤ 1000
  hin : f + n ≤ d.n
  hdn : d.n ≤ 4096
  hcl : d.cache.length + 1 ≤ 1000000
  hs : ∀ i, i < n → (rd d ((f + i : Nat) : Int)).length ≤ 128
  c0 : TellCase (rd d ((f + 0 : Nat) : Int)) t0 b0
  c1 : TellCase (rd d ((f + 1 : Nat) : Int)) t1 b1
  hpl : ∀ i, i < n - 2 → AtOK (rd d ((f + 2 + i : Nat) : Int)) i (pl i)
def newL (f n t b : Nat) : Lg := ⟨f, n - 2, t, b, 0, [], false⟩
def opT (t0 t1 : Nat) : Nat := if t0 < t1 then t1 else t0
def opB (t0 b0 t1 b1 : Nat) : Nat := if t0 < t1 then b1 else b0
def opX (pl : Nat → Option Pc) (n t b : Nat) : Sc := scanK pl t (n - 2) 0 (sc0 (newL 0 n t b))
def opL (f n t0 b0 t1 b1 : Nat) (pl : Nat → Option Pc) : Lg :=
  ⟨f, n - 2, opT t0 t1 + 1, opB t0 b0 t1 b1, (opX pl n (opT t0 t1) (opB t0 b0 t1 b1)).used, (opX pl n (opT t0 t1) (opB t0 b0 t1 b1)).recs, false⟩
theorem encLgC_ok {H : HMap} {A : AMap} {did : Nat} {c6 : CV} {l : Lg} (h : H did ≠ none) (h6 : c6.ok (fun i => H i ≠ none) (fun κ => A κ ≠ none)) : ∀ c ∈ encLgC did c6 l, c.ok (fun i => H i ≠ none) (fun κ => A κ ≠ none) := by
  intro c hc
  unfold encLgC at hc
  simp only [List.mem_cons, List.not_mem_nil, or_false] at hc
  rcases hc with rfl | rfl | rfl | rfl | rfl | rfl | rfl | rfl
  · exact h
  · exact True.intro
  · exact True.intro
  · exact True.intro
  · exact True.intro
  · exact True.intro
  · exact h6
  · exact True.intro
section wal
variable {H : HMap} {A : AMap} {id did : Nat} {κm κc κr κ' : Tok} {d : Dk} {f n t0 b0 t1 b1 : Nat} {pl : Nat → Option Pc}
set_option maxRecDepth 8000 in
set_option maxHeartbeats 32000000 in
theorem Try.kOpen (off : Nat) (hw : Wf H A) (hd : DkAt H A did κm κc d) (ho : OpAt d f n t0 b0 t1 b1 pl) (hb1 : burnt d = false) (hb2 : burnt (wrD d ((f + (opT t0 t1 + 1) % 2 : Nat) : Int) (turnB (opT t0 t1 + 1) (opB t0 b0 t1 b1))) = false)
    (hid : H id = none) (hκr : A κr = none) (hκb : κr.1 < off + 1000) (hκ : A κ' = none) (hκκ : κ' ≠ κr) :
    EffOK Try.prog 27 off H A [.c (.ptr did 0), pD (.lit (.int .i64 f)), pD (.lit (.int .i64 n))] (.tup [.c (.ptr id 0), .c (.d (.lit (.int .i64 0)))])
      (upd (upd H did (some (encDk κm κ' (nextD d f (opT t0 t1 + 1) (opB t0 b0 t1 b1))))) id (some (encLg did κr (opL f n t0 b0 t1 b1 pl))))
      (upd (upd (upd (upd A κr (some (.co 1 (opL f n t0 b0 t1 b1 pl).recs.length))) κc (some (.co 2 (d.cache.length + 1)))) κm (some (.mp (encNS (nextD d f (opT t0 t1 + 1) (opB t0 b0 t1 b1)).stays)))) κ' (some (.co 2 0))) := by
  refine effr_ok (E := envOf Try.prog [26, 45, 46, 47] off [] []) (envOf_ok Try.mixed) Try.func27 rfl Try.call27 (by kernel_rfl) (by exact Nat.le_of_ble_eq_true rfl) (fun hab => ?_)
  obtain ⟨n1, n2, hin, hdn, hcl, hs, c0, c1, hpl⟩ := ho
  have hx : H (off + 46) = none := (hab _ (Nat.le_add_right _ _)).1
  have hdid : H did ≠ none := by rw [hd.h]; simp
  have hlt := hd.lt hab
  have hndo : did ≠ off + 46 := by omega
  have q1 : ((d.n : Int) == 0) = false := by rw [beq_eq_false_iff_ne]; omega
  have q2 : ((n : Int) < 4) = False := eq_false (by omega)
  have q3 : ((1000 : Int) < (n : Int)) = False := eq_false (by omega)
  have q4 : ((f : Int) < 0) = False := eq_false (by omega)
  have q5 : ((d.n : Int) < (f : Int)) = False := eq_false (by omega)
  have q6 : IntKind.i64.wrap ((d.n : Int) - (f : Int)) = ((d.n - f : Nat) : Int) := by rw [Go.IntWalk.i64_in _ (by omega)]; omega
  have q7 : (((d.n - f : Nat) : Int) < (n : Int)) = False := eq_false (by omega)
  have q8 : IntKind.i64.wrap ((n : Int) - 2) = ((n - 2 : Nat) : Int) := by rw [Go.IntWalk.i64_in _ (by omega)]; omega
  have kl := Try.kLen (off + 1000) hw hd
  have hwC : ∀ l, Wf (upd H (off + 46) (some (encLgC did (.full []) l))) A := fun l => Wf_set hw (encLgC_ok (upd_keepH _ hdid) True.intro) (fun _ h => h)
  have hdC : ∀ x, DkAt (upd H (off + 46) (some x)) A did κm κc d := fun x => hd.updH hndo
  have hAb : ∀ x, Above (off + 1000) (upd H (off + 46) (some x)) A := fun x => Above_updH (Above_mono hab (by omega)) (by omega)
  have kt0 := Try.kTells (l := newL f n 0 0) (off + 1000) (hwC _) (upd_same _ _ _) (hdC _) (by omega) (by omega) 0 t0 b0 (by show f + 0 < d.n; omega) hdn (hs 0 (by omega)) c0
  have kt1 := Try.kTells (l := newL f n t0 b0) (off + 1000) (hwC _) (upd_same _ _ _) (hdC _) (by omega) (by omega) 1 t1 b1 (by show f + 1 < d.n; omega) hdn (hs 1 (by omega)) c1
  have hle0 : b0 ≤ t0 ∧ t0 ≤ 1099511627776 := by rcases c0 with ⟨_, h1, h2⟩ | ⟨_, h1, h2⟩ <;> omega
  have hle1 : b1 ≤ t1 ∧ t1 ≤ 1099511627776 := by rcases c1 with ⟨_, h1, h2⟩ | ⟨_, h1, h2⟩ <;> omega
  have hle : opB t0 b0 t1 b1 ≤ opT t0 t1 ∧ opT t0 t1 ≤ 1099511627776 := by unfold opB opT; split <;> omega
  have hsc : scanK pl (newL f n (opT t0 t1) (opB t0 b0 t1 b1)).turn (newL f n (opT t0 t1) (opB t0 b0 t1 b1)).places 0 (sc0 (newL f n (opT t0 t1) (opB t0 b0 t1 b1))) = opX pl n (opT t0 t1) (opB t0 b0 t1 b1) := rfl
  have ksc := Try.kScan (l := newL f n (opT t0 t1) (opB t0 b0 t1 b1)) (κr := κr) (off + 1000) (hwC _) (upd_same _ _ _) rfl rfl hκr (by omega) (hdC _) (by omega) (by show f + 2 + (n - 2) ≤ d.n; omega) hdn (by show n - 2 ≤ 1000; omega) (by show opB t0 b0 t1 b1 < _; omega)
    (fun i hi => by have h1 : i < n - 2 := hi; have h2 := hs (2 + i) (by omega); rw [show f + (2 + i) = f + 2 + i by omega] at h2; exact h2) pl hpl
  rw [hsc, upd_twice] at ksc
  have hopL : opL f n t0 b0 t1 b1 pl = { scL (newL f n (opT t0 t1) (opB t0 b0 t1 b1)) (opX pl n (opT t0 t1) (opB t0 b0 t1 b1)) with turn := opT t0 t1 + 1, base := opB t0 b0 t1 b1 } := rfl
  rw [hopL]
  generalize opX pl n (opT t0 t1) (opB t0 b0 t1 b1) = x at *
  generalize hl : scL (newL f n (opT t0 t1) (opB t0 b0 t1 b1)) x = l at *
  have lf : l.from_ = f := by rw [← hl]; rfl
  have lt : l.turn = opT t0 t1 := by rw [← hl]; rfl
  have lb : l.base = opB t0 b0 t1 b1 := by rw [← hl]; rfl
  have lr : l.recs = x.recs := by rw [← hl]; rfl
  have tk : ∀ τ, A τ ≠ none → upd A κr (some (.co 1 x.recs.length)) τ ≠ none := fun τ => upd_keep τ
  have hnm : κr ≠ κm := fun e => by rw [e, hd.m] at hκr; cases hκr
  have hnc : κr ≠ κc := fun e => by rw [e, hd.c] at hκr; cases hκr
  have hwS : Wf (upd H (off + 46) (some (encLg did κr l))) (upd A κr (some (.co 1 x.recs.length))) := Wf_set hw (LgAt.ok (upd_keepH _ hdid) (by rw [upd_same]; simp)) tk
  have hlS : LgAt (upd H (off + 46) (some (encLg did κr l))) (upd A κr (some (.co 1 x.recs.length))) (off + 46) did κr l := ⟨upd_same _ _ _, by rw [lr]; exact upd_same _ _ _⟩
  have hdS : DkAt (upd H (off + 46) (some (encLg did κr l))) (upd A κr (some (.co 1 x.recs.length))) did κm κc d := ⟨by rw [upd_other _ _ hndo]; exact hd.h, by rw [upd_other _ _ hnm.symm]; exact hd.m, by rw [upd_other _ _ hnc.symm]; exact hd.c⟩
  have knx := Try.kNext (κ' := κ') (off + 1000) hwS hlS hdS l.base (by omega) (by omega) (by omega) hdn hcl hb1 (by rw [lf, lt, lb]; exact hb2) (by rw [upd_other _ _ hκκ]; exact hκ)
  rw [lf, lt, lb] at knx
  have hAbS : Above (off + 1000) (upd H (off + 46) (some (encLg did κr l))) (upd A κr (some (.co 1 x.recs.length))) := Above_updA (hAb _) hκb
  generalize nextD d f (opT t0 t1 + 1) (opB t0 b0 t1 b1) = dn at *
  have hfin : ∀ {S : St} {fn : Func}, resPVs Try.prog S fn.results.toList = some (.tup [.c (.ptr (off + 46) 0), .c (.d (.lit (.int .i64 0)))]) → S.H = upd (upd (upd H (off + 46) (some (encLg did κr l))) did (some (encDk κm κ' dn))) (off + 46) (some (encLg did κr { l with turn := opT t0 t1 + 1, base := opB t0 b0 t1 b1 })) →
      S.A = upd (upd (upd (upd A κr (some (.co 1 x.recs.length))) κc (some (.co 2 (d.cache.length + 1)))) κm (some (.mp (encNS dn.stays)))) κ' (some (.co 2 0)) →
      RetR Try.prog fn H A (.tup [.c (.ptr id 0), .c (.d (.lit (.int .i64 0)))]) (upd (upd H did (some (encDk κm κ' dn))) id (some (encLg did κr { l with turn := opT t0 t1 + 1, base := opB t0 b0 t1 b1 })))
      (upd (upd (upd (upd A κr (some (.co 1 { l with turn := opT t0 t1 + 1, base := opB t0 b0 t1 b1 }.recs.length))) κc (some (.co 2 (d.cache.length + 1)))) κm (some (.mp (encNS dn.stays)))) κ' (some (.co 2 0))) S := by
    intro S fn h1 h2 h3
    have kA : ∀ τ, A τ ≠ none → S.A τ ≠ none := fun τ h => by rw [h3]; exact upd_keep _ (upd_keep _ (upd_keep _ (upd_keep _ h)))
    have hAe : upd (upd (upd (upd A κr (some (.co 1 { l with turn := opT t0 t1 + 1, base := opB t0 b0 t1 b1 }.recs.length))) κc (some (.co 2 (d.cache.length + 1)))) κm (some (.mp (encNS dn.stays)))) κ' (some (.co 2 0)) = S.A := by rw [h3, ← lr]
    rw [hAe]
    have hne : id ≠ did := fun e => hdid (by rw [← e]; exact hid)
    have h1id : upd H did (some (encDk κm κ' dn)) id = none := by rw [upd_other _ _ hne]; exact hid
    have h1o : upd H did (some (encDk κm κ' dn)) (off + 46) = none := by rw [upd_other _ _ hndo.symm]; exact hx
    have kκr : S.A κr ≠ none := by rw [h3]; exact upd_keep _ (upd_keep _ (upd_keep _ (by rw [upd_same]; simp)))
    have kκm : S.A κm ≠ none := by rw [h3]; exact upd_keep _ (by rw [upd_same]; simp)
    have kκ' : S.A κ' ≠ none := by rw [h3, upd_same]; simp
    have hw1 : Wf (upd H did (some (encDk κm κ' dn))) S.A := Wf_set hw (DkAt.ok kκm kκ') kA
    have him : (encLg did κr { l with turn := opT t0 t1 + 1, base := opB t0 b0 t1 b1 }).map (CV.im (swp id (off + 46)) (fun κ => κ)) = encLg did κr { l with turn := opT t0 t1 + 1, base := opB t0 b0 t1 b1 } := by
      show [CV.ptr (swp id (off + 46) did) 0, _, _, _, _, _, _, _] = _
      rw [show swp id (off + 46) did = did from if_neg hne.symm]
      rfl
    have hSe : ∀ i, i ≠ off + 46 → S.H i = upd H did (some (encDk κm κ' dn)) i := fun i hi => by
      rw [h2, upd_other _ _ hi]
      by_cases e : i = did
      · subst e; rw [upd_same, upd_same]
      · rw [upd_other _ _ e, upd_other _ _ e, upd_other _ _ hi]
    refine RetR_obj (H1 := upd H did (some (encDk κm κ' dn))) (A1 := S.A) (A'' := S.A) (i' := off + 46) (h := fun κ => κ) (ds := encLg did κr { l with turn := opT t0 t1 + 1, base := opB t0 b0 t1 b1 }) h1 ?_ (oks_pairP (by rw [upd_same]; simp)) hw1 upd_keepH kA h1id h1o
      (LgAt.ok (upd_keepH _ (by rw [upd_same]; simp)) kκr) ?_ (by rw [h2]; exact upd_same _ _ _) ?_ (fun κ h => ⟨rfl, h⟩) (fun κ ar h => h) (fun i j _ _ e => e) (fun κ => .inr (.inl rfl))
    · show PV.wk _ _ _ (.tup [.c (.ptr (swp id (off + 46) id) 0), _]) _
      rw [show swp id (off + 46) id = off + 46 from if_pos rfl]
      exact wk_pairP (by rw [upd_same]; simp)
    · intro i es hi
      have hne' : i ≠ off + 46 := fun e => by rw [e, h1o] at hi; cases hi
      refine ⟨es, by rw [hSe i hne']; exact hi, wkC_same fun c hc => ok_mono upd_keepH (fun κ hκ => ⟨hκ, rfl⟩) (hw1 i es c hi hc)⟩
    · rw [him]
      exact wkC_same (fun c hc => ok_mono (fun _ h => h) (fun κ hκ => ⟨hκ, rfl⟩) (LgAt.ok (upd_keepH _ (by rw [upd_same]; simp)) kκr c hc))
  have lenc : encLg did κr l = [.ptr did 0, .d (.lit (.int .i64 f)), .d (.lit (.int .i64 (n - 2 : Nat))), .d (.lit (.int .i64 (opT t0 t1))), .d (.lit (.int .i64 (opB t0 b0 t1 b1))), .d (.lit (.int .i64 x.used)), .own κr (textsD x.recs), .d (.lit (.bool false))] := by rw [← hl]; rfl
  dsimp only [encLgC, newL] at kt0 kt1 ksc
  rw [lenc] at ksc knx hAbS hfin
  rw [lf] at hfin
  by_cases q : t0 < t1
  · have hT : opT t0 t1 = t1 := if_pos q
    have hB : opB t0 b0 t1 b1 = b1 := if_pos q
    have g : ((t0 : Int) < (t1 : Int)) = True := eq_true (by omega)
    rw [hT, hB] at ksc knx hAbS hfin ⊢
    repeat' (first
     |with_reducible first|refine vSq fun K hK=>?_|refine vRg ?_|refine vBl ?_|refine vSc ?_|refine vIf ?_|refine vSk ?_|refine vEx ?_|refine vRt ?_
     |(with_reducible first|refine gNt (fun h=>?_) (fun h=>?_)|refine gCs (fun h=>?_) (fun h=>?_))<;>(try simp only[h])
     |refine And.intro hx ?_
     |refine C_call rfl kl rfl (Above_mono hab (by omega)) ?_
     |refine C_call rfl kt0 rfl (hAb _) ?_
     |refine C_call rfl kt1 rfl (hAb _) ?_
     |refine C_call rfl ksc rfl (hAb _) ?_
     |refine C_call rfl knx rfl hAbS ?_
     |with_reducible first|(refine hK _ ?_;clear hK K)|(clear hK K;refine hK _ ?_;clear hK K)|(clear hK K;clear hK K;refine hK _ ?_;clear hK K)|(clear hK K;clear hK K;clear hK K;refine hK _ ?_;clear hK K)
     |(with_reducible refine todo ?_;simp +decide only[go_sem, q1, q2, q3, q4, q5, q6, q7, q8, g, zne, upd_twice]))
    rw [lf]
    refine hfin ?_ ?_ ?_ <;> rfl
  · have hT : opT t0 t1 = t0 := if_neg q
    have hB : opB t0 b0 t1 b1 = b0 := if_neg q
    have g : ((t0 : Int) < (t1 : Int)) = False := eq_false (by omega)
    rw [hT, hB] at ksc knx hAbS hfin ⊢
    repeat' (first
     |with_reducible first|refine vSq fun K hK=>?_|refine vRg ?_|refine vBl ?_|refine vSc ?_|refine vIf ?_|refine vSk ?_|refine vEx ?_|refine vRt ?_
     |(with_reducible first|refine gNt (fun h=>?_) (fun h=>?_)|refine gCs (fun h=>?_) (fun h=>?_))<;>(try simp only[h])
     |refine And.intro hx ?_
     |refine C_call rfl kl rfl (Above_mono hab (by omega)) ?_
     |refine C_call rfl kt0 rfl (hAb _) ?_
     |refine C_call rfl kt1 rfl (hAb _) ?_
     |refine C_call rfl ksc rfl (hAb _) ?_
     |refine C_call rfl knx rfl hAbS ?_
     |with_reducible first|(refine hK _ ?_;clear hK K)|(clear hK K;refine hK _ ?_;clear hK K)|(clear hK K;clear hK K;refine hK _ ?_;clear hK K)|(clear hK K;clear hK K;clear hK K;refine hK _ ?_;clear hK K)
     |(with_reducible refine todo ?_;simp +decide only[go_sem, q1, q2, q3, q4, q5, q6, q7, q8, g, zne, upd_twice]))
    rw [lf]
    refine hfin ?_ ?_ ?_ <;> rfl
end wal
end Go.Proofs

namespace Go.Proofs
open Go.PW
def putR (k : Int) (s : List UInt8) : List (Int × List UInt8) → List (Int × List UInt8)
  | [] => [(k, s)]
  | p :: m => if p.1 = k then (k, s) :: m else p :: putR k s m
def delR (k : Int) : List (Int × List UInt8) → List (Int × List UInt8)
  | [] => []
  | p :: m => if p.1 = k then m else p :: delR k m
def lkR (k : Int) : List (Int × List UInt8) → List UInt8
  | [] => zeros
  | p :: m => if p.1 = k then p.2 else lkR k m
theorem findN_shift (k : Int) : ∀ (m : List (Int × List UInt8)) (i : Nat), findN k m (i + 1) = (findN k m i).map fun r => (r.1 + 1, r.2)
  | [], _ => rfl
  | p :: m, i => by
    unfold findN
    by_cases h : p.1 = k
    · rw [if_pos h, if_pos h]; rfl
    · rw [if_neg h, if_neg h]; exact findN_shift k m (i + 1)
theorem putN_R (k : Int) (s : List UInt8) : ∀ m, putN m k s = putR k s m
  | [] => rfl
  | p :: m => by
    have ih := putN_R k s m
    unfold putN at ih ⊢
    unfold findN putR
    by_cases h : p.1 = k
    · rw [if_pos h, if_pos h]; rfl
    · rw [if_neg h, if_neg h, findN_shift, ← ih]
      cases findN k m 0 <;> rfl
theorem delN_R (k : Int) : ∀ m, delN m k = delR k m
  | [] => rfl
  | p :: m => by
    have ih := delN_R k m
    unfold delN at ih ⊢
    unfold findN delR
    by_cases h : p.1 = k
    · rw [if_pos h, if_pos h]; rfl
    · rw [if_neg h, if_neg h, findN_shift, ← ih]
      cases findN k m 0 <;> rfl
theorem stay_R (d : Dk) (k : Int) : stayN d k = lkR k d.stays := by
  unfold stayN
  generalize d.stays = m
  induction m with
  | nil => rfl
  | cons p m ih =>
    unfold findN lkR
    by_cases h : p.1 = k
    · rw [if_pos h, if_pos h]
    · rw [if_neg h, if_neg h, findN_shift, ← ih]
      cases findN k m 0 <;> rfl
def keysN (m : List (Int × List UInt8)) : List Int := m.map (·.1)
theorem putR_keys (k : Int) (s : List UInt8) : ∀ m, ∀ j ∈ keysN (putR k s m), j = k ∨ j ∈ keysN m
  | [], j, h => by
    have : j = k := by simpa [putR, keysN] using h
    exact .inl this
  | p :: m, j, h => by
    unfold putR at h
    split at h
    · rcases List.mem_cons.1 h with e | h
      · exact .inl e
      · exact .inr (List.mem_cons_of_mem _ h)
    · rcases List.mem_cons.1 h with e | h
      · exact .inr (by rw [e]; exact List.mem_cons_self)
      · rcases putR_keys k s m j h with h | h
        · exact .inl h
        · exact .inr (List.mem_cons_of_mem _ h)
theorem delR_keys (k : Int) : ∀ m, ∀ j ∈ keysN (delR k m), j ∈ keysN m
  | [], _, h => h
  | p :: m, j, h => by
    unfold delR at h
    split at h
    · exact List.mem_cons_of_mem _ h
    · rcases List.mem_cons.1 h with e | h
      · rw [e]; exact List.mem_cons_self
      · exact List.mem_cons_of_mem _ (delR_keys k m j h)
theorem putR_nd (k : Int) (s : List UInt8) : ∀ m, (keysN m).Nodup → (keysN (putR k s m)).Nodup
  | [], _ => by simp [putR, keysN]
  | p :: m, h => by
    obtain ⟨h1, h2⟩ := List.nodup_cons.1 h
    unfold putR
    split
    · rename_i e
      exact List.nodup_cons.2 ⟨by rw [← e]; exact h1, h2⟩
    · rename_i e
      refine List.nodup_cons.2 ⟨fun h => ?_, putR_nd k s m h2⟩
      rcases putR_keys k s m _ h with h | h
      · exact e h
      · exact h1 h
theorem delR_nd (k : Int) : ∀ m, (keysN m).Nodup → (keysN (delR k m)).Nodup
  | [], h => h
  | p :: m, h => by
    obtain ⟨h1, h2⟩ := List.nodup_cons.1 h
    unfold delR
    split
    · exact h2
    · exact List.nodup_cons.2 ⟨fun h => h1 (delR_keys k m _ h), delR_nd k m h2⟩
theorem lk_put (k j : Int) (s : List UInt8) : ∀ m, lkR j (putR k s m) = if k = j then s else lkR j m
  | [] => rfl
  | p :: m => by
    have ih := lk_put k j s m
    by_cases e : p.1 = k
    · rw [show putR k s (p :: m) = (k, s) :: m from if_pos e]
      show (if k = j then s else lkR j m) = if k = j then s else (if p.1 = j then p.2 else lkR j m)
      by_cases e2 : k = j
      · rw [if_pos e2, if_pos e2]
      · rw [if_neg e2, if_neg e2, if_neg (by rw [e]; exact e2)]
    · rw [show putR k s (p :: m) = p :: putR k s m from if_neg e]
      show (if p.1 = j then p.2 else lkR j (putR k s m)) = if k = j then s else (if p.1 = j then p.2 else lkR j m)
      by_cases e3 : p.1 = j
      · rw [if_pos e3, if_pos e3, if_neg (fun e4 => e (by rw [e3, e4]))]
      · rw [if_neg e3, if_neg e3, ih]
theorem lk_no (j : Int) : ∀ m, j ∉ keysN m → lkR j m = zeros
  | [], _ => rfl
  | p :: m, h => by
    unfold lkR
    rw [if_neg (fun e => h (by rw [← e]; exact List.mem_cons_self))]
    exact lk_no j m fun h' => h (List.mem_cons_of_mem _ h')
theorem lk_del (k j : Int) : ∀ m, (keysN m).Nodup → lkR j (delR k m) = if k = j then zeros else lkR j m
  | [], _ => by show zeros = if k = j then zeros else zeros; split <;> rfl
  | p :: m, h => by
    obtain ⟨h1, h2⟩ := List.nodup_cons.1 h
    have ih := lk_del k j m h2
    by_cases e : p.1 = k
    · rw [show delR k (p :: m) = m from if_pos e]
      show _ = if k = j then zeros else (if p.1 = j then p.2 else lkR j m)
      by_cases e2 : k = j
      · rw [if_pos e2]; exact lk_no j m (by rw [← e2, ← e]; exact h1)
      · rw [if_neg e2, if_neg (by rw [e]; exact e2)]
    · rw [show delR k (p :: m) = p :: delR k m from if_neg e]
      show (if p.1 = j then p.2 else lkR j (delR k m)) = if k = j then zeros else (if p.1 = j then p.2 else lkR j m)
      by_cases e3 : p.1 = j
      · rw [if_pos e3, if_pos e3, if_neg (fun e4 => e (by rw [e3, e4]))]
      · rw [if_neg e3, if_neg e3, ih]
theorem layN_R (m : List (Int × List UInt8)) (w : Int × List UInt8) : layN m w = if w.2 = zeros then delR w.1 m else putR w.1 w.2 m := by
  unfold layN; rw [delN_R, putN_R]
theorem lay_nd (m : List (Int × List UInt8)) (w : Int × List UInt8) (h : (keysN m).Nodup) : (keysN (layN m w)).Nodup := by
  rw [layN_R]; split
  · exact delR_nd _ m h
  · exact putR_nd _ _ m h
theorem lk_lay (j : Int) (m : List (Int × List UInt8)) (w : Int × List UInt8) (h : (keysN m).Nodup) : lkR j (layN m w) = if w.1 = j then w.2 else lkR j m := by
  rw [layN_R]; split
  · rename_i e
    rw [lk_del _ _ m h, e]
  · rw [lk_put]
theorem layAll_spec (j : Int) : ∀ (l : List (Int × List UInt8)) (m : List (Int × List UInt8)), (keysN m).Nodup → (keysN (layAll m l)).Nodup ∧ lkR j (layAll m l) = (lastW j l).getD (lkR j m)
  | [], _, h => ⟨h, rfl⟩
  | w :: l, m, h => by
    obtain ⟨h1, h2⟩ := layAll_spec j l (layN m w) (lay_nd m w h)
    refine ⟨h1, ?_⟩
    show lkR j (layAll (layN m w) l) = _
    rw [h2, lk_lay j m w h]
    show _ = (match lastW j l with | some s => some s | none => if w.1 = j then some w.2 else none).getD (lkR j m)
    cases lastW j l with
    | some s => rfl
    | none =>
      by_cases e : w.1 = j
      · rw [if_pos e]; simp [e]
      · rw [if_neg e]; simp [e]
def DkG (d : Dk) : Prop := (keysN d.stays).Nodup
theorem DkG_new (n : Nat) : DkG (newD n) := List.nodup_nil
theorem DkG.wr {d : Dk} (h : DkG d) (k : Int) (s : List UInt8) : DkG (wrD d k s) := h
theorem DkG.fl {d : Dk} (h : DkG d) : DkG (flD d) := (layAll_spec 0 _ _ h).1
theorem DkG.cr {d : Dk} (h : DkG d) (keep : List Bool) : DkG (crD d keep) := (layAll_spec 0 _ _ h).1
theorem rd_eq (d : Dk) (j : Int) : rd d j = (lastW j d.cache).getD (lkR j d.stays) := by
  unfold rd; rw [← stay_R]; cases lastW j d.cache <;> rfl
theorem rd_new (n : Nat) (j : Int) : rd (newD n) j = zeros := rfl
theorem rd_wr (d : Dk) (k j : Int) (s : List UInt8) : rd (wrD d k s) j = if k = j then pad s else rd d j := by
  rw [rd_eq, rd_eq]
  show (lastW j (d.cache ++ [(k, pad s)])).getD _ = _
  rw [lastW_snoc]
  by_cases e : k = j
  · rw [if_pos e, if_pos e]; rfl
  · rw [if_neg e, if_neg e]; rfl
theorem rd_fl {d : Dk} (h : DkG d) (j : Int) : rd (flD d) j = rd d j := by
  rw [rd_eq, rd_eq]
  exact (layAll_spec j _ _ h).2
theorem rd_cr {d : Dk} (h : DkG d) (keep : List Bool) (j : Int) : rd (crD d keep) j = (lastW j (keptL d.cache keep)).getD (lkR j d.stays) := by
  rw [rd_eq]
  exact (layAll_spec j _ _ h).2
theorem pad_len {s : List UInt8} (h : s.length ≤ 128) : (pad s).length = 128 := by
  unfold pad; rw [List.length_append, List.length_drop, zeros_len]; omega
theorem crcTake_put (b : List UInt8) : crcTake (crcPut b) = some b := by
  unfold crcTake
  have h := crcPut_len b
  have h2 : (crcPut b).take ((crcPut b).length - 4) = b := by rw [h, show b.length + 4 - 4 = b.length by omega]; unfold crcPut; exact List.take_left
  rw [if_pos (by omega), h2, if_pos rfl]
theorem unseal_seal (b t : List UInt8) (h : b.length ≤ 123) : unsealB (sealB b ++ t) = some b := by
  unfold sealB
  rw [if_pos h]
  show (if (UInt8.ofNat b.length).toNat ≤ 123 then (if (UInt8.ofNat b.length).toNat + 4 ≤ (crcPut b ++ t).length then crcTake ((crcPut b ++ t).take ((UInt8.ofNat b.length).toNat + 4)) else none) else none) = _
  have e : (UInt8.ofNat b.length).toNat = b.length := by rw [UInt8.toNat_ofNat']; omega
  have hp := crcPut_len b
  rw [e, if_pos h, if_pos (by rw [List.length_append]; omega), ← hp, List.take_left]
  exact crcTake_put b
theorem unseal_zeros : unsealB zeros = some [] := by decide +kernel
theorem tell_zeros : TellCase zeros 0 0 := .inr ⟨.inl unseal_zeros, rfl, rfl⟩
theorem tell_turn {t b : Nat} (h1 : t ≤ 1099511627776) (h2 : b ≤ t) : TellCase (pad (turnB t b)) t b := by
  refine .inl ⟨?_, h1, h2⟩
  unfold pad turnB
  rw [unseal_seal _ _ (by have := uintB_len t; have := uintB_len b; simp only [List.length_append, List.length_singleton]; omega), List.append_assoc]
theorem at_zeros (i : Nat) : AtOK zeros i none := .inl unseal_zeros
theorem at_place {t i : Nat} {c : Nat} {sm pt : List UInt8} {more : Bool} (hc : c = if more = true then 1 else 0) (ht : t ≤ 1099511627776) (hs : sm.length = 4) (hp : pt.length ≤ 100) (hm : more = true → pt.length = 100) (hh : (headL t i c).length ≤ 19) :
    AtOK (pad (sealB (headL t i c ++ sm ++ pt))) i (some ⟨t, sm, pt, more⟩) := by
  refine ⟨?_, ht, hs, hp, hm⟩
  unfold pad
  rw [unseal_seal _ _ (by simp only [List.length_append]; omega), List.append_assoc, hc]
end Go.Proofs

namespace Go.Proofs
open Go.PW
structure LW (H : HMap) (A : AMap) (k did : Nat) (κm κc : Tok) (d : Dk) : Prop where
  wf : Wf H A
  ab : Above k H A
  dk : DkAt H A did κm κc d
theorem LgAt.mv {H H' : HMap} {A A' : AMap} {lid did : Nat} {κr : Tok} {l : Lg} (hl : LgAt H A lid did κr l) (h1 : H' lid = H lid) (h2 : A' κr = A κr) : LgAt H' A' lid did κr l := ⟨by rw [h1]; exact hl.h, by rw [h2]; exact hl.r⟩
theorem burnt_no {d : Dk} (h : d.fused = false) : burnt d = false := by unfold burnt; rw [h]; rfl
def StepOK (P : Program) (f : FuncId) (H : HMap) (A : AMap) (args : List PV) (v : PV) (R : HMap → AMap → Prop) : Prop := ∃ H' A', EffOK P f 1000 H A args v H' A' ∧ R H' A'
section wal
variable {H : HMap} {A : AMap} {k did : Nat} {κm κc : Tok} {d : Dk}
theorem LW.ne (hL : LW H A k did κm κc d) : did < k ∧ κm.1 < k ∧ κc.1 < k := hL.dk.lt hL.ab
theorem LW.new (hL : LW H A k did κm κc d) (j : Nat) : H k = none ∧ A (k, j) = none := ⟨(hL.ab k (Nat.le_refl k)).1, (hL.ab k (Nat.le_refl k)).2 j⟩
theorem tok_ne {a b : Tok} (h : a.1 ≠ b.1) : a ≠ b := fun e => h (by rw [e])
theorem Try.sNew (b n : Nat) (h1 : 1 ≤ n) (h2 : n ≤ 4096) : StepOK Try.prog 4 noH noA [pD (.lit (.int .i64 n))] (.tup [.c (.ptr b 0), .c (.d (.lit (.int .i64 0)))]) fun H' A' =>
    LW H' A' (b + 1) b (b, 0) (b, 1) (newD n) ∧ (∀ j, j ≠ b → H' j = none) ∧ ∀ τ, τ.1 ≠ b → A' τ = none := by
  have hw : Wf noH noA := fun i cs c h => by cases h
  have nk : ((b, 0) : Tok) ≠ (b, 1) := fun e => by cases e
  have kn := Try.kDiskNew (id := b) (κm := (b, 0)) (κc := (b, 1)) 1000 hw n h1 h2 rfl rfl rfl nk
  refine ⟨_, _, kn, ⟨?_, ?_, upd_same _ _ _, ?_, upd_same _ _ _⟩, fun j hj => upd_other _ _ hj, fun τ hτ => by rw [upd_other _ _ (tok_ne hτ), upd_other _ _ (tok_ne hτ)]; rfl⟩
  · refine Wf_set hw (DkAt.ok (A := upd (upd noA (b, 0) (some (.mp []))) (b, 1) (some (.co 2 0))) ?_ ?_) (fun κ h => (h rfl).elim)
    · rw [upd_other _ _ nk, upd_same]; simp
    · rw [upd_same]; simp
  · exact Above_updA (Above_updA (Above_updH (fun i _ => ⟨rfl, fun _ => rfl⟩) (Nat.lt_succ_self b)) (Nat.lt_succ_self b)) (Nat.lt_succ_self b)
  · rw [upd_other _ _ nk, upd_same]; rfl
end wal
theorem pure_eff {P : Program} {f : FuncId} {args : List PV} {x : D} (hcl : args.all PV.closed = true) (h : EffOK P f 0 noH noA args (pD x) noH noA) : PureOK P f args (.one (.d x)) := by
  refine ⟨hcl, fun C w vals hC har => ?_⟩
  have hm : MRel (gOnly C) noH noA w := ⟨hC, fun id b hb => (by cases hb), fun κ ar hA => (by cases hA), fun b o ho => (by cases ho)⟩
  rcases h (gOnly C) w vals hm (fun _ _ => rfl) (fun i _ => ⟨rfl, fun _ => rfl⟩) har with ⟨a, hc⟩ | ⟨v, w', hc, g', h1, h2, h3, _⟩
  · exact .inl ⟨a, hc.mono fun e W' ⟨v, e1, g', h1, h2, h3, _⟩ => ⟨v, e1, g', h1, h2, h3⟩⟩
  · exact .inr ⟨v, w', hc, g', h1, h2, h3⟩
end Go.Proofs

namespace Go.Proofs
open Go.PW
structure DI (n c : Nat) (d : Dk) : Prop where
  n : d.n = n
  c : d.cache.length = c
  f : d.fused = false
  g : DkG d
theorem pad_seal_len (b : List UInt8) : (pad (sealB b)).length ≤ 128 := by rw [pad_len (sealB_len b)]; omega
end Go.Proofs

namespace Go.Proofs
open Go.PW
def pcK (t : Nat) (sm : List UInt8) : List (List UInt8) → List Pc
  | [] => []
  | [p] => [⟨t, sm, p, false⟩]
  | p :: q :: r => ⟨t, sm, p, true⟩ :: pcK t sm (q :: r)
def pcsR (t : Nat) (s : List UInt8) : List Pc := pcK t (sum4 s) (partsL s)
def pcs : List (Nat × List UInt8) → List Pc
  | [] => []
  | r :: l => pcsR r.1 r.2 ++ pcs l
theorem pcK_len (t : Nat) (sm : List UInt8) : ∀ l, (pcK t sm l).length = l.length
  | [] => rfl
  | [_] => rfl
  | _ :: q :: r => by
    show (pcK t sm (q :: r)).length + 1 = (q :: r).length + 1
    rw [pcK_len t sm (q :: r)]
theorem pcK_turn (t : Nat) (sm : List UInt8) : ∀ l, ∀ p ∈ pcK t sm l, p.t = t
  | [], _, h => by cases h
  | [_], p, h => by rw [List.mem_singleton.1 h]
  | _ :: q :: r, p, h => by
    rcases List.mem_cons.1 h with e | h
    · rw [e]
    · exact pcK_turn t sm (q :: r) p h
theorem partsK_cat : ∀ (k : Nat) (s : List UInt8), s.length ≤ k → (partsK k s).flatten = s
  | 0, s, h => by
    have : s = [] := List.length_eq_zero_iff.1 (by omega)
    rw [this]; rfl
  | k + 1, s, h => by
    unfold partsK
    by_cases hs : 100 < s.length
    · rw [if_pos hs, List.flatten_cons, partsK_cat k (s.drop 100) (by rw [List.length_drop]; omega), List.take_append_drop]
    · rw [if_neg hs]; simp
theorem partsL_cat (s : List UInt8) : (partsL s).flatten = s := partsK_cat _ s (Nat.le_refl _)
theorem partsK_ne : ∀ (k : Nat) (s : List UInt8), partsK k s ≠ []
  | 0, s => by simp [partsK]
  | k + 1, s => by unfold partsK; split <;> simp
theorem partsK_tail : ∀ (k : Nat) (s : List UInt8), s.length ≤ k → ∀ p ∈ (partsK k s).tail, p ≠ []
  | 0, s, h, p, hp => by simp [partsK] at hp
  | k + 1, s, h, p, hp => by
    unfold partsK at hp
    by_cases hs : 100 < s.length
    · rw [if_pos hs, List.tail_cons] at hp
      cases hk : partsK k (s.drop 100) with
      | nil => exact (partsK_ne _ _ hk).elim
      | cons q r =>
        rw [hk] at hp
        rcases List.mem_cons.1 hp with e | hp
        · have hc := partsK_cat k (s.drop 100) (by rw [List.length_drop]; omega)
          intro e2
          rw [hk] at hc
          have hq : q = [] := by rw [← e]; exact e2
          cases k with
          | zero => simp at h; omega
          | succ k =>
            unfold partsK at hk
            split at hk
            · rename_i h3
              have : q = (s.drop 100).take 100 := (List.cons.inj hk).1.symm
              rw [hq] at this
              have := congrArg List.length this
              rw [List.length_take] at this
              simp at this
              simp at h3
              omega
            · have : q = s.drop 100 := (List.cons.inj hk).1.symm
              rw [hq] at this
              have := congrArg List.length this
              rw [List.length_drop] at this
              simp at this
              omega
        · exact partsK_tail k (s.drop 100) (by rw [List.length_drop]; omega) p (by rw [hk]; exact hp)
    · rw [if_neg hs] at hp
      cases hp
theorem partsL_ne (s : List UInt8) : partsL s ≠ [] := partsK_ne _ s
theorem partsL_tail (s : List UInt8) : ∀ p ∈ (partsL s).tail, p ≠ [] := partsK_tail _ s (Nat.le_refl _)
section scan
variable {R S : Nat → Option Pc} {τ : Nat}
theorem scan_mono (R : Nat → Option Pc) (τ : Nat) : ∀ (k i : Nat) (x : Sc), x.recs.length ≤ (scanK R τ k i x).recs.length
  | 0, _, _ => Nat.le_refl _
  | k + 1, i, x => by
    unfold scanK
    cases R i with
    | none => exact Nat.le_refl _
    | some p =>
      simp only
      cases hs : scStep τ i x p with
      | none => exact Nat.le_refl _
      | some x' =>
        simp only
        refine Nat.le_trans ?_ (scan_mono R τ k (i + 1) x')
        unfold scStep at hs
        split at hs
        · cases hs
        · split at hs
          · cases hs
          · split at hs
            · cases hs; exact Nat.le_refl _
            · split at hs
              · cases hs
              · cases hs; simp
theorem scStep_cases (τ i : Nat) (x : Sc) (p : Pc) : scStep τ i x p = none ∨ (p.more = true ∧ scStep τ i x p = some { x with s := x.s ++ p.pt, want := p.sm, now := p.t }) ∨
    (p.more = false ∧ scStep τ i x p = some ⟨[], p.sm, i + 1, p.t, x.recs ++ [x.s ++ p.pt], i + 1⟩) := by
  unfold scStep
  split
  · exact .inl rfl
  · split
    · exact .inl rfl
    · split
      · rename_i h; exact .inr (.inl ⟨h, rfl⟩)
      · rename_i h
        split
        · exact .inl rfl
        · exact .inr (.inr ⟨by simpa using h, rfl⟩)
theorem scStep_now {i : Nat} {x : Sc} {p : Pc} (h1 : i ≠ x.first) (h2 : p.t ≠ x.now) : scStep τ i x p = none := by
  unfold scStep
  split
  · rfl
  · rw [if_pos ⟨h1, .inl h2⟩]
theorem scStep_old {i : Nat} {x : Sc} {p : Pc} (h : p.t < x.now) : scStep τ i x p = none := by
  unfold scStep; rw [if_pos (.inl h)]
def Dead (R : Nat → Option Pc) (τ k i : Nat) (x : Sc) : Prop := (scanK R τ k i x).recs.length = x.recs.length
theorem Dead_used : ∀ (k i : Nat) (x : Sc), Dead R τ k i x → (scanK R τ k i x).recs = x.recs ∧ (scanK R τ k i x).used = x.used
  | 0, _, _, _ => ⟨rfl, rfl⟩
  | k + 1, i, x, h => by
    unfold Dead at h
    unfold scanK at h ⊢
    cases hR : R i with
    | none => exact ⟨rfl, rfl⟩
    | some p =>
      rw [hR] at h
      simp only at h ⊢
      rcases scStep_cases τ i x p with e | ⟨_, e⟩ | ⟨_, e⟩
      · rw [e]; exact ⟨rfl, rfl⟩
      · rw [e] at h ⊢
        exact Dead_used k (i + 1) _ h
      · rw [e] at h
        have := scan_mono R τ k (i + 1) ⟨[], p.sm, i + 1, p.t, x.recs ++ [x.s ++ p.pt], i + 1⟩
        simp only [List.length_append, List.length_singleton] at this h
        omega
theorem dead_mid {T : Nat} : ∀ (k i : Nat) (x : Sc), x.now < T → i ≠ x.first → (∀ j, i ≤ j → R j = S j ∨ ∃ p, R j = some p ∧ p.t = T) → x.first ≤ i → Dead S τ k i x → Dead R τ k i x
  | 0, _, _, _, _, _, _, _ => rfl
  | k + 1, i, x, h1, h2, hR, hf, h => by
    unfold Dead at h ⊢
    rcases hR i (Nat.le_refl i) with e | ⟨p, e, ht⟩
    · unfold scanK at h ⊢
      rw [e]
      cases hS : S i with
      | none => rfl
      | some p =>
        rw [hS] at h
        simp only at h ⊢
        rcases scStep_cases τ i x p with e2 | ⟨_, e2⟩ | ⟨_, e2⟩
        · rw [e2]
        · rw [e2] at h ⊢
          have hnow : p.t = x.now := Classical.byContradiction fun hn => by rw [scStep_now h2 hn] at e2; cases e2
          exact dead_mid k (i + 1) _ (by show p.t < T; omega) (by show i + 1 ≠ x.first; omega) (fun j hj => hR j (by omega)) (by show x.first ≤ i + 1; omega) h
        · rw [e2] at h
          have := scan_mono S τ k (i + 1) ⟨[], p.sm, i + 1, p.t, x.recs ++ [x.s ++ p.pt], i + 1⟩
          simp only [List.length_append, List.length_singleton] at this h
          omega
    · unfold scanK
      rw [e]
      simp only
      rw [scStep_now h2 (by omega)]
theorem dead_first {T : Nat} (k i : Nat) (x : Sc) (hR : ∀ j, i ≤ j → R j = S j ∨ ∃ p, R j = some p ∧ p.t = T) (hi : R i = S i) (hS : ∀ p, S i = some p → p.t < T) (hf : x.first = i) (h : Dead S τ k i x) : Dead R τ k i x := by
  cases k with
  | zero => exact rfl
  | succ k =>
    unfold Dead at h ⊢
    unfold scanK at h ⊢
    rw [hi]
    cases hSi : S i with
    | none => rfl
    | some p =>
      rw [hSi] at h
      simp only at h ⊢
      rcases scStep_cases τ i x p with e2 | ⟨_, e2⟩ | ⟨_, e2⟩
      · rw [e2]
      · rw [e2] at h ⊢
        exact dead_mid k (i + 1) _ (hS p hSi) (by show i + 1 ≠ x.first; omega) (fun j hj => hR j (by omega)) (by show x.first ≤ i + 1; omega) h
      · rw [e2] at h
        have := scan_mono S τ k (i + 1) ⟨[], p.sm, i + 1, p.t, x.recs ++ [x.s ++ p.pt], i + 1⟩
        simp only [List.length_append, List.length_singleton] at this h
        omega
theorem scan_parts {t : Nat} {sm : List UInt8} (ht : t ≤ τ) : ∀ (cut : List (List UInt8)) (k i : Nat) (x : Sc), cut ≠ [] → x.now ≤ t → (i = x.first ∨ (x.now = t ∧ x.want = sm ∧ ∀ p ∈ cut, p ≠ [])) → x.first ≤ i → (∀ p ∈ cut.tail, p ≠ []) → sum4 (x.s ++ cut.flatten) = sm →
    (∀ j p, (pcK t sm cut)[j]? = some p → R (i + j) = some p) → scanK R τ (k + cut.length) i x = scanK R τ k (i + cut.length) ⟨[], sm, i + cut.length, t, x.recs ++ [x.s ++ cut.flatten], i + cut.length⟩
  | [], _, _, _, h, _, _, _, _, _, _ => (h rfl).elim
  | [q], k, i, x, _, h1, h2, hf, _, hs, hR => by
    have e := hR 0 ⟨t, sm, q, false⟩ rfl
    show scanK R τ (k + 1) i x = _
    rw [Nat.add_zero] at e
    have hst : scStep τ i x ⟨t, sm, q, false⟩ = some ⟨[], sm, i + 1, t, x.recs ++ [x.s ++ q], i + 1⟩ := by
      unfold scStep
      rw [if_neg (by show ¬ (t < x.now ∨ τ < t); omega), if_neg, if_neg (by simp), if_neg]
      · simpa using hs
      · rintro ⟨h3, h4⟩
        rcases h2 with h2 | ⟨h2, h5, h6⟩
        · exact h3 h2
        · rcases h4 with h4 | h4 | h4
          · exact h4 h2.symm
          · exact h4 h5.symm
          · exact h6 q List.mem_cons_self h4
    rw [scanK_go e hst]
    simp
  | q :: q' :: r, k, i, x, _, h1, h2, hf, ht', hs, hR => by
    have e := hR 0 ⟨t, sm, q, true⟩ rfl
    rw [Nat.add_zero] at e
    have hst : scStep τ i x ⟨t, sm, q, true⟩ = some { x with s := x.s ++ q, want := sm, now := t } := by
      unfold scStep
      rw [if_neg (by show ¬ (t < x.now ∨ τ < t); omega), if_neg, if_pos rfl]
      rintro ⟨h3, h4⟩
      rcases h2 with h2 | ⟨h2, h5, h6⟩
      · exact h3 h2
      · rcases h4 with h4 | h4 | h4
        · exact h4 h2.symm
        · exact h4 h5.symm
        · exact h6 q List.mem_cons_self h4
    show scanK R τ ((k + (q' :: r).length) + 1) i x = _
    rw [scanK_go e hst]
    have ih := scan_parts ht (q' :: r) k (i + 1) { x with s := x.s ++ q, want := sm, now := t } (by simp) (Nat.le_refl _) (.inr ⟨rfl, rfl, fun p hp => ht' p hp⟩) (by show x.first ≤ i + 1; omega) (fun p hp => ht' p (List.mem_cons_of_mem _ hp))
      (by show sum4 ((x.s ++ q) ++ _) = sm; rw [List.append_assoc, ← List.flatten_cons]; exact hs) (fun j p hj => by
        have := hR (j + 1) p hj
        rw [show i + 1 + j = i + (j + 1) by omega]; exact this)
    rw [ih]
    have e1 : i + 1 + (q' :: r).length = i + (q :: q' :: r).length := by simp only [List.length_cons]; omega
    have e2 : (x.s ++ q) ++ (q' :: r).flatten = x.s ++ (q :: q' :: r).flatten := by rw [List.append_assoc, ← List.flatten_cons]
    rw [e1]
    show scanK R τ k _ ⟨[], sm, _, t, x.recs ++ [(x.s ++ q) ++ (q' :: r).flatten], _⟩ = _
    rw [e2]
theorem scan_rec {t : Nat} {s : List UInt8} (ht : t ≤ τ) (k i : Nat) (x : Sc) (h1 : x.now ≤ t) (h2 : i = x.first) (h3 : x.s = []) (hR : ∀ j p, (pcsR t s)[j]? = some p → R (i + j) = some p) :
    scanK R τ (k + (pcsR t s).length) i x = scanK R τ k (i + (pcsR t s).length) ⟨[], sum4 s, i + (pcsR t s).length, t, x.recs ++ [s], i + (pcsR t s).length⟩ := by
  have hc := partsL_cat s
  have := scan_parts (R := R) (sm := sum4 s) ht (partsL s) k i x (partsL_ne s) h1 (.inl h2) (by omega) (partsL_tail s) (by rw [h3, hc]; rfl) hR
  rw [h3, hc] at this
  unfold pcsR
  rw [pcK_len]
  exact this
end scan
end Go.Proofs
