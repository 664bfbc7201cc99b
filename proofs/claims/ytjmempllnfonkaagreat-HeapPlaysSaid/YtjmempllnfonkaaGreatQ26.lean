/-
  Parts of the proof, laid together: PwPk, PwPl, PwPm, PwPn, PwPo, PwPp, PwPq, PwPr, PwPs, PwPt.
-/
import Derived.Test.YtjmempllnfonkaaGreatQ25
import Derived.Test.YtjmempllnfonkaaGreatQ14
import Derived.Test.YtjmempllnfonkaaGreatQ24

namespace Go.Proofs
open Go.PW
theorem encPg_ok {H : HMap} {A : AMap} {did lid : Nat} {κp : Tok} {p : Pg} (h1 : H did ≠ none) (h2 : H lid ≠ none) (h3 : A κp ≠ none) : ∀ c ∈ encPg did lid κp p, c.ok (fun i => H i ≠ none) (fun κ => A κ ≠ none) := by
  intro c hc
  unfold encPg at hc
  simp only [List.mem_cons, List.not_mem_nil, or_false] at hc
  rcases hc with rfl | rfl | rfl | rfl | rfl
  · exact h1
  · exact h2
  · exact True.intro
  · exact h3
  · exact True.intro
section pg
variable {H : HMap} {A : AMap} {k did : Nat} {κm κc : Tok} {d : Dk} {logs t0 b0 t1 b1 : Nat} {pl : Nat → Option Pc}
set_option maxRecDepth 8000 in
set_option maxHeartbeats 16000000 in
theorem Tryz.tOpenP (off : Nat) (hL : LW H A k did κm κc d) (hk : k + 2 ≤ off) (ho : OpAt d 0 logs t0 b0 t1 b1 pl) (hn : logs + 1 ≤ d.n) (hn2 : d.n ≤ logs + 1024) (hf : d.fused = false) (hr : (opL 0 logs t0 b0 t1 b1 pl).recs = []) :
    SOK off Tryz.prog 6 H A [.c (.ptr did 0), pD (.lit (.int .i64 logs))] (.tup [.c (.ptr (k + 1) 0), .c (.d (.lit (.int .i64 0)))]) fun H' A' =>
      LW H' A' (k + 2) did κm (k, 1) (nextD d 0 (opT t0 t1 + 1) (opB t0 b0 t1 b1)) ∧ LgAt H' A' k did (k, 0) (opL 0 logs t0 b0 t1 b1 pl) ∧ PgAt H' A' (k + 1) did k (k + 1, 0) ⟨logs, [], false⟩ ∧
      (∀ j, j ≠ did → j ≠ k → j ≠ k + 1 → H' j = H j) ∧ ∀ τ, τ ≠ κm → τ ≠ κc → τ.1 < k → A' τ = A τ := by
  obtain ⟨HE, AE, ee, LE, gE, _, fH, fA, kA⟩ := Tryz.tOpen (off + 1000) hL (by omega) ho hf
  obtain ⟨n1, n2, n3⟩ := hL.ne
  obtain ⟨_, _, _, hdn, _, _, _, _, _⟩ := ho
  generalize opL 0 logs t0 b0 t1 b1 pl = l at *
  generalize nextD d 0 (opT t0 t1 + 1) (opB t0 b0 t1 b1) = dn at *
  have hE1 : HE (k + 1) = none := (LE.ab (k + 1) (Nat.le_refl _)).1
  have hEo : HE (off + 40) = none := (LE.ab (off + 40) (by omega)).1
  have aE1 : AE (k + 1, 0) = none := (LE.ab (k + 1) (Nat.le_refl _)).2 0
  have aEo : AE (off + 38, 0) = none := (LE.ab (off + 38) (by omega)).2 0
  have hdE : HE did ≠ none := by rw [LE.dk.h]; simp
  have hlE : HE k ≠ none := by rw [gE.h]; simp
  obtain ⟨q1, q2, q3⟩ := tok1 (r := Arr.mp []) aE1 aEo
  have kH : ∀ i, H i ≠ none → HE i ≠ none := fun i h => by
    by_cases x1 : i = did
    · rw [x1]; exact hdE
    · by_cases x2 : i = k
      · rw [x2]; exact hlE
      · rw [fH i x1 x2]; exact h
  refine ⟨upd HE (k + 1) (some (encPg did k (k + 1, 0) ⟨logs, [], false⟩)), upd AE (k + 1, 0) (some (.mp [])), ?_, ⟨?_, ?_, ?_⟩, gE.mv (upd_other _ _ (by omega)) (upd_other _ _ (tok_ne (by show k ≠ k + 1; omega))), ⟨upd_same _ _ _, upd_same _ _ _⟩, fun j x1 x2 x3 => by rw [upd_other _ _ x3, fH j x1 x2], fun τ x1 x2 x3 => by rw [upd_other _ _ (tok_ne (by show τ.1 ≠ k + 1; omega)), fA τ x1 x2 x3]⟩
  · refine effr_ok (E := envOf Tryz.prog [21, 22, 23] off [] []) (envOf_ok Tryz.mixed) Tryz.func6 rfl Tryz.call6 (by kernel_rfl) (by exact Nat.le_of_ble_eq_true rfl) (fun hab => ?_)
    have kl := Tryz.kLen (off + 1000) hL.wf hL.dk
    have c1 : IntKind.i64.wrap ((d.n : Int) - (logs : Int)) = ((d.n - logs : Nat) : Int) := by rw [Go.IntWalk.i64_in _ (by omega)]; omega
    have z1 : ((d.n : Int) == 0) = false := by rw [beq_eq_false_iff_ne]; omega
    have z2 : (((d.n - logs : Nat) : Int) < 1) = False := eq_false (by omega)
    have z3 : ((1024 : Int) < ((d.n - logs : Nat) : Int)) = False := eq_false (by omega)
    have hw3 : Wf (upd HE (off + 40) (some (encPg did k (off + 38, 0) ⟨logs, [], false⟩))) (upd AE (off + 38, 0) (some (.mp []))) := Wf_set LE.wf (encPg_ok (upd_keepH _ hdE) (upd_keepH _ hlE) (by rw [upd_same]; simp)) upd_keep
    have hp3 : PgAt (upd HE (off + 40) (some (encPg did k (off + 38, 0) ⟨logs, [], false⟩))) (upd AE (off + 38, 0) (some (.mp []))) (off + 40) did k (off + 38, 0) ⟨logs, [], false⟩ := ⟨upd_same _ _ _, upd_same _ _ _⟩
    have hl3 : LgAt (upd HE (off + 40) (some (encPg did k (off + 38, 0) ⟨logs, [], false⟩))) (upd AE (off + 38, 0) (some (.mp []))) k did (k, 0) l := gE.mv (upd_other _ _ (by omega)) (upd_other _ _ (tok_ne (by show k ≠ off + 38; omega)))
    have er := Tryz.kRedo0 (off + 1000) hw3 hp3 hl3 hr
    have hab3 : Above (off + 1000) (upd HE (off + 40) (some (encPg did k (off + 38, 0) ⟨logs, [], false⟩))) (upd AE (off + 38, 0) (some (.mp []))) := Above_updA (Above_updH (Above_mono LE.ab (by omega)) (by omega)) (by show off + 38 < off + 1000; omega)
    unfold encPg at er hab3
    repeat' (first
     |with_reducible first|refine vSq fun K hK=>?_|refine vRg ?_|refine vBl ?_|refine vSc ?_|refine vIf ?_|refine vSk ?_|refine vEx ?_|refine vRt ?_
     |(with_reducible first|refine gNt (fun h=>?_) (fun h=>?_)|refine gCs (fun h=>?_) (fun h=>?_))<;>(try simp only[h])
     |refine And.intro aEo ?_
     |refine And.intro hEo ?_
     |refine C_call rfl kl rfl (Above_mono hab (by omega)) ?_
     |refine C_call rfl ee rfl (Above_mono hab (by omega)) ?_
     |refine C_call rfl er rfl hab3 ?_
     |with_reducible first|(refine hK _ ?_;clear hK K)|(clear hK K;refine hK _ ?_;clear hK K)|(clear hK K;clear hK K;refine hK _ ?_;clear hK K)|(clear hK K;clear hK K;clear hK K;refine hK _ ?_;clear hK K)
     |(with_reducible refine todo ?_;simp +decide only[go_sem, c1, z1, z2, z3, zne]))
    have hsw : swt (k + 1, 0) (off + 38, 0) (k + 1, 0) = (off + 38, 0) := if_pos rfl
    have him : (encPg did k (k + 1, 0) ⟨logs, [], false⟩).map (CV.im (swp (k + 1) (off + 40)) (swt (k + 1, 0) (off + 38, 0))) = encPg did k (off + 38, 0) ⟨logs, [], false⟩ := by
      show [CV.ptr (swp (k + 1) (off + 40) did) 0, CV.ptr (swp (k + 1) (off + 40) k) 0, _, CV.mpr (swt (k + 1, 0) (off + 38, 0) (k + 1, 0)), _] = _
      rw [hsw, show swp (k + 1) (off + 40) did = did from if_neg (by omega), show swp (k + 1) (off + 40) k = k from if_neg (by omega)]
      rfl
    have tkE : ∀ τ, AE τ ≠ none → upd AE (off + 38, 0) (some (Arr.mp [])) τ ≠ none ∧ upd AE (off + 38, 0) (some (Arr.mp [])) τ = AE τ := fun τ h => by
      have e : τ ≠ (off + 38, 0) := fun e => h (by rw [e]; exact aEo)
      rw [upd_other _ _ e]; exact ⟨h, rfl⟩
    refine RetR_obj (H1 := HE) (A1 := AE) (A'' := upd AE (off + 38, 0) (some (.mp []))) (i' := off + 40) (h := swt (k + 1, 0) (off + 38, 0)) (ds := encPg did k (off + 38, 0) ⟨logs, [], false⟩) rfl ?_ (oks_pairP (by rw [upd_same]; simp)) LE.wf kH kA hE1 hEo
      (encPg_ok (upd_keepH _ hdE) (upd_keepH _ hlE) (by rw [upd_same]; simp)) ?_ (upd_same _ _ _) ?_ q1 q2 q3 (fun τ => .inr (.inl rfl))
    · show PV.wk _ _ _ (.tup [.c (.ptr (swp (k + 1) (off + 40) (k + 1)) 0), _]) _
      rw [show swp (k + 1) (off + 40) (k + 1) = off + 40 from if_pos rfl]
      exact wk_pairP (by rw [upd_same]; simp)
    · intro i es hi
      have hne : i ≠ off + 40 := fun e => by rw [e, hEo] at hi; cases hi
      refine ⟨es, by show upd _ _ _ _ = _; rw [upd_other _ _ hne]; exact hi, wkC_same fun c hc => ok_mono upd_keepH (fun τ h => ⟨(tkE τ h).1, rfl⟩) (LE.wf i es c hi hc)⟩
    · rw [him]
      exact wkC_same (fun c hc => ok_mono (fun _ h => h) (fun τ h => ⟨h, rfl⟩) (encPg_ok (A := upd AE (off + 38, 0) (some (.mp []))) (upd_keepH _ hdE) (upd_keepH _ hlE) (by rw [upd_same]; simp) c hc))
  · exact Wf_set LE.wf (encPg_ok (upd_keepH _ hdE) (upd_keepH _ hlE) (by rw [upd_same]; simp)) upd_keep
  · exact Above_updA (Above_updH (Above_mono LE.ab (by omega)) (by omega)) (by show k + 1 < k + 2; omega)
  · exact ⟨by rw [upd_other _ _ (by omega)]; exact LE.dk.h, by rw [upd_other _ _ (tok_ne (by show κm.1 ≠ k + 1; omega))]; exact LE.dk.m, by rw [upd_other _ _ (tok_ne (by show k ≠ k + 1; omega))]; exact LE.dk.c⟩
end pg
end Go.Proofs

namespace Go.PW
theorem RetR_sub {P : Program} {fn : Func} {H : HMap} {A : AMap} {v p : PV} {H' : HMap} {A' : AMap} {S : St} (hp : resPVs P S fn.results.toList = some p) (hv : PV.wk H' S.A A' v p) (hok : v.oks (fun i => H' i ≠ none) (fun κ => A' κ ≠ none)) (hw : Wf H' A')
    (h1 : ∀ i, H' i ≠ none → S.H i = H' i) (h2 : ∀ κ, A' κ ≠ none → S.A κ = A' κ) (kH : ∀ id, H id ≠ none → H' id ≠ none) (kA : ∀ κ, A κ ≠ none → A' κ ≠ none) : RetR P fn H A v H' A' S :=
  RetR_of hp hv hok hw (fun i cs hi => ⟨cs, by rw [h1 i (by rw [hi]; simp), hi], wkC_same fun c hc => ok_mono (fun _ h => h) (fun κ h => ⟨h, (h2 κ h).symm⟩) (hw i cs c hi hc)⟩)
    (fun κ => by
      cases h : A' κ with
      | none => exact .inl rfl
      | some ar => exact .inr (.inl (by rw [h2 κ (by rw [h]; simp), h]))) kH kA
theorem eff_pure {P : Program} {f : FuncId} {args : List PV} {x : D} {n : Nat} {H : HMap} {A : AMap} (h : PureOK P f args (.one (.d x))) : EffOK P f n H A args (.c (.d x)) H A := by
  intro g w vals hm hd hab har
  obtain ⟨hcl, hok⟩ := h
  have key : ∀ (v : Value) (w' : World), (∃ g', PRep g' (RV.one (.d x)).am ((RV.one (.d x)).pv 0) v ∧ MRel g' noH (RV.one (.d x)).am w' ∧ Evol (gOnly g.C) noA w g' (RV.one (.d x)).am w') → ∃ g', PRep g' A (.c (.d x)) v ∧ MRel g' H A w' ∧ Evol g A w g' A w' ∧ DomOK g' H := by
    rintro v w' ⟨g', h1, h2, h3⟩
    obtain ⟨g'', m1, m2, m3, m4, m5⟩ := merge (id := n) hm (fun k => (hab n (Nat.le_refl _)).2 k) (rs := [.d x]) h2 h3
    refine ⟨g'', ?_, m1, m2, fun id hi => by rw [m3]; exact hd id hi⟩
    have h1' : DRep g'.C x v := h1
    show DRep g''.C x v
    rw [m4]
    exact h1'
  rcases hok g.C w vals hm.com ⟨har.1, fun k y hk => (har.2 k y hk).imp fun u hu => ⟨hu.1, PRep_closed (List.all_eq_true.1 hcl y (List.mem_of_getElem? hk)) hu.2⟩⟩ with ⟨h1, h2⟩ | ⟨v, w', h1, h2⟩
  · refine .inl ⟨h1, Calls.mono h2 (fun e w' he => ?_)⟩
    obtain ⟨v, hv, hr⟩ := he
    exact ⟨v, hv, key v w' hr⟩
  · exact .inr ⟨v, w', h1, key v w' h2⟩
theorem bytesEls_set (l : List UInt8) (i : Nat) (b : UInt8) : (bytesEls l).set i [.lit (.int .u8 (b.toNat : Int))] = bytesEls (l.set i b) := by
  unfold bytesEls
  rw [List.map_set]
end Go.PW
namespace Go.Proofs
open Go.PW
def flipB (s : List UInt8) (page : Nat) : List UInt8 := s.set (page / 8) (UInt8.ofNat (iXor .u8 ((s.getD (page / 8) 0).toNat : Nat) (bitV page)).toNat)
theorem flipB_len (s : List UInt8) (page : Nat) : (flipB s page).length = s.length := by simp [flipB]
theorem u8_wrap_range (n : Int) : 0 ≤ IntKind.u8.wrap n ∧ IntKind.u8.wrap n < 256 := by
  have h : IntKind.u8.wrap n = n % 256 := by
    unfold IntKind.wrap
    simp [IntKind.bits, IntKind.signed]
  rw [h]
  exact ⟨Int.emod_nonneg _ (by decide), Int.emod_lt_of_pos _ (by decide)⟩
section pg
variable {H : HMap} {A : AMap} {pid did lid : Nat} {κm κc κp : Tok} {d : Dk} {p : Pg}
set_option maxRecDepth 8000 in
set_option maxHeartbeats 8000000 in
theorem Tryz.kTurn (off : Nat) (hw : Wf H A) (hp : PgAt H A pid did lid κp p) (hd : DkAt H A did κm κc d) (hl : p.logs ≤ d.n) (hn : d.n ≤ 4096) (hcl : d.cache.length ≤ 1000000) (page : Nat) (hpg : page < pgN d p) (hlen : page / 8 < (pgRd d p 0).length) (hsm : (pgRd d p 0).length ≤ 1000000) :
    EffOK Tryz.prog 32 off H A [.c (.ptr pid 0), pD (.lit (.int .i64 page))] (.c .any) H (upd A κp (some (.mp (encNS (putN p.ch 0 (flipB (pgRd d p 0) page)))))) := by
  refine effr_ok (E := envOf Tryz.prog [18, 2000000 + 72, 1000000 + 84, 3000000 + 84] off [13] [2]) (envOf_ok Tryz.mixed) Tryz.func32 rfl Tryz.call32 (by kernel_rfl) (by exact Nat.le_of_ble_eq_true rfl) (fun hab => ?_)
  have hph := hp.h
  unfold encPg at hph
  have kb := Tryz.kBit page
  have kd := Tryz.kPgRead (off + 1000) hw hp hd hl hn hcl 0 (by omega)
  have c1 : IntKind.i64.wrap (Int.tdiv (page : Int) 8) = ((page / 8 : Nat) : Int) := by rw [show Int.tdiv (page : Int) 8 = ((page / 8 : Nat) : Int) from tdiv_nat page 8, Go.IntWalk.i64_in _ (by omega)]
  have hfr : flipB (pgRd d p 0) page = (pgRd d p 0).set (page / 8) (UInt8.ofNat (iXor .u8 (((pgRd d p 0)[page / 8]).toNat : Nat) (bitV page)).toNat) := by
    unfold flipB
    rw [List.getD_eq_getElem?_getD, List.getElem?_eq_getElem hlen]; rfl
  have hg : (bytesEls (pgRd d p 0))[page / 8]? = some [.lit (.int .u8 (((pgRd d p 0)[page / 8]).toNat : Nat))] := bytesEls_get hlen
  rw [hfr]
  generalize (pgRd d p 0)[page / 8] = x at *
  generalize pgRd d p 0 = s at *
  have ha : A (off + 13, 0) = none := (hab _ (Nat.le_add_right _ _)).2 _
  have hne : κp ≠ (off + 13, 0) := fun e => by have := hp.m; rw [e, ha] at this; cases this
  have hxr := u8_wrap_range (BitVec.ofInt IntKind.u8.bits (x.toNat : Nat) ^^^ BitVec.ofInt IntKind.u8.bits (bitV page)).toNat
  have hxe : iXor .u8 (x.toNat : Nat) (bitV page) = ((UInt8.ofNat (iXor .u8 (x.toNat : Nat) (bitV page)).toNat).toNat : Int) := by
    rw [UInt8.toNat_ofNat', Nat.mod_eq_of_lt (by unfold iXor; omega)]
    unfold iXor
    omega
  generalize hX : iXor .u8 (x.toNat : Nat) (bitV page) = X at *
  have h17 : idxE Tryz.prog 5 (page / 8) (.c (.mt (off + 13, 0) 1 s.length)) = some (.c (.mptr (off + 13, 0) 1 s.length (page / 8) 0)) := by
    show (if page / 8 < s.length ∧ 1 = Tryz.prog.cellsOf 5 then _ else none) = _
    rw [if_pos ⟨hlen, by rw [Tryz.cl5]⟩]
  have hbl : (s.length = (bytesEls s).length) = True := eq_true (bytesEls_length s).symm
  have hset : (bytesEls s).set (page / 8) [.lit (.int .u8 X)] = bytesEls (s.set (page / 8) (UInt8.ofNat X.toNat)) := by
    rw [← bytesEls_set, ← hxe]
  have hcv : convA Tryz.prog (upd A (off + 13, 0) (some (.mu 1 (bytesEls (s.set (page / 8) (UInt8.ofNat X.toNat)))))) 84 9 (.c (.mt (off + 13, 0) 1 s.length)) = some (.c (.d (dS (s.set (page / 8) (UInt8.ofNat X.toNat))))) :=
    convA_of Tryz.bytesT Tryz.underlying9 (by rw [List.length_set]) (upd_same _ _ _)
  have hmp : mapOf (upd A (off + 13, 0) (some (.mu 1 (bytesEls (s.set (page / 8) (UInt8.ofNat X.toNat)))))) (.c (.mpr κp)) = some (encNS p.ch) := mapOf_mpr (by rw [upd_other _ _ hne]; exact hp.m)
  have r32 : ((3 : Nat) == 2) = false := rfl
  repeat' (first
   |with_reducible first|refine vSq fun K hK=>?_|refine vRg ?_|refine vBl ?_|refine vSc ?_|refine vIf ?_|refine vSk ?_|refine vEx ?_|refine vRt ?_
   |(with_reducible first|refine gNt (fun h=>?_) (fun h=>?_)|refine gCs (fun h=>?_) (fun h=>?_))<;>(try simp only[h])
   |refine C_call rfl kd rfl (Above_mono hab (by omega)) ?_
   |refine W_bytesm Tryz.strT Tryz.bytesT rfl ha ?_
   |(refine C_quiet rfl rfl (eff_pure kb) rfl (Above_updA (Above_mono hab (by omega)) (by show off + 13 < off + 1000; omega)) ?_)
   |with_reducible first|(refine hK _ ?_;clear hK K)|(clear hK K;refine hK _ ?_;clear hK K)|(clear hK K;clear hK K;refine hK _ ?_;clear hK K)|(clear hK K;clear hK K;clear hK K;refine hK _ ?_;clear hK K)
   |(with_reducible refine todo ?_;simp +decide only[go_sem, r32, c1, h17, hbl, hg, hset, upd_twice, hX, hcv, hph, hmp, mfind_N]))
  refine RetR_sub rfl True.intro True.intro (Wf_arr hw upd_keep) (fun _ _ => rfl) (fun τ hτ => ?_) (fun _ h => h) upd_keep
  have h13 : τ ≠ (off + 13, 0) := fun e => by
    rw [e, upd_other _ _ hne.symm, ha] at hτ
    exact hτ rfl
  rw [← encNS_put]
  by_cases e : τ = κp
  · subst e
    rw [upd_same]
    exact upd_same _ _ _
  · rw [upd_other _ _ e]
    exact (upd_other _ _ e).trans (upd_other _ _ h13)
end pg
end Go.Proofs

namespace Go.Proofs
open Go.PW
section pg
variable {H : HMap} {A : AMap} {pid did lid : Nat} {κm κc κp : Tok} {d : Dk} {p : Pg}
def pgFrE (n : Nat) (s : List UInt8) (page : Int) : Int := if pgRight n page ≠ 0 then pgRight n page else if page = 0 then 1 else if freeB s page.toNat = true then 6 else 0
set_option maxRecDepth 8000 in
set_option maxHeartbeats 8000000 in
theorem Tryz.kPgFreeE (off : Nat) (hw : Wf H A) (hp : PgAt H A pid did lid κp p) (hd : DkAt H A did κm κc d) (hl : p.logs ≤ d.n) (hn : d.n ≤ 4096) (hcl : d.cache.length ≤ 1000000) (hlen : pgN d p ≤ 8 * (pgRd d p 0).length) (page : Int) (he : pgFrE (pgN d p) (pgRd d p 0) page ≠ 0) :
    EffOK Tryz.prog 79 off H A [.c (.ptr pid 0), pD (.lit (.int .i64 page))] (pD (.lit (.int .i64 (pgFrE (pgN d p) (pgRd d p 0) page)))) H A := by
  refine effr_ok (E := envOf Tryz.prog [38, 31, 32] off [] []) (envOf_ok Tryz.mixed) Tryz.func79 rfl Tryz.call79 (by kernel_rfl) (by exact Nat.le_of_ble_eq_true rfl) (fun hab => ?_)
  have kr := Tryz.kPgRight (off + 1000) hw hp hd hl hn page
  unfold pgFrE at he ⊢
  by_cases h1 : pgRight (pgN d p) page = 0
  · rw [if_neg (by simpa using h1)] at he ⊢
    have hrg : ¬ (page < 0 ∨ ((pgN d p : Nat) : Int) ≤ page) := fun h => by unfold pgRight at h1; rw [if_pos h] at h1; cases h1
    rw [h1] at kr
    by_cases h2 : page = 0
    · rw [if_pos h2]
      subst h2
      repeat' (first
       |with_reducible first|refine vSq fun K hK=>?_|refine vRg ?_|refine vBl ?_|refine vSc ?_|refine vIf ?_|refine vSk ?_|refine vEx ?_|refine vRt ?_
       |(with_reducible first|refine gNt (fun h=>?_) (fun h=>?_)|refine gCs (fun h=>?_) (fun h=>?_))<;>(try simp only[h])
       |refine C_call rfl kr rfl (Above_mono hab (by omega)) ?_
       |with_reducible first|(refine hK _ ?_;clear hK K)|(clear hK K;refine hK _ ?_;clear hK K)|(clear hK K;clear hK K;refine hK _ ?_;clear hK K)|(clear hK K;clear hK K;clear hK K;refine hK _ ?_;clear hK K)
       |(with_reducible refine todo ?_;simp +decide only[go_sem, zne]))
      exact RetR_same rfl (by simp +decide only [go_sem]) True.intro hw kp_refl (fun _ _ => rfl)
    · have z : (page == 0) = false := by simpa using h2
      rw [if_neg h2] at he ⊢
      obtain ⟨q, rfl⟩ : ∃ q : Nat, page = (q : Int) := ⟨page.toNat, by omega⟩
      have kf := Tryz.kIsFree (off + 1000) hw hp hd hl hn hcl q (by omega) (by omega) (by omega)
      rw [Int.toNat_natCast] at he ⊢
      by_cases h3 : freeB (pgRd d p 0) q = true
      · rw [h3] at kf
        rw [if_pos h3]
        repeat' (first
         |with_reducible first|refine vSq fun K hK=>?_|refine vRg ?_|refine vBl ?_|refine vSc ?_|refine vIf ?_|refine vSk ?_|refine vEx ?_|refine vRt ?_
         |(with_reducible first|refine gNt (fun h=>?_) (fun h=>?_)|refine gCs (fun h=>?_) (fun h=>?_))<;>(try simp only[h])
         |refine C_call rfl kr rfl (Above_mono hab (by omega)) ?_
         |refine C_call rfl kf rfl (Above_mono hab (by omega)) ?_
         |with_reducible first|(refine hK _ ?_;clear hK K)|(clear hK K;refine hK _ ?_;clear hK K)|(clear hK K;clear hK K;refine hK _ ?_;clear hK K)|(clear hK K;clear hK K;clear hK K;refine hK _ ?_;clear hK K)
         |(with_reducible refine todo ?_;simp +decide only[go_sem, zne, z]))
        exact RetR_same rfl (by simp +decide only [go_sem]) True.intro hw kp_refl (fun _ _ => rfl)
      · rw [if_neg h3] at he
        exact (he rfl).elim
  · rw [if_pos (by simpa using h1)]
    have z : (pgRight (pgN d p) page != 0) = true := by simpa using h1
    repeat' (first
     |with_reducible first|refine vSq fun K hK=>?_|refine vRg ?_|refine vBl ?_|refine vSc ?_|refine vIf ?_|refine vSk ?_|refine vEx ?_|refine vRt ?_
     |(with_reducible first|refine gNt (fun h=>?_) (fun h=>?_)|refine gCs (fun h=>?_) (fun h=>?_))<;>(try simp only[h])
     |refine C_call rfl kr rfl (Above_mono hab (by omega)) ?_
     |with_reducible first|(refine hK _ ?_;clear hK K)|(clear hK K;refine hK _ ?_;clear hK K)|(clear hK K;clear hK K;refine hK _ ?_;clear hK K)|(clear hK K;clear hK K;clear hK K;refine hK _ ?_;clear hK K)
     |(with_reducible refine todo ?_;simp +decide only[go_sem, z]))
    exact RetR_same rfl (by simp +decide only [go_sem]) True.intro hw kp_refl (fun _ _ => rfl)
set_option maxRecDepth 8000 in
set_option maxHeartbeats 8000000 in
theorem Tryz.kPgFree (off : Nat) (hw : Wf H A) (hp : PgAt H A pid did lid κp p) (hd : DkAt H A did κm κc d) (hl : p.logs ≤ d.n) (hn : d.n ≤ 4096) (hcl : d.cache.length ≤ 1000000) (hlen : pgN d p ≤ 8 * (pgRd d p 0).length) (hsm : (pgRd d p 0).length ≤ 1000000)
    (q : Nat) (h0 : q ≠ 0) (hq : q < pgN d p) (hf : freeB (pgRd d p 0) q = false) :
    EffOK Tryz.prog 79 off H A [.c (.ptr pid 0), pD (.lit (.int .i64 q))] (pD (.lit (.int .i64 0))) H (upd A κp (some (.mp (encNS (putN p.ch 0 (flipB (pgRd d p 0) q)))))) := by
  refine effr_ok (E := envOf Tryz.prog [38, 31, 32] off [] []) (envOf_ok Tryz.mixed) Tryz.func79 rfl Tryz.call79 (by kernel_rfl) (by exact Nat.le_of_ble_eq_true rfl) (fun hab => ?_)
  have kr := Tryz.kPgRight (off + 1000) hw hp hd hl hn q
  have e0 : pgRight (pgN d p) q = 0 := by unfold pgRight; rw [if_neg (by omega)]
  rw [e0] at kr
  have kf := Tryz.kIsFree (off + 1000) hw hp hd hl hn hcl q h0 hq (by omega)
  rw [hf] at kf
  have kt := Tryz.kTurn (off + 1000) hw hp hd hl hn hcl q hq (by omega) hsm
  have z : ((q : Int) == 0) = false := by rw [beq_eq_false_iff_ne]; omega
  repeat' (first
   |with_reducible first|refine vSq fun K hK=>?_|refine vRg ?_|refine vBl ?_|refine vSc ?_|refine vIf ?_|refine vSk ?_|refine vEx ?_|refine vRt ?_
   |(with_reducible first|refine gNt (fun h=>?_) (fun h=>?_)|refine gCs (fun h=>?_) (fun h=>?_))<;>(try simp only[h])
   |refine C_call rfl kr rfl (Above_mono hab (by omega)) ?_
   |refine C_call rfl kf rfl (Above_mono hab (by omega)) ?_
   |refine C_call rfl kt rfl (Above_mono hab (by omega)) ?_
   |with_reducible first|(refine hK _ ?_;clear hK K)|(clear hK K;refine hK _ ?_;clear hK K)|(clear hK K;clear hK K;refine hK _ ?_;clear hK K)|(clear hK K;clear hK K;clear hK K;refine hK _ ?_;clear hK K)
   |(with_reducible refine todo ?_;simp +decide only[go_sem, zne, z]))
  exact RetR_arr rfl (by simp +decide only [go_sem]) True.intro hw kp_refl rfl upd_keep
set_option maxRecDepth 8000 in
set_option maxHeartbeats 16000000 in
theorem Tryz.kPgAllocN (off : Nat) (hw : Wf H A) (hp : PgAt H A pid did lid κp p) (hd : DkAt H A did κm κc d) (hl : p.logs ≤ d.n) (hn : d.n ≤ 4096) (hcl : d.cache.length ≤ 1000000) (hlen : pgN d p ≤ 8 * (pgRd d p 0).length)
    (hno : ∀ i, i ≠ 0 → i < pgN d p → freeB (pgRd d p 0) i = false) :
    EffOK Tryz.prog 8 off H A [.c (.ptr pid 0)] (.tup [.c (.d (.lit (.int .i64 0))), .c (.d (.lit (.int .i64 3)))]) H A := by
  refine effr_ok (E := envOf Tryz.prog [29, 30, 31, 32] off [] []) (envOf_ok Tryz.mixed) Tryz.func8 rfl Tryz.call8 (by kernel_rfl) (by exact Nat.le_of_ble_eq_true rfl) (fun hab => ?_)
  have kt := Tryz.kThere (off + 1000) hw hp
  have kl := Tryz.kPgLen (off + 1000) hw hp hd hl hn
  have hN : pgN d p ≤ 4096 := by unfold pgN; omega
  have hptr := fun {X Y : AMap} => hp.ptr (A1 := X) (A2 := Y)
  have kf : ∀ i : Nat, i < pgN d p → EffOK Tryz.prog 31 (off + 1000) H A [.c (.ptr pid 0), pD (.lit (.int .i64 i))] (pD (.lit (.bool false))) H A := fun i hi => by
    by_cases h0 : i = 0
    · subst h0
      exact Tryz.kIsFree0 (pid := pid) (off + 1000) hw
    · have := Tryz.kIsFree (off + 1000) hw hp hd hl hn hcl i h0 hi (by omega)
      rw [hno i h0 hi] at this
      exact this
  repeat' (first
   |with_reducible first|refine vSq fun K hK=>?_|refine vRg ?_|refine vBl ?_|refine vSc ?_|refine vIf ?_|refine vSk ?_|refine vEx ?_|refine vRt ?_
   |(with_reducible first|refine gNt (fun h=>?_) (fun h=>?_)|refine gCs (fun h=>?_) (fun h=>?_))<;>(try simp only[h])
   |refine C_call rfl kt rfl (Above_mono hab (by omega)) ?_
   |refine C_call rfl kl rfl (Above_mono hab (by omega)) ?_
   |with_reducible first|(refine hK _ ?_;clear hK K)|(clear hK K;refine hK _ ?_;clear hK K)|(clear hK K;clear hK K;refine hK _ ?_;clear hK K)|(clear hK K;clear hK K;clear hK K;refine hK _ ?_;clear hK K)
   |(with_reducible refine todo ?_;simp +decide only[go_sem]))
  refine VC_range (pgN d p) (fun _ => True) (fun i => over [(0, .c (.ptr pid 0)), (9, pD (.lit (.int .i64 (pgN d p)))), (10, pD (.lit (.int .i64 i)))] [] H A) True.intro ?_ ?_
  · refine Weak_overG hw (fun _ _ => rfl) rfl ?_ ?_ (fun i hi => hi) (fun _ h => h)
    · simp +decide only [go_sem, hptr]
    · simp +decide only [go_sem]
  · intro i hi _
    rcases Nat.lt_or_ge i (pgN d p) with hi2 | hi2
    · have hc := int_lt_true hi2
      have hnx := int_next hi2 (by omega)
      have kfi := kf i hi2
      repeat' (first
       |with_reducible first|refine vSq fun K hK=>?_|refine vRg ?_|refine vBl ?_|refine vSc ?_|refine vIf ?_|refine vSk ?_|refine vEx ?_|refine vRt ?_
       |(with_reducible first|refine gNt (fun h=>?_) (fun h=>?_)|refine gCs (fun h=>?_) (fun h=>?_))<;>(try simp only[h])
       |refine C_call rfl kfi rfl (Above_mono hab (by omega)) ?_
       |with_reducible first|(refine hK _ ?_;clear hK K)|(clear hK K;refine hK _ ?_;clear hK K)|(clear hK K;clear hK K;refine hK _ ?_;clear hK K)|(clear hK K;clear hK K;clear hK K;refine hK _ ?_;clear hK K)
       |(with_reducible refine todo ?_;simp +decide only[go_sem, hc, hnx]))
      refine Next_of hi2 True.intro (Weak_overG hw kp_nil rfl ?_ ?_ (fun i hi => hi) (fun _ h => h))
      · simp +decide only [go_sem, hptr]
      · simp +decide only [go_sem]
    · have hc := int_lt_false hi2
      have hie : i = pgN d p := by omega
      subst hie
      repeat' (first
       |with_reducible first|refine vSq fun K hK=>?_|refine vRg ?_|refine vBl ?_|refine vSc ?_|refine vIf ?_|refine vSk ?_|refine vEx ?_|refine vRt ?_
       |(with_reducible first|refine gNt (fun h=>?_) (fun h=>?_)|refine gCs (fun h=>?_) (fun h=>?_))<;>(try simp only[h])
       |with_reducible first|(refine hK _ ?_;clear hK K)|(clear hK K;refine hK _ ?_;clear hK K)|(clear hK K;clear hK K;refine hK _ ?_;clear hK K)|(clear hK K;clear hK K;clear hK K;refine hK _ ?_;clear hK K)
       |(with_reducible refine todo ?_;simp +decide only[go_sem, hc]))
      exact RetR_same rfl wk_pair oks_pair hw kp_nil (fun _ _ => rfl)
set_option maxRecDepth 8000 in
set_option maxHeartbeats 16000000 in
theorem Tryz.kPgAlloc (off : Nat) (hw : Wf H A) (hp : PgAt H A pid did lid κp p) (hd : DkAt H A did κm κc d) (hl : p.logs ≤ d.n) (hn : d.n ≤ 4096) (hcl : d.cache.length ≤ 1000000) (hlen : pgN d p ≤ 8 * (pgRd d p 0).length) (hsm : (pgRd d p 0).length ≤ 1000000)
    (q : Nat) (h0 : q ≠ 0) (hq : q < pgN d p) (hf : freeB (pgRd d p 0) q = true) (hno : ∀ i, i ≠ 0 → i < q → freeB (pgRd d p 0) i = false) :
    EffOK Tryz.prog 8 off H A [.c (.ptr pid 0)] (.tup [.c (.d (.lit (.int .i64 q))), .c (.d (.lit (.int .i64 0)))]) H (upd A κp (some (.mp (encNS (putN (putN p.ch 0 (flipB (pgRd d p 0) q)) q zeros))))) := by
  refine effr_ok (E := envOf Tryz.prog [29, 30, 31, 32] off [] []) (envOf_ok Tryz.mixed) Tryz.func8 rfl Tryz.call8 (by kernel_rfl) (by exact Nat.le_of_ble_eq_true rfl) (fun hab => ?_)
  have kt := Tryz.kThere (off + 1000) hw hp
  have kl := Tryz.kPgLen (off + 1000) hw hp hd hl hn
  have ke := Tryz.kEmptyP
  have ktn := Tryz.kTurn (off + 1000) hw hp hd hl hn hcl q hq (by omega) hsm
  have hph := hp.h
  unfold encPg at hph
  have hN : pgN d p ≤ 4096 := by unfold pgN; omega
  have hptr := fun {X Y : AMap} => hp.ptr (A1 := X) (A2 := Y)
  have kfn : ∀ i : Nat, i < q → EffOK Tryz.prog 31 (off + 1000) H A [.c (.ptr pid 0), pD (.lit (.int .i64 i))] (pD (.lit (.bool false))) H A := fun i hi => by
    by_cases h0 : i = 0
    · subst h0
      exact Tryz.kIsFree0 (pid := pid) (off + 1000) hw
    · have := Tryz.kIsFree (off + 1000) hw hp hd hl hn hcl i h0 (by omega) (by omega)
      rw [hno i h0 hi] at this
      exact this
  have kfy := Tryz.kIsFree (off + 1000) hw hp hd hl hn hcl q h0 hq (by omega)
  rw [hf] at kfy
  repeat' (first
   |with_reducible first|refine vSq fun K hK=>?_|refine vRg ?_|refine vBl ?_|refine vSc ?_|refine vIf ?_|refine vSk ?_|refine vEx ?_|refine vRt ?_
   |(with_reducible first|refine gNt (fun h=>?_) (fun h=>?_)|refine gCs (fun h=>?_) (fun h=>?_))<;>(try simp only[h])
   |refine C_call rfl kt rfl (Above_mono hab (by omega)) ?_
   |refine C_call rfl kl rfl (Above_mono hab (by omega)) ?_
   |with_reducible first|(refine hK _ ?_;clear hK K)|(clear hK K;refine hK _ ?_;clear hK K)|(clear hK K;clear hK K;refine hK _ ?_;clear hK K)|(clear hK K;clear hK K;clear hK K;refine hK _ ?_;clear hK K)
   |(with_reducible refine todo ?_;simp +decide only[go_sem]))
  refine VC_range (pgN d p) (fun i => i ≤ q) (fun i => over [(0, .c (.ptr pid 0)), (9, pD (.lit (.int .i64 (pgN d p)))), (10, pD (.lit (.int .i64 i)))] [] H A) (Nat.zero_le _) ?_ ?_
  · refine Weak_overG hw (fun _ _ => rfl) rfl ?_ ?_ (fun i hi => hi) (fun _ h => h)
    · simp +decide only [go_sem, hptr]
    · simp +decide only [go_sem]
  · intro i hi hiq
    have hi2 : i < pgN d p := by omega
    have hc := int_lt_true hi2
    have hnx := int_next hi2 (by omega)
    by_cases hlt : i < q
    · have kfi := kfn i hlt
      repeat' (first
       |with_reducible first|refine vSq fun K hK=>?_|refine vRg ?_|refine vBl ?_|refine vSc ?_|refine vIf ?_|refine vSk ?_|refine vEx ?_|refine vRt ?_
       |(with_reducible first|refine gNt (fun h=>?_) (fun h=>?_)|refine gCs (fun h=>?_) (fun h=>?_))<;>(try simp only[h])
       |refine C_call rfl kfi rfl (Above_mono hab (by omega)) ?_
       |with_reducible first|(refine hK _ ?_;clear hK K)|(clear hK K;refine hK _ ?_;clear hK K)|(clear hK K;clear hK K;refine hK _ ?_;clear hK K)|(clear hK K;clear hK K;clear hK K;refine hK _ ?_;clear hK K)
       |(with_reducible refine todo ?_;simp +decide only[go_sem, hc, hnx]))
      refine Next_of hi2 (by omega) (Weak_overG hw kp_nil rfl ?_ ?_ (fun i hi => hi) (fun _ h => h))
      · simp +decide only [go_sem, hptr]
      · simp +decide only [go_sem]
    · obtain rfl : i = q := by omega
      generalize hch : putN p.ch 0 (flipB (pgRd d p 0) i) = ch at *
      have hmp : mapOf (upd A κp (some (.mp (encNS ch)))) (.c (.mpr κp)) = some (encNS ch) := mapOf_mpr (upd_same _ _ _)
      rw [← encNS_put]
      repeat' (first
       |with_reducible first|refine vSq fun K hK=>?_|refine vRg ?_|refine vBl ?_|refine vSc ?_|refine vIf ?_|refine vSk ?_|refine vEx ?_|refine vRt ?_
       |(with_reducible first|refine gNt (fun h=>?_) (fun h=>?_)|refine gCs (fun h=>?_) (fun h=>?_))<;>(try simp only[h])
       |refine C_call rfl kfy rfl (Above_mono hab (by omega)) ?_
       |refine C_call rfl ktn rfl (Above_mono hab (by omega)) ?_
       |(refine C_pure ke rfl rfl (fun k => (Above_updA hab (Nat.lt_of_not_le fun h => by have := hp.m; rw [(hab κp.1 h).2 κp.2] at this; cases this) _ (Nat.le_add_right _ _)).2 k) ?_)
       |with_reducible first|(refine hK _ ?_;clear hK K)|(clear hK K;refine hK _ ?_;clear hK K)|(clear hK K;clear hK K;refine hK _ ?_;clear hK K)|(clear hK K;clear hK K;clear hK K;refine hK _ ?_;clear hK K)
       |(with_reducible refine todo ?_;simp +decide only[go_sem, hc, hph, hmp, mfind_N, upd_twice]))
      exact RetR_arr rfl wk_pair oks_pair hw kp_nil rfl upd_keep
end pg
end Go.Proofs

namespace Go.Proofs
open Go.PW
section pg
variable {H : HMap} {A : AMap} {pid did lid : Nat} {κm κc κp κ : Tok} {d : Dk} {p : Pg} {m : List (Int × List UInt8)}
end pg
end Go.Proofs

namespace Go.PW
variable {P : Program} {H H' : HMap} {A A' : AMap}
end Go.PW
namespace Go.Proofs
open Go.PW
section pg
variable {H H' : HMap} {A A' : AMap} {a b pid did lid : Nat} {κp : Tok} {p : Pg}
end pg
end Go.Proofs

namespace Go.Proofs
open Go.PW
section pg
variable {pid did lid : Nat} {κp : Tok} {p : Pg} {s : List UInt8} {Hs : Nat → HMap} {As : Nat → AMap} {e : Nat → Int} {m off : Nat}
end pg
end Go.Proofs

namespace Go.Proofs
open Go.PW
section pg
variable {pid did lid : Nat} {κm κc κp κr : Tok} {d : Dk} {p : Pg} {l : Lg} {Hs : Nat → HMap} {As : Nat → AMap} {e : Nat → Int} {m off : Nat}
end pg
end Go.Proofs

namespace Go.Proofs
open Go.PW
section pg
variable {H : HMap} {A : AMap} {k pid did lid : Nat} {κm κc κp κr κ : Tok} {d : Dk} {p : Pg} {l : Lg} {m : List (Int × List UInt8)}
end pg
end Go.Proofs

namespace Go.Proofs
open Go.PW
def valR (k : Int) : List (Int × List UInt8) → Option (List UInt8)
  | [] => none
  | p :: m => if p.1 = k then some p.2 else valR k m
theorem valR_find (k : Int) : ∀ m, (findN k m 0).map (·.2) = valR k m
  | [] => rfl
  | p :: m => by
    have ih := valR_find k m
    unfold findN valR
    by_cases h : p.1 = k
    · rw [if_pos h, if_pos h]; rfl
    · rw [if_neg h, if_neg h, findN_shift, ← ih]
      cases findN k m 0 <;> rfl
theorem valR_put (j k : Int) (s : List UInt8) : ∀ m, valR j (putR k s m) = if k = j then some s else valR j m
  | [] => by
    show valR j [(k, s)] = _
    unfold valR
    rfl
  | p :: m => by
    have ih := valR_put j k s m
    unfold putR
    by_cases h : p.1 = k
    · rw [if_pos h]
      unfold valR
      subst h
      by_cases h2 : p.1 = j
      · simp [h2]
      · simp [h2]
    · rw [if_neg h]
      unfold valR
      rw [ih]
      by_cases h2 : p.1 = j
      · rw [if_pos h2, if_pos h2, if_neg (fun e => h (by rw [h2, e]))]
      · rw [if_neg h2, if_neg h2]
theorem valR_mem {j : Int} {s : List UInt8} : ∀ {m : List (Int × List UInt8)}, valR j m = some s → (j, s) ∈ m
  | [], h => by cases h
  | p :: m, h => by
    unfold valR at h
    split at h
    · rename_i e
      cases h
      rw [← e]
      exact List.mem_cons_self
    · exact List.mem_cons_of_mem _ (valR_mem h)
structure KsOK (N : Nat) (m : List (Int × List UInt8)) : Prop where
  nd : (keysN m).Nodup
  rg : ∀ x ∈ m, 0 ≤ x.1 ∧ x.1 < (N : Int)
  len : ∀ x ∈ m, x.2.length = 128
theorem KsOK.nil (N : Nat) : KsOK N [] := ⟨List.nodup_nil, fun _ h => (by cases h), fun _ h => (by cases h)⟩
theorem putR_mem {k : Int} {s : List UInt8} : ∀ {m : List (Int × List UInt8)} {x}, x ∈ putR k s m → x = (k, s) ∨ x ∈ m
  | [], x, h => by
    have : x = (k, s) := by simpa [putR] using h
    exact .inl this
  | p :: m, x, h => by
    unfold putR at h
    split at h
    · rcases List.mem_cons.1 h with h | h
      · exact .inl h
      · exact .inr (List.mem_cons_of_mem _ h)
    · rcases List.mem_cons.1 h with h | h
      · exact .inr (by rw [h]; exact List.mem_cons_self)
      · exact (putR_mem h).imp id fun h => List.mem_cons_of_mem _ h
theorem KsOK.put {N : Nat} {m : List (Int × List UInt8)} (h : KsOK N m) {k : Nat} (hk : k < N) {s : List UInt8} (hs : s.length = 128) : KsOK N (putN m k s) := by
  rw [putN_R]
  refine ⟨putR_nd _ _ _ h.nd, fun x hx => ?_, fun x hx => ?_⟩
  · rcases putR_mem hx with rfl | hx
    · exact ⟨by show (0 : Int) ≤ (k : Int); omega, by show (k : Int) < (N : Int); omega⟩
    · exact h.rg x hx
  · rcases putR_mem hx with rfl | hx
    · exact hs
    · exact h.len x hx
theorem pgRd_val (d : Dk) (p : Pg) (j : Nat) : pgRd d p j = (valR (j : Int) p.ch).getD (rd d ((p.logs + j : Nat) : Int)) := by
  unfold pgRd
  rw [← valR_find]
  cases findN (j : Int) p.ch 0 <;> rfl
end Go.Proofs

namespace Go.Proofs
open Go.PW
section pg
variable {H : HMap} {A : AMap} {pid did lid : Nat} {κm κc κp κr : Tok} {d : Dk} {p : Pg} {l : Lg}
end pg
end Go.Proofs
