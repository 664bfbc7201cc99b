/-
  Parts of the proof, laid together: PwPh, PwPi, PwPj, PwPk, PwPl, PwPm, PwPn, PwPo.
-/
import Derived.Test.YtghlemfokpfngaaQ31
import Derived.Test.YtghlemfokpfngaaQ15

namespace Go.Proofs
open Go.PW
section wal
variable {H : HMap} {A : AMap} {k did : Nat} {κm κc : Tok} {d : Dk}
theorem Try.tFlush (off : Nat) (hL : LW H A k did κm κc d) (hn : 0 < d.n) (hcl : d.cache.length ≤ 1000000) (hb : burnt d = false) :
    SOK off Try.prog 60 H A [.c (.ptr did 0)] (pD (.lit (.int .i64 0))) fun H' A' => LW H' A' (k + 1) did κm (k, 0) (flD d) ∧ (∀ lid κr l, LgAt H A lid did κr l → LgAt H' A' lid did κr l) ∧ (∀ j, j ≠ did → H' j = H j) ∧ (∀ τ, τ ≠ κm → τ.1 < k → A' τ = A τ) ∧ ∀ τ, A τ ≠ none → A' τ ≠ none := by
  obtain ⟨n1, n2, n3⟩ := hL.ne
  have nm0 : κm ≠ (k, 0) := tok_ne (by show κm.1 ≠ k; omega)
  have kc := Try.kFlush (κ' := (k, 0)) off hL.wf hL.dk hn hcl hb (hL.new 0).2
  have hdc : (flD d).cache.length = 0 := rfl
  generalize flD d = dn at *
  have kA : ∀ τ, A τ ≠ none → upd (upd A κm (some (.mp (encNS dn.stays)))) (k, 0) (some (.co 2 0)) τ ≠ none := fun τ h => upd_keep _ (upd_keep _ h)
  refine ⟨_, _, kc, ⟨?_, ?_, ?_⟩, ?_, fun j q1 => by rw [upd_other _ _ q1], fun τ q1 q2 => by rw [upd_other _ _ (tok_ne (by show τ.1 ≠ k; omega)), upd_other _ _ q1], kA⟩
  · exact Wf_set hL.wf (DkAt.ok (kA κm (by rw [hL.dk.m]; simp)) (by rw [upd_same]; simp)) kA
  · exact Above_updA (Above_updA (Above_updH (Above_mono hL.ab (by omega)) (by omega)) (by omega)) (by show k < k + 1; omega)
  · exact ⟨upd_same _ _ _, by rw [upd_other _ _ nm0, upd_same], by rw [upd_same, hdc]⟩
  · intro lid κr l hl
    obtain ⟨m1, m2⟩ := hl.lt hL.ab
    exact hl.mv (by rw [upd_other _ _ (hl.ne hL.dk)]) (by rw [upd_other _ _ (tok_ne (by show κr.1 ≠ k; omega)), upd_other _ _ (hl.nm hL.dk)])
theorem PgAt.mv {H' : HMap} {A' : AMap} {pid lid : Nat} {κp : Tok} {p : Pg} (hp : PgAt H A pid did lid κp p) (h1 : H' pid = H pid) (h2 : A' κp = A κp) : PgAt H' A' pid did lid κp p := ⟨by rw [h1]; exact hp.h, by rw [h2]; exact hp.m⟩
theorem PgAt.lt {pid lid : Nat} {κp : Tok} {p : Pg} (hp : PgAt H A pid did lid κp p) {off : Nat} (hab : Above off H A) : pid < off ∧ κp.1 < off := by
  refine ⟨Nat.lt_of_not_le fun h => ?_, Nat.lt_of_not_le fun h => ?_⟩
  · have := hp.h; rw [(hab pid h).1] at this; cases this
  · have := hp.m; rw [(hab κp.1 h).2 κp.2] at this; cases this
theorem PgAt.ne {pid lid : Nat} {κp : Tok} {p : Pg} (hp : PgAt H A pid did lid κp p) (hd : DkAt H A did κm κc d) : pid ≠ did := fun e => by
  have h1 := hp.h
  rw [e, hd.h] at h1
  have := congrArg List.length (Option.some.inj h1)
  cases this
theorem PgAt.neL {pid lid lid' : Nat} {κp κr : Tok} {p : Pg} {l : Lg} (hp : PgAt H A pid did lid κp p) (hl : LgAt H A lid' did κr l) : pid ≠ lid' := fun e => by
  have h1 := hp.h
  rw [e, hl.h] at h1
  have := congrArg List.length (Option.some.inj h1)
  cases this
end wal
end Go.Proofs

namespace Go.Proofs
open Go.PW
section pg
variable {H : HMap} {A : AMap} {k pid did lid : Nat} {κm κc κp κr : Tok} {d : Dk} {p : Pg} {l : Lg}
end pg
end Go.Proofs

namespace Go.Proofs
open Go.PW
section pg
variable {H : HMap} {A : AMap} {pid did lid : Nat} {κp κr : Tok} {p : Pg} {l : Lg}
set_option maxRecDepth 8000 in
set_option maxHeartbeats 8000000 in
theorem Try.kRedo0 (off : Nat) (hw : Wf H A) (hp : PgAt H A pid did lid κp p) (hl : LgAt H A lid did κr l) (hr : l.recs = []) : EffOK Try.prog 28 off H A [.c (.ptr pid 0)] (pD (.lit (.int .i64 0))) H A := by
  refine effr_ok (E := envOf Try.prog [48] off [] []) (envOf_ok Try.mixed) Try.func28 rfl Try.call28 (by kernel_rfl) (by exact Nat.le_of_ble_eq_true rfl) (fun hab => ?_)
  have hph := hp.h
  unfold encPg at hph
  have kr := Try.kRecords (off + 1000) hw hl (by rw [hr]; exact Nat.zero_le _)
  rw [hr] at kr
  have v3 : (((textsD []).length : Int) == 0) = true := rfl
  repeat' (first
   |with_reducible first|refine vSq fun K hK=>?_|refine vRg ?_|refine vBl ?_|refine vSc ?_|refine vIf ?_|refine vSk ?_|refine vEx ?_|refine vRt ?_
   |(with_reducible first|refine gNt (fun h=>?_) (fun h=>?_)|refine gCs (fun h=>?_) (fun h=>?_))<;>(try simp only[h])
   |refine C_call rfl kr rfl (Above_mono hab (by omega)) ?_
   |with_reducible first|(refine hK _ ?_;clear hK K)|(clear hK K;refine hK _ ?_;clear hK K)|(clear hK K;clear hK K;refine hK _ ?_;clear hK K)|(clear hK K;clear hK K;clear hK K;refine hK _ ?_;clear hK K)
   |(with_reducible refine todo ?_;simp +decide only[go_sem, hph, v3]))
  exact RetR_same rfl (by simp +decide only [go_sem]) True.intro hw kp_refl (fun _ _ => rfl)
end pg
end Go.Proofs

namespace Go.Proofs
open Go.PW
theorem encPg_ok {H : HMap} {A : AMap} {did lid : Nat} {κp : Tok} {p : Pg} (h1 : H did ≠ none) (h2 : H lid ≠ none) (h3 : A κp ≠ none) : ∀ c ∈ encPg did lid κp p, c.ok (fun i => H i ≠ none) (fun κ => A κ ≠ none) := by
  intro c hc
  unfold encPg at hc
  simp only [List.mem_cons, List.not_mem_nil, or_false] at hc
  rcases hc with rfl | rfl | rfl | rfl | rfl
  · exact h1
  · exact h2
  · exact True.intro
  · exact h3
  · exact True.intro
section pg
variable {H : HMap} {A : AMap} {k did : Nat} {κm κc : Tok} {d : Dk} {logs t0 b0 t1 b1 : Nat} {pl : Nat → Option Pc}
end pg
end Go.Proofs

namespace Go.PW
theorem RetR_sub {P : Program} {fn : Func} {H : HMap} {A : AMap} {v p : PV} {H' : HMap} {A' : AMap} {S : St} (hp : resPVs P S fn.results.toList = some p) (hv : PV.wk H' S.A A' v p) (hok : v.oks (fun i => H' i ≠ none) (fun κ => A' κ ≠ none)) (hw : Wf H' A')
    (h1 : ∀ i, H' i ≠ none → S.H i = H' i) (h2 : ∀ κ, A' κ ≠ none → S.A κ = A' κ) (kH : ∀ id, H id ≠ none → H' id ≠ none) (kA : ∀ κ, A κ ≠ none → A' κ ≠ none) : RetR P fn H A v H' A' S :=
  RetR_of hp hv hok hw (fun i cs hi => ⟨cs, by rw [h1 i (by rw [hi]; simp), hi], wkC_same fun c hc => ok_mono (fun _ h => h) (fun κ h => ⟨h, (h2 κ h).symm⟩) (hw i cs c hi hc)⟩)
    (fun κ => by
      cases h : A' κ with
      | none => exact .inl rfl
      | some ar => exact .inr (.inl (by rw [h2 κ (by rw [h]; simp), h]))) kH kA
theorem eff_pure {P : Program} {f : FuncId} {args : List PV} {x : D} {n : Nat} {H : HMap} {A : AMap} (h : PureOK P f args (.one (.d x))) : EffOK P f n H A args (.c (.d x)) H A := by
  intro g w vals hm hd hab har
  obtain ⟨hcl, hok⟩ := h
  have key : ∀ (v : Value) (w' : World), (∃ g', PRep g' (RV.one (.d x)).am ((RV.one (.d x)).pv 0) v ∧ MRel g' noH (RV.one (.d x)).am w' ∧ Evol (gOnly g.C) noA w g' (RV.one (.d x)).am w') → ∃ g', PRep g' A (.c (.d x)) v ∧ MRel g' H A w' ∧ Evol g A w g' A w' ∧ DomOK g' H := by
    rintro v w' ⟨g', h1, h2, h3⟩
    obtain ⟨g'', m1, m2, m3, m4, m5⟩ := merge (id := n) hm (fun k => (hab n (Nat.le_refl _)).2 k) (rs := [.d x]) h2 h3
    refine ⟨g'', ?_, m1, m2, fun id hi => by rw [m3]; exact hd id hi⟩
    have h1' : DRep g'.C x v := h1
    show DRep g''.C x v
    rw [m4]
    exact h1'
  rcases hok g.C w vals hm.com ⟨har.1, fun k y hk => (har.2 k y hk).imp fun u hu => ⟨hu.1, PRep_closed (List.all_eq_true.1 hcl y (List.mem_of_getElem? hk)) hu.2⟩⟩ with ⟨h1, h2⟩ | ⟨v, w', h1, h2⟩
  · refine .inl ⟨h1, Calls.mono h2 (fun e w' he => ?_)⟩
    obtain ⟨v, hv, hr⟩ := he
    exact ⟨v, hv, key v w' hr⟩
  · exact .inr ⟨v, w', h1, key v w' h2⟩
theorem bytesEls_set (l : List UInt8) (i : Nat) (b : UInt8) : (bytesEls l).set i [.lit (.int .u8 (b.toNat : Int))] = bytesEls (l.set i b) := by
  unfold bytesEls
  rw [List.map_set]
end Go.PW
namespace Go.Proofs
open Go.PW
def flipB (s : List UInt8) (page : Nat) : List UInt8 := s.set (page / 8) (UInt8.ofNat (iXor .u8 ((s.getD (page / 8) 0).toNat : Nat) (bitV page)).toNat)
theorem flipB_len (s : List UInt8) (page : Nat) : (flipB s page).length = s.length := by simp [flipB]
theorem u8_wrap_range (n : Int) : 0 ≤ IntKind.u8.wrap n ∧ IntKind.u8.wrap n < 256 := by
  have h : IntKind.u8.wrap n = n % 256 := by
    unfold IntKind.wrap
    simp [IntKind.bits, IntKind.signed]
  rw [h]
  exact ⟨Int.emod_nonneg _ (by decide), Int.emod_lt_of_pos _ (by decide)⟩
section pg
variable {H : HMap} {A : AMap} {pid did lid : Nat} {κm κc κp : Tok} {d : Dk} {p : Pg}
set_option maxRecDepth 8000 in
set_option maxHeartbeats 8000000 in
theorem Try.kTurn (off : Nat) (hw : Wf H A) (hp : PgAt H A pid did lid κp p) (hd : DkAt H A did κm κc d) (hl : p.logs ≤ d.n) (hn : d.n ≤ 4096) (hcl : d.cache.length ≤ 1000000) (page : Nat) (hpg : page < pgN d p) (hlen : page / 8 < (pgRd d p 0).length) (hsm : (pgRd d p 0).length ≤ 1000000) :
    EffOK Try.prog 39 off H A [.c (.ptr pid 0), pD (.lit (.int .i64 page))] (.c .any) H (upd A κp (some (.mp (encNS (putN p.ch 0 (flipB (pgRd d p 0) page)))))) := by
  refine effr_ok (E := envOf Try.prog [19, 2000000 + 44, 1000000 + 88, 3000000 + 88] off [13] [2]) (envOf_ok Try.mixed) Try.func39 rfl Try.call39 (by kernel_rfl) (by exact Nat.le_of_ble_eq_true rfl) (fun hab => ?_)
  have hph := hp.h
  unfold encPg at hph
  have kb := Try.kBit page
  have kd := Try.kPgRead (off + 1000) hw hp hd hl hn hcl 0 (by omega)
  have c1 : IntKind.i64.wrap (Int.tdiv (page : Int) 8) = ((page / 8 : Nat) : Int) := by rw [show Int.tdiv (page : Int) 8 = ((page / 8 : Nat) : Int) from tdiv_nat page 8, Go.IntWalk.i64_in _ (by omega)]
  have hfr : flipB (pgRd d p 0) page = (pgRd d p 0).set (page / 8) (UInt8.ofNat (iXor .u8 (((pgRd d p 0)[page / 8]).toNat : Nat) (bitV page)).toNat) := by
    unfold flipB
    rw [List.getD_eq_getElem?_getD, List.getElem?_eq_getElem hlen]; rfl
  have hg : (bytesEls (pgRd d p 0))[page / 8]? = some [.lit (.int .u8 (((pgRd d p 0)[page / 8]).toNat : Nat))] := bytesEls_get hlen
  rw [hfr]
  generalize (pgRd d p 0)[page / 8] = x at *
  generalize pgRd d p 0 = s at *
  have ha : A (off + 13, 0) = none := (hab _ (Nat.le_add_right _ _)).2 _
  have hne : κp ≠ (off + 13, 0) := fun e => by have := hp.m; rw [e, ha] at this; cases this
  have hxr := u8_wrap_range (BitVec.ofInt IntKind.u8.bits (x.toNat : Nat) ^^^ BitVec.ofInt IntKind.u8.bits (bitV page)).toNat
  have hxe : iXor .u8 (x.toNat : Nat) (bitV page) = ((UInt8.ofNat (iXor .u8 (x.toNat : Nat) (bitV page)).toNat).toNat : Int) := by
    rw [UInt8.toNat_ofNat', Nat.mod_eq_of_lt (by unfold iXor; omega)]
    unfold iXor
    omega
  generalize hX : iXor .u8 (x.toNat : Nat) (bitV page) = X at *
  have h17 : idxE Try.prog 5 (page / 8) (.c (.mt (off + 13, 0) 1 s.length)) = some (.c (.mptr (off + 13, 0) 1 s.length (page / 8) 0)) := by
    show (if page / 8 < s.length ∧ 1 = Try.prog.cellsOf 5 then _ else none) = _
    rw [if_pos ⟨hlen, by rw [Try.cl5]⟩]
  have hbl : (s.length = (bytesEls s).length) = True := eq_true (bytesEls_length s).symm
  have hset : (bytesEls s).set (page / 8) [.lit (.int .u8 X)] = bytesEls (s.set (page / 8) (UInt8.ofNat X.toNat)) := by
    rw [← bytesEls_set, ← hxe]
  have hcv : convA Try.prog (upd A (off + 13, 0) (some (.mu 1 (bytesEls (s.set (page / 8) (UInt8.ofNat X.toNat)))))) 88 9 (.c (.mt (off + 13, 0) 1 s.length)) = some (.c (.d (dS (s.set (page / 8) (UInt8.ofNat X.toNat))))) :=
    convA_of Try.bytesT Try.underlying9 (by rw [List.length_set]) (upd_same _ _ _)
  have hmp : mapOf (upd A (off + 13, 0) (some (.mu 1 (bytesEls (s.set (page / 8) (UInt8.ofNat X.toNat)))))) (.c (.mpr κp)) = some (encNS p.ch) := mapOf_mpr (by rw [upd_other _ _ hne]; exact hp.m)
  have r32 : ((3 : Nat) == 2) = false := rfl
  repeat' (first
   |with_reducible first|refine vSq fun K hK=>?_|refine vRg ?_|refine vBl ?_|refine vSc ?_|refine vIf ?_|refine vSk ?_|refine vEx ?_|refine vRt ?_
   |(with_reducible first|refine gNt (fun h=>?_) (fun h=>?_)|refine gCs (fun h=>?_) (fun h=>?_))<;>(try simp only[h])
   |refine C_call rfl kd rfl (Above_mono hab (by omega)) ?_
   |refine W_bytesm Try.strT Try.bytesT rfl ha ?_
   |(refine C_quiet rfl rfl (eff_pure kb) rfl (Above_updA (Above_mono hab (by omega)) (by show off + 13 < off + 1000; omega)) ?_)
   |with_reducible first|(refine hK _ ?_;clear hK K)|(clear hK K;refine hK _ ?_;clear hK K)|(clear hK K;clear hK K;refine hK _ ?_;clear hK K)|(clear hK K;clear hK K;clear hK K;refine hK _ ?_;clear hK K)
   |(with_reducible refine todo ?_;simp +decide only[go_sem, r32, c1, h17, hbl, hg, hset, upd_twice, hX, hcv, hph, hmp, mfind_N]))
  refine RetR_sub rfl True.intro True.intro (Wf_arr hw upd_keep) (fun _ _ => rfl) (fun τ hτ => ?_) (fun _ h => h) upd_keep
  have h13 : τ ≠ (off + 13, 0) := fun e => by
    rw [e, upd_other _ _ hne.symm, ha] at hτ
    exact hτ rfl
  rw [← encNS_put]
  by_cases e : τ = κp
  · subst e
    rw [upd_same]
    exact upd_same _ _ _
  · rw [upd_other _ _ e]
    exact (upd_other _ _ e).trans (upd_other _ _ h13)
end pg
end Go.Proofs

namespace Go.Proofs
open Go.PW
section pg
variable {H : HMap} {A : AMap} {pid did lid : Nat} {κm κc κp : Tok} {d : Dk} {p : Pg}
def pgFrE (n : Nat) (s : List UInt8) (page : Int) : Int := if pgRight n page ≠ 0 then pgRight n page else if page = 0 then 1 else if freeB s page.toNat = true then 6 else 0
set_option maxRecDepth 8000 in
set_option maxHeartbeats 8000000 in
theorem Try.kPgFreeE (off : Nat) (hw : Wf H A) (hp : PgAt H A pid did lid κp p) (hd : DkAt H A did κm κc d) (hl : p.logs ≤ d.n) (hn : d.n ≤ 4096) (hcl : d.cache.length ≤ 1000000) (hlen : pgN d p ≤ 8 * (pgRd d p 0).length) (page : Int) (he : pgFrE (pgN d p) (pgRd d p 0) page ≠ 0) :
    EffOK Try.prog 25 off H A [.c (.ptr pid 0), pD (.lit (.int .i64 page))] (pD (.lit (.int .i64 (pgFrE (pgN d p) (pgRd d p 0) page)))) H A := by
  refine effr_ok (E := envOf Try.prog [41, 22, 39] off [] []) (envOf_ok Try.mixed) Try.func25 rfl Try.call25 (by kernel_rfl) (by exact Nat.le_of_ble_eq_true rfl) (fun hab => ?_)
  have kr := Try.kPgRight (off + 1000) hw hp hd hl hn page
  unfold pgFrE at he ⊢
  by_cases h1 : pgRight (pgN d p) page = 0
  · rw [if_neg (by simpa using h1)] at he ⊢
    have hrg : ¬ (page < 0 ∨ ((pgN d p : Nat) : Int) ≤ page) := fun h => by unfold pgRight at h1; rw [if_pos h] at h1; cases h1
    rw [h1] at kr
    by_cases h2 : page = 0
    · rw [if_pos h2]
      subst h2
      repeat' (first
       |with_reducible first|refine vSq fun K hK=>?_|refine vRg ?_|refine vBl ?_|refine vSc ?_|refine vIf ?_|refine vSk ?_|refine vEx ?_|refine vRt ?_
       |(with_reducible first|refine gNt (fun h=>?_) (fun h=>?_)|refine gCs (fun h=>?_) (fun h=>?_))<;>(try simp only[h])
       |refine C_call rfl kr rfl (Above_mono hab (by omega)) ?_
       |with_reducible first|(refine hK _ ?_;clear hK K)|(clear hK K;refine hK _ ?_;clear hK K)|(clear hK K;clear hK K;refine hK _ ?_;clear hK K)|(clear hK K;clear hK K;clear hK K;refine hK _ ?_;clear hK K)
       |(with_reducible refine todo ?_;simp +decide only[go_sem, zne]))
      exact RetR_same rfl (by simp +decide only [go_sem]) True.intro hw kp_refl (fun _ _ => rfl)
    · have z : (page == 0) = false := by simpa using h2
      rw [if_neg h2] at he ⊢
      obtain ⟨q, rfl⟩ : ∃ q : Nat, page = (q : Int) := ⟨page.toNat, by omega⟩
      have kf := Try.kIsFree (off + 1000) hw hp hd hl hn hcl q (by omega) (by omega) (by omega)
      rw [Int.toNat_natCast] at he ⊢
      by_cases h3 : freeB (pgRd d p 0) q = true
      · rw [h3] at kf
        rw [if_pos h3]
        repeat' (first
         |with_reducible first|refine vSq fun K hK=>?_|refine vRg ?_|refine vBl ?_|refine vSc ?_|refine vIf ?_|refine vSk ?_|refine vEx ?_|refine vRt ?_
         |(with_reducible first|refine gNt (fun h=>?_) (fun h=>?_)|refine gCs (fun h=>?_) (fun h=>?_))<;>(try simp only[h])
         |refine C_call rfl kr rfl (Above_mono hab (by omega)) ?_
         |refine C_call rfl kf rfl (Above_mono hab (by omega)) ?_
         |with_reducible first|(refine hK _ ?_;clear hK K)|(clear hK K;refine hK _ ?_;clear hK K)|(clear hK K;clear hK K;refine hK _ ?_;clear hK K)|(clear hK K;clear hK K;clear hK K;refine hK _ ?_;clear hK K)
         |(with_reducible refine todo ?_;simp +decide only[go_sem, zne, z]))
        exact RetR_same rfl (by simp +decide only [go_sem]) True.intro hw kp_refl (fun _ _ => rfl)
      · rw [if_neg h3] at he
        exact (he rfl).elim
  · rw [if_pos (by simpa using h1)]
    have z : (pgRight (pgN d p) page != 0) = true := by simpa using h1
    repeat' (first
     |with_reducible first|refine vSq fun K hK=>?_|refine vRg ?_|refine vBl ?_|refine vSc ?_|refine vIf ?_|refine vSk ?_|refine vEx ?_|refine vRt ?_
     |(with_reducible first|refine gNt (fun h=>?_) (fun h=>?_)|refine gCs (fun h=>?_) (fun h=>?_))<;>(try simp only[h])
     |refine C_call rfl kr rfl (Above_mono hab (by omega)) ?_
     |with_reducible first|(refine hK _ ?_;clear hK K)|(clear hK K;refine hK _ ?_;clear hK K)|(clear hK K;clear hK K;refine hK _ ?_;clear hK K)|(clear hK K;clear hK K;clear hK K;refine hK _ ?_;clear hK K)
     |(with_reducible refine todo ?_;simp +decide only[go_sem, z]))
    exact RetR_same rfl (by simp +decide only [go_sem]) True.intro hw kp_refl (fun _ _ => rfl)
set_option maxRecDepth 8000 in
set_option maxHeartbeats 8000000 in
theorem Try.kPgFree (off : Nat) (hw : Wf H A) (hp : PgAt H A pid did lid κp p) (hd : DkAt H A did κm κc d) (hl : p.logs ≤ d.n) (hn : d.n ≤ 4096) (hcl : d.cache.length ≤ 1000000) (hlen : pgN d p ≤ 8 * (pgRd d p 0).length) (hsm : (pgRd d p 0).length ≤ 1000000)
    (q : Nat) (h0 : q ≠ 0) (hq : q < pgN d p) (hf : freeB (pgRd d p 0) q = false) :
    EffOK Try.prog 25 off H A [.c (.ptr pid 0), pD (.lit (.int .i64 q))] (pD (.lit (.int .i64 0))) H (upd A κp (some (.mp (encNS (putN p.ch 0 (flipB (pgRd d p 0) q)))))) := by
  refine effr_ok (E := envOf Try.prog [41, 22, 39] off [] []) (envOf_ok Try.mixed) Try.func25 rfl Try.call25 (by kernel_rfl) (by exact Nat.le_of_ble_eq_true rfl) (fun hab => ?_)
  have kr := Try.kPgRight (off + 1000) hw hp hd hl hn q
  have e0 : pgRight (pgN d p) q = 0 := by unfold pgRight; rw [if_neg (by omega)]
  rw [e0] at kr
  have kf := Try.kIsFree (off + 1000) hw hp hd hl hn hcl q h0 hq (by omega)
  rw [hf] at kf
  have kt := Try.kTurn (off + 1000) hw hp hd hl hn hcl q hq (by omega) hsm
  have z : ((q : Int) == 0) = false := by rw [beq_eq_false_iff_ne]; omega
  repeat' (first
   |with_reducible first|refine vSq fun K hK=>?_|refine vRg ?_|refine vBl ?_|refine vSc ?_|refine vIf ?_|refine vSk ?_|refine vEx ?_|refine vRt ?_
   |(with_reducible first|refine gNt (fun h=>?_) (fun h=>?_)|refine gCs (fun h=>?_) (fun h=>?_))<;>(try simp only[h])
   |refine C_call rfl kr rfl (Above_mono hab (by omega)) ?_
   |refine C_call rfl kf rfl (Above_mono hab (by omega)) ?_
   |refine C_call rfl kt rfl (Above_mono hab (by omega)) ?_
   |with_reducible first|(refine hK _ ?_;clear hK K)|(clear hK K;refine hK _ ?_;clear hK K)|(clear hK K;clear hK K;refine hK _ ?_;clear hK K)|(clear hK K;clear hK K;clear hK K;refine hK _ ?_;clear hK K)
   |(with_reducible refine todo ?_;simp +decide only[go_sem, zne, z]))
  exact RetR_arr rfl (by simp +decide only [go_sem]) True.intro hw kp_refl rfl upd_keep
set_option maxRecDepth 8000 in
set_option maxHeartbeats 16000000 in
theorem Try.kPgAllocN (off : Nat) (hw : Wf H A) (hp : PgAt H A pid did lid κp p) (hd : DkAt H A did κm κc d) (hl : p.logs ≤ d.n) (hn : d.n ≤ 4096) (hcl : d.cache.length ≤ 1000000) (hlen : pgN d p ≤ 8 * (pgRd d p 0).length)
    (hno : ∀ i, i ≠ 0 → i < pgN d p → freeB (pgRd d p 0) i = false) :
    EffOK Try.prog 15 off H A [.c (.ptr pid 0)] (.tup [.c (.d (.lit (.int .i64 0))), .c (.d (.lit (.int .i64 3)))]) H A := by
  refine effr_ok (E := envOf Try.prog [29, 24, 22, 39] off [] []) (envOf_ok Try.mixed) Try.func15 rfl Try.call15 (by kernel_rfl) (by exact Nat.le_of_ble_eq_true rfl) (fun hab => ?_)
  have kt := Try.kThere (off + 1000) hw hp
  have kl := Try.kPgLen (off + 1000) hw hp hd hl hn
  have hN : pgN d p ≤ 4096 := by unfold pgN; omega
  have hptr := fun {X Y : AMap} => hp.ptr (A1 := X) (A2 := Y)
  have kf : ∀ i : Nat, i < pgN d p → EffOK Try.prog 22 (off + 1000) H A [.c (.ptr pid 0), pD (.lit (.int .i64 i))] (pD (.lit (.bool false))) H A := fun i hi => by
    by_cases h0 : i = 0
    · subst h0
      exact Try.kIsFree0 (pid := pid) (off + 1000) hw
    · have := Try.kIsFree (off + 1000) hw hp hd hl hn hcl i h0 hi (by omega)
      rw [hno i h0 hi] at this
      exact this
  repeat' (first
   |with_reducible first|refine vSq fun K hK=>?_|refine vRg ?_|refine vBl ?_|refine vSc ?_|refine vIf ?_|refine vSk ?_|refine vEx ?_|refine vRt ?_
   |(with_reducible first|refine gNt (fun h=>?_) (fun h=>?_)|refine gCs (fun h=>?_) (fun h=>?_))<;>(try simp only[h])
   |refine C_call rfl kt rfl (Above_mono hab (by omega)) ?_
   |refine C_call rfl kl rfl (Above_mono hab (by omega)) ?_
   |with_reducible first|(refine hK _ ?_;clear hK K)|(clear hK K;refine hK _ ?_;clear hK K)|(clear hK K;clear hK K;refine hK _ ?_;clear hK K)|(clear hK K;clear hK K;clear hK K;refine hK _ ?_;clear hK K)
   |(with_reducible refine todo ?_;simp +decide only[go_sem]))
  refine VC_range (pgN d p) (fun _ => True) (fun i => over [(0, .c (.ptr pid 0)), (9, pD (.lit (.int .i64 (pgN d p)))), (10, pD (.lit (.int .i64 i)))] [] H A) True.intro ?_ ?_
  · refine Weak_overG hw (fun _ _ => rfl) rfl ?_ ?_ (fun i hi => hi) (fun _ h => h)
    · simp +decide only [go_sem, hptr]
    · simp +decide only [go_sem]
  · intro i hi _
    rcases Nat.lt_or_ge i (pgN d p) with hi2 | hi2
    · have hc := int_lt_true hi2
      have hnx := int_next hi2 (by omega)
      have kfi := kf i hi2
      repeat' (first
       |with_reducible first|refine vSq fun K hK=>?_|refine vRg ?_|refine vBl ?_|refine vSc ?_|refine vIf ?_|refine vSk ?_|refine vEx ?_|refine vRt ?_
       |(with_reducible first|refine gNt (fun h=>?_) (fun h=>?_)|refine gCs (fun h=>?_) (fun h=>?_))<;>(try simp only[h])
       |refine C_call rfl kfi rfl (Above_mono hab (by omega)) ?_
       |with_reducible first|(refine hK _ ?_;clear hK K)|(clear hK K;refine hK _ ?_;clear hK K)|(clear hK K;clear hK K;refine hK _ ?_;clear hK K)|(clear hK K;clear hK K;clear hK K;refine hK _ ?_;clear hK K)
       |(with_reducible refine todo ?_;simp +decide only[go_sem, hc, hnx]))
      refine Next_of hi2 True.intro (Weak_overG hw kp_nil rfl ?_ ?_ (fun i hi => hi) (fun _ h => h))
      · simp +decide only [go_sem, hptr]
      · simp +decide only [go_sem]
    · have hc := int_lt_false hi2
      have hie : i = pgN d p := by omega
      subst hie
      repeat' (first
       |with_reducible first|refine vSq fun K hK=>?_|refine vRg ?_|refine vBl ?_|refine vSc ?_|refine vIf ?_|refine vSk ?_|refine vEx ?_|refine vRt ?_
       |(with_reducible first|refine gNt (fun h=>?_) (fun h=>?_)|refine gCs (fun h=>?_) (fun h=>?_))<;>(try simp only[h])
       |with_reducible first|(refine hK _ ?_;clear hK K)|(clear hK K;refine hK _ ?_;clear hK K)|(clear hK K;clear hK K;refine hK _ ?_;clear hK K)|(clear hK K;clear hK K;clear hK K;refine hK _ ?_;clear hK K)
       |(with_reducible refine todo ?_;simp +decide only[go_sem, hc]))
      exact RetR_same rfl wk_pair oks_pair hw kp_nil (fun _ _ => rfl)
set_option maxRecDepth 8000 in
set_option maxHeartbeats 16000000 in
theorem Try.kPgAlloc (off : Nat) (hw : Wf H A) (hp : PgAt H A pid did lid κp p) (hd : DkAt H A did κm κc d) (hl : p.logs ≤ d.n) (hn : d.n ≤ 4096) (hcl : d.cache.length ≤ 1000000) (hlen : pgN d p ≤ 8 * (pgRd d p 0).length) (hsm : (pgRd d p 0).length ≤ 1000000)
    (q : Nat) (h0 : q ≠ 0) (hq : q < pgN d p) (hf : freeB (pgRd d p 0) q = true) (hno : ∀ i, i ≠ 0 → i < q → freeB (pgRd d p 0) i = false) :
    EffOK Try.prog 15 off H A [.c (.ptr pid 0)] (.tup [.c (.d (.lit (.int .i64 q))), .c (.d (.lit (.int .i64 0)))]) H (upd A κp (some (.mp (encNS (putN (putN p.ch 0 (flipB (pgRd d p 0) q)) q zeros))))) := by
  refine effr_ok (E := envOf Try.prog [29, 24, 22, 39] off [] []) (envOf_ok Try.mixed) Try.func15 rfl Try.call15 (by kernel_rfl) (by exact Nat.le_of_ble_eq_true rfl) (fun hab => ?_)
  have kt := Try.kThere (off + 1000) hw hp
  have kl := Try.kPgLen (off + 1000) hw hp hd hl hn
  have ke := Try.kEmptyP
  have ktn := Try.kTurn (off + 1000) hw hp hd hl hn hcl q hq (by omega) hsm
  have hph := hp.h
  unfold encPg at hph
  have hN : pgN d p ≤ 4096 := by unfold pgN; omega
  have hptr := fun {X Y : AMap} => hp.ptr (A1 := X) (A2 := Y)
  have kfn : ∀ i : Nat, i < q → EffOK Try.prog 22 (off + 1000) H A [.c (.ptr pid 0), pD (.lit (.int .i64 i))] (pD (.lit (.bool false))) H A := fun i hi => by
    by_cases h0 : i = 0
    · subst h0
      exact Try.kIsFree0 (pid := pid) (off + 1000) hw
    · have := Try.kIsFree (off + 1000) hw hp hd hl hn hcl i h0 (by omega) (by omega)
      rw [hno i h0 hi] at this
      exact this
  have kfy := Try.kIsFree (off + 1000) hw hp hd hl hn hcl q h0 hq (by omega)
  rw [hf] at kfy
  repeat' (first
   |with_reducible first|refine vSq fun K hK=>?_|refine vRg ?_|refine vBl ?_|refine vSc ?_|refine vIf ?_|refine vSk ?_|refine vEx ?_|refine vRt ?_
   |(with_reducible first|refine gNt (fun h=>?_) (fun h=>?_)|refine gCs (fun h=>?_) (fun h=>?_))<;>(try simp only[h])
   |refine C_call rfl kt rfl (Above_mono hab (by omega)) ?_
   |refine C_call rfl kl rfl (Above_mono hab (by omega)) ?_
   |with_reducible first|(refine hK _ ?_;clear hK K)|(clear hK K;refine hK _ ?_;clear hK K)|(clear hK K;clear hK K;refine hK _ ?_;clear hK K)|(clear hK K;clear hK K;clear hK K;refine hK _ ?_;clear hK K)
   |(with_reducible refine todo ?_;simp +decide only[go_sem]))
  refine VC_range (pgN d p) (fun i => i ≤ q) (fun i => over [(0, .c (.ptr pid 0)), (9, pD (.lit (.int .i64 (pgN d p)))), (10, pD (.lit (.int .i64 i)))] [] H A) (Nat.zero_le _) ?_ ?_
  · refine Weak_overG hw (fun _ _ => rfl) rfl ?_ ?_ (fun i hi => hi) (fun _ h => h)
    · simp +decide only [go_sem, hptr]
    · simp +decide only [go_sem]
  · intro i hi hiq
    have hi2 : i < pgN d p := by omega
    have hc := int_lt_true hi2
    have hnx := int_next hi2 (by omega)
    by_cases hlt : i < q
    · have kfi := kfn i hlt
      repeat' (first
       |with_reducible first|refine vSq fun K hK=>?_|refine vRg ?_|refine vBl ?_|refine vSc ?_|refine vIf ?_|refine vSk ?_|refine vEx ?_|refine vRt ?_
       |(with_reducible first|refine gNt (fun h=>?_) (fun h=>?_)|refine gCs (fun h=>?_) (fun h=>?_))<;>(try simp only[h])
       |refine C_call rfl kfi rfl (Above_mono hab (by omega)) ?_
       |with_reducible first|(refine hK _ ?_;clear hK K)|(clear hK K;refine hK _ ?_;clear hK K)|(clear hK K;clear hK K;refine hK _ ?_;clear hK K)|(clear hK K;clear hK K;clear hK K;refine hK _ ?_;clear hK K)
       |(with_reducible refine todo ?_;simp +decide only[go_sem, hc, hnx]))
      refine Next_of hi2 (by omega) (Weak_overG hw kp_nil rfl ?_ ?_ (fun i hi => hi) (fun _ h => h))
      · simp +decide only [go_sem, hptr]
      · simp +decide only [go_sem]
    · obtain rfl : i = q := by omega
      generalize hch : putN p.ch 0 (flipB (pgRd d p 0) i) = ch at *
      have hmp : mapOf (upd A κp (some (.mp (encNS ch)))) (.c (.mpr κp)) = some (encNS ch) := mapOf_mpr (upd_same _ _ _)
      rw [← encNS_put]
      repeat' (first
       |with_reducible first|refine vSq fun K hK=>?_|refine vRg ?_|refine vBl ?_|refine vSc ?_|refine vIf ?_|refine vSk ?_|refine vEx ?_|refine vRt ?_
       |(with_reducible first|refine gNt (fun h=>?_) (fun h=>?_)|refine gCs (fun h=>?_) (fun h=>?_))<;>(try simp only[h])
       |refine C_call rfl kfy rfl (Above_mono hab (by omega)) ?_
       |refine C_call rfl ktn rfl (Above_mono hab (by omega)) ?_
       |(refine C_pure ke rfl rfl (fun k => (Above_updA hab (Nat.lt_of_not_le fun h => by have := hp.m; rw [(hab κp.1 h).2 κp.2] at this; cases this) _ (Nat.le_add_right _ _)).2 k) ?_)
       |with_reducible first|(refine hK _ ?_;clear hK K)|(clear hK K;refine hK _ ?_;clear hK K)|(clear hK K;clear hK K;refine hK _ ?_;clear hK K)|(clear hK K;clear hK K;clear hK K;refine hK _ ?_;clear hK K)
       |(with_reducible refine todo ?_;simp +decide only[go_sem, hc, hph, hmp, mfind_N, upd_twice]))
      exact RetR_arr rfl wk_pair oks_pair hw kp_nil rfl upd_keep
end pg
end Go.Proofs

namespace Go.Proofs
open Go.PW
def recK (m : List (Int × List UInt8)) : Nat → List UInt8
  | 0 => uintB m.length
  | k + 1 => match findN (k : Int) m 0 with
    | some r => recK m k ++ (uintB k ++ textB (bareL r.2))
    | none => recK m k
theorem bareL_len (s : List UInt8) : (bareL s).length ≤ s.length := by
  unfold bareL
  rw [List.length_reverse]
  exact Nat.le_trans (List.dropWhile_sublist _).length_le (by rw [List.length_reverse]; exact Nat.le_refl _)
theorem recK_len {m : List (Int × List UInt8)} (hlen : ∀ k r, findN k m 0 = some r → r.2.length ≤ 128) : ∀ k, (recK m k).length ≤ 11 + 150 * k
  | 0 => by
    have := uintB_len m.length
    unfold recK
    omega
  | k + 1 => by
    have ih := recK_len hlen k
    unfold recK
    split
    · rename_i r hf
      have h1 := hlen _ _ hf
      have h2 := bareL_len r.2
      have h3 := uintB_len k
      have h4 := uintB_len (bareL r.2).length
      unfold textB
      simp only [List.length_append]
      omega
    · omega
section pg
variable {H : HMap} {A : AMap} {pid did lid : Nat} {κm κc κp κ : Tok} {d : Dk} {p : Pg} {m : List (Int × List UInt8)}
set_option maxRecDepth 8000 in
set_option maxHeartbeats 16000000 in
theorem Try.kRecord (off : Nat) (hw : Wf H A) (hp : PgAt H A pid did lid κp p) (hd : DkAt H A did κm κc d) (hl : p.logs ≤ d.n) (hn : d.n ≤ 4096) (hm : A κ = some (.mp (encNS m))) (hml : m.length ≤ 1000000) (hlen : ∀ k r, findN k m 0 = some r → r.2.length ≤ 128) :
    EffOK Try.prog 30 off H A [.c (.ptr pid 0), .c (.mpr κ)] (pD (dS (recK m (pgN d p)))) H A := by
  refine effr_ok (E := envOf Try.prog [24, 5000000 + 47] off [] []) (envOf_ok Try.mixed) Try.func30 rfl Try.call30 (by kernel_rfl) (by exact Nat.le_of_ble_eq_true rfl) (fun hab => ?_)
  have kl := Try.kPgLen (off + 1000) hw hp hd hl hn
  have hN : pgN d p ≤ 4096 := by unfold pgN; omega
  have ku0 := Try.kUint m.length (by omega)
  have hlm : lenM Try.prog A [47] [.c (.mpr κ)] = some (.c (.d (.lit (.int .i64 m.length)))) := by
    have := lenM_of (P := Try.prog) (t := 47) Try.underlying47 hm
    rw [this]
    unfold encNS
    rw [List.length_map]
  have hmp : mapOf A (.c (.mpr κ)) = some (encNS m) := mapOf_mpr hm
  have hptr := fun {X Y : AMap} => hp.ptr (A1 := X) (A2 := Y)
  have hmpr : ∀ {G : HMap}, PV.wk G A A (.c (.mpr κ)) (.c (.mpr κ)) = True := fun {G} => eq_true (wk_c (.inr (.inl ⟨rfl, by rw [hm]; simp, rfl⟩)))
  have w64 : ∀ n : Nat, n ≤ 1000000 → IntKind.u64.wrap (n : Int) = ((n : Nat) : Int) := fun n hn => Go.IntWalk.u64_in _ (by omega)
  have w0 := w64 m.length hml
  have hrl := recK_len (m := m) hlen
  repeat' (first
   |with_reducible first|refine vSq fun K hK=>?_|refine vRg ?_|refine vBl ?_|refine vSc ?_|refine vIf ?_|refine vSk ?_|refine vEx ?_|refine vRt ?_
   |(with_reducible first|refine gNt (fun h=>?_) (fun h=>?_)|refine gCs (fun h=>?_) (fun h=>?_))<;>(try simp only[h])
   |refine C_call rfl kl rfl (Above_mono hab (by omega)) ?_
   |refine C_pure ku0 rfl rfl (fun k => (hab _ (Nat.le_add_right _ _)).2 k) ?_
   |with_reducible first|(refine hK _ ?_;clear hK K)|(clear hK K;refine hK _ ?_;clear hK K)|(clear hK K;clear hK K;refine hK _ ?_;clear hK K)|(clear hK K;clear hK K;clear hK K;refine hK _ ?_;clear hK K)
   |(with_reducible refine todo ?_;simp +decide only[go_sem, hlm, w0]))
  refine VC_range (pgN d p) (fun _ => True) (fun i => over [(0, .c (.ptr pid 0)), (1, .c (.mpr κ)), (5, pD (dS (recK m i))), (14, pD (.lit (.int .i64 (pgN d p)))), (15, pD (.lit (.int .i64 i)))] [] H A) True.intro ?_ ?_
  · refine Weak_overG hw (fun _ _ => rfl) rfl ?_ ?_ (fun i hi => hi) (fun _ h => h)
    · simp +decide only [go_sem, hptr, hmpr, recK]
    · simp +decide only [go_sem]
  · intro i hi _
    rcases Nat.lt_or_ge i (pgN d p) with hi2 | hi2
    · have hc := int_lt_true hi2
      have hnx := int_next hi2 (by omega)
      have wi := w64 i (by omega)
      have hri := hrl i
      cases hf : findN (i : Int) m 0 with
      | none =>
        have e : recK m (i + 1) = recK m i := by rw [recK, hf]
        repeat' (first
         |with_reducible first|refine vSq fun K hK=>?_|refine vRg ?_|refine vBl ?_|refine vSc ?_|refine vIf ?_|refine vSk ?_|refine vEx ?_|refine vRt ?_
         |(with_reducible first|refine gNt (fun h=>?_) (fun h=>?_)|refine gCs (fun h=>?_) (fun h=>?_))<;>(try simp only[h])
         |with_reducible first|(refine hK _ ?_;clear hK K)|(clear hK K;refine hK _ ?_;clear hK K)|(clear hK K;clear hK K;refine hK _ ?_;clear hK K)|(clear hK K;clear hK K;clear hK K;refine hK _ ?_;clear hK K)
         |(with_reducible refine todo ?_;simp +decide only[go_sem, hc, hnx, hmp, mfind_N, hf]))
        refine Next_of hi2 True.intro (Weak_overG hw kp_nil rfl ?_ ?_ (fun i hi => hi) (fun _ h => h))
        · simp +decide only [go_sem, hptr, hmpr, e]
        · simp +decide only [go_sem]
      | some r =>
        have e : recK m (i + 1) = recK m i ++ (uintB i ++ textB (bareL r.2)) := by rw [recK, hf]
        have h1 := hlen _ _ hf
        have h2 := bareL_len r.2
        have h3 := uintB_len i
        have h4 : (textB (bareL r.2)).length ≤ 150 := by
          have h5 := uintB_len (bareL r.2).length
          unfold textB
          simp only [List.length_append]
          omega
        have ku := Try.kUint i (by omega)
        have kb := Try.kBare r.2 (by omega)
        have kt := Try.kText (bareL r.2) (by omega)
        generalize textB (bareL r.2) = tb at *
        generalize uintB i = ub at *
        have s1 : (ub.length + tb.length ≤ 9223372036854775807) = True := eq_true (by omega)
        have s2 : ((recK m i).length + (ub.length + tb.length) ≤ 9223372036854775807) = True := eq_true (by omega)
        generalize recK m i = rk at *
        repeat' (first
         |with_reducible first|refine vSq fun K hK=>?_|refine vRg ?_|refine vBl ?_|refine vSc ?_|refine vIf ?_|refine vSk ?_|refine vEx ?_|refine vRt ?_
         |(with_reducible first|refine gNt (fun h=>?_) (fun h=>?_)|refine gCs (fun h=>?_) (fun h=>?_))<;>(try simp only[h])
         |refine C_pure ku rfl rfl (fun k => (hab _ (Nat.le_add_right _ _)).2 k) ?_
         |refine C_pure kb rfl rfl (fun k => (hab _ (Nat.le_add_right _ _)).2 k) ?_
         |refine C_pure kt rfl rfl (fun k => (hab _ (Nat.le_add_right _ _)).2 k) ?_
         |with_reducible first|(refine hK _ ?_;clear hK K)|(clear hK K;refine hK _ ?_;clear hK K)|(clear hK K;clear hK K;refine hK _ ?_;clear hK K)|(clear hK K;clear hK K;clear hK K;refine hK _ ?_;clear hK K)
         |(with_reducible refine todo ?_;simp +decide only[go_sem, hc, hnx, hmp, mfind_N, hf, wi, s1, s2]))
        refine Next_of hi2 True.intro (Weak_overG hw kp_nil rfl ?_ ?_ (fun i hi => hi) (fun _ h => h))
        · simp +decide only [go_sem, hptr, hmpr, e]
        · simp +decide only [go_sem]
    · have hc := int_lt_false hi2
      have hie : i = pgN d p := by omega
      subst hie
      repeat' (first
       |with_reducible first|refine vSq fun K hK=>?_|refine vRg ?_|refine vBl ?_|refine vSc ?_|refine vIf ?_|refine vSk ?_|refine vEx ?_|refine vRt ?_
       |(with_reducible first|refine gNt (fun h=>?_) (fun h=>?_)|refine gCs (fun h=>?_) (fun h=>?_))<;>(try simp only[h])
       |with_reducible first|(refine hK _ ?_;clear hK K)|(clear hK K;refine hK _ ?_;clear hK K)|(clear hK K;clear hK K;refine hK _ ?_;clear hK K)|(clear hK K;clear hK K;clear hK K;refine hK _ ?_;clear hK K)
       |(with_reducible refine todo ?_;simp +decide only[go_sem, hc]))
      exact RetR_same rfl (by simp +decide only [go_sem]) True.intro hw kp_nil (fun _ _ => rfl)
end pg
end Go.Proofs

namespace Go.PW
variable {P : Program} {H H' : HMap} {A A' : AMap}
theorem hOver_out : ∀ {l : List (Nat × List CV)} {t : Nat}, (∀ q ∈ l, q.1 ≠ t) → hOver l H t = H t
  | [], _, _ => rfl
  | (u, x) :: r, t, h => by
    unfold hOver
    rw [if_neg (fun e => h (u, x) List.mem_cons_self e.symm)]
    exact hOver_out fun q hq => h q (List.mem_cons_of_mem _ hq)
theorem hOver_in : ∀ {l : List (Nat × List CV)} {t : Nat}, (∃ q ∈ l, q.1 = t) → hOver l H t = hOver l H' t ∧ hOver l H t ≠ none
  | [], _, h => by obtain ⟨q, hq, _⟩ := h; cases hq
  | (u, x) :: r, t, h => by
    unfold hOver
    by_cases e : t = u
    · rw [if_pos e, if_pos e]
      exact ⟨rfl, by simp⟩
    · rw [if_neg e, if_neg e]
      obtain ⟨q, hq, he⟩ := h
      rcases List.mem_cons.1 hq with rfl | hq
      · exact (e he.symm).elim
      · exact hOver_in ⟨q, hq, he⟩
theorem eff_lay {f : FuncId} {n : Nat} {args : List PV} {v : PV} (l : List (Nat × List CV)) (h : EffOK P f n H A args v H' A') (hw : Wf H A) (hargs : ∀ x ∈ args, x.oks (fun i => H i ≠ none) (fun κ => A κ ≠ none)) (h0 : ∀ q ∈ l, H q.1 = none) (h1 : ∀ q ∈ l, H' q.1 = none) :
    EffOK P f n (hOver l H) A args v (hOver l H') A' := by
  have key : ∀ i, (∃ q ∈ l, q.1 = i) ∨ ∀ q ∈ l, q.1 ≠ i := fun i => by
    by_cases h : ∃ q ∈ l, q.1 = i
    · exact .inl h
    · exact .inr fun q hq e => h ⟨q, hq, e⟩
  refine eff_ext h hw hargs (fun i hi => hOver_out fun q hq e => hi (by rw [← e]; exact h0 q hq)) (fun i hi h2 => ?_) (fun i hi => ?_)
  · rcases key i with k | k
    · obtain ⟨q, hq, e⟩ := k
      exact ⟨(hOver_in ⟨q, hq, e⟩).1, by rw [← e]; exact h1 q hq⟩
    · rw [hOver_out k] at h2
      exact (h2 hi).elim
  · refine hOver_out fun q hq e => ?_
    rcases hi with hi | hi
    · exact hi (by rw [← e]; exact h0 q hq)
    · exact (hOver_in (H' := H) ⟨q, hq, e⟩).2 hi
end Go.PW
namespace Go.Proofs
open Go.PW
section pg
variable {H H' : HMap} {A A' : AMap} {a b pid did lid : Nat} {κp : Tok} {p : Pg}
set_option maxRecDepth 8000 in
set_option maxHeartbeats 8000000 in
theorem Try.kStep1 (off : Nat) {s : List UInt8} {e : Int} (ha : H a = some [.ptr pid 0]) (hb : H b = some [.d (dS s)]) (hp : PgAt H A pid did lid κp p) (hc : EffOK Try.prog 33 (off + 1000) H A [.c (.ptr lid 0), pD (dS s)] (pD (.lit (.int .i64 e))) H' A') (hw : Wf H' A')
    (kH : ∀ i, H i ≠ none → H' i ≠ none) (kA : ∀ κ, A κ ≠ none → A' κ ≠ none) : EffOK Try.prog 32 off H A [.c (.ptr a 0), .c (.ptr b 0)] (pD (.lit (.int .i64 e))) H' A' := by
  refine effr_ok (E := envOf Try.prog [33] off [] []) (envOf_ok Try.mixed) Try.func32 rfl Try.call32 (by kernel_rfl) (by exact Nat.le_of_ble_eq_true rfl) (fun hab => ?_)
  have hph := hp.h
  unfold encPg at hph
  repeat' (first
   |with_reducible first|refine vSq fun K hK=>?_|refine vRg ?_|refine vBl ?_|refine vSc ?_|refine vIf ?_|refine vSk ?_|refine vEx ?_|refine vRt ?_
   |(with_reducible first|refine gNt (fun h=>?_) (fun h=>?_)|refine gCs (fun h=>?_) (fun h=>?_))<;>(try simp only[h])
   |refine C_call rfl hc rfl (Above_mono hab (by omega)) ?_
   |with_reducible first|(refine hK _ ?_;clear hK K)|(clear hK K;refine hK _ ?_;clear hK K)|(clear hK K;clear hK K;refine hK _ ?_;clear hK K)|(clear hK K;clear hK K;clear hK K;refine hK _ ?_;clear hK K)
   |(with_reducible refine todo ?_;simp +decide only[go_sem, ha, hb, hph]))
  exact RetR_eq rfl (wk_c (.inr (.inl ⟨rfl, True.intro⟩))) True.intro hw (fun _ _ => rfl) rfl kH kA
set_option maxRecDepth 8000 in
set_option maxHeartbeats 8000000 in
theorem Try.kStep2 (off : Nat) {e : Int} (ha : H a = some [.ptr pid 0]) (hp : PgAt H A pid did lid κp p) (hc : EffOK Try.prog 36 (off + 1000) H A [.c (.ptr pid 0), .c (.mpr κp)] (pD (.lit (.int .i64 e))) H' A') (hw : Wf H' A')
    (kH : ∀ i, H i ≠ none → H' i ≠ none) (kA : ∀ κ, A κ ≠ none → A' κ ≠ none) : EffOK Try.prog 35 off H A [.c (.ptr a 0)] (pD (.lit (.int .i64 e))) H' A' := by
  refine effr_ok (E := envOf Try.prog [36] off [] []) (envOf_ok Try.mixed) Try.func35 rfl Try.call35 (by kernel_rfl) (by exact Nat.le_of_ble_eq_true rfl) (fun hab => ?_)
  have hph := hp.h
  unfold encPg at hph
  repeat' (first
   |with_reducible first|refine vSq fun K hK=>?_|refine vRg ?_|refine vBl ?_|refine vSc ?_|refine vIf ?_|refine vSk ?_|refine vEx ?_|refine vRt ?_
   |(with_reducible first|refine gNt (fun h=>?_) (fun h=>?_)|refine gCs (fun h=>?_) (fun h=>?_))<;>(try simp only[h])
   |refine C_call rfl hc rfl (Above_mono hab (by omega)) ?_
   |with_reducible first|(refine hK _ ?_;clear hK K)|(clear hK K;refine hK _ ?_;clear hK K)|(clear hK K;clear hK K;refine hK _ ?_;clear hK K)|(clear hK K;clear hK K;clear hK K;refine hK _ ?_;clear hK K)
   |(with_reducible refine todo ?_;simp +decide only[go_sem, ha, hph]))
  exact RetR_eq rfl (wk_c (.inr (.inl ⟨rfl, True.intro⟩))) True.intro hw (fun _ _ => rfl) rfl kH kA
end pg
end Go.Proofs
