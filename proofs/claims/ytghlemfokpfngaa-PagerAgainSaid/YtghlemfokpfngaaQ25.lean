/-
  Parts of the proof, laid together: PwHk, PwHm, PwHn.
-/
import Derived.Test.YtghlemfokpfngaaQ24

namespace Go.PW
theorem RetR_own {P : Program} {fn : Func} {H H1 : HMap} {A A1 : AMap} {S : St} {x : D} {id : Nat} {cs ds : List CV} {κ' : Tok} {sz : Nat} (hp : resPVs P S fn.results.toList = some (.c (.d x))) (hw1 : Wf H1 A1) (h1 : ∀ i, i ≠ id → H1 i ≠ none → S.H i = H1 i) (h2 : S.H id = some ds) (h3 : S.A = A1) (hκ : A1 κ' = none)
    (hcs : wkCells (upd H1 id (some cs)) A1 (upd A1 κ' (some (.co sz 0))) cs ds) (hok : ∀ c ∈ cs, c.ok (fun i => upd H1 id (some cs) i ≠ none) (fun κ => upd A1 κ' (some (.co sz 0)) κ ≠ none)) (kH : ∀ i, H i ≠ none → H1 i ≠ none) (kA : ∀ κ, A κ ≠ none → A1 κ ≠ none) :
    RetR P fn H A (.c (.d x)) (upd H1 id (some cs)) (upd A1 κ' (some (.co sz 0))) S := by
  subst h3
  have tk : ∀ κ, S.A κ ≠ none → upd S.A κ' (some (.co sz 0)) κ ≠ none ∧ upd S.A κ' (some (.co sz 0)) κ = S.A κ := fun κ h => by
    have e : κ ≠ κ' := fun e => h (by rw [e]; exact hκ)
    rw [upd_other _ _ e]
    exact ⟨h, rfl⟩
  have hk : ∀ i, H1 i ≠ none → upd H1 id (some cs) i ≠ none := fun i hi => by
    rw [upd_apply']; split
    · simp
    · exact hi
  refine RetR_of hp (wk_c (.inr (.inl ⟨rfl, True.intro⟩))) True.intro (fun i es c hi hc => ?_) (fun i es hi => ?_) (fun κ => ?_) (fun i hi => hk i (kH i hi)) (fun κ hκ' => (tk κ (kA κ hκ')).1)
  · rw [upd_apply'] at hi
    split at hi
    · cases hi; exact hok c hc
    · exact ok_mono hk (fun κ h => (tk κ h).1) (hw1 i es c hi hc)
  · by_cases e : i = id
    · subst e
      rw [upd_same] at hi
      cases hi
      exact ⟨ds, h2, hcs⟩
    · rw [upd_other _ _ e] at hi
      exact ⟨es, by rw [h1 i e (by rw [hi]; simp), hi], wkC_same fun c hc => ok_mono hk tk (hw1 i es c hi hc)⟩
  · by_cases e : κ = κ'
    · subst e
      exact .inr (.inr (.inl ⟨hκ, sz, .inl (upd_same _ _ _)⟩))
    · exact .inr (.inl (by rw [upd_other _ _ e]))
end Go.PW
namespace Go.Proofs
open Go.PW
section wal
variable {H : HMap} {A : AMap} {lid did : Nat} {κm κc κr κ' κr' : Tok} {d : Dk} {l : Lg}
set_option maxRecDepth 8000 in
set_option maxHeartbeats 16000000 in
theorem Try.kReset (off : Nat) (hw : Wf H A) (hl : LgAt H A lid did κr l) (hd : DkAt H A did κm κc d) (hh : l.halted = false) (ht : l.turn + 1 < 9223372036854775807) (hin : l.from_ + 1 < d.n) (hdn : d.n ≤ 4096) (hcl : d.cache.length + 1 ≤ 1000000)
    (hb1 : burnt d = false) (hb2 : burnt (wrD d ((l.from_ + (l.turn + 1) % 2 : Nat) : Int) (turnB (l.turn + 1) (l.turn + 1))) = false) (hκ : A κ' = none) (hκb : κ'.1 < off + 1000) (hκr : A κr' = none) (hnr : κr' ≠ κ') :
    EffOK Try.prog 61 off H A [.c (.ptr lid 0)] (pD (.lit (.int .i64 0)))
      (upd (upd (upd H did (some (encDk κm κ' (nextD d l.from_ (l.turn + 1) (l.turn + 1))))) lid (some (encLg did κr { l with turn := l.turn + 1, base := l.turn + 1 }))) lid (some (encLg did κr' { l with turn := l.turn + 1, base := l.turn + 1, used := 0, recs := [] })))
      (upd (upd (upd (upd A κc (some (.co 2 (d.cache.length + 1)))) κm (some (.mp (encNS (nextD d l.from_ (l.turn + 1) (l.turn + 1)).stays)))) κ' (some (.co 2 0))) κr' (some (.co 1 0))) := by
  refine effr_ok (E := envOf Try.prog [53, 55, 47] off [] []) (envOf_ok Try.mixed) Try.func61 rfl Try.call61 (by kernel_rfl) (by exact Nat.le_of_ble_eq_true rfl) (fun hab => ?_)
  have hlh := hl.h
  have hne := hl.ne hd
  have hlt := hd.lt hab
  have hlt2 := hl.lt hab
  have ks := Try.kState (off + 1000) hw hl hh
  have kn := Try.kNext (κ' := κ') (off + 1000) hw hl hd (l.turn + 1) (by omega) (by omega) hin hdn hcl hb1 hb2 hκ
  generalize nextD d l.from_ (l.turn + 1) (l.turn + 1) = dn at *
  have c1 : IntKind.i64.wrap ((l.turn : Int) + 1) = ((l.turn + 1 : Nat) : Int) := Go.IntWalk.i64_in _ (by omega)
  have kA2 : ∀ κ, A κ ≠ none → upd (upd (upd A κc (some (.co 2 (d.cache.length + 1)))) κm (some (.mp (encNS dn.stays)))) κ' (some (.co 2 0)) κ ≠ none := fun κ h => upd_keep _ (upd_keep _ (upd_keep _ h))
  have hw2 : Wf (upd (upd H did (some (encDk κm κ' dn))) lid (some (encLg did κr { l with turn := l.turn + 1, base := l.turn + 1 }))) (upd (upd (upd A κc (some (.co 2 (d.cache.length + 1)))) κm (some (.mp (encNS dn.stays)))) κ' (some (.co 2 0))) :=
    Wf_set (A := upd (upd (upd A κc (some (.co 2 (d.cache.length + 1)))) κm (some (.mp (encNS dn.stays)))) κ' (some (.co 2 0))) (Wf_set hw (DkAt.ok (kA2 κm (by rw [hd.m]; simp)) (by rw [upd_same]; simp)) kA2) (LgAt.ok (upd_keepH _ (by rw [upd_same]; simp)) (kA2 κr (by rw [hl.r]; simp))) (fun _ h => h)
  have nκ : κr ≠ κ' := fun e => by have := hl.r; rw [e, hκ] at this; cases this
  have hl2 : LgAt (upd (upd H did (some (encDk κm κ' dn))) lid (some (encLg did κr { l with turn := l.turn + 1, base := l.turn + 1 }))) (upd (upd (upd A κc (some (.co 2 (d.cache.length + 1)))) κm (some (.mp (encNS dn.stays)))) κ' (some (.co 2 0))) lid did κr { l with turn := l.turn + 1, base := l.turn + 1 } :=
    ⟨upd_same _ _ _, by rw [upd_other _ _ nκ, upd_other _ _ (hl.nm hd), upd_other _ _ (hl.nc hd)]; exact hl.r⟩
  have kt := Try.kTook (off + 1000) hw2 hl2 (upd_keepH _ (by rw [upd_same]; simp)) 0
  rw [Lg.unhalted (l := { l with turn := l.turn + 1, base := l.turn + 1 }) hh, upd_self hl2.h] at kt
  have hm : Above (off + 1000) (upd (upd H did (some (encDk κm κ' dn))) lid (some (encLg did κr { l with turn := l.turn + 1, base := l.turn + 1 }))) (upd (upd (upd A κc (some (.co 2 (d.cache.length + 1)))) κm (some (.mp (encNS dn.stays)))) κ' (some (.co 2 0))) :=
    Above_updA (Above_updA (Above_updA (Above_updH (Above_updH (Above_mono hab (by omega)) (by omega)) (by omega)) (by omega)) (by omega)) hκb
  unfold encLg at hlh
  repeat' (first
   |with_reducible first|refine vSq fun K hK=>?_|refine vRg ?_|refine vBl ?_|refine vSc ?_|refine vIf ?_|refine vSk ?_|refine vEx ?_|refine vRt ?_
   |(with_reducible first|refine gNt (fun h=>?_) (fun h=>?_)|refine gCs (fun h=>?_) (fun h=>?_))<;>(try simp only[h])
   |refine C_call rfl ks rfl (Above_mono hab (by omega)) ?_
   |refine C_call rfl kn rfl (Above_mono hab (by omega)) ?_
   |refine C_call rfl kt rfl hm ?_
   |with_reducible first|(refine hK _ ?_;clear hK K)|(clear hK K;refine hK _ ?_;clear hK K)|(clear hK K;clear hK K;refine hK _ ?_;clear hK K)|(clear hK K;clear hK K;clear hK K;refine hK _ ?_;clear hK K)
   |(with_reducible refine todo ?_;simp +decide only[go_sem, hlh, c1, zne, encLg]))
  have k1 : κr' ≠ κm := fun e => by rw [e, hd.m] at hκr; cases hκr
  have k2 : κr' ≠ κc := fun e => by rw [e, hd.c] at hκr; cases hκr
  have hκ1 : upd (upd (upd A κc (some (.co 2 (d.cache.length + 1)))) κm (some (.mp (encNS dn.stays)))) κ' (some (.co 2 0)) κr' = none := by rw [upd_other _ _ hnr, upd_other _ _ k1, upd_other _ _ k2]; exact hκr
  have hdid : ∀ x, upd (upd (upd H did (some (encDk κm κ' dn))) lid (some (encLg did κr { l with turn := l.turn + 1, base := l.turn + 1 }))) lid (some x) did ≠ none := fun x => upd_keepH _ (upd_keepH _ (by rw [upd_same]; simp))
  refine RetR_own rfl hw2 (fun i hi _ => ?_) (upd_same _ _ _) rfl hκ1 ?_ (LgAt.ok (l := { l with turn := l.turn + 1, base := l.turn + 1, used := 0, recs := [] }) (hdid _) (by rw [upd_same]; simp)) (fun i h => upd_keepH i (upd_keepH i h)) kA2
  · show upd (upd _ _ _) _ _ i = _
    rw [upd_other _ _ hi, upd_other _ _ hi]
  · refine ⟨.inr (.inl ⟨rfl, hdid _⟩), ?_, ?_, ?_, ?_, ?_, .inr (.inr (.inr (.inl ⟨rfl, κr', 1, rfl, hκ1, upd_same _ _ _⟩))), ?_, True.intro⟩ <;> exact .inr (.inl ⟨rfl, True.intro⟩)
end wal
end Go.Proofs

namespace Go.Proofs
open Go.PW
structure Pc where
  t : Nat
  sm : List UInt8
  pt : List UInt8
  more : Bool
def AtOK (s : List UInt8) (i : Nat) : Option Pc → Prop
  | none => unsealB s = some [] ∨ unsealB s = none
  | some p => unsealB s = some (headL p.t i (if p.more = true then 1 else 0) ++ (p.sm ++ p.pt)) ∧ p.t ≤ 1099511627776 ∧ p.sm.length = 4 ∧ p.pt.length ≤ 100 ∧ (p.more = true → p.pt.length = 100)
def atV : Option Pc → PV
  | none => pieceV 0 [] [] false false
  | some p => pieceV p.t p.sm p.pt p.more true
structure Sc where
  s : List UInt8
  want : List UInt8
  first : Nat
  now : Nat
  recs : List (List UInt8)
  used : Nat
def scStep (turn i : Nat) (x : Sc) (p : Pc) : Option Sc :=
  if p.t < x.now ∨ turn < p.t then none
  else if i ≠ x.first ∧ (p.t ≠ x.now ∨ p.sm ≠ x.want ∨ p.pt = []) then none
  else if p.more = true then some { x with s := x.s ++ p.pt, want := p.sm, now := p.t }
  else if sum4 (x.s ++ p.pt) ≠ p.sm then none
  else some ⟨[], p.sm, i + 1, p.t, x.recs ++ [x.s ++ p.pt], i + 1⟩
def scanK (pl : Nat → Option Pc) (turn : Nat) : Nat → Nat → Sc → Sc
  | 0, _, x => x
  | k + 1, i, x => match pl i with
    | none => x
    | some p => match scStep turn i x p with
      | none => x
      | some x' => scanK pl turn k (i + 1) x'
section wal
variable {H : HMap} {A : AMap} {lid did : Nat} {κm κc κr : Tok} {d : Dk} {l : Lg}
theorem Try.kAt (off : Nat) (hw : Wf H A) (hl : LgAt H A lid did κr l) (hd : DkAt H A did κm κc d) (hcl : d.cache.length ≤ 1000000) (i : Nat) (hin : l.from_ + 2 + i < d.n) (hdn : d.n ≤ 4096) (hs : (rd d ((l.from_ + 2 + i : Nat) : Int)).length ≤ 128)
    (o : Option Pc) (hc : AtOK (rd d ((l.from_ + 2 + i : Nat) : Int)) i o) : EffOK Try.prog 70 off H A [.c (.ptr lid 0), pD (.lit (.int .i64 i))] (atV o) H A := by
  cases o with
  | none => exact Try.kAtE off hw hl hd hcl i hin hdn hs hc
  | some p =>
    obtain ⟨h1, h2, h3, h4, h5⟩ := hc
    exact Try.kAtP off hw hl hd hcl i hin hdn hs p.t p.sm p.pt p.more h2 h3 h4 h5 h1
end wal
end Go.Proofs

namespace Go.PW
theorem VC_lab {E : Env} {H0 : HMap} {A0 : AMap} {l : Nat} {Q : Post} {S : St} (h : Q.nrm S) : VC E H0 A0 (.label l) Q S := h
theorem Weak_new {H0 H : HMap} {A0 A : AMap} {S : St} {l : List (Nat × PV)} {id : Nat} {cs ds : List CV} {κ : Tok} {sz : Nat} (hw : Wf H A) (hid : H id ≠ none) (hb : ∀ i, i ≠ id → H i ≠ none → S.H i = H i) (h2 : S.H id = some ds) (hA : S.A = A) (hκ : A κ = none)
    (hcs : wkCells (upd H id (some cs)) A (upd A κ (some (.co sz 0))) cs ds) (h1 : keepP (hOver [] (upd H id (some cs))) A (upd A κ (some (.co sz 0))) S.ρ l)
    (kH : ∀ i, H0 i ≠ none → H i ≠ none) (kA : ∀ κ, A0 κ ≠ none → A κ ≠ none) : Weak H0 A0 S (over l [] (upd H id (some cs)) (upd A κ (some (.co sz 0)))) := by
  subst hA
  have tk : ∀ τ, S.A τ ≠ none → upd S.A κ (some (.co sz 0)) τ ≠ none ∧ upd S.A κ (some (.co sz 0)) τ = S.A τ := fun τ h => by
    have e : τ ≠ κ := fun e => h (by rw [e]; exact hκ)
    rw [upd_other _ _ e]
    exact ⟨h, rfl⟩
  have hk : ∀ i, H i ≠ none → upd H id (some cs) i ≠ none := fun i hi => by
    rw [upd_apply']; split
    · simp
    · exact hi
  refine ⟨fun t => keepP_spec h1 t, fun i => ?_, fun τ => ?_, fun i h => hk i (kH i h), fun τ h => (tk τ (kA τ h)).1⟩
  · show upd H id (some cs) i = none ∨ ∃ es fs, upd H id (some cs) i = some es ∧ _
    by_cases e : i = id
    · subst e
      exact .inr ⟨cs, ds, upd_same _ _ _, h2, wkCells_spec hcs⟩
    · rw [upd_other _ _ e]
      cases hi : H i with
      | none => exact .inl rfl
      | some es =>
        refine .inr ⟨es, es, rfl, by rw [hb i e (by rw [hi]; simp), hi], rfl, fun k c d h3 h4 => ?_⟩
        rw [h3] at h4
        cases h4
        exact .inr (.inl ⟨rfl, ok_mono hk tk (hw i es c hi (List.mem_of_getElem? h3))⟩)
  · by_cases e : τ = κ
    · subst e
      exact .inr (.inr (.inl ⟨hκ, sz, .inl (upd_same _ _ _)⟩))
    · exact .inr (.inl (upd_other _ _ e))
end Go.PW
namespace Go.Proofs
open Go.PW
section wal
variable {H : HMap} {A : AMap} {lid did : Nat} {κm κc κr : Tok} {d : Dk} {l : Lg}
theorem scanK_none {pl : Nat → Option Pc} {turn k i : Nat} {x : Sc} (h : pl i = none) : scanK pl turn (k + 1) i x = x := by simp only [scanK, h]
theorem scanK_stop {pl : Nat → Option Pc} {turn k i : Nat} {x : Sc} {p : Pc} (h : pl i = some p) (h' : scStep turn i x p = none) : scanK pl turn (k + 1) i x = x := by simp only [scanK, h, h']
theorem scanK_go {pl : Nat → Option Pc} {turn k i : Nat} {x x' : Sc} {p : Pc} (h : pl i = some p) (h' : scStep turn i x p = some x') : scanK pl turn (k + 1) i x = scanK pl turn k (i + 1) x' := by simp only [scanK, h, h']
def scL (l : Lg) (x : Sc) : Lg := { l with recs := x.recs, used := x.used }
def sc0 (l : Lg) : Sc := ⟨[], [], 0, l.base, l.recs, l.used⟩
theorem scStep_bad {turn i : Nat} {x : Sc} {p : Pc} (q1 : ¬ p.t < x.now) (q2 : ¬ turn < p.t) (h : ((i : Int) == (x.first : Int)) = false) (h2 : ((p.t : Int) != (x.now : Int)) = true ∨ (p.sm == x.want) = false ∨ (p.pt == []) = true) : scStep turn i x p = none := by
  unfold scStep
  rw [if_neg (by omega), if_pos]
  have e1 : i ≠ x.first := fun e => by rw [e] at h; simp at h
  refine ⟨e1, ?_⟩
  rcases h2 with h | h | h
  · exact .inl fun e => by rw [e] at h; simp at h
  · exact .inr (.inl fun e => by rw [e] at h; simp at h)
  · exact .inr (.inr (by simpa using h))
theorem scStep_go {turn i : Nat} {x : Sc} {p : Pc} (q1 : ¬ p.t < x.now) (q2 : ¬ turn < p.t) (h : ((i : Int) == (x.first : Int)) = true ∨ (((p.t : Int) != (x.now : Int)) = false ∧ (p.sm == x.want) = true ∧ (p.pt == []) = false)) :
    scStep turn i x p = if p.more = true then some { x with s := x.s ++ p.pt, want := p.sm, now := p.t } else if sum4 (x.s ++ p.pt) ≠ p.sm then none else some ⟨[], p.sm, i + 1, p.t, x.recs ++ [x.s ++ p.pt], i + 1⟩ := by
  unfold scStep
  rw [if_neg (by omega), if_neg]
  rintro ⟨h1, h2⟩
  rcases h with h | ⟨h3, h4, h5⟩
  · exact h1 (by have := eq_of_beq h; omega)
  · rcases h2 with h2 | h2 | h2
    · exact h2 (by have : (p.t : Int) = x.now := by simpa using h3
                   omega)
    · exact h2 (eq_of_beq h4)
    · rw [h2] at h5; simp at h5
structure SI (pl : Nat → Option Pc) (l : Lg) (k : Nat) (x : Sc) : Prop where
  h1 : scanK pl l.turn k (l.places - k) x = scanK pl l.turn l.places 0 (sc0 l)
  h2 : k ≤ l.places
  h3 : x.s.length ≤ 100 * (l.places - k)
  h4 : x.recs.length ≤ l.recs.length + (l.places - k)
  h5 : x.used ≤ l.used + l.places
  h6 : x.first ≤ l.places
  h7 : x.now < 9223372036854775808
set_option maxRecDepth 8000 in
set_option maxHeartbeats 32000000 in
theorem Try.kScan (off : Nat) (hw : Wf H A) (hl : H lid = some (encLgC did (.full []) l)) (hr : l.recs = []) (hu : l.used = 0) (hκr : A κr = none) (hκb : κr.1 < off) (hd : DkAt H A did κm κc d) (hcl : d.cache.length ≤ 1000000) (hin : l.from_ + 2 + l.places ≤ d.n) (hdn : d.n ≤ 4096) (hp : l.places ≤ 1000) (hb : l.base < 9223372036854775808)
    (hs : ∀ i, i < l.places → (rd d ((l.from_ + 2 + i : Nat) : Int)).length ≤ 128) (pl : Nat → Option Pc) (hpl : ∀ i, i < l.places → AtOK (rd d ((l.from_ + 2 + i : Nat) : Int)) i (pl i)) :
    EffOK Try.prog 46 off H A [.c (.ptr lid 0)] (.c .any) (upd H lid (some (encLg did κr (scL l (scanK pl l.turn l.places 0 (sc0 l)))))) (upd A κr (some (.co 1 (scanK pl l.turn l.places 0 (sc0 l)).recs.length))) := by
  refine effr_ok (E := envOf Try.prog [70] off [] []) (envOf_ok Try.mixed) Try.func46 rfl Try.call46 (by kernel_rfl) (by exact Nat.le_of_ble_eq_true rfl) (fun hab => ?_)
  have hlh := hl
  unfold encLgC at hlh
  have hne : lid ≠ did := fun e => by have h1 := hlh; rw [e, hd.h] at h1; have := congrArg List.length (Option.some.inj h1); cases this
  have hnm : κr ≠ κm := fun e => by rw [e, hd.m] at hκr; cases hκr
  have hnc : κr ≠ κc := fun e => by rw [e, hd.c] at hκr; cases hκr
  have hlt := hd.lt hab
  have hlt2 : lid < off := by
    rcases Nat.lt_or_ge lid off with h | h
    · exact h
    · rw [(hab lid h).1] at hlh; cases hlh
  have hx7 : H (off + 7) = none := (hab _ (Nat.le_add_right _ _)).1
  have hdid : H did ≠ none := by rw [hd.h]; simp
  have hdid' : upd H lid (some (encLg did κr l)) did ≠ none := upd_keepH _ hdid
  have hwx : ∀ x : Sc, Wf (upd H lid (some (encLg did κr (scL l x)))) (upd A κr (some (.co 1 x.recs.length))) := fun x => Wf_set hw (LgAt.ok (upd_keepH _ hdid) (by rw [upd_same]; simp)) upd_keep
  have hlx : ∀ x : Sc, LgAt (upd H lid (some (encLg did κr (scL l x)))) (upd A κr (some (.co 1 x.recs.length))) lid did κr (scL l x) := fun x => ⟨upd_same _ _ _, upd_same _ _ _⟩
  have hdx : ∀ x : Sc, DkAt (upd H lid (some (encLg did κr (scL l x)))) (upd A κr (some (.co 1 x.recs.length))) did κm κc d := fun x => ⟨by rw [upd_other _ _ hne.symm]; exact hd.h, by rw [upd_other _ _ hnm.symm]; exact hd.m, by rw [upd_other _ _ hnc.symm]; exact hd.c⟩
  have hptr : ∀ {A1 A2 : AMap} {x : List CV}, PV.wk (hOver [] (upd H lid (some x))) A1 A2 (.c (.ptr lid 0)) (.c (.ptr lid 0)) = True := eq_true (wkP_ptr (by show upd _ _ _ _ ≠ none; rw [upd_same]; simp))
  repeat' (first
   |with_reducible first|refine vSq fun K hK=>?_|refine vRg ?_|refine vBl ?_|refine vSc ?_|refine vIf ?_|refine vSk ?_|refine vEx ?_|refine vRt ?_
   |(with_reducible first|refine gNt (fun h=>?_) (fun h=>?_)|refine gCs (fun h=>?_) (fun h=>?_))<;>(try simp only[h])
   |with_reducible refine VC_lab ?_
   |with_reducible first|(refine hK _ ?_;clear hK K)|(clear hK K;refine hK _ ?_;clear hK K)|(clear hK K;clear hK K;refine hK _ ?_;clear hK K)|(clear hK K;clear hK K;clear hK K;refine hK _ ?_;clear hK K)
   |(with_reducible refine todo ?_;simp +decide only[go_sem, hlh]))
  refine VC_while (ι := Nat × Sc) (fun y => SI pl l y.1 y.2) (fun y => over [(0, .c (.ptr lid 0)), (2, pD (dS y.2.s)), (3, pD (dS y.2.want)), (4, pD (.lit (.int .i64 y.2.first))), (5, pD (.lit (.int .i64 y.2.now))), (6, pD (.lit (.int .i64 (l.places - y.1 : Nat))))] []
    (upd H lid (some (encLg did κr (scL l y.2)))) (upd A κr (some (.co 1 y.2.recs.length)))) (fun y => y.1) (l.places, sc0 l) ⟨by simp, Nat.le_refl _, by simp [sc0], by simp [sc0], by show l.used ≤ _; omega, by show 0 ≤ _; omega, hb⟩ ?_ ?_
  · have hA0 : upd A κr (some (.co 1 (sc0 l).recs.length)) = upd A κr (some (.co 1 0)) := by rw [show (sc0 l).recs.length = 0 by simp [sc0, hr]]
    have hH0 : encLg did κr (scL l (sc0 l)) = encLg did κr l := rfl
    rw [hA0, hH0]
    refine Weak_new hw (by rw [hl]; simp) (fun _ _ _ => rfl) hl rfl hκr ?_ ?_ (fun _ h => h) (fun _ h => h)
    · unfold encLg encLgC
      rw [hr]
      unfold encLg at hdid'
      rw [hr] at hdid'
      refine ⟨.inr (.inl ⟨rfl, hdid'⟩), ?_, ?_, ?_, ?_, ?_, .inr (.inr (.inr (.inl ⟨rfl, κr, 1, rfl, hκr, upd_same _ _ _⟩))), ?_, True.intro⟩ <;> exact .inr (.inl ⟨rfl, True.intro⟩)
    · simp +decide only [go_sem, hptr, sc0, Nat.sub_self]
  · rintro ⟨k, x⟩ ⟨h1, h2, h3, h4, h5, h6, h7⟩
    simp only at h1 h2 h3 h4 h5 h6 h7
    have hfin : ∀ {S : St} {fn : Func}, scanK pl l.turn l.places 0 (sc0 l) = x → resPVs Try.prog S fn.results.toList = some (.c .any) → (∀ i, upd H lid (some (encLg did κr (scL l x))) i ≠ none → S.H i = upd H lid (some (encLg did κr (scL l x))) i) → S.A = upd A κr (some (.co 1 x.recs.length)) →
        RetR Try.prog fn H A (.c .any) (upd H lid (some (encLg did κr (scL l (scanK pl l.turn l.places 0 (sc0 l)))))) (upd A κr (some (.co 1 (scanK pl l.turn l.places 0 (sc0 l)).recs.length))) S := fun e h1 h2 h3 => by
      rw [e]
      exact RetR_eq h1 True.intro True.intro (hwx x) h2 h3 upd_keepH upd_keep
    cases k with
    | zero =>
      have hc : (((l.places - 0 : Nat) : Int) < (l.places : Int)) = False := eq_false (by omega)
      repeat' (first
       |with_reducible first|refine vSq fun K hK=>?_|refine vRg ?_|refine vBl ?_|refine vSc ?_|refine vIf ?_|refine vSk ?_|refine vEx ?_|refine vRt ?_
       |(with_reducible first|refine gNt (fun h=>?_) (fun h=>?_)|refine gCs (fun h=>?_) (fun h=>?_))<;>(try simp only[h])
       |with_reducible refine VC_lab ?_
       |with_reducible first|(refine hK _ ?_;clear hK K)|(clear hK K;refine hK _ ?_;clear hK K)|(clear hK K;clear hK K;refine hK _ ?_;clear hK K)|(clear hK K;clear hK K;clear hK K;refine hK _ ?_;clear hK K)
       |(with_reducible refine todo ?_;simp +decide only[go_sem, hc, encLg, scL]))
      exact hfin (by rw [← h1]; rfl) rfl (fun _ _ => rfl) rfl
    | succ k =>
      have hi : l.places - (k + 1) < l.places := by omega
      generalize hI : l.places - (k + 1) = i at *
      have hc := int_lt_true hi
      have ka := Try.kAt (off + 1000) (hwx x) (hlx x) (hdx x) hcl i (by show l.from_ + 2 + i < d.n; omega) hdn (hs i hi) (pl i) (hpl i hi)
      have hAb : Above (off + 1000) (upd H lid (some (encLg did κr (scL l x)))) (upd A κr (some (.co 1 x.recs.length))) := Above_updA (Above_updH (Above_mono hab (by omega)) (by omega)) (by omega)
      have hl7 : (lid = off + 7) = False := eq_false (by omega)
      have hy7 : (off + 7 = lid) = False := eq_false (by omega)
      cases ho : pl i with
      | none =>
        rw [ho] at ka
        unfold atV pieceV at ka
        repeat' (first
         |with_reducible first|refine vSq fun K hK=>?_|refine vRg ?_|refine vBl ?_|refine vSc ?_|refine vIf ?_|refine vSk ?_|refine vEx ?_|refine vRt ?_
         |(with_reducible first|refine gNt (fun h=>?_) (fun h=>?_)|refine gCs (fun h=>?_) (fun h=>?_))<;>(try simp only[h])
         |with_reducible refine VC_lab ?_
         |refine C_call rfl ka rfl hAb ?_
         |with_reducible first|(refine hK _ ?_;clear hK K)|(clear hK K;refine hK _ ?_;clear hK K)|(clear hK K;clear hK K;refine hK _ ?_;clear hK K)|(clear hK K;clear hK K;clear hK K;refine hK _ ?_;clear hK K)
         |(with_reducible refine todo ?_;simp +decide only[go_sem, hc, encLg, scL, hy7, hx7]))
        exact hfin (by rw [← h1]; exact scanK_none ho) rfl (fun j hj => by
          have j7 : j ≠ off + 7 := fun e => hj (by rw [e, upd_other _ _ (by omega)]; exact hx7)
          show upd (upd _ _ _) _ _ j = _
          rw [upd_other _ _ j7, upd_other _ _ j7]
          rfl) rfl
      | some p =>
        rw [ho] at ka
        unfold atV pieceV at ka
        obtain ⟨o1, o2, o3, o4, o5⟩ : AtOK _ i (some p) := by have := hpl i hi; rw [ho] at this; exact this
        by_cases q1 : p.t < x.now
        · have f1 : ((p.t : Int) < (x.now : Int)) = True := eq_true (by omega)
          have hst : scStep l.turn i x p = none := by unfold scStep; rw [if_pos (.inl q1)]
          rw [scanK_stop ho hst] at h1
          repeat' (first
           |with_reducible first|refine vSq fun K hK=>?_|refine vRg ?_|refine vBl ?_|refine vSc ?_|refine vIf ?_|refine vSk ?_|refine vEx ?_|refine vRt ?_
           |(with_reducible first|refine gNt (fun h=>?_) (fun h=>?_)|refine gCs (fun h=>?_) (fun h=>?_))<;>(try simp only[h])
           |with_reducible refine VC_lab ?_
           |refine C_call rfl ka rfl hAb ?_
           |with_reducible first|(refine hK _ ?_;clear hK K)|(clear hK K;refine hK _ ?_;clear hK K)|(clear hK K;clear hK K;refine hK _ ?_;clear hK K)|(clear hK K;clear hK K;clear hK K;refine hK _ ?_;clear hK K)
           |(with_reducible refine todo ?_;simp +decide only[go_sem, hc, encLg, scL, hy7, hx7, pieceC, f1]))
          exact hfin h1.symm rfl (fun j hj => by
          have j7 : j ≠ off + 7 := fun e => hj (by rw [e, upd_other _ _ (by omega)]; exact hx7)
          show upd (upd _ _ _) _ _ j = _
          rw [upd_other _ _ j7, upd_other _ _ j7]
          rfl) rfl
        · have f1 : ((p.t : Int) < (x.now : Int)) = False := eq_false (by omega)
          by_cases q2 : l.turn < p.t
          · have f2 : ((l.turn : Int) < (p.t : Int)) = True := eq_true (by omega)
            have hst : scStep l.turn i x p = none := by unfold scStep; rw [if_pos (.inr q2)]
            rw [scanK_stop ho hst] at h1
            repeat' (first
             |with_reducible first|refine vSq fun K hK=>?_|refine vRg ?_|refine vBl ?_|refine vSc ?_|refine vIf ?_|refine vSk ?_|refine vEx ?_|refine vRt ?_
             |(with_reducible first|refine gNt (fun h=>?_) (fun h=>?_)|refine gCs (fun h=>?_) (fun h=>?_))<;>(try simp only[h])
             |with_reducible refine VC_lab ?_
             |refine C_call rfl ka rfl hAb ?_
             |with_reducible first|(refine hK _ ?_;clear hK K)|(clear hK K;refine hK _ ?_;clear hK K)|(clear hK K;clear hK K;refine hK _ ?_;clear hK K)|(clear hK K;clear hK K;clear hK K;refine hK _ ?_;clear hK K)
             |(with_reducible refine todo ?_;simp +decide only[go_sem, hc, encLg, scL, hy7, hx7, pieceC, f1, f2, hl7]))
            exact hfin h1.symm rfl (fun j hj => by
          have j7 : j ≠ off + 7 := fun e => hj (by rw [e, upd_other _ _ (by omega)]; exact hx7)
          show upd (upd _ _ _) _ _ j = _
          rw [upd_other _ _ j7, upd_other _ _ j7]
          rfl) rfl
          · have f2 : ((l.turn : Int) < (p.t : Int)) = False := eq_false (by omega)
            have hs7 : x.s.length ≤ 100000 := by omega
            have hB : (x.s.length + p.pt.length ≤ 9223372036854775807) = True := eq_true (by omega)
            have hk : l.places - k = i + 1 := by omega
            have hc9 : IntKind.i64.wrap ((i : Int) + 1) = ((i + 1 : Nat) : Int) := by rw [Go.IntWalk.i64_in _ (by omega)]; omega
            have hks : scStep l.turn i x p = none → x = scanK pl l.turn l.places 0 (sc0 l) := fun h => by rw [← h1]; exact (scanK_stop ho h).symm
            have hkg : ∀ x', scStep l.turn i x p = some x' → scanK pl l.turn k (l.places - k) x' = scanK pl l.turn l.places 0 (sc0 l) := fun x' h => by rw [← h1, hk]; exact (scanK_go ho h).symm
            have hH7 : ∀ {C : List CV} {D : List CV} (j : Nat), upd H lid (some (encLg did κr (scL l x))) j ≠ none → upd (upd (upd H lid (some (encLg did κr (scL l x)))) (off + 7) (some C)) (off + 7) (some D) j = upd H lid (some (encLg did κr (scL l x))) j := fun j hj => by
              have j7 : j ≠ off + 7 := fun e => hj (by rw [e, upd_other _ _ (by omega)]; exact hx7)
              rw [upd_other _ _ j7, upd_other _ _ j7]
            cases hmo : p.more with
            | true =>
              have hgo : ∀ (h : ((i : Int) == (x.first : Int)) = true ∨ (((p.t : Int) != (x.now : Int)) = false ∧ (p.sm == x.want) = true ∧ (p.pt == []) = false)), SI pl l k { x with s := x.s ++ p.pt, want := p.sm, now := p.t } := fun h => by
                have hst := scStep_go q1 q2 h
                rw [if_pos hmo] at hst
                refine ⟨hkg _ hst, by omega, ?_, by show x.recs.length ≤ _; omega, h5, h6, by show p.t < _; omega⟩
                show (x.s ++ p.pt).length ≤ _
                rw [List.length_append]; omega
              repeat' (first
               |with_reducible first|refine vSq fun K hK=>?_|refine vRg ?_|refine vBl ?_|refine vSc ?_|refine vIf ?_|refine vSk ?_|refine vEx ?_|refine vRt ?_
               |(with_reducible first|refine gNt (fun h=>?_) (fun h=>?_)|refine gCs (fun h=>?_) (fun h=>?_))<;>(try simp only[h])
               |with_reducible refine VC_lab ?_
               |refine C_call rfl ka rfl hAb ?_
               |with_reducible first|(refine hK _ ?_;clear hK K)|(clear hK K;refine hK _ ?_;clear hK K)|(clear hK K;clear hK K;refine hK _ ?_;clear hK K)|(clear hK K;clear hK K;clear hK K;refine hK _ ?_;clear hK K)
               |(with_reducible refine todo ?_;simp +decide only[go_sem, hc, encLg, scL, hy7, hx7, pieceC, f1, f2, hl7, hB, hmo]))
              · refine ⟨⟨(k, { x with s := x.s ++ p.pt, want := p.sm, now := p.t }), hgo (.inl ‹_›)⟩, Weak_overG (hwx _) (fun j hj => hH7 j hj) rfl ?_ ?_ upd_keepH upd_keep, Nat.lt_succ_self k⟩
                · simp +decide only [go_sem, hptr, hk, hc9]
                · simp +decide only [go_sem]
              · exact hfin (hks (scStep_bad q1 q2 ‹_› (.inl ‹_›))).symm rfl (fun j hj => hH7 j hj) rfl
              · exact hfin (hks (scStep_bad q1 q2 ‹_› (.inr (.inr ‹_›)))).symm rfl (fun j hj => hH7 j hj) rfl
              · refine ⟨⟨(k, { x with s := x.s ++ p.pt, want := p.sm, now := p.t }), hgo (.inr ⟨‹_›, ‹_›, ‹_›⟩)⟩, Weak_overG (hwx _) (fun j hj => hH7 j hj) rfl ?_ ?_ upd_keepH upd_keep, Nat.lt_succ_self k⟩
                · simp +decide only [go_sem, hptr, hk, hc9]
                · simp +decide only [go_sem]
              · exact hfin (hks (scStep_bad q1 q2 ‹_› (.inr (.inl ‹_›)))).symm rfl (fun j hj => hH7 j hj) rfl
            | false =>
              have ksm := Try.kSum (x.s ++ p.pt) (by rw [List.length_append]; omega)
              have hAs : ∀ kk, upd A κr (some (.co 1 x.recs.length)) (off + 76, kk) = none := fun kk => by
                rw [upd_other _ _ (fun e => by have := congrArg Prod.fst e; simp only at this; omega)]
                exact (hab _ (Nat.le_add_right _ _)).2 kk
              by_cases hsum : sum4 (x.s ++ p.pt) = p.sm
              · have fS : (sum4 (x.s ++ p.pt) == p.sm) = true := by rw [hsum]; simp
                have hrl := textsD_len x.recs
                have hrl0 : l.recs.length = 0 := by rw [hr]; rfl
                have hb16 : ∀ {y : List D}, ((textsD x.recs).length + [y].length) * 16 ≤ 140737488355328 := by
                  intro y
                  rw [hrl, List.length_singleton]; omega
                have hκ1 : upd A κr (some (.co 1 x.recs.length)) κr = some (.co 1 (textsD x.recs).length) := by rw [hrl]; exact upd_same _ _ _
                have hgo : ∀ (h : ((i : Int) == (x.first : Int)) = true ∨ (((p.t : Int) != (x.now : Int)) = false ∧ (p.sm == x.want) = true ∧ (p.pt == []) = false)), SI pl l k ⟨[], p.sm, i + 1, p.t, x.recs ++ [x.s ++ p.pt], i + 1⟩ := fun h => by
                  have hst := scStep_go q1 q2 h
                  rw [if_neg (by rw [hmo]; simp), if_neg (by simpa using hsum)] at hst
                  refine ⟨hkg _ hst, by omega, by simp, ?_, by show i + 1 ≤ _; omega, by show i + 1 ≤ _; omega, by show p.t < _; omega⟩
                  show (x.recs ++ [x.s ++ p.pt]).length ≤ _
                  rw [List.length_append, List.length_singleton]; omega
                have hAG : upd (upd A κr (some (.co 1 x.recs.length))) κr (some (.co 1 ((textsD x.recs).length + 1))) = upd A κr (some (.co 1 (x.recs ++ [x.s ++ p.pt]).length)) := by
                  rw [upd_twice, List.length_append, hrl]; rfl
                have hHG : ∀ {C1 C2 C3 C4 : List CV} (j : Nat), upd H lid (some (encLg did κr (scL l ⟨[], p.sm, i + 1, p.t, x.recs ++ [x.s ++ p.pt], i + 1⟩))) j ≠ none → upd (upd (upd (upd (upd H lid (some C1)) (off + 7) (some C2)) (off + 7) (some C3)) lid (some C4)) lid (some (encLgC did (.own κr (textsD x.recs ++ [[D.lit (.string ⟨(x.s ++ p.pt).toArray⟩)]])) ⟨l.from_, l.places, l.turn, l.base, i + 1, [], l.halted⟩)) j = upd H lid (some (encLg did κr (scL l ⟨[], p.sm, i + 1, p.t, x.recs ++ [x.s ++ p.pt], i + 1⟩))) j := fun j hj => by
                  have j7 : j ≠ off + 7 := fun e => hj (by rw [e, upd_other _ _ (by omega)]; exact hx7)
                  by_cases e : j = lid
                  · subst e
                    rw [upd_same, upd_same]
                    unfold encLgC encLg scL
                    rw [textsD_app]
                    rfl
                  · rw [upd_other _ _ e, upd_other _ _ e, upd_other _ _ j7, upd_other _ _ j7, upd_other _ _ e, upd_other _ _ e]
                repeat' (first
                 |with_reducible first|refine vSq fun K hK=>?_|refine vRg ?_|refine vBl ?_|refine vSc ?_|refine vIf ?_|refine vSk ?_|refine vEx ?_|refine vRt ?_
                 |(with_reducible first|refine gNt (fun h=>?_) (fun h=>?_)|refine gCs (fun h=>?_) (fun h=>?_))<;>(try simp only[h])
                 |with_reducible refine VC_lab ?_
                 |refine C_call rfl ka rfl hAb ?_
                 |refine C_pure ksm rfl rfl hAs ?_
                 |refine W_own Try.appT rfl (szd_texts _) (szOne rfl) hb16 hκ1 ?_
                 |with_reducible first|(refine hK _ ?_;clear hK K)|(clear hK K;refine hK _ ?_;clear hK K)|(clear hK K;clear hK K;refine hK _ ?_;clear hK K)|(clear hK K;clear hK K;clear hK K;refine hK _ ?_;clear hK K)
                 |(with_reducible refine todo ?_;simp +decide only[go_sem, hc, encLg, scL, hy7, hx7, pieceC, f1, f2, hl7, hB, hmo, fS, hc9]))
                · refine ⟨⟨(k, ⟨[], p.sm, i + 1, p.t, x.recs ++ [x.s ++ p.pt], i + 1⟩), hgo (.inl ‹_›)⟩, Weak_overG (hwx ⟨[], p.sm, i + 1, p.t, x.recs ++ [x.s ++ p.pt], i + 1⟩) (fun j hj => hHG j hj) hAG ?_ ?_ upd_keepH upd_keep, Nat.lt_succ_self k⟩
                  · simp +decide only [go_sem, hptr, hk]
                  · simp +decide only [go_sem]
                · exact hfin (hks (scStep_bad q1 q2 ‹_› (.inl ‹_›))).symm rfl (fun j hj => hH7 j hj) rfl
                · exact hfin (hks (scStep_bad q1 q2 ‹_› (.inr (.inr ‹_›)))).symm rfl (fun j hj => hH7 j hj) rfl
                · refine ⟨⟨(k, ⟨[], p.sm, i + 1, p.t, x.recs ++ [x.s ++ p.pt], i + 1⟩), hgo (.inr ⟨‹_›, ‹_›, ‹_›⟩)⟩, Weak_overG (hwx ⟨[], p.sm, i + 1, p.t, x.recs ++ [x.s ++ p.pt], i + 1⟩) (fun j hj => hHG j hj) hAG ?_ ?_ upd_keepH upd_keep, Nat.lt_succ_self k⟩
                  · simp +decide only [go_sem, hptr, hk]
                  · simp +decide only [go_sem]
                · exact hfin (hks (scStep_bad q1 q2 ‹_› (.inr (.inl ‹_›)))).symm rfl (fun j hj => hH7 j hj) rfl
              · have fS : (sum4 (x.s ++ p.pt) == p.sm) = false := by simpa using hsum
                have hno : ∀ (h : ((i : Int) == (x.first : Int)) = true ∨ (((p.t : Int) != (x.now : Int)) = false ∧ (p.sm == x.want) = true ∧ (p.pt == []) = false)), scStep l.turn i x p = none := fun h => by
                  have hst := scStep_go q1 q2 h
                  rw [if_neg (by rw [hmo]; simp), if_pos (by simpa using hsum)] at hst
                  exact hst
                repeat' (first
                 |with_reducible first|refine vSq fun K hK=>?_|refine vRg ?_|refine vBl ?_|refine vSc ?_|refine vIf ?_|refine vSk ?_|refine vEx ?_|refine vRt ?_
                 |(with_reducible first|refine gNt (fun h=>?_) (fun h=>?_)|refine gCs (fun h=>?_) (fun h=>?_))<;>(try simp only[h])
                 |with_reducible refine VC_lab ?_
                 |refine C_call rfl ka rfl hAb ?_
                 |refine C_pure ksm rfl rfl hAs ?_
                 |with_reducible first|(refine hK _ ?_;clear hK K)|(clear hK K;refine hK _ ?_;clear hK K)|(clear hK K;clear hK K;refine hK _ ?_;clear hK K)|(clear hK K;clear hK K;clear hK K;refine hK _ ?_;clear hK K)
                 |(with_reducible refine todo ?_;simp +decide only[go_sem, hc, encLg, scL, hy7, hx7, pieceC, f1, f2, hl7, hB, hmo, fS]))
                · exact hfin (hks (hno (.inl ‹_›))).symm rfl (fun j hj => hH7 j hj) rfl
                · exact hfin (hks (scStep_bad q1 q2 ‹_› (.inl ‹_›))).symm rfl (fun j hj => hH7 j hj) rfl
                · exact hfin (hks (scStep_bad q1 q2 ‹_› (.inr (.inr ‹_›)))).symm rfl (fun j hj => hH7 j hj) rfl
                · exact hfin (hks (hno (.inr ⟨‹_›, ‹_›, ‹_›⟩))).symm rfl (fun j hj => hH7 j hj) rfl
                · exact hfin (hks (scStep_bad q1 q2 ‹_› (.inr (.inl ‹_›)))).symm rfl (fun j hj => hH7 j hj) rfl
end wal
end Go.Proofs
