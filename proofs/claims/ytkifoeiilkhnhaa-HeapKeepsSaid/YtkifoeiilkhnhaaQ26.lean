import Derived.Test.YtkifoeiilkhnhaaQ25

/-
  The disk and the log in plain Lean: what is read behind a write, a flush, a crash; what a sealed sector tells.
-/

namespace Go.Proofs
open Go.PW
def putR (k : Int) (s : List UInt8) : List (Int × List UInt8) → List (Int × List UInt8)
  | [] => [(k, s)]
  | p :: m => if p.1 = k then (k, s) :: m else p :: putR k s m
def delR (k : Int) : List (Int × List UInt8) → List (Int × List UInt8)
  | [] => []
  | p :: m => if p.1 = k then m else p :: delR k m
def lkR (k : Int) : List (Int × List UInt8) → List UInt8
  | [] => zeros
  | p :: m => if p.1 = k then p.2 else lkR k m
theorem findN_shift (k : Int) : ∀ (m : List (Int × List UInt8)) (i : Nat), findN k m (i + 1) = (findN k m i).map fun r => (r.1 + 1, r.2)
  | [], _ => rfl
  | p :: m, i => by
    unfold findN
    by_cases h : p.1 = k
    · rw [if_pos h, if_pos h]; rfl
    · rw [if_neg h, if_neg h]; exact findN_shift k m (i + 1)
theorem putN_R (k : Int) (s : List UInt8) : ∀ m, putN m k s = putR k s m
  | [] => rfl
  | p :: m => by
    have ih := putN_R k s m
    unfold putN at ih ⊢
    unfold findN putR
    by_cases h : p.1 = k
    · rw [if_pos h, if_pos h]; rfl
    · rw [if_neg h, if_neg h, findN_shift, ← ih]
      cases findN k m 0 <;> rfl
theorem delN_R (k : Int) : ∀ m, delN m k = delR k m
  | [] => rfl
  | p :: m => by
    have ih := delN_R k m
    unfold delN at ih ⊢
    unfold findN delR
    by_cases h : p.1 = k
    · rw [if_pos h, if_pos h]; rfl
    · rw [if_neg h, if_neg h, findN_shift, ← ih]
      cases findN k m 0 <;> rfl
theorem stay_R (d : Dk) (k : Int) : stayN d k = lkR k d.stays := by
  unfold stayN
  generalize d.stays = m
  induction m with
  | nil => rfl
  | cons p m ih =>
    unfold findN lkR
    by_cases h : p.1 = k
    · rw [if_pos h, if_pos h]
    · rw [if_neg h, if_neg h, findN_shift, ← ih]
      cases findN k m 0 <;> rfl
def keysN (m : List (Int × List UInt8)) : List Int := m.map (·.1)
theorem putR_keys (k : Int) (s : List UInt8) : ∀ m, ∀ j ∈ keysN (putR k s m), j = k ∨ j ∈ keysN m
  | [], j, h => by
    have : j = k := by simpa [putR, keysN] using h
    exact .inl this
  | p :: m, j, h => by
    unfold putR at h
    split at h
    · rcases List.mem_cons.1 h with e | h
      · exact .inl e
      · exact .inr (List.mem_cons_of_mem _ h)
    · rcases List.mem_cons.1 h with e | h
      · exact .inr (by rw [e]; exact List.mem_cons_self)
      · rcases putR_keys k s m j h with h | h
        · exact .inl h
        · exact .inr (List.mem_cons_of_mem _ h)
theorem delR_keys (k : Int) : ∀ m, ∀ j ∈ keysN (delR k m), j ∈ keysN m
  | [], _, h => h
  | p :: m, j, h => by
    unfold delR at h
    split at h
    · exact List.mem_cons_of_mem _ h
    · rcases List.mem_cons.1 h with e | h
      · rw [e]; exact List.mem_cons_self
      · exact List.mem_cons_of_mem _ (delR_keys k m j h)
theorem putR_nd (k : Int) (s : List UInt8) : ∀ m, (keysN m).Nodup → (keysN (putR k s m)).Nodup
  | [], _ => by simp [putR, keysN]
  | p :: m, h => by
    obtain ⟨h1, h2⟩ := List.nodup_cons.1 h
    unfold putR
    split
    · rename_i e
      exact List.nodup_cons.2 ⟨by rw [← e]; exact h1, h2⟩
    · rename_i e
      refine List.nodup_cons.2 ⟨fun h => ?_, putR_nd k s m h2⟩
      rcases putR_keys k s m _ h with h | h
      · exact e h
      · exact h1 h
theorem delR_nd (k : Int) : ∀ m, (keysN m).Nodup → (keysN (delR k m)).Nodup
  | [], h => h
  | p :: m, h => by
    obtain ⟨h1, h2⟩ := List.nodup_cons.1 h
    unfold delR
    split
    · exact h2
    · exact List.nodup_cons.2 ⟨fun h => h1 (delR_keys k m _ h), delR_nd k m h2⟩
theorem lk_put (k j : Int) (s : List UInt8) : ∀ m, lkR j (putR k s m) = if k = j then s else lkR j m
  | [] => rfl
  | p :: m => by
    have ih := lk_put k j s m
    by_cases e : p.1 = k
    · rw [show putR k s (p :: m) = (k, s) :: m from if_pos e]
      show (if k = j then s else lkR j m) = if k = j then s else (if p.1 = j then p.2 else lkR j m)
      by_cases e2 : k = j
      · rw [if_pos e2, if_pos e2]
      · rw [if_neg e2, if_neg e2, if_neg (by rw [e]; exact e2)]
    · rw [show putR k s (p :: m) = p :: putR k s m from if_neg e]
      show (if p.1 = j then p.2 else lkR j (putR k s m)) = if k = j then s else (if p.1 = j then p.2 else lkR j m)
      by_cases e3 : p.1 = j
      · rw [if_pos e3, if_pos e3, if_neg (fun e4 => e (by rw [e3, e4]))]
      · rw [if_neg e3, if_neg e3, ih]
theorem lk_no (j : Int) : ∀ m, j ∉ keysN m → lkR j m = zeros
  | [], _ => rfl
  | p :: m, h => by
    unfold lkR
    rw [if_neg (fun e => h (by rw [← e]; exact List.mem_cons_self))]
    exact lk_no j m fun h' => h (List.mem_cons_of_mem _ h')
theorem lk_del (k j : Int) : ∀ m, (keysN m).Nodup → lkR j (delR k m) = if k = j then zeros else lkR j m
  | [], _ => by show zeros = if k = j then zeros else zeros; split <;> rfl
  | p :: m, h => by
    obtain ⟨h1, h2⟩ := List.nodup_cons.1 h
    have ih := lk_del k j m h2
    by_cases e : p.1 = k
    · rw [show delR k (p :: m) = m from if_pos e]
      show _ = if k = j then zeros else (if p.1 = j then p.2 else lkR j m)
      by_cases e2 : k = j
      · rw [if_pos e2]; exact lk_no j m (by rw [← e2, ← e]; exact h1)
      · rw [if_neg e2, if_neg (by rw [e]; exact e2)]
    · rw [show delR k (p :: m) = p :: delR k m from if_neg e]
      show (if p.1 = j then p.2 else lkR j (delR k m)) = if k = j then zeros else (if p.1 = j then p.2 else lkR j m)
      by_cases e3 : p.1 = j
      · rw [if_pos e3, if_pos e3, if_neg (fun e4 => e (by rw [e3, e4]))]
      · rw [if_neg e3, if_neg e3, ih]
theorem layN_R (m : List (Int × List UInt8)) (w : Int × List UInt8) : layN m w = if w.2 = zeros then delR w.1 m else putR w.1 w.2 m := by
  unfold layN; rw [delN_R, putN_R]
theorem lay_nd (m : List (Int × List UInt8)) (w : Int × List UInt8) (h : (keysN m).Nodup) : (keysN (layN m w)).Nodup := by
  rw [layN_R]; split
  · exact delR_nd _ m h
  · exact putR_nd _ _ m h
theorem lk_lay (j : Int) (m : List (Int × List UInt8)) (w : Int × List UInt8) (h : (keysN m).Nodup) : lkR j (layN m w) = if w.1 = j then w.2 else lkR j m := by
  rw [layN_R]; split
  · rename_i e
    rw [lk_del _ _ m h, e]
  · rw [lk_put]
theorem layAll_spec (j : Int) : ∀ (l : List (Int × List UInt8)) (m : List (Int × List UInt8)), (keysN m).Nodup → (keysN (layAll m l)).Nodup ∧ lkR j (layAll m l) = (lastW j l).getD (lkR j m)
  | [], _, h => ⟨h, rfl⟩
  | w :: l, m, h => by
    obtain ⟨h1, h2⟩ := layAll_spec j l (layN m w) (lay_nd m w h)
    refine ⟨h1, ?_⟩
    show lkR j (layAll (layN m w) l) = _
    rw [h2, lk_lay j m w h]
    show _ = (match lastW j l with | some s => some s | none => if w.1 = j then some w.2 else none).getD (lkR j m)
    cases lastW j l with
    | some s => rfl
    | none =>
      by_cases e : w.1 = j
      · rw [if_pos e]; simp [e]
      · rw [if_neg e]; simp [e]
/-- What stays has each place once. -/
def DkG (d : Dk) : Prop := (keysN d.stays).Nodup
theorem DkG_new (n : Nat) : DkG (newD n) := List.nodup_nil
theorem DkG.wr {d : Dk} (h : DkG d) (k : Int) (s : List UInt8) : DkG (wrD d k s) := h
theorem DkG.fl {d : Dk} (h : DkG d) : DkG (flD d) := (layAll_spec 0 _ _ h).1
theorem DkG.cr {d : Dk} (h : DkG d) (keep : List Bool) : DkG (crD d keep) := (layAll_spec 0 _ _ h).1
theorem rd_eq (d : Dk) (j : Int) : rd d j = (lastW j d.cache).getD (lkR j d.stays) := by
  unfold rd; rw [← stay_R]; cases lastW j d.cache <;> rfl
theorem rd_new (n : Nat) (j : Int) : rd (newD n) j = zeros := rfl
theorem rd_wr (d : Dk) (k j : Int) (s : List UInt8) : rd (wrD d k s) j = if k = j then pad s else rd d j := by
  rw [rd_eq, rd_eq]
  show (lastW j (d.cache ++ [(k, pad s)])).getD _ = _
  rw [lastW_snoc]
  by_cases e : k = j
  · rw [if_pos e, if_pos e]; rfl
  · rw [if_neg e, if_neg e]; rfl
theorem rd_fl {d : Dk} (h : DkG d) (j : Int) : rd (flD d) j = rd d j := by
  rw [rd_eq, rd_eq]
  exact (layAll_spec j _ _ h).2
theorem rd_cr {d : Dk} (h : DkG d) (keep : List Bool) (j : Int) : rd (crD d keep) j = (lastW j (keptL d.cache keep)).getD (lkR j d.stays) := by
  rw [rd_eq]
  exact (layAll_spec j _ _ h).2
theorem pad_len {s : List UInt8} (h : s.length ≤ 128) : (pad s).length = 128 := by
  unfold pad; rw [List.length_append, List.length_drop, zeros_len]; omega
theorem crcTake_put (b : List UInt8) : crcTake (crcPut b) = some b := by
  unfold crcTake
  have h := crcPut_len b
  have h2 : (crcPut b).take ((crcPut b).length - 4) = b := by rw [h, show b.length + 4 - 4 = b.length by omega]; unfold crcPut; exact List.take_left
  rw [if_pos (by omega), h2, if_pos rfl]
theorem unseal_seal (b t : List UInt8) (h : b.length ≤ 123) : unsealB (sealB b ++ t) = some b := by
  unfold sealB
  rw [if_pos h]
  show (if (UInt8.ofNat b.length).toNat ≤ 123 then (if (UInt8.ofNat b.length).toNat + 4 ≤ (crcPut b ++ t).length then crcTake ((crcPut b ++ t).take ((UInt8.ofNat b.length).toNat + 4)) else none) else none) = _
  have e : (UInt8.ofNat b.length).toNat = b.length := by rw [UInt8.toNat_ofNat']; omega
  have hp := crcPut_len b
  rw [e, if_pos h, if_pos (by rw [List.length_append]; omega), ← hp, List.take_left]
  exact crcTake_put b
theorem unseal_zeros : unsealB zeros = some [] := by decide +kernel
theorem tell_zeros : TellCase zeros 0 0 := .inr ⟨.inl unseal_zeros, rfl, rfl⟩
theorem tell_turn {t b : Nat} (h1 : t ≤ 1099511627776) (h2 : b ≤ t) : TellCase (pad (turnB t b)) t b := by
  refine .inl ⟨?_, h1, h2⟩
  unfold pad turnB
  rw [unseal_seal _ _ (by have := uintB_len t; have := uintB_len b; simp only [List.length_append, List.length_singleton]; omega), List.append_assoc]
theorem at_zeros (i : Nat) : AtOK zeros i none := .inl unseal_zeros
theorem at_place {t i : Nat} {c : Nat} {sm pt : List UInt8} {more : Bool} (hc : c = if more = true then 1 else 0) (ht : t ≤ 1099511627776) (hs : sm.length = 4) (hp : pt.length ≤ 100) (hm : more = true → pt.length = 100) (hh : (headL t i c).length ≤ 19) :
    AtOK (pad (sealB (headL t i c ++ sm ++ pt))) i (some ⟨t, sm, pt, more⟩) := by
  refine ⟨?_, ht, hs, hp, hm⟩
  unfold pad
  rw [unseal_seal _ _ (by simp only [List.length_append]; omega), List.append_assoc, hc]
end Go.Proofs

/-
  The log's calls one behind the other: each with what lies there behind it.
-/

namespace Go.Proofs
open Go.PW
/-- A disk, and names above which nothing lies. -/
structure LW (H : HMap) (A : AMap) (k did : Nat) (κm κc : Tok) (d : Dk) : Prop where
  wf : Wf H A
  ab : Above k H A
  dk : DkAt H A did κm κc d
theorem LgAt.mv {H H' : HMap} {A A' : AMap} {lid did : Nat} {κr : Tok} {l : Lg} (hl : LgAt H A lid did κr l) (h1 : H' lid = H lid) (h2 : A' κr = A κr) : LgAt H' A' lid did κr l := ⟨by rw [h1]; exact hl.h, by rw [h2]; exact hl.r⟩
theorem burnt_no {d : Dk} (h : d.fused = false) : burnt d = false := by unfold burnt; rw [h]; rfl
/-- A call, and what is there behind it. -/
def StepOK (P : Program) (f : FuncId) (H : HMap) (A : AMap) (args : List PV) (v : PV) (R : HMap → AMap → Prop) : Prop := ∃ H' A', EffOK P f 1000 H A args v H' A' ∧ R H' A'
theorem unfold_needN (n : Nat) : needN n = max 1 ((n + 99) / 100) := by unfold needN; omega
section wal
variable {H : HMap} {A : AMap} {k did : Nat} {κm κc : Tok} {d : Dk}
theorem LW.ne (hL : LW H A k did κm κc d) : did < k ∧ κm.1 < k ∧ κc.1 < k := hL.dk.lt hL.ab
theorem LW.new (hL : LW H A k did κm κc d) (j : Nat) : H k = none ∧ A (k, j) = none := ⟨(hL.ab k (Nat.le_refl k)).1, (hL.ab k (Nat.le_refl k)).2 j⟩
theorem tok_ne {a b : Tok} (h : a.1 ≠ b.1) : a ≠ b := fun e => h (by rw [e])
theorem Try.sNew (b n : Nat) (h1 : 1 ≤ n) (h2 : n ≤ 4096) : StepOK Try.prog 19 noH noA [pD (.lit (.int .i64 n))] (.tup [.c (.ptr b 0), .c (.d (.lit (.int .i64 0)))]) fun H' A' =>
    LW H' A' (b + 1) b (b, 0) (b, 1) (newD n) ∧ (∀ j, j ≠ b → H' j = none) ∧ ∀ τ, τ.1 ≠ b → A' τ = none := by
  have hw : Wf noH noA := fun i cs c h => by cases h
  have nk : ((b, 0) : Tok) ≠ (b, 1) := fun e => by cases e
  have kn := Try.kDiskNew (id := b) (κm := (b, 0)) (κc := (b, 1)) 1000 hw n h1 h2 rfl rfl rfl nk
  refine ⟨_, _, kn, ⟨?_, ?_, upd_same _ _ _, ?_, upd_same _ _ _⟩, fun j hj => upd_other _ _ hj, fun τ hτ => by rw [upd_other _ _ (tok_ne hτ), upd_other _ _ (tok_ne hτ)]; rfl⟩
  · refine Wf_set hw (DkAt.ok (A := upd (upd noA (b, 0) (some (.mp []))) (b, 1) (some (.co 2 0))) ?_ ?_) (fun κ h => (h rfl).elim)
    · rw [upd_other _ _ nk, upd_same]; simp
    · rw [upd_same]; simp
  · exact Above_updA (Above_updA (Above_updH (fun i _ => ⟨rfl, fun _ => rfl⟩) (Nat.lt_succ_self b)) (Nat.lt_succ_self b)) (Nat.lt_succ_self b)
  · rw [upd_other _ _ nk, upd_same]; rfl
theorem Try.sOpen (hL : LW H A k did κm κc d) (hk : k < 1000) {f n t0 b0 t1 b1 : Nat} {pl : Nat → Option Pc} (ho : OpAt d f n t0 b0 t1 b1 pl) (hf : d.fused = false) :
    StepOK Try.prog 35 H A [.c (.ptr did 0), pD (.lit (.int .i64 f)), pD (.lit (.int .i64 n))] (.tup [.c (.ptr k 0), .c (.d (.lit (.int .i64 0)))]) fun H' A' =>
      LW H' A' (k + 1) did κm (k, 1) (nextD d f (opT t0 t1 + 1) (opB t0 b0 t1 b1)) ∧ LgAt H' A' k did (k, 0) (opL f n t0 b0 t1 b1 pl) ∧ (∀ lid κr l, LgAt H A lid did κr l → LgAt H' A' lid did κr l) ∧ (∀ j, j ≠ did → j ≠ k → H' j = H j) ∧ (∀ τ, τ ≠ κm → τ ≠ κc → τ.1 < k → A' τ = A τ) ∧ ∀ τ, A τ ≠ none → A' τ ≠ none := by
  obtain ⟨n1, n2, n3⟩ := hL.ne
  have nk : ((k, 1) : Tok) ≠ (k, 0) := fun e => by cases e
  have nm0 : κm ≠ (k, 0) := tok_ne (by show κm.1 ≠ k; omega)
  have nm1 : κm ≠ (k, 1) := tok_ne (by show κm.1 ≠ k; omega)
  have nc0 : κc ≠ (k, 0) := tok_ne (by show κc.1 ≠ k; omega)
  have nc1 : κc ≠ (k, 1) := tok_ne (by show κc.1 ≠ k; omega)
  have ko := Try.kOpen (id := k) (κr := (k, 0)) (κ' := (k, 1)) 1000 hL.wf hL.dk ho (burnt_no hf) (burnt_no hf) (hL.new 0).1 (hL.new 0).2 (by show k < 2000; omega) (hL.new 1).2 nk
  have hdc : (nextD d f (opT t0 t1 + 1) (opB t0 b0 t1 b1)).cache.length = 0 := rfl
  generalize nextD d f (opT t0 t1 + 1) (opB t0 b0 t1 b1) = dn at *
  generalize opL f n t0 b0 t1 b1 pl = l' at *
  have kA : ∀ τ, A τ ≠ none → upd (upd (upd (upd A (k, 0) (some (.co 1 l'.recs.length))) κc (some (.co 2 (d.cache.length + 1)))) κm (some (.mp (encNS dn.stays)))) (k, 1) (some (.co 2 0)) τ ≠ none := fun τ h => upd_keep _ (upd_keep _ (upd_keep _ (upd_keep _ h)))
  have rκ : upd (upd (upd (upd A (k, 0) (some (.co 1 l'.recs.length))) κc (some (.co 2 (d.cache.length + 1)))) κm (some (.mp (encNS dn.stays)))) (k, 1) (some (.co 2 0)) (k, 0) = some (.co 1 l'.recs.length) := by
    rw [upd_other _ _ nk.symm, upd_other _ _ nm0.symm, upd_other _ _ nc0.symm, upd_same]
  refine ⟨_, _, ko, ⟨?_, ?_, ?_⟩, ⟨upd_same _ _ _, rκ⟩, ?_, fun j q1 q2 => by rw [upd_other _ _ q2, upd_other _ _ q1], fun τ q1 q2 q3 => by rw [upd_other _ _ (tok_ne (by show τ.1 ≠ k; omega)), upd_other _ _ q1, upd_other _ _ q2, upd_other _ _ (tok_ne (by show τ.1 ≠ k; omega))], kA⟩
  · exact Wf_set (A := upd (upd (upd (upd A (k, 0) (some (.co 1 l'.recs.length))) κc (some (.co 2 (d.cache.length + 1)))) κm (some (.mp (encNS dn.stays)))) (k, 1) (some (.co 2 0))) (Wf_set hL.wf (DkAt.ok (kA κm (by rw [hL.dk.m]; simp)) (by rw [upd_same]; simp)) kA)
      (LgAt.ok (upd_keepH _ (by rw [upd_same]; simp)) (by rw [rκ]; simp)) (fun _ h => h)
  · exact Above_updA (Above_updA (Above_updA (Above_updA (Above_updH (Above_updH (Above_mono hL.ab (by omega)) (by omega)) (by omega)) (by show k < k + 1; omega)) (by omega)) (by omega)) (by show k < k + 1; omega)
  · refine ⟨by rw [upd_other _ _ (by omega), upd_same], by rw [upd_other _ _ nm1, upd_same], by rw [upd_same, hdc]⟩
  · intro lid κr l hl
    obtain ⟨m1, m2⟩ := hl.lt hL.ab
    exact hl.mv (by rw [upd_other _ _ (by omega), upd_other _ _ (hl.ne hL.dk)]) (by rw [upd_other _ _ (tok_ne (by show κr.1 ≠ k; omega)), upd_other _ _ (hl.nm hL.dk), upd_other _ _ (hl.nc hL.dk), upd_other _ _ (tok_ne (by show κr.1 ≠ k; omega))])
theorem Try.sAppend (hL : LW H A k did κm κc d) {lid : Nat} {κr : Tok} {l : Lg} (hl : LgAt H A lid did κr l) (hh : l.halted = false) (s : List UInt8) (hs : s.length ≤ 5000) (hfit : l.used + needN s.length ≤ l.places) (hp : l.places ≤ 1000) (ht : l.turn < 9223372036854775808)
    (hin : l.from_ + 2 + l.places ≤ d.n) (hdn : d.n ≤ 4096) (hcl : d.cache.length + 100 ≤ 1000000) (hrl : l.recs.length ≤ 1000000) (hf : d.fused = false) :
    StepOK Try.prog 41 H A [.c (.ptr lid 0), pD (dS s)] (pD (.lit (.int .i64 0))) fun H' A' =>
      LW H' A' k did κm κc (apD l s (partsL s).length (partsL s) d (partsL s).length) ∧ LgAt H' A' lid did κr { l with recs := l.recs ++ [s], used := l.used + (partsL s).length } ∧ (∀ lid' κr' l', lid' ≠ lid → κr' ≠ κr → LgAt H A lid' did κr' l' → LgAt H' A' lid' did κr' l') ∧ (∀ j, j ≠ did → j ≠ lid → H' j = H j) ∧ (∀ τ, τ ≠ κc → τ ≠ κr → A' τ = A τ) ∧ ∀ τ, A τ ≠ none → A' τ ≠ none := by
  obtain ⟨n1, n2, n3⟩ := hL.ne
  obtain ⟨m1, m2⟩ := hl.lt hL.ab
  have ka := Try.kAppend 1000 hL.wf hl hL.dk hh s hs hfit hp ht hin hdn hcl hrl hf
  have hsp := (apD_spec l s (partsL s).length (partsL s) d (partsL s).length).2.1
  have hst := (apD_spec l s (partsL s).length (partsL s) d (partsL s).length).2.2.2
  generalize apD l s (partsL s).length (partsL s) d (partsL s).length = dn at *
  have kA : ∀ τ, A τ ≠ none → upd (upd A κc (some (.co 2 (d.cache.length + (partsL s).length)))) κr (some (.co 1 (l.recs.length + 1))) τ ≠ none := fun τ h => upd_keep _ (upd_keep _ h)
  refine ⟨_, _, ka, ⟨?_, ?_, ?_⟩, ⟨upd_same _ _ _, by rw [upd_same]; simp⟩, ?_, fun j q1 q2 => by rw [upd_other _ _ q2, upd_other _ _ q1], fun τ q1 q2 => by rw [upd_other _ _ q2, upd_other _ _ q1], kA⟩
  · exact Wf_set (A := upd (upd A κc (some (.co 2 (d.cache.length + (partsL s).length)))) κr (some (.co 1 (l.recs.length + 1)))) (Wf_set hL.wf (DkAt.ok (kA κm (by rw [hL.dk.m]; simp)) (kA κc (by rw [hL.dk.c]; simp))) kA) (LgAt.ok (upd_keepH _ (by rw [upd_same]; simp)) (by rw [upd_same]; simp)) (fun _ h => h)
  · exact Above_updA (Above_updA (Above_updH (Above_updH hL.ab n1) m1) n3) m2
  · refine ⟨by rw [upd_other _ _ (hl.ne hL.dk).symm, upd_same], by rw [upd_other _ _ (hl.nm hL.dk).symm, upd_other _ _ hL.dk.ne.symm, hst]; exact hL.dk.m, by rw [upd_other _ _ (hl.nc hL.dk).symm, upd_same, hsp]⟩
  · intro lid' κr' l' q1 q2 hl'
    exact hl'.mv (by rw [upd_other _ _ q1, upd_other _ _ (hl'.ne hL.dk)]) (by rw [upd_other _ _ q2, upd_other _ _ (hl'.nc hL.dk)])
theorem Try.sCommit (hL : LW H A k did κm κc d) (hk : k < 1000) {lid : Nat} {κr : Tok} {l : Lg} (hl : LgAt H A lid did κr l) (hh : l.halted = false) (hn : 0 < d.n) (hcl : d.cache.length ≤ 1000000) (hf : d.fused = false) :
    StepOK Try.prog 42 H A [.c (.ptr lid 0)] (pD (.lit (.int .i64 0))) fun H' A' => LW H' A' (k + 1) did κm (k, 0) (flD d) ∧ (∀ lid κr l, LgAt H A lid did κr l → LgAt H' A' lid did κr l) ∧ (∀ j, j ≠ did → H' j = H j) ∧ (∀ τ, τ ≠ κm → τ.1 < k → A' τ = A τ) ∧ ∀ τ, A τ ≠ none → A' τ ≠ none := by
  obtain ⟨n1, n2, n3⟩ := hL.ne
  have nm0 : κm ≠ (k, 0) := tok_ne (by show κm.1 ≠ k; omega)
  have kc := Try.kCommit (κ' := (k, 0)) 1000 hL.wf hl hL.dk hh hn hcl (burnt_no hf) (hL.new 0).2 (by show k < 2000; omega)
  have hdc : (flD d).cache.length = 0 := rfl
  generalize flD d = dn at *
  have kA : ∀ τ, A τ ≠ none → upd (upd A κm (some (.mp (encNS dn.stays)))) (k, 0) (some (.co 2 0)) τ ≠ none := fun τ h => upd_keep _ (upd_keep _ h)
  refine ⟨_, _, kc, ⟨?_, ?_, ?_⟩, ?_, fun j q1 => by rw [upd_other _ _ q1], fun τ q1 q2 => by rw [upd_other _ _ (tok_ne (by show τ.1 ≠ k; omega)), upd_other _ _ q1], kA⟩
  · exact Wf_set hL.wf (DkAt.ok (kA κm (by rw [hL.dk.m]; simp)) (by rw [upd_same]; simp)) kA
  · exact Above_updA (Above_updA (Above_updH (Above_mono hL.ab (by omega)) (by omega)) (by omega)) (by show k < k + 1; omega)
  · exact ⟨upd_same _ _ _, by rw [upd_other _ _ nm0, upd_same], by rw [upd_same, hdc]⟩
  · intro lid κr l hl
    obtain ⟨m1, m2⟩ := hl.lt hL.ab
    exact hl.mv (by rw [upd_other _ _ (hl.ne hL.dk)]) (by rw [upd_other _ _ (tok_ne (by show κr.1 ≠ k; omega)), upd_other _ _ (hl.nm hL.dk)])
theorem Try.sCrash (hL : LW H A k did κm κc d) (hn : 0 < d.n) (hcl : d.cache.length ≤ 1000000) (keep : List Bool) (hkp : keep.length ≤ d.cache.length) :
    StepOK Try.prog 22 H A [.c (.ptr did 0), .c (.d (.sl (bools keep)))] (pD (.lit (.int .i64 0))) fun H' A' => LW H' A' (k + 1) did κm (k, 0) (crD d keep) ∧ (∀ lid κr l, LgAt H A lid did κr l → LgAt H' A' lid did κr l) ∧ (∀ j, j ≠ did → H' j = H j) ∧ (∀ τ, τ ≠ κm → τ.1 < k → A' τ = A τ) ∧ ∀ τ, A τ ≠ none → A' τ ≠ none := by
  obtain ⟨n1, n2, n3⟩ := hL.ne
  have nm0 : κm ≠ (k, 0) := tok_ne (by show κm.1 ≠ k; omega)
  have kc := Try.kCrash (κ' := (k, 0)) 1000 hL.wf hL.dk hn hcl keep hkp (hL.new 0).2
  have hdc : (crD d keep).cache.length = 0 := rfl
  generalize crD d keep = dn at *
  have kA : ∀ τ, A τ ≠ none → upd (upd A κm (some (.mp (encNS dn.stays)))) (k, 0) (some (.co 2 0)) τ ≠ none := fun τ h => upd_keep _ (upd_keep _ h)
  refine ⟨_, _, kc, ⟨?_, ?_, ?_⟩, ?_, fun j q1 => by rw [upd_other _ _ q1], fun τ q1 q2 => by rw [upd_other _ _ (tok_ne (by show τ.1 ≠ k; omega)), upd_other _ _ q1], kA⟩
  · exact Wf_set hL.wf (DkAt.ok (kA κm (by rw [hL.dk.m]; simp)) (by rw [upd_same]; simp)) kA
  · exact Above_updA (Above_updA (Above_updH (Above_mono hL.ab (by omega)) (by omega)) (by omega)) (by show k < k + 1; omega)
  · exact ⟨upd_same _ _ _, by rw [upd_other _ _ nm0, upd_same], by rw [upd_same, hdc]⟩
  · intro lid κr l hl
    obtain ⟨m1, m2⟩ := hl.lt hL.ab
    exact hl.mv (by rw [upd_other _ _ (hl.ne hL.dk)]) (by rw [upd_other _ _ (tok_ne (by show κr.1 ≠ k; omega)), upd_other _ _ (hl.nm hL.dk)])
theorem Try.sReset (hL : LW H A k did κm κc d) (hk : k < 1000) {lid : Nat} {κr : Tok} {l : Lg} (hl : LgAt H A lid did κr l) (hh : l.halted = false) (ht : l.turn + 1 < 9223372036854775807) (hin : l.from_ + 1 < d.n) (hdn : d.n ≤ 4096) (hcl : d.cache.length + 1 ≤ 1000000) (hf : d.fused = false) :
    StepOK Try.prog 72 H A [.c (.ptr lid 0)] (pD (.lit (.int .i64 0))) fun H' A' => LW H' A' (k + 1) did κm (k, 0) (nextD d l.from_ (l.turn + 1) (l.turn + 1)) ∧ LgAt H' A' lid did (k, 1) { l with turn := l.turn + 1, base := l.turn + 1, used := 0, recs := [] } ∧
      (∀ lid' κr' l', lid' ≠ lid → LgAt H A lid' did κr' l' → LgAt H' A' lid' did κr' l') ∧ (∀ j, j ≠ did → j ≠ lid → H' j = H j) ∧ (∀ τ, τ ≠ κm → τ ≠ κc → τ.1 < k → A' τ = A τ) ∧ ∀ τ, A τ ≠ none → A' τ ≠ none := by
  obtain ⟨n1, n2, n3⟩ := hL.ne
  obtain ⟨m1, m2⟩ := hl.lt hL.ab
  have nk : ((k, 1) : Tok) ≠ (k, 0) := fun e => by cases e
  have nm0 : κm ≠ (k, 0) := tok_ne (by show κm.1 ≠ k; omega)
  have nm1 : κm ≠ (k, 1) := tok_ne (by show κm.1 ≠ k; omega)
  have kr := Try.kReset (κ' := (k, 0)) (κr' := (k, 1)) 1000 hL.wf hl hL.dk hh ht hin hdn hcl (burnt_no hf) (burnt_no hf) (hL.new 0).2 (by show k < 2000; omega) (hL.new 1).2 nk
  have hdc : (nextD d l.from_ (l.turn + 1) (l.turn + 1)).cache.length = 0 := rfl
  generalize nextD d l.from_ (l.turn + 1) (l.turn + 1) = dn at *
  have kA : ∀ τ, A τ ≠ none → upd (upd (upd (upd A κc (some (.co 2 (d.cache.length + 1)))) κm (some (.mp (encNS dn.stays)))) (k, 0) (some (.co 2 0))) (k, 1) (some (.co 1 0)) τ ≠ none := fun τ h => upd_keep _ (upd_keep _ (upd_keep _ (upd_keep _ h)))
  refine ⟨_, _, kr, ⟨?_, ?_, ?_⟩, ⟨upd_same _ _ _, by rw [upd_same]; rfl⟩, ?_, fun j q1 q2 => by rw [upd_other _ _ q2, upd_other _ _ q2, upd_other _ _ q1], fun τ q1 q2 q3 => by rw [upd_other _ _ (tok_ne (by show τ.1 ≠ k; omega)), upd_other _ _ (tok_ne (by show τ.1 ≠ k; omega)), upd_other _ _ q1, upd_other _ _ q2], kA⟩
  · exact Wf_set (A := upd (upd (upd (upd A κc (some (.co 2 (d.cache.length + 1)))) κm (some (.mp (encNS dn.stays)))) (k, 0) (some (.co 2 0))) (k, 1) (some (.co 1 0)))
      (Wf_set (A := upd (upd (upd (upd A κc (some (.co 2 (d.cache.length + 1)))) κm (some (.mp (encNS dn.stays)))) (k, 0) (some (.co 2 0))) (k, 1) (some (.co 1 0)))
        (Wf_set hL.wf (DkAt.ok (kA κm (by rw [hL.dk.m]; simp)) (upd_keep _ (by rw [upd_same]; simp))) kA) (LgAt.ok (upd_keepH _ (by rw [upd_same]; simp)) (kA κr (by rw [hl.r]; simp))) (fun _ h => h))
      (LgAt.ok (upd_keepH _ (upd_keepH _ (by rw [upd_same]; simp))) (by rw [upd_same]; simp)) (fun _ h => h)
  · exact Above_updA (Above_updA (Above_updA (Above_updA (Above_updH (Above_updH (Above_updH (Above_mono hL.ab (by omega)) (by omega)) (by omega)) (by omega)) (by omega)) (by omega)) (by show k < k + 1; omega)) (by show k < k + 1; omega)
  · exact ⟨by rw [upd_other _ _ (hl.ne hL.dk).symm, upd_other _ _ (hl.ne hL.dk).symm, upd_same], by rw [upd_other _ _ nm1, upd_other _ _ nm0, upd_same], by rw [upd_other _ _ nk.symm, upd_same, hdc]⟩
  · intro lid' κr' l' q1 hl'
    obtain ⟨p1, p2⟩ := hl'.lt hL.ab
    exact hl'.mv (by rw [upd_other _ _ q1, upd_other _ _ q1, upd_other _ _ (hl'.ne hL.dk)]) (by rw [upd_other _ _ (tok_ne (by show κr'.1 ≠ k; omega)), upd_other _ _ (tok_ne (by show κr'.1 ≠ k; omega)), upd_other _ _ (hl'.nm hL.dk), upd_other _ _ (hl'.nc hL.dk)])
set_option maxRecDepth 8000 in
set_option maxHeartbeats 16000000 in
theorem Try.kAppendF (off : Nat) (hw : Wf H A) {lid : Nat} {κr : Tok} {l : Lg} (hl : LgAt H A lid did κr l) (hh : l.halted = false) (s : List UInt8) (hs : s.length ≤ 100000) (h1 : l.used ≤ l.places) (h2 : l.places ≤ 1000) (hno : l.places < l.used + needN s.length) :
    EffOK Try.prog 41 off H A [.c (.ptr lid 0), pD (dS s)] (pD (.lit (.int .i64 3))) H A := by
  refine effr_ok (E := envOf Try.prog [64, 39] off [] []) (envOf_ok Try.mixed) Try.func41 rfl Try.call41 (by kernel_rfl) (by exact Nat.le_of_ble_eq_true rfl) (fun hab => ?_)
  have ks := Try.kState (off + 1000) hw hl hh
  have kf := Try.kFits (off + 1000) hw hl s.length hs h1 h2
  rw [show decide (l.used + needN s.length ≤ l.places) = false from decide_eq_false (by omega)] at kf
  repeat' (first
   | with_reducible first | refine VC_seq fun K hK => ?_ | refine W_region ?_ | refine VC_block ?_ | refine VC_scope ?_ | refine VC_if ?_ | refine VC_skip ?_ | refine VC_exit ?_ | refine VC_ret ?_
   | (with_reducible first | refine G_not (fun h => ?_) (fun h => ?_) | refine G_cases (fun h => ?_) (fun h => ?_)) <;> (try simp only [h])
   | refine C_call rfl ks rfl (Above_mono hab (by omega)) ?_
   | refine C_call rfl kf rfl (Above_mono hab (by omega)) ?_
   | with_reducible first | (refine hK _ ?_; clear hK K) | (clear hK K; refine hK _ ?_; clear hK K) | (clear hK K; clear hK K; refine hK _ ?_; clear hK K) | (clear hK K; clear hK K; clear hK K; refine hK _ ?_; clear hK K)
   | (with_reducible refine todo ?_; simp +decide only [go_sem, zne]))
  exact RetR_same rfl (by simp +decide only [go_sem]) True.intro hw kp_refl (fun _ _ => rfl)
set_option maxRecDepth 8000 in
set_option maxHeartbeats 16000000 in
theorem Try.kOpenE (off : Nat) (hw : Wf H A) (hd : DkAt H A did κm κc d) (f n : Nat) (n1 : 4 ≤ n) (n2 : n ≤ 1000) (hn : 0 < d.n) (h1 : f ≤ d.n) (h2 : d.n < f + n) (hdn : d.n ≤ 4096) :
    EffOK Try.prog 35 off H A [.c (.ptr did 0), pD (.lit (.int .i64 f)), pD (.lit (.int .i64 n))] (.tup [.c (.d (.lit (.pointer none))), .c (.d (.lit (.int .i64 1)))]) H A := by
  refine effr_ok (E := envOf Try.prog [34] off [] []) (envOf_ok Try.mixed) Try.func35 rfl Try.call35 (by kernel_rfl) (by exact Nat.le_of_ble_eq_true rfl) (fun hab => ?_)
  have q1 : ((d.n : Int) == 0) = false := by rw [beq_eq_false_iff_ne]; omega
  have q2 : ((n : Int) < 4) = False := eq_false (by omega)
  have q3 : ((1000 : Int) < (n : Int)) = False := eq_false (by omega)
  have q4 : ((f : Int) < 0) = False := eq_false (by omega)
  have q5 : ((d.n : Int) < (f : Int)) = False := eq_false (by omega)
  have q6 : IntKind.i64.wrap ((d.n : Int) - (f : Int)) = ((d.n - f : Nat) : Int) := by rw [Go.IntWalk.i64_in _ (by omega)]; omega
  have q7 : (((d.n - f : Nat) : Int) < (n : Int)) = True := eq_true (by omega)
  have kl := Try.kLen (off + 1000) hw hd
  repeat' (first
   | with_reducible first | refine VC_seq fun K hK => ?_ | refine W_region ?_ | refine VC_block ?_ | refine VC_scope ?_ | refine VC_if ?_ | refine VC_skip ?_ | refine VC_exit ?_ | refine VC_ret ?_
   | (with_reducible first | refine G_not (fun h => ?_) (fun h => ?_) | refine G_cases (fun h => ?_) (fun h => ?_)) <;> (try simp only [h])
   | refine C_call rfl kl rfl (Above_mono hab (by omega)) ?_
   | with_reducible first | (refine hK _ ?_; clear hK K) | (clear hK K; refine hK _ ?_; clear hK K) | (clear hK K; clear hK K; refine hK _ ?_; clear hK K) | (clear hK K; clear hK K; clear hK K; refine hK _ ?_; clear hK K)
   | (with_reducible refine todo ?_; simp +decide only [go_sem, q1, q2, q3, q4, q5, q6, q7]))
  exact RetR_same rfl wk_pair oks_pair hw kp_refl (fun _ _ => rfl)
end wal
/-- A contract without variables is one on data. -/
theorem pure_eff {P : Program} {f : FuncId} {args : List PV} {x : D} (hcl : args.all PV.closed = true) (h : EffOK P f 0 noH noA args (pD x) noH noA) : PureOK P f args (.one (.d x)) := by
  refine ⟨hcl, fun C w vals hC har => ?_⟩
  have hm : MRel (gOnly C) noH noA w := ⟨hC, fun id b hb => (by cases hb), fun κ ar hA => (by cases hA), fun b o ho => (by cases ho)⟩
  rcases h (gOnly C) w vals hm (fun _ _ => rfl) (fun i _ => ⟨rfl, fun _ => rfl⟩) har with ⟨a, hc⟩ | ⟨v, w', hc, g', h1, h2, h3, _⟩
  · exact .inl ⟨a, hc.mono fun e W' ⟨v, e1, g', h1, h2, h3, _⟩ => ⟨v, e1, g', h1, h2, h3⟩⟩
  · exact .inr ⟨v, w', hc, g', h1, h2, h3⟩
end Go.Proofs

/-
  A disk on which no fuse burns.
-/

namespace Go.Proofs
open Go.PW
/-- A disk on which no fuse burns. -/
structure DI (n c : Nat) (d : Dk) : Prop where
  n : d.n = n
  c : d.cache.length = c
  f : d.fused = false
  g : DkG d
theorem DI.new (n : Nat) : DI n 0 (newD n) := ⟨rfl, rfl, rfl, DkG_new n⟩
theorem DI.wr {n c : Nat} {d : Dk} (h : DI n c d) (k : Int) (s : List UInt8) : DI n (c + 1) (wrD d k s) := ⟨h.n, by show (d.cache ++ [_]).length = _; rw [List.length_append, h.c]; rfl, h.f, h.g⟩
theorem DI.fl {n c : Nat} {d : Dk} (h : DI n c d) : DI n 0 (flD d) := ⟨h.n, rfl, h.f, h.g.fl⟩
theorem DI.cr {n c : Nat} {d : Dk} (h : DI n c d) (keep : List Bool) : DI n 0 (crD d keep) := ⟨h.n, rfl, rfl, h.g.cr keep⟩
theorem DI.next {n c : Nat} {d : Dk} (h : DI n c d) (f t b : Nat) : DI n 0 (nextD d f t b) := (h.wr _ _).fl
theorem DI.ap {n c : Nat} {d : Dk} (h : DI n c d) (l : Lg) (s : List UInt8) (m : Nat) (cut : List (List UInt8)) : ∀ k, DI n (c + k) (apD l s m cut d k)
  | 0 => h
  | k + 1 => (DI.ap h l s m cut k).wr _ _
theorem rd_next {n c : Nat} {d : Dk} (h : DI n c d) (f t b : Nat) (j : Int) : rd (nextD d f t b) j = if ((f + t % 2 : Nat) : Int) = j then pad (turnB t b) else rd d j := by
  unfold nextD
  rw [rd_fl (h.g.wr _ _), rd_wr]
theorem rd_cr0 {n c : Nat} {d : Dk} (h : DI n c d) (j : Int) : rd (crD d []) j = lkR j d.stays := by
  rw [rd_cr h.g, show keptL d.cache [] = [] by unfold keptL; simp]
  rfl
theorem rd_stays {n : Nat} {d : Dk} (h : DI n 0 d) (j : Int) : lkR j d.stays = rd d j := by
  rw [rd_eq, List.length_eq_zero_iff.1 h.c]; rfl
theorem pad_seal_len (b : List UInt8) : (pad (sealB b)).length ≤ 128 := by rw [pad_len (sealB_len b)]; omega
theorem if_len {p : Prop} [Decidable p] {b x : List UInt8} (h : x.length ≤ 128) : (if p then pad (sealB b) else x).length ≤ 128 := by
  split
  · exact pad_seal_len b
  · exact h
end Go.Proofs
