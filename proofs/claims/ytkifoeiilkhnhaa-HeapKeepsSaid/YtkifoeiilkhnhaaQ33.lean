import Derived.Test.YtkifoeiilkhnhaaQ32
import Derived.Test.YtkifoeiilkhnhaaQ28

/-
  The pager in plain Lean: pages, what a commit makes of the disk.
-/


namespace Go.Proofs
open Go.PW
def valR (k : Int) : List (Int × List UInt8) → Option (List UInt8)
  | [] => none
  | p :: m => if p.1 = k then some p.2 else valR k m
theorem valR_find (k : Int) : ∀ m, (findN k m 0).map (·.2) = valR k m
  | [] => rfl
  | p :: m => by
    have ih := valR_find k m
    unfold findN valR
    by_cases h : p.1 = k
    · rw [if_pos h, if_pos h]; rfl
    · rw [if_neg h, if_neg h, findN_shift, ← ih]
      cases findN k m 0 <;> rfl
theorem valR_put (j k : Int) (s : List UInt8) : ∀ m, valR j (putR k s m) = if k = j then some s else valR j m
  | [] => by
    show valR j [(k, s)] = _
    unfold valR
    rfl
  | p :: m => by
    have ih := valR_put j k s m
    unfold putR
    by_cases h : p.1 = k
    · rw [if_pos h]
      unfold valR
      subst h
      by_cases h2 : p.1 = j
      · simp [h2]
      · simp [h2]
    · rw [if_neg h]
      unfold valR
      rw [ih]
      by_cases h2 : p.1 = j
      · rw [if_pos h2, if_pos h2, if_neg (fun e => h (by rw [h2, e]))]
      · rw [if_neg h2, if_neg h2]
theorem valR_none {j : Int} : ∀ {m : List (Int × List UInt8)}, valR j m = none ↔ j ∉ keysN m
  | [] => by simp [valR, keysN]
  | p :: m => by
    have ih := valR_none (j := j) (m := m)
    unfold valR
    by_cases h : p.1 = j
    · rw [if_pos h]; simp [keysN, h]
    · rw [if_neg h, ih]
      simp [keysN, Ne.symm h]
theorem valR_mem {j : Int} {s : List UInt8} : ∀ {m : List (Int × List UInt8)}, valR j m = some s → (j, s) ∈ m
  | [], h => by cases h
  | p :: m, h => by
    unfold valR at h
    split at h
    · rename_i e
      cases h
      rw [← e]
      exact List.mem_cons_self
    · exact List.mem_cons_of_mem _ (valR_mem h)
/-- What is right of the pages that are changed. -/
structure KsOK (N : Nat) (m : List (Int × List UInt8)) : Prop where
  nd : (keysN m).Nodup
  rg : ∀ x ∈ m, 0 ≤ x.1 ∧ x.1 < (N : Int)
  len : ∀ x ∈ m, x.2.length = 128
theorem KsOK.nil (N : Nat) : KsOK N [] := ⟨List.nodup_nil, fun _ h => (by cases h), fun _ h => (by cases h)⟩
theorem putR_mem {k : Int} {s : List UInt8} : ∀ {m : List (Int × List UInt8)} {x}, x ∈ putR k s m → x = (k, s) ∨ x ∈ m
  | [], x, h => by
    have : x = (k, s) := by simpa [putR] using h
    exact .inl this
  | p :: m, x, h => by
    unfold putR at h
    split at h
    · rcases List.mem_cons.1 h with h | h
      · exact .inl h
      · exact .inr (List.mem_cons_of_mem _ h)
    · rcases List.mem_cons.1 h with h | h
      · exact .inr (by rw [h]; exact List.mem_cons_self)
      · exact (putR_mem h).imp id fun h => List.mem_cons_of_mem _ h
theorem KsOK.put {N : Nat} {m : List (Int × List UInt8)} (h : KsOK N m) {k : Nat} (hk : k < N) {s : List UInt8} (hs : s.length = 128) : KsOK N (putN m k s) := by
  rw [putN_R]
  refine ⟨putR_nd _ _ _ h.nd, fun x hx => ?_, fun x hx => ?_⟩
  · rcases putR_mem hx with rfl | hx
    · exact ⟨by show (0 : Int) ≤ (k : Int); omega, by show (k : Int) < (N : Int); omega⟩
    · exact h.rg x hx
  · rcases putR_mem hx with rfl | hx
    · exact hs
    · exact h.len x hx
theorem KsOK.find {N : Nat} {m : List (Int × List UInt8)} (h : KsOK N m) : ∀ k r, findN k m 0 = some r → r.2.length ≤ 128 := fun k r hr => by
  have h1 := valR_find k m
  rw [hr] at h1
  have := h.len _ (valR_mem h1.symm)
  simp only at this
  omega
theorem nodup_range_len : ∀ (N : Nat) (l : List Int), l.Nodup → (∀ x ∈ l, 0 ≤ x ∧ x < (N : Int)) → l.length ≤ N
  | 0, l, _, hr => by
    cases l with
    | nil => exact Nat.le_refl _
    | cons a l => have := hr a List.mem_cons_self; omega
  | N + 1, l, hn, hr => by
    by_cases h : (N : Int) ∈ l
    · have := nodup_range_len N (l.erase (N : Int)) (hn.erase _) (fun x hx => by
        obtain ⟨h1, h2⟩ := hn.mem_erase_iff.1 hx
        have := hr x h2
        omega)
      rw [List.length_erase_of_mem h] at this
      omega
    · have := nodup_range_len N l hn (fun x hx => by
        have h1 := hr x hx
        have : x ≠ (N : Int) := fun e => h (by rw [← e]; exact hx)
        omega)
      omega
theorem KsOK.le {N : Nat} {m : List (Int × List UInt8)} (h : KsOK N m) : m.length ≤ N := by
  have := nodup_range_len N (keysN m) h.nd (fun x hx => by
    obtain ⟨y, hy, rfl⟩ := List.mem_map.1 hx
    exact h.rg y hy)
  simpa [keysN] using this
theorem delR_not (k : Int) : ∀ m, (keysN m).Nodup → k ∉ keysN (delR k m)
  | [], _ => by simp [delR, keysN]
  | p :: m, h => by
    have h' : p.1 ∉ keysN m ∧ (keysN m).Nodup := List.nodup_cons.1 h
    unfold delR
    by_cases e : p.1 = k
    · rw [if_pos e, ← e]; exact h'.1
    · rw [if_neg e]
      show k ∉ p.1 :: keysN (delR k m)
      rw [List.mem_cons, not_or]
      exact ⟨fun h => e h.symm, delR_not k m h'.2⟩
theorem delK_spec : ∀ (l : List Int) (m : List (Int × List UInt8)), (keysN m).Nodup → ∀ j ∈ keysN (delK m l), j ∈ keysN m ∧ j ∉ l
  | [], m, _, j, h => ⟨h, by simp⟩
  | k :: l, m, hn, j, h => by
    have h' : j ∈ keysN (delK (delN m k) l) := h
    rw [delN_R] at h'
    obtain ⟨h1, h2⟩ := delK_spec l (delR k m) (delR_nd k m hn) j h'
    refine ⟨delR_keys k m j h1, ?_⟩
    rw [List.mem_cons, not_or]
    exact ⟨fun e => delR_not k m hn (e ▸ h1), h2⟩
theorem dirtyK_mem {m : List (Int × List UInt8)} {j : Nat} (h : (findN (j : Int) m 0).isSome = true) : ∀ {k}, j < k → (j : Int) ∈ dirtyK m k
  | 0, hk => by omega
  | k + 1, hk => by
    unfold dirtyK
    rw [List.mem_append]
    by_cases e : j = k
    · subst e
      right
      rw [if_pos h]; simp
    · exact .inl (dirtyK_mem h (by omega))
/-- Behind an Abort nothing is changed. -/
theorem KsOK.gone {N : Nat} {m : List (Int × List UInt8)} (h : KsOK N m) : delK m (dirtyK m N) = [] := by
  refine List.eq_nil_iff_forall_not_mem.2 fun x hx => ?_
  obtain ⟨h1, h2⟩ := delK_spec (dirtyK m N) m h.nd x.1 (List.mem_map.2 ⟨x, hx, rfl⟩)
  obtain ⟨y, hy, e⟩ := List.mem_map.1 h1
  have hr := h.rg y hy
  obtain ⟨j, hj⟩ : ∃ j : Nat, x.1 = (j : Int) := ⟨x.1.toNat, by rw [← e]; omega⟩
  rw [hj] at h1 h2
  refine h2 (dirtyK_mem ?_ (by omega))
  have h3 : valR (j : Int) m ≠ none := fun h0 => valR_none.1 h0 h1
  rw [← valR_find] at h3
  cases hf : findN (j : Int) m 0 with
  | none => rw [hf] at h3; exact (h3 rfl).elim
  | some _ => rfl
theorem pgRd_val (d : Dk) (p : Pg) (j : Nat) : pgRd d p j = (valR (j : Int) p.ch).getD (rd d ((p.logs + j : Nat) : Int)) := by
  unfold pgRd
  rw [← valR_find]
  cases findN (j : Int) p.ch 0 <;> rfl
theorem pgRd_put (d : Dk) (p : Pg) (k : Nat) (s : List UInt8) (j : Nat) : pgRd d { p with ch := putN p.ch k s } j = if k = j then s else pgRd d p j := by
  rw [pgRd_val, pgRd_val, putN_R, valR_put]
  by_cases e : k = j
  · rw [if_pos e, if_pos (by omega)]; rfl
  · rw [if_neg e, if_neg (by omega)]
/-! Sizes. -/
theorem uintB_small {n : Nat} (h : n < 128) : (uintB n).length = 1 := by
  unfold uintB
  rw [uintK_small h]; rfl
theorem uintB_two {n : Nat} (h : n < 16384) : (uintB n).length ≤ 2 := by
  by_cases h2 : n < 128
  · rw [uintB_small h2]; omega
  · unfold uintB
    unfold uintK
    rw [if_neg h2, List.length_cons, uintK_small (by omega)]
    simp
theorem recK_le {m : List (Int × List UInt8)} (hm : m.length < 128) (hlen : ∀ k r, findN k m 0 = some r → r.2.length ≤ 128) : ∀ k, k ≤ 128 → (recK m k).length ≤ 1 + 131 * k
  | 0, _ => by
    unfold recK
    rw [uintB_small hm]; omega
  | k + 1, hk => by
    have ih := recK_le hm hlen k (by omega)
    unfold recK
    split
    · rename_i r hf
      have h1 := hlen _ _ hf
      have h2 := bareL_len r.2
      have h3 : (uintB k).length = 1 := uintB_small (by omega)
      have h4 := uintB_two (n := (bareL r.2).length) (by omega)
      unfold textB
      simp only [List.length_append]
      omega
    · omega
/-! What lies on the disk behind a commit. -/
theorem rd_home_out {d : Dk} {logs : Nat} {m : List (Int × List UInt8)} {j : Int} : ∀ {K : Nat}, (∀ i, i < K → ((logs + i : Nat) : Int) ≠ j) → rd (homeD d logs m K) j = rd d j
  | 0, _ => rfl
  | K + 1, h => by
    have ih := rd_home_out (d := d) (logs := logs) (m := m) (j := j) (K := K) (fun i hi => h i (by omega))
    unfold homeD
    split
    · rw [rd_wr, if_neg (h K (by omega))]; exact ih
    · exact ih
theorem rd_home_in {d : Dk} {logs : Nat} {m : List (Int × List UInt8)} {i : Nat} : ∀ {K : Nat}, i < K → rd (homeD d logs m K) ((logs + i : Nat) : Int) = match valR (i : Int) m with
    | some s => pad s
    | none => rd d ((logs + i : Nat) : Int)
  | 0, h => by omega
  | K + 1, h => by
    by_cases e : i = K
    · subst e
      have ho := rd_home_out (d := d) (logs := logs) (m := m) (j := ((logs + i : Nat) : Int)) (K := i) (fun a ha => by omega)
      unfold homeD
      rw [← valR_find]
      cases hf : findN (i : Int) m 0 with
      | none => exact ho
      | some r => rw [rd_wr, if_pos rfl]; rfl
    · have ih := rd_home_in (d := d) (logs := logs) (m := m) (i := i) (K := K) (by omega)
      unfold homeD
      split
      · rw [rd_wr, if_neg (by omega)]; exact ih
      · exact ih
theorem rd_home_len {d : Dk} {logs : Nat} {m : List (Int × List UInt8)} (hd : ∀ j, (rd d j).length ≤ 128) (hm : ∀ k r, findN k m 0 = some r → r.2.length ≤ 128) (j : Int) : ∀ K, (rd (homeD d logs m K) j).length ≤ 128
  | 0 => hd j
  | K + 1 => by
    have ih := rd_home_len (logs := logs) hd hm j K
    unfold homeD
    split
    · rename_i r hf
      rw [rd_wr]
      split
      · rw [pad_len (hm _ _ hf)]; omega
      · exact ih
    · exact ih
theorem home_g {d : Dk} (h : DkG d) (logs : Nat) (m : List (Int × List UInt8)) : ∀ K, DkG (homeD d logs m K)
  | 0 => h
  | K + 1 => by
    have ih := home_g h logs m K
    unfold homeD
    split
    · exact ih.wr _ _
    · exact ih
theorem ap_g {d : Dk} (h : DkG d) (l : Lg) (s : List UInt8) (m : Nat) (cut : List (List UInt8)) : ∀ k, DkG (apD l s m cut d k)
  | 0 => h
  | k + 1 => (ap_g h l s m cut k).wr _ _
theorem rd_ap {d : Dk} {l : Lg} {s : List UInt8} {m : Nat} {cut : List (List UInt8)} {j : Int} : ∀ {k : Nat}, (∀ i, i < k → ((l.from_ + 2 + (l.used + i) : Nat) : Int) ≠ j) → rd (apD l s m cut d k) j = rd d j
  | 0, _ => rfl
  | k + 1, h => by
    show rd (wrD _ _ _) j = _
    rw [rd_wr, if_neg (h k (by omega))]
    exact rd_ap fun i hi => h i (by omega)
theorem pad_full {s : List UInt8} (h : s.length = 128) : pad s = s := by
  unfold pad
  rw [List.drop_of_length_le (by rw [zeros_len]; omega), List.append_nil]
/-- A disk on which a log lies, behind pages that were written home. -/
theorem PI.home {d : Dk} {f n N T B : Nat} {old : List (Nat × List UInt8)} {S : Nat → Option Pc} (h : PI d f n N T B old [] S) {logs K : Nat} {m : List (Int × List UInt8)} (hm : ∀ k r, findN k m 0 = some r → r.2.length ≤ 128) (hl : f + n ≤ logs) :
    PI (flD (homeD d logs m K)) f n N T B old [] S := by
  have hc : d.cache = [] := by
    cases hc : d.cache with
    | nil => rfl
    | cons w l =>
      obtain ⟨_, _, p, hp, _⟩ := h.cache 0 w (by rw [hc]; rfl)
      simp [pcs] at hp
  have hrd : ∀ j, rd d j = lkR j d.stays := fun j => by rw [rd_eq, hc]; rfl
  have hg := home_g h.g logs m K
  have hlk : ∀ j, lkR j (flD (homeD d logs m K)).stays = rd (homeD d logs m K) j := fun j => lk_fl hg j
  have hin : ∀ i, i < n → lkR ((f + i : Nat) : Int) (flD (homeD d logs m K)).stays = lkR ((f + i : Nat) : Int) d.stays := fun i hi => by
    rw [hlk, rd_home_out (fun a _ => by omega), hrd]
  have h1 := h.n1
  refine { h with g := hg.fl, dn := ?_, len := fun j => ?_, at_ := fun i hi => ?_, s0 := ?_, s1 := ?_, cache := fun k w hk => (by cases hk) }
  · show (homeD d logs m K).n = N
    rw [(homeD_spec d logs m K).1]; exact h.dn
  · rw [hlk]; exact rd_home_len (fun j => by rw [hrd]; exact h.len j) hm j K
  · have := hin (2 + i) (by omega)
    rw [← Nat.add_assoc] at this
    rw [this]; exact h.at_ i hi
  · rw [hin (T % 2) (by omega)]; exact h.s0
  · obtain ⟨t, b, ht, hs⟩ := h.s1
    exact ⟨t, b, ht, by rw [hin ((T + 1) % 2) (by omega)]; exact hs⟩
end Go.Proofs

/-
  The pager: what lies there, ahead of each call and behind it.
-/

namespace Go.Proofs
open Go.PW
section pg
variable {H : HMap} {A : AMap} {pid did lid : Nat} {κm κc κp κr : Tok} {d : Dk} {p : Pg} {l : Lg}
set_option maxRecDepth 8000 in
set_option maxHeartbeats 8000000 in
/-- Commit where nothing is changed. -/
theorem Try.kPgCommit0 (off : Nat) (hw : Wf H A) (hp : PgAt H A pid did lid κp p) (hh : p.halted = false) (hne : p.ch = []) : EffOK Try.prog 21 off H A [.c (.ptr pid 0)] (pD (.lit (.int .i64 0))) H A := by
  refine effr_ok (E := envOf Try.prog [37, 7000000 + 38, 39, 46, 5000000 + 68, 6000000 + 79] off [] []) (envOf_ok Try.mixed) Try.func21 rfl Try.call21 (by kernel_rfl) (by exact Nat.le_of_ble_eq_true rfl) (fun hab => ?_)
  have hph := hp.h
  unfold encPg at hph
  have hpo := hp.lt hab
  have n1 : H (off + 1) = none := (hab _ (by omega)).1
  have p1 : (pid = off + 1) = False := eq_false (by omega)
  have hw1 : Wf (upd H (off + 1) (some [.ptr pid 0])) A := Wf_set hw (fun x hx => by rw [List.mem_singleton.1 hx]; exact upd_keepH _ (by rw [hp.h]; simp)) (fun _ h => h)
  have hp1 : PgAt (upd H (off + 1) (some [.ptr pid 0])) A pid did lid κp p := hp.mv (upd_other _ _ (by omega)) rfl
  have ab1 : Above (off + 1000) (upd H (off + 1) (some [.ptr pid 0])) A := Above_updH (Above_mono hab (by omega)) (by omega)
  have kt := Try.kThere (off + 1000) hw1 hp1
  have hlm : lenM Try.prog A [68] [.c (.mpr κp)] = some (.c (.d (.lit (.int .i64 ((0 : Nat) : Int))))) := by
    rw [lenM_of (P := Try.prog) (t := 68) Try.underlying68 hp.m, hne]
    rfl
  repeat' (first
   | with_reducible first | refine VC_seq fun K hK => ?_ | refine W_region ?_ | refine VC_block ?_ | refine VC_scope ?_ | refine VC_if ?_ | refine VC_skip ?_ | refine VC_exit ?_ | refine VC_ret ?_
   | (with_reducible first | refine G_not (fun h => ?_) (fun h => ?_) | refine G_cases (fun h => ?_) (fun h => ?_)) <;> (try simp only [h])
   | refine And.intro n1 ?_
   | refine C_call rfl kt rfl ab1 ?_
   | with_reducible first | (refine hK _ ?_; clear hK K) | (clear hK K; refine hK _ ?_; clear hK K) | (clear hK K; clear hK K; refine hK _ ?_; clear hK K) | (clear hK K; clear hK K; clear hK K; refine hK _ ?_; clear hK K)
   | (with_reducible refine todo ?_; simp +decide only [go_sem, hph, hh, hlm, p1]))
  exact RetR_sub rfl (wk_c (.inr (.inl ⟨rfl, True.intro⟩))) True.intro hw (fun j hj => upd_other _ _ fun e => hj (by rw [e]; exact n1)) (fun _ _ => rfl) (fun _ h => h) (fun _ h => h)
set_option maxRecDepth 8000 in
set_option maxHeartbeats 8000000 in
/-- Commit where the record does not fit. -/
theorem Try.kPgCommitB (off : Nat) (hw : Wf H A) (hp : PgAt H A pid did lid κp p) (hh : p.halted = false) (hne : p.ch ≠ []) (hd : DkAt H A did κm κc d) (hl : p.logs ≤ d.n) (hn : d.n ≤ 4096) (hlg : LgAt H A lid did κr l)
    (hfit : ¬ l.used + needN (recK p.ch (pgN d p)).length ≤ l.places) (hup : l.used ≤ l.places) (hlp : l.places ≤ 1000) (hml : p.ch.length ≤ 1000000) (hlen : ∀ k r, findN k p.ch 0 = some r → r.2.length ≤ 128) (hrl : (recK p.ch (pgN d p)).length ≤ 100000) :
    EffOK Try.prog 21 off H A [.c (.ptr pid 0)] (pD (.lit (.int .i64 3))) H A := by
  refine effr_ok (E := envOf Try.prog [37, 7000000 + 38, 39, 46, 5000000 + 68, 6000000 + 79] off [] []) (envOf_ok Try.mixed) Try.func21 rfl Try.call21 (by kernel_rfl) (by exact Nat.le_of_ble_eq_true rfl) (fun hab => ?_)
  have hph := hp.h
  unfold encPg at hph
  have hpo := hp.lt hab
  have hlo := hlg.lt hab
  have hdo := hd.lt hab
  have n1 : H (off + 1) = none := (hab _ (by omega)).1
  have n3 : H (off + 3) = none := (hab _ (by omega)).1
  have p1 : (pid = off + 1) = False := eq_false (by omega)
  have p3 : (pid = off + 3) = False := eq_false (by omega)
  have hw1 : Wf (upd H (off + 1) (some [.ptr pid 0])) A := Wf_set hw (fun x hx => by rw [List.mem_singleton.1 hx]; exact upd_keepH _ (by rw [hp.h]; simp)) (fun _ h => h)
  have hp1 : PgAt (upd H (off + 1) (some [.ptr pid 0])) A pid did lid κp p := hp.mv (upd_other _ _ (by omega)) rfl
  have hd1 : DkAt (upd H (off + 1) (some [.ptr pid 0])) A did κm κc d := ⟨by rw [upd_other _ _ (by omega)]; exact hd.h, hd.m, hd.c⟩
  have ab1 : Above (off + 1000) (upd H (off + 1) (some [.ptr pid 0])) A := Above_updH (Above_mono hab (by omega)) (by omega)
  have kt := Try.kThere (off + 1000) hw1 hp1
  have kr := Try.kRecord (off + 1000) hw1 hp1 hd1 hl hn hp.m hml hlen
  generalize recK p.ch (pgN d p) = s at *
  have hw3 : Wf (upd (upd H (off + 1) (some [.ptr pid 0])) (off + 3) (some [.d (dS s)])) A := Wf_upd hw1 rfl
  have hl3 : LgAt (upd (upd H (off + 1) (some [.ptr pid 0])) (off + 3) (some [.d (dS s)])) A lid did κr l := hlg.mv (by rw [upd_other _ _ (by omega), upd_other _ _ (by omega)]) rfl
  have ab3 : Above (off + 1000) (upd (upd H (off + 1) (some [.ptr pid 0])) (off + 3) (some [.d (dS s)])) A := Above_updH ab1 (by omega)
  have kf := Try.kFits (off + 1000) hw3 hl3 s.length hrl hup hlp
  have hft : decide (l.used + needN s.length ≤ l.places) = false := decide_eq_false hfit
  rw [hft] at kf
  have hlm : lenM Try.prog A [68] [.c (.mpr κp)] = some (.c (.d (.lit (.int .i64 p.ch.length)))) := by
    rw [lenM_of (P := Try.prog) (t := 68) Try.underlying68 hp.m]
    unfold encNS
    rw [List.length_map]
  have z0 : ((p.ch.length : Int) == 0) = false := by
    rw [beq_eq_false_iff_ne]
    have := List.length_pos_iff.2 hne
    omega
  have e13 : ((off + 1 : Nat) == off + 3) = false := by rw [beq_eq_false_iff_ne]; omega
  have ep3 : ((pid : Nat) == off + 3) = false := by rw [beq_eq_false_iff_ne]; omega
  have hoks : ∀ x ∈ ([.c (.ptr pid 0), .c (.mpr κp)] : List PV), x.oks (fun i => upd H (off + 1) (some [.ptr pid 0]) i ≠ none) (fun τ => A τ ≠ none) := fun x hx => by
    simp only [List.mem_cons, List.not_mem_nil, or_false] at hx
    rcases hx with rfl | rfl
    · exact upd_keepH _ (by rw [hp.h]; simp)
    · show A κp ≠ none
      rw [hp.m]; simp
  have q31 : (off + 3 = off + 1) = False := eq_false (by omega)
  have q13 : (off + 1 = off + 3) = False := eq_false (by omega)
  repeat' (first
   | with_reducible first | refine VC_seq fun K hK => ?_ | refine W_region ?_ | refine VC_block ?_ | refine VC_scope ?_ | refine VC_if ?_ | refine VC_skip ?_ | refine VC_exit ?_ | refine VC_ret ?_
   | (with_reducible first | refine G_not (fun h => ?_) (fun h => ?_) | refine G_cases (fun h => ?_) (fun h => ?_)) <;> (try simp only [h])
   | refine And.intro n1 ?_
   | refine And.intro n3 ?_
   | refine C_call rfl kf rfl ab3 ?_
   | refine C_call rfl kt rfl ab1 ?_
   | refine C_rmore rfl rfl kr hw1 hoks rfl ab1 ?_
   | with_reducible first | (refine hK _ ?_; clear hK K) | (clear hK K; refine hK _ ?_; clear hK K) | (clear hK K; clear hK K; refine hK _ ?_; clear hK K) | (clear hK K; clear hK K; clear hK K; refine hK _ ?_; clear hK K)
   | (with_reducible refine todo ?_; simp +decide only [go_sem, q31, q13, List.filterMap_cons, List.filterMap_nil, hph, hh, hlm, z0, p1, p3, e13, ep3, upd_twice]))
  exact RetR_sub rfl (wk_c (.inr (.inl ⟨rfl, True.intro⟩))) True.intro hw (fun j hj => (upd_other _ _ fun e => hj (by rw [e]; exact n3)).trans (upd_other _ _ fun e => hj (by rw [e]; exact n1))) (fun _ _ => rfl) (fun _ h => h) (fun _ h => h)
end pg
end Go.Proofs

/-
  The pager: calls, and what lies there behind them.
-/

namespace Go.Proofs
open Go.PW
/-- What is right of a disk, its log, and a pager that has no fuse. -/
structure PSt (N logs T : Nat) (d : Dk) (l : Lg) (p : Pg) : Prop where
  pi : ∃ B S, PI d 0 logs N T B [] [] S
  lg : ∃ b, l = ⟨0, logs - 2, T, b, 0, [], false⟩
  fu : d.fused = false
  p1 : p.logs = logs
  p2 : p.halted = false
  ks : KsOK (N - logs) p.ch
  sec : ∀ j, j < N - logs → (rd d ((logs + j : Nat) : Int)).length = 128
  big : N ≤ logs + 1024 ∧ logs < N
/-- A page, as it is read: changed, or as it is on the disk. -/
def ct (b : Nat → List UInt8) (ch : List (Int × List UInt8)) (j : Nat) : List UInt8 := (valR (j : Int) ch).getD (b j)
theorem ct_nil (b : Nat → List UInt8) (j : Nat) : ct b [] j = b j := rfl
theorem ct_put (b : Nat → List UInt8) (ch : List (Int × List UInt8)) (k : Nat) (s : List UInt8) (j : Nat) : ct b (putN ch k s) j = if k = j then s else ct b ch j := by
  unfold ct
  rw [putN_R, valR_put]
  by_cases e : k = j
  · rw [if_pos e, if_pos (by omega)]; rfl
  · rw [if_neg e, if_neg (by omega)]
structure PXs (H : HMap) (A : AMap) (k did pid lid : Nat) (κm κc κr κp : Tok) (N logs T : Nat) (d : Dk) (l : Lg) (p : Pg) : Prop where
  lw : LW H A k did κm κc d
  lg : LgAt H A lid did κr l
  pg : PgAt H A pid did lid κp p
  ne : κp ≠ κm
  st : PSt N logs T d l p
  lo : ∀ j, j < 200 → H j = none ∧ ∀ q, A (j, q) = none
/-- A pager that has so many pages lies there; names from 'k' on are free. -/
def PX (H : HMap) (A : AMap) (k did pid N logs T : Nat) (ch : List (Int × List UInt8)) (b : Nat → List UInt8) : Prop :=
  ∃ lid κm κc κr κp d l p, PXs H A k did pid lid κm κc κr κp N logs T d l p ∧ p.ch = ch ∧ ∀ j, j < N - logs → rd d ((logs + j : Nat) : Int) = b j
section px
variable {H : HMap} {A : AMap} {k did pid lid : Nat} {κm κc κr κp : Tok} {N logs T : Nat} {d : Dk} {l : Lg} {p : Pg} {ch : List (Int × List UInt8)} {b : Nat → List UInt8}
theorem PSt.cache (h : PSt N logs T d l p) : d.cache = [] := by
  obtain ⟨B, S, hp⟩ := h.pi
  cases hc : d.cache with
  | nil => rfl
  | cons w r =>
    obtain ⟨_, _, q, hq, _⟩ := hp.cache 0 w (by rw [hc]; rfl)
    simp [pcs] at hq
theorem PSt.num (h : PSt N logs T d l p) : d.n = N ∧ 4 ≤ logs ∧ logs ≤ 1000 ∧ logs < N ∧ N ≤ 4096 ∧ N ≤ logs + 1024 ∧ pgN d p = N - logs ∧ d.cache.length = 0 ∧ l.from_ = 0 ∧ l.places = logs - 2 ∧ l.turn = T ∧ l.used = 0 ∧ l.recs = [] ∧ l.halted = false ∧ T ≤ 1000000 := by
  obtain ⟨B, S, hp⟩ := h.pi
  obtain ⟨b, hl⟩ := h.lg
  have hc := h.cache
  have h1 := hp.dn
  have h2 := h.big
  refine ⟨h1, hp.n1, hp.n2, h2.2, hp.hN, h2.1, by unfold pgN; rw [h1, h.p1], by rw [hc]; rfl, by rw [hl], by rw [hl], by rw [hl], by rw [hl], by rw [hl], by rw [hl], hp.hT⟩
theorem PSt.put (h : PSt N logs T d l p) {m : List (Int × List UInt8)} (hm : KsOK (N - logs) m) : PSt N logs T d l { p with ch := m } := ⟨h.pi, h.lg, h.fu, h.p1, h.p2, hm, h.sec, h.big⟩
theorem PSt.cts (h : PSt N logs T d l p) (hb : ∀ j, j < N - logs → rd d ((logs + j : Nat) : Int) = b j) (j : Nat) (hj : j < N - logs) : pgRd d p j = ct b p.ch j := by
  rw [pgRd_val, h.p1, hb j hj]; rfl
theorem PSt.len (h : PSt N logs T d l p) (j : Nat) (hj : j < N - logs) : (pgRd d p j).length = 128 := by
  rw [pgRd_val, h.p1]
  cases hv : valR (j : Int) p.ch with
  | none => exact h.sec j hj
  | some s => exact h.ks.len _ (valR_mem hv)
theorem PXs.kp (h : PXs H A k did pid lid κm κc κr κp N logs T d l p) : κp ≠ κc ∧ κp ≠ κr ∧ 200 ≤ κp.1 ∧ 200 ≤ κm.1 ∧ 200 ≤ κc.1 ∧ 200 ≤ κr.1 ∧ 200 ≤ did ∧ 200 ≤ lid ∧ 200 ≤ pid := by
  have hp := h.pg.m
  have big : ∀ {τ : Tok} {ar : Arr}, A τ = some ar → 200 ≤ τ.1 := fun {τ ar} ha => Nat.le_of_not_lt fun hlt => by
    have := (h.lo τ.1 hlt).2 τ.2
    rw [ha] at this; cases this
  have bigH : ∀ {j : Nat} {cs : List CV}, H j = some cs → 200 ≤ j := fun {j cs} ha => Nat.le_of_not_lt fun hlt => by
    have := (h.lo j hlt).1
    rw [ha] at this; cases this
  exact ⟨(fun e => by rw [e, h.lw.dk.c] at hp; cases hp), (fun e => by rw [e, h.lg.r] at hp; cases hp), big hp, big h.lw.dk.m, big h.lw.dk.c, big h.lg.r, bigH h.lw.dk.h, bigH h.lg.h, bigH h.pg.h⟩
/-- Other pages are changed. -/
theorem PXs.put (h : PXs H A k did pid lid κm κc κr κp N logs T d l p) {m : List (Int × List UInt8)} (hm : KsOK (N - logs) m) : PXs H (upd A κp (some (.mp (encNS m)))) k did pid lid κm κc κr κp N logs T d l { p with ch := m } := by
  obtain ⟨q1, q2, q3, _⟩ := h.kp
  have hlt := h.pg.lt h.lw.ab
  refine ⟨⟨Wf_arr h.lw.wf upd_keep, Above_updA h.lw.ab hlt.2, ⟨h.lw.dk.h, by rw [upd_other _ _ h.ne.symm]; exact h.lw.dk.m, by rw [upd_other _ _ q1.symm]; exact h.lw.dk.c⟩⟩, h.lg.mv rfl (upd_other _ _ q2.symm), ⟨h.pg.h, upd_same _ _ _⟩, h.ne, h.st.put hm, fun j hj => ⟨(h.lo j hj).1, fun q => ?_⟩⟩
  rw [upd_other _ _ (tok_ne (by show j ≠ κp.1; omega))]
  exact (h.lo j hj).2 q
theorem PX.nums (h : PX H A k did pid N logs T ch b) : 4 ≤ logs ∧ logs ≤ 1000 ∧ logs < N ∧ N ≤ 4096 ∧ N ≤ logs + 1024 ∧ T ≤ 1000000 ∧ did < k ∧ pid < k ∧ 200 ≤ did ∧ 200 ≤ pid ∧ Wf H A ∧ Above k H A ∧ H did ≠ none ∧ H pid ≠ none ∧ (∀ j, j < 200 → H j = none ∧ ∀ q, A (j, q) = none) ∧ KsOK (N - logs) ch ∧ ∀ j, j < N - logs → (ct b ch j).length = 128 := by
  obtain ⟨lid, κm, κc, κr, κp, d, l, p, hx, rfl, hb⟩ := h
  obtain ⟨n1, n2, n3, n4, n5, n6, n7, n8, _, _, _, _, _, _, n15⟩ := hx.st.num
  obtain ⟨_, _, _, _, _, _, q7, _, q9⟩ := hx.kp
  exact ⟨n2, n3, n4, n5, n6, n15, hx.lw.ne.1, (hx.pg.lt hx.lw.ab).1, q7, q9, hx.lw.wf, hx.lw.ab, by rw [hx.lw.dk.h]; simp, by rw [hx.pg.h]; simp, hx.lo, hx.st.ks, fun j hj => by rw [← hx.st.cts hb j hj]; exact hx.st.len j hj⟩
theorem Try.pRead (off : Nat) (h : PX H A k did pid N logs T ch b) (j : Nat) (hj : j < N - logs) : EffOK Try.prog 33 off H A [.c (.ptr pid 0), pD (.lit (.int .i64 j))] (.tup [.c (.d (dS (ct b ch j))), .c (.d (.lit (.int .i64 0)))]) H A := by
  obtain ⟨lid, κm, κc, κr, κp, d, l, p, hx, rfl, hb⟩ := h
  obtain ⟨n1, n2, n3, n4, n5, n6, n7, n8, _⟩ := hx.st.num
  rw [← hx.st.cts hb j hj]
  exact Try.kPgRead off hx.lw.wf hx.pg hx.lw.dk (by rw [hx.st.p1]; omega) (by omega) (by omega) j (by omega)
theorem Try.pLen (off : Nat) (h : PX H A k did pid N logs T ch b) : EffOK Try.prog 31 off H A [.c (.ptr pid 0)] (pD (.lit (.int .i64 ((N - logs : Nat) : Int)))) H A := by
  obtain ⟨lid, κm, κc, κr, κp, d, l, p, hx, rfl, hb⟩ := h
  obtain ⟨n1, n2, n3, n4, n5, n6, n7, n8, _⟩ := hx.st.num
  rw [← n7]
  exact Try.kPgLen off hx.lw.wf hx.pg hx.lw.dk (by rw [hx.st.p1]; omega) (by omega)
theorem Try.pDirty (off : Nat) (h : PX H A k did pid N logs T ch b) : EffOK Try.prog 73 off H A [.c (.ptr pid 0)] (.c (.d (.sl (ints (dirtyK ch (N - logs)))))) H A := by
  obtain ⟨lid, κm, κc, κr, κp, d, l, p, hx, rfl, hb⟩ := h
  obtain ⟨n1, n2, n3, n4, n5, n6, n7, n8, _⟩ := hx.st.num
  rw [← n7]
  exact Try.kPgDirty off hx.lw.wf hx.pg hx.lw.dk (by rw [hx.st.p1]; omega) (by omega)
/-- Whether a page is free. -/
def isF (s : List UInt8) (j : Nat) : Bool := j != 0 && freeB s j
theorem Try.pIsFree (off : Nat) (h : PX H A k did pid N logs T ch b) (j : Nat) (hj : j < N - logs) : EffOK Try.prog 32 off H A [.c (.ptr pid 0), pD (.lit (.int .i64 j))] (pD (.lit (.bool (isF (ct b ch 0) j)))) H A := by
  obtain ⟨lid, κm, κc, κr, κp, d, l, p, hx, rfl, hb⟩ := h
  obtain ⟨n1, n2, n3, n4, n5, n6, n7, n8, _⟩ := hx.st.num
  unfold isF
  by_cases h0 : j = 0
  · subst h0
    exact Try.kIsFree0 (pid := pid) off hx.lw.wf
  · have e : (j != 0) = true := by simpa using h0
    have hl0 := hx.st.len 0 (by omega)
    rw [e, Bool.true_and, ← hx.st.cts hb 0 (by omega)]
    exact Try.kIsFree off hx.lw.wf hx.pg hx.lw.dk (by rw [hx.st.p1]; omega) (by omega) (by omega) j h0 (by omega) (by omega)
theorem Try.pFrees (off : Nat) (h : PX H A k did pid N logs T ch b) : EffOK Try.prog 14 off H A [.c (.ptr pid 0)] (pD (.lit (.int .i64 (freesK (ct b ch 0) (N - logs))))) H A := by
  obtain ⟨lid, κm, κc, κr, κp, d, l, p, hx, rfl, hb⟩ := h
  obtain ⟨n1, n2, n3, n4, n5, n6, n7, n8, _⟩ := hx.st.num
  have hl0 := hx.st.len 0 (by omega)
  rw [← hx.st.cts hb 0 (by omega), ← n7]
  exact Try.kFrees off hx.lw.wf hx.pg hx.lw.dk (by rw [hx.st.p1]; omega) (by omega) (by omega) (by omega)
/-- A call, and the pager behind it. -/
def PSO (off : Nat) (P : Program) (f : FuncId) (H : HMap) (A : AMap) (args : List PV) (v : PV) (k' did pid' N logs T' : Nat) (ch' : List (Int × List UInt8)) (b' : Nat → List UInt8) : Prop :=
  ∃ H' A', EffOK P f off H A args v H' A' ∧ PX H' A' k' did pid' N logs T' ch' b' ∧ (∀ j, H j ≠ none → H' j ≠ none) ∧ ∀ τ, A τ ≠ none → A' τ ≠ none
theorem Try.pWrite (off : Nat) (h : PX H A k did pid N logs T ch b) (page : Nat) (h0 : page ≠ 0) (hpg : page < N - logs) (s : List UInt8) (hs : s.length ≤ 128) :
    PSO off Try.prog 26 H A [.c (.ptr pid 0), pD (.lit (.int .i64 page)), pD (dS s)] (pD (.lit (.int .i64 0))) k did pid N logs T (putN ch page (pad s)) b := by
  obtain ⟨lid, κm, κc, κr, κp, d, l, p, hx, rfl, hb⟩ := h
  obtain ⟨n1, n2, n3, n4, n5, n6, n7, n8, _⟩ := hx.st.num
  exact ⟨_, _, Try.kPgWrite off hx.lw.wf hx.pg hx.lw.dk (by rw [hx.st.p1]; omega) (by omega) page h0 (by omega) s hs, ⟨lid, κm, κc, κr, κp, d, l, _, hx.put (hx.st.ks.put (by omega) (pad_len hs)), rfl, hb⟩, fun _ h => h, upd_keep⟩
theorem Try.pWriteE (off : Nat) (h : PX H A k did pid N logs T ch b) (page : Int) (s : List UInt8) (he : pgWrE (N - logs) page s ≠ 0) :
    EffOK Try.prog 26 off H A [.c (.ptr pid 0), pD (.lit (.int .i64 page)), pD (dS s)] (pD (.lit (.int .i64 (pgWrE (N - logs) page s)))) H A := by
  obtain ⟨lid, κm, κc, κr, κp, d, l, p, hx, rfl, hb⟩ := h
  obtain ⟨n1, n2, n3, n4, n5, n6, n7, n8, _⟩ := hx.st.num
  rw [← n7] at he ⊢
  exact Try.kPgWriteE off hx.lw.wf hx.pg hx.lw.dk (by rw [hx.st.p1]; omega) (by omega) page s he
theorem Try.pFree (off : Nat) (h : PX H A k did pid N logs T ch b) (q : Nat) (h0 : q ≠ 0) (hq : q < N - logs) (hf : freeB (ct b ch 0) q = false) :
    PSO off Try.prog 29 H A [.c (.ptr pid 0), pD (.lit (.int .i64 q))] (pD (.lit (.int .i64 0))) k did pid N logs T (putN ch ((0 : Nat) : Int) (flipB (ct b ch 0) q)) b := by
  obtain ⟨lid, κm, κc, κr, κp, d, l, p, hx, rfl, hb⟩ := h
  obtain ⟨n1, n2, n3, n4, n5, n6, n7, n8, _⟩ := hx.st.num
  have hl0 := hx.st.len 0 (by omega)
  rw [← hx.st.cts hb 0 (by omega)] at hf ⊢
  exact ⟨_, _, Try.kPgFree off hx.lw.wf hx.pg hx.lw.dk (by rw [hx.st.p1]; omega) (by omega) (by omega) (by omega) (by omega) q h0 (by omega) hf, ⟨lid, κm, κc, κr, κp, d, l, _, hx.put (hx.st.ks.put (k := 0) (by omega) (by rw [flipB_len]; exact hl0)), rfl, hb⟩, fun _ h => h, upd_keep⟩
theorem Try.pFreeE (off : Nat) (h : PX H A k did pid N logs T ch b) (page : Int) (he : pgFrE (N - logs) (ct b ch 0) page ≠ 0) :
    EffOK Try.prog 29 off H A [.c (.ptr pid 0), pD (.lit (.int .i64 page))] (pD (.lit (.int .i64 (pgFrE (N - logs) (ct b ch 0) page)))) H A := by
  obtain ⟨lid, κm, κc, κr, κp, d, l, p, hx, rfl, hb⟩ := h
  obtain ⟨n1, n2, n3, n4, n5, n6, n7, n8, _⟩ := hx.st.num
  have hl0 := hx.st.len 0 (by omega)
  rw [← hx.st.cts hb 0 (by omega), ← n7] at he ⊢
  exact Try.kPgFreeE off hx.lw.wf hx.pg hx.lw.dk (by rw [hx.st.p1]; omega) (by omega) (by omega) (by omega) page he
theorem Try.pAllocN (off : Nat) (h : PX H A k did pid N logs T ch b) (hno : ∀ i, i ≠ 0 → i < N - logs → freeB (ct b ch 0) i = false) :
    EffOK Try.prog 25 off H A [.c (.ptr pid 0)] (.tup [.c (.d (.lit (.int .i64 0))), .c (.d (.lit (.int .i64 3)))]) H A := by
  obtain ⟨lid, κm, κc, κr, κp, d, l, p, hx, rfl, hb⟩ := h
  obtain ⟨n1, n2, n3, n4, n5, n6, n7, n8, _⟩ := hx.st.num
  have hl0 := hx.st.len 0 (by omega)
  rw [← hx.st.cts hb 0 (by omega)] at hno
  exact Try.kPgAllocN off hx.lw.wf hx.pg hx.lw.dk (by rw [hx.st.p1]; omega) (by omega) (by omega) (by omega) (fun i h1 h2 => hno i h1 (by omega))
theorem Try.pAlloc (off : Nat) (h : PX H A k did pid N logs T ch b) (q : Nat) (h0 : q ≠ 0) (hq : q < N - logs) (hf : freeB (ct b ch 0) q = true) (hno : ∀ i, i ≠ 0 → i < q → freeB (ct b ch 0) i = false) :
    PSO off Try.prog 25 H A [.c (.ptr pid 0)] (.tup [.c (.d (.lit (.int .i64 q))), .c (.d (.lit (.int .i64 0)))]) k did pid N logs T (putN (putN ch ((0 : Nat) : Int) (flipB (ct b ch 0) q)) q zeros) b := by
  obtain ⟨lid, κm, κc, κr, κp, d, l, p, hx, rfl, hb⟩ := h
  obtain ⟨n1, n2, n3, n4, n5, n6, n7, n8, _⟩ := hx.st.num
  have hl0 := hx.st.len 0 (by omega)
  rw [← hx.st.cts hb 0 (by omega)] at hf hno ⊢
  exact ⟨_, _, Try.kPgAlloc off hx.lw.wf hx.pg hx.lw.dk (by rw [hx.st.p1]; omega) (by omega) (by omega) (by omega) (by omega) q h0 (by omega) hf hno,
    ⟨lid, κm, κc, κr, κp, d, l, _, hx.put ((hx.st.ks.put (k := 0) (by omega) (by rw [flipB_len]; exact hl0)).put (by omega) zeros_len), rfl, hb⟩, fun _ h => h, upd_keep⟩
theorem Try.pAbort (off : Nat) (h : PX H A k did pid N logs T ch b) : PSO off Try.prog 46 H A [.c (.ptr pid 0)] (.c .any) k did pid N logs T [] b := by
  obtain ⟨lid, κm, κc, κr, κp, d, l, p, hx, rfl, hb⟩ := h
  obtain ⟨n1, n2, n3, n4, n5, n6, n7, n8, _⟩ := hx.st.num
  have ka := Try.kPgAbort off hx.lw.wf hx.pg hx.lw.dk (by rw [hx.st.p1]; omega) (by omega)
  rw [n7, hx.st.ks.gone] at ka
  exact ⟨_, _, ka, ⟨lid, κm, κc, κr, κp, d, l, _, hx.put (KsOK.nil _), rfl, hb⟩, fun _ h => h, upd_keep⟩
end px
end Go.Proofs
