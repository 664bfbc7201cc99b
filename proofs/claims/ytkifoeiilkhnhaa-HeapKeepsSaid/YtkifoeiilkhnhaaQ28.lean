import Derived.Test.YtkifoeiilkhnhaaQ27
import Derived.Test.YtkifoeiilkhnhaaQ19

/-
  A disk on which a log lies, in plain Lean: what an append, a commit, a reset, a crash make of it.
-/

namespace Go.Proofs
open Go.PW
theorem scan_congr {R S : Nat → Option Pc} {τ : Nat} : ∀ (k i : Nat) (x : Sc), (∀ j, i ≤ j → R j = S j) → scanK R τ k i x = scanK S τ k i x
  | 0, _, _, _ => rfl
  | k + 1, i, x, h => by
    unfold scanK
    rw [h i (Nat.le_refl i)]
    cases S i with
    | none => rfl
    | some p =>
      simp only
      cases scStep τ i x p with
      | none => rfl
      | some x' => exact scan_congr k (i + 1) x' (fun j hj => h j (by omega))
theorem pcs_le {τ : Nat} : ∀ {b : Nat} {l : List (Nat × List UInt8)}, riseT τ b l → ∀ p ∈ pcs l, p.t ≤ τ
  | _, [], _, _, h => by cases h
  | b, r :: l, h, p, hp => by
    rcases List.mem_append.1 hp with hp | hp
    · rw [pcK_turn _ _ _ p hp]; exact riseT_le h.2
    · exact pcs_le (b := r.1) (l := l) h.2 p hp
theorem pcs_take (l : List (Nat × List UInt8)) (m : Nat) : (pcs (l.take m)).length ≤ (pcs l).length := by
  have h : pcs l = pcs (l.take m) ++ pcs (l.drop m) := by rw [← pcs_app, List.take_append_drop]
  rw [h, List.length_append]; omega
theorem lastW_mem {j : Int} {s : List UInt8} : ∀ {l : List (Int × List UInt8)}, lastW j l = some s → (j, s) ∈ l
  | [], h => by cases h
  | w :: l, h => by
    unfold lastW at h
    cases hl : lastW j l with
    | some s' =>
      rw [hl] at h
      cases h
      exact List.mem_cons_of_mem _ (lastW_mem hl)
    | none =>
      rw [hl] at h
      simp only at h
      split at h
      · rename_i e
        cases h
        rw [← e]
        exact List.mem_cons_self
      · cases h
theorem lastW_some {j : Int} {s : List UInt8} : ∀ {l : List (Int × List UInt8)}, (j, s) ∈ l → lastW j l ≠ none
  | w :: l, h => by
    unfold lastW
    cases hl : lastW j l with
    | some s' => simp
    | none =>
      rcases List.mem_cons.1 h with e | h
      · rw [← e]; simp
      · exact (lastW_some h hl).elim
theorem kept_mem {l : List (Int × List UInt8)} {keep : List Bool} : ∀ x ∈ keptL l keep, x ∈ l := fun x hx => by
  unfold keptL at hx
  obtain ⟨y, hy, rfl⟩ := List.mem_map.1 hx
  exact (List.of_mem_zip (List.mem_filter.1 hy).1).1
/-- What stays, and what was written since. 'old': records that stay; 'new': those since. -/
structure PI (d : Dk) (f n N T B : Nat) (old new : List (Nat × List UInt8)) (S : Nat → Option Pc) : Prop where
  g : DkG d
  dn : d.n = N
  n1 : 4 ≤ n
  n2 : n ≤ 1000
  hin : f + n ≤ N
  hN : N ≤ 4096
  len : ∀ j, (lkR j d.stays).length ≤ 128
  at_ : ∀ i, i < n - 2 → AtOK (lkR ((f + 2 + i : Nat) : Int) d.stays) i (S i)
  out : ∀ i, n - 2 ≤ i → S i = none
  laid : ∀ k p, (pcs old)[k]? = some p → S k = some p
  rise : riseT T B old
  newT : ∀ r ∈ new, r.1 = T
  fit : (pcs old).length + (pcs new).length ≤ n - 2
  low : ∀ i, (pcs old).length ≤ i → ∀ p, S i = some p → p.t < T
  dead : lastT B old = T ∨ ∀ w rs u, Dead S T (n - 2 - (pcs old).length) (pcs old).length ⟨[], w, (pcs old).length, lastT B old, rs, u⟩
  hT : T ≤ 1000000
  s0 : TellCase (lkR ((f + T % 2 : Nat) : Int) d.stays) T B
  s1 : ∃ t b, t < T ∧ TellCase (lkR ((f + (T + 1) % 2 : Nat) : Int) d.stays) t b
  cache : ∀ k w, d.cache[k]? = some w → w.1 = ((f + 2 + ((pcs old).length + k) : Nat) : Int) ∧ w.2.length ≤ 128 ∧ ∃ p, (pcs new)[k]? = some p ∧ AtOK w.2 ((pcs old).length + k) (some p)
section pi
variable {d : Dk} {f n N T B : Nat} {old new : List (Nat × List UInt8)} {S : Nat → Option Pc}
/-- What is read where some of what was written stays. -/
theorem PI.mix (h : PI d f n N T B old new S) (c : List (Int × List UInt8)) (hc : ∀ x ∈ c, x ∈ d.cache) : ∃ R : Nat → Option Pc,
    (∀ i, i < n - 2 → AtOK ((lastW ((f + 2 + i : Nat) : Int) c).getD (lkR ((f + 2 + i : Nat) : Int) d.stays)) i (R i)) ∧
    (∀ j, R j = S j ∨ ∃ m p, j = (pcs old).length + m ∧ (pcs new)[m]? = some p ∧ R j = some p) ∧ (∀ j, n - 2 ≤ j → R j = none) ∧
    (∀ a, a < 2 → lastW ((f + a : Nat) : Int) c = none) ∧ (∀ j, ((lastW j c).getD (lkR j d.stays)).length ≤ 128) ∧
    (∀ m p s, (pcs new)[m]? = some p → (((f + 2 + ((pcs old).length + m) : Nat) : Int), s) ∈ c → R ((pcs old).length + m) = some p) := by
  have key : ∀ j s, lastW j c = some s → ∃ k p, j = ((f + 2 + ((pcs old).length + k) : Nat) : Int) ∧ s.length ≤ 128 ∧ (pcs new)[k]? = some p ∧ AtOK s ((pcs old).length + k) (some p) := fun j s hs => by
    obtain ⟨k, hk, e⟩ := List.getElem_of_mem (hc _ (lastW_mem hs))
    obtain ⟨h1, h2, p, h3, h4⟩ := h.cache k (j, s) (by rw [List.getElem?_eq_getElem hk, e])
    exact ⟨k, p, h1, h2, h3, h4⟩
  have kl : ∀ (k : Nat) (p : Pc), (pcs new)[k]? = some p → k < (pcs new).length := fun k p hk => (List.getElem?_eq_some_iff.1 hk).1
  have hfit := h.fit
  refine ⟨fun i => match lastW ((f + 2 + i : Nat) : Int) c with
    | some _ => (pcs new)[i - (pcs old).length]?
    | none => S i, fun i hi => ?_, fun j => ?_, fun j hj => ?_, fun a ha => ?_, fun j => ?_, fun m p s h1 h2 => ?_⟩
  · simp only
    cases hl : lastW ((f + 2 + i : Nat) : Int) c with
    | none => exact h.at_ i hi
    | some s =>
      obtain ⟨k, p, e, _, h3, h4⟩ := key _ s hl
      have e2 : (pcs old).length + k = i := by omega
      have e3 : i - (pcs old).length = k := by omega
      simp only [Option.getD_some]
      rw [e3, h3, ← e2]
      exact h4
  · simp only
    cases hl : lastW ((f + 2 + j : Nat) : Int) c with
    | none => exact .inl rfl
    | some s =>
      obtain ⟨k, p, e, _, h3, _⟩ := key _ s hl
      have e3 : j - (pcs old).length = k := by omega
      exact .inr ⟨k, p, by omega, h3, by simp only; rw [e3]; exact h3⟩
  · simp only
    cases hl : lastW ((f + 2 + j : Nat) : Int) c with
    | none => exact h.out j hj
    | some s =>
      obtain ⟨k, p, e, _, h3, _⟩ := key _ s hl
      have := kl k p h3
      omega
  · cases hl : lastW ((f + a : Nat) : Int) c with
    | none => rfl
    | some s =>
      obtain ⟨k, p, e, _, _, _⟩ := key _ s hl
      omega
  · cases hl : lastW j c with
    | none => exact h.len j
    | some s =>
      obtain ⟨k, p, _, h2, _, _⟩ := key _ s hl
      exact h2
  · simp only
    cases hl : lastW ((f + 2 + ((pcs old).length + m) : Nat) : Int) c with
    | none => exact (lastW_some h2 hl).elim
    | some s' =>
      simp only
      rw [show (pcs old).length + m - (pcs old).length = m by omega]
      exact h1
theorem PI.oldle (h : PI d f n N T B old new S) : ∀ j p, S j = some p → p.t ≤ T := fun j p hj => by
  rcases Nat.lt_or_ge j (pcs old).length with hlt | hge
  · have h1 : (pcs old)[j]? = some (pcs old)[j] := List.getElem?_eq_getElem hlt
    have h2 := h.laid j _ h1
    rw [hj] at h2
    cases h2
    exact pcs_le h.rise _ (List.mem_of_getElem? h1)
  · exact Nat.le_of_lt (h.low j hge p hj)
theorem PI.mixle (h : PI d f n N T B old new S) {R : Nat → Option Pc} (hR : ∀ j, R j = S j ∨ ∃ m p, j = (pcs old).length + m ∧ (pcs new)[m]? = some p ∧ R j = some p) : ∀ j p, R j = some p → p.t ≤ T := fun j p hj => by
  rcases hR j with e | ⟨m, q, _, h2, h3⟩
  · exact h.oldle j p (by rw [← e]; exact hj)
  · rw [hj] at h3
    cases h3
    rw [pcs_turn new h.newT p (List.mem_of_getElem? h2)]
    exact Nat.le_refl _
theorem lk_next {d : Dk} (hg : DkG d) (f t b : Nat) (j : Int) : lkR j (nextD d f t b).stays = if ((f + t % 2 : Nat) : Int) = j then pad (turnB t b) else rd d j := by
  have h : rd (nextD d f t b) j = lkR j (nextD d f t b).stays := by rw [rd_eq]; rfl
  rw [← h]
  unfold nextD
  rw [rd_fl (hg.wr _ _), rd_wr]
theorem lk_fl {d : Dk} (hg : DkG d) (j : Int) : lkR j (flD d).stays = rd d j := by
  have h : rd (flD d) j = lkR j (flD d).stays := by rw [rd_eq]; rfl
  rw [← h, rd_fl hg]
/-- The slots tell the turn. -/
theorem tell_slots {X : Nat → List UInt8} {t b : Nat} (h0 : TellCase (X (T % 2)) T B) (ht : t < T) (h1 : TellCase (X ((T + 1) % 2)) t b) : ∃ t0 b0 t1 b1, TellCase (X 0) t0 b0 ∧ TellCase (X 1) t1 b1 ∧ opT t0 t1 = T ∧ opB t0 b0 t1 b1 = B := by
  rcases Nat.mod_two_eq_zero_or_one T with e | e
  · rw [e] at h0
    rw [show (T + 1) % 2 = 1 by omega] at h1
    exact ⟨T, B, t, b, h0, h1, by unfold opT; rw [if_neg (by omega)], by unfold opB; rw [if_neg (by omega)]⟩
  · rw [e] at h0
    rw [show (T + 1) % 2 = 0 by omega] at h1
    exact ⟨t, b, T, B, h1, h0, by unfold opT; rw [if_pos ht], by unfold opB; rw [if_pos ht]⟩
/-- Behind a crash the log is opened. -/
theorem PI.crash (h : PI d f n N T B old new S) (hT : T < 1000000) (keep : List Bool) : ∃ t0 b0 t1 b1 R m, OpAt (crD d keep) f n t0 b0 t1 b1 R ∧ opT t0 t1 = T ∧ opB t0 b0 t1 b1 = B ∧ m ≤ new.length ∧
    opL f n t0 b0 t1 b1 R = ⟨f, n - 2, T + 1, B, (pcs (old ++ new.take m)).length, (old ++ new.take m).map (·.2), false⟩ ∧ PI (nextD (crD d keep) f (T + 1) B) f n N (T + 1) B (old ++ new.take m) [] R := by
  obtain ⟨R, r1, r2, r3, r4, r5, _⟩ := h.mix (keptL d.cache keep) kept_mem
  have hrd : ∀ j, rd (crD d keep) j = (lastW j (keptL d.cache keep)).getD (lkR j d.stays) := fun j => rd_cr h.g keep j
  have hslot : ∀ a, a < 2 → rd (crD d keep) ((f + a : Nat) : Int) = lkR ((f + a : Nat) : Int) d.stays := fun a ha => by rw [hrd, r4 a ha]; rfl
  obtain ⟨t, b, ht, hs1⟩ := h.s1
  obtain ⟨t0, b0, t1, b1, c0, c1, eT, eB⟩ := tell_slots (X := fun a => rd (crD d keep) ((f + a : Nat) : Int)) (by rw [hslot _ (by omega)]; exact h.s0) ht (by rw [hslot _ (by omega)]; exact hs1)
  have hD : (pcs old).length ≤ n - 2 := by have := h.fit; omega
  have hle := h.mixle r2
  -- the search
  obtain ⟨w, e1⟩ := scan_list (R := R) (τ := T) old (n - 2 - (pcs old).length) 0 ⟨[], [], 0, B, [], 0⟩ h.rise rfl rfl rfl (fun j p hj => by
    rw [Nat.zero_add]
    rcases r2 j with e | ⟨m, q, e, _, _⟩
    · rw [e]; exact h.laid j p hj
    · have := (List.getElem?_eq_some_iff.1 hj).1
      omega)
  rw [show n - 2 - (pcs old).length + (pcs old).length = n - 2 by omega, Nat.zero_add] at e1
  simp only [List.nil_append] at e1
  have hlast : lastT B old ≤ T := riseT_last h.rise
  have hS' : ∀ j p, (fun j => if j < (pcs old).length then none else S j) j = some p → p.t < T := fun j p hj => by
    have hj' : (if j < (pcs old).length then none else S j) = some p := hj
    split at hj'
    · cases hj'
    · exact h.low j (by omega) p hj'
  obtain ⟨m, w', m1, m2, m3, m4, m5⟩ := scan_new (R := R) (τ := T) hS' new (n - 2 - (pcs old).length) (pcs old).length (lastT B old) w (old.map (·.2)) h.newT hlast (Nat.le_refl T) (by have := h.fit; omega) (fun j hj => by
      rcases r2 j with e | e
      · exact .inl (by rw [e]; show S j = if j < (pcs old).length then none else S j; rw [if_neg (by omega)])
      · exact .inr e) (by
      rcases h.dead with e | e
      · exact .inl e
      · refine .inr ?_
        have := e w (old.map (·.2)) (pcs old).length
        unfold Dead at this ⊢
        rw [scan_congr (S := S) _ _ _ (fun j hj => by show (if j < (pcs old).length then none else S j) = S j; rw [if_neg (by omega)])]
        exact this)
  have hpl : (pcs (old ++ new.take m)).length = (pcs old).length + (pcs (new.take m)).length := by rw [pcs_app, List.length_append]
  have htk := pcs_take new m
  have hfit := h.fit
  have hx : opX R n T B = scanK R T (n - 2 - (pcs old).length) (pcs old).length ⟨[], w, (pcs old).length, lastT B old, old.map (·.2), (pcs old).length⟩ := e1
  refine ⟨t0, b0, t1, b1, R, m, ⟨h.n1, h.n2, ?_, ?_, ?_, fun i _ => ?_, c0, c1, fun i hi => ?_⟩, eT, eB, m1, ?_, ?_⟩
  · show f + n ≤ d.n; rw [h.dn]; exact h.hin
  · show d.n ≤ 4096; rw [h.dn]; exact h.hN
  · show 0 + 1 ≤ 1000000; omega
  · rw [hrd]; exact r5 _
  · rw [hrd]; exact r1 i hi
  · unfold opL
    rw [eT, eB, hx, m3, m4, hpl, List.map_append]
  · have hlk : ∀ j, lkR j (nextD (crD d keep) f (T + 1) B).stays = if ((f + (T + 1) % 2 : Nat) : Int) = j then pad (turnB (T + 1) B) else rd (crD d keep) j := fun j => lk_next (h.g.cr keep) f (T + 1) B j
    have hBT : B ≤ T := riseT_le h.rise
    refine ⟨((h.g.cr keep).wr _ _).fl, h.dn, h.n1, h.n2, h.hin, h.hN, fun j => ?_, fun i hi => ?_, r3, fun k p hk => ?_, ?_, (fun r hr => by cases hr), ?_, fun i hi p hp => ?_, .inr fun w2 rs u => ?_, by omega, ?_, ⟨T, B, by omega, ?_⟩, fun k w hk => by cases hk⟩
    · rw [hlk]
      split
      · unfold turnB; exact pad_seal_len _
      · rw [hrd]; exact r5 j
    · rw [hlk, if_neg (by omega), hrd]; exact r1 i hi
    · rw [pcs_app] at hk
      rcases Nat.lt_or_ge k (pcs old).length with hlt | hge
      · rw [List.getElem?_append_left hlt] at hk
        rcases r2 k with e | ⟨m, q, e, _, _⟩
        · rw [e]; exact h.laid k p hk
        · omega
      · rw [List.getElem?_append_right hge] at hk
        have := m2 _ p hk
        rw [show (pcs old).length + (k - (pcs old).length) = k by omega] at this
        exact this
    · exact riseT_app (riseT_mono (by omega) h.rise) (riseT_const (T := T) hlast (by omega) _ (fun r hr => h.newT r (List.mem_of_mem_take hr)))
    · rw [hpl]; show _ + 0 ≤ _; omega
    · have := hle i p hp; omega
    · rw [hpl, lastT_app]
      have m5' : Dead R T (n - 2 - ((pcs old).length + (pcs (new.take m)).length)) ((pcs old).length + (pcs (new.take m)).length) ⟨[], w', (pcs old).length + (pcs (new.take m)).length, lastT (lastT B old) (new.take m), old.map (·.2) ++ (new.take m).map (·.2), (pcs old).length + (pcs (new.take m)).length⟩ := by
        rw [show n - 2 - ((pcs old).length + (pcs (new.take m)).length) = n - 2 - (pcs old).length - (pcs (new.take m)).length by omega]; exact m5
      have m6 := dead_any (w' := w2) (rs' := rs) (u' := u) m5'
      unfold Dead at m6 ⊢
      rw [scan_tau (τ' := T) _ _ _ (fun j _ p hp => ⟨by have := hle j p hp; omega, hle j p hp⟩)]
      exact m6
    · rw [hlk, if_pos rfl]; exact tell_turn (by omega) (by omega)
    · rw [show (T + 1 + 1) % 2 = T % 2 by omega, hlk, if_neg (by omega), hslot _ (by omega)]; exact h.s0
end pi
end Go.Proofs

/-
  A disk on which a log lies, in plain Lean: a new one, an append, a commit, a reset.
-/

namespace Go.Proofs
open Go.PW
theorem uintK_lt : ∀ (k j n : Nat), n < 128 ^ (j + 1) → (uintK k n).length ≤ j + 1
  | 0, j, n, _ => by simp [uintK]
  | k + 1, j, n, h => by
    unfold uintK
    by_cases hn : n < 128
    · rw [if_pos hn]; simp
    · rw [if_neg hn, List.length_cons]
      cases j with
      | zero => exact (hn h).elim
      | succ j =>
        have := uintK_lt k j (n / 128) (by rw [Nat.div_lt_iff_lt_mul (by omega), ← Nat.pow_succ]; exact h)
        omega
theorem head_short {t i c : Nat} (ht : t < 2097152) (hi : i < 16384) (hc : c < 128) : (headL t i c).length ≤ 7 := by
  have h1 := uintK_lt 10 2 t ht
  have h2 := uintK_lt 10 1 i hi
  have h3 := uintK_lt 10 0 c hc
  unfold headL uintB
  simp only [List.length_append, List.length_singleton]
  omega
theorem scan_nil (t : Nat) : ∀ (k i : Nat) (x : Sc), scanK (fun _ => none) t k i x = x
  | 0, _, _ => rfl
  | _ + 1, _, _ => rfl
theorem pcK_get (t : Nat) (sm : List UInt8) : ∀ (cut : List (List UInt8)) (k : Nat), (pcK t sm cut)[k]? = (cut[k]?).map fun p => ⟨t, sm, p, !decide (k + 1 = cut.length)⟩
  | [], k => by simp [pcK]
  | [q], k => by
    cases k with
    | zero => rfl
    | succ k => simp [pcK]
  | q :: q2 :: r, k => by
    cases k with
    | zero => simp [pcK]
    | succ k =>
      have := pcK_get t sm (q2 :: r) k
      show (pcK t sm (q2 :: r))[k]? = _
      rw [this]
      simp
/-- All parts but the last are a hundred bytes long. -/
theorem partsK_full : ∀ (m : Nat) (s : List UInt8) (k : Nat) (p : List UInt8), k + 1 < (partsK m s).length → (partsK m s)[k]? = some p → p.length = 100
  | 0, s, k, p, h, _ => by simp [partsK] at h
  | m + 1, s, k, p, h, hp => by
    unfold partsK at h hp
    by_cases hs : 100 < s.length
    · rw [if_pos hs] at h hp
      cases k with
      | zero =>
        have : p = s.take 100 := (Option.some.inj hp).symm
        rw [this, List.length_take]; omega
      | succ k => exact partsK_full m (s.drop 100) k p (by simpa using h) hp
    · rw [if_neg hs] at h
      simp at h
/-- What is written at a place tells its part. -/
theorem place_at {T i k : Nat} {s p : List UInt8} (hT : T ≤ 1000000) (hi : i < 1000) (hp : (partsL s)[k]? = some p) :
    AtOK (pad (sealB (headL T i (if k + 1 = (partsL s).length then 0 else 1) ++ sum4 s ++ p))) i (some ⟨T, sum4 s, p, !decide (k + 1 = (partsL s).length)⟩) := by
  have hpl : p.length ≤ 100 := partsL_mem s p (List.mem_of_getElem? hp)
  have hk := (List.getElem?_eq_some_iff.1 hp).1
  refine at_place ?_ (by omega) (sum4_len s) hpl (fun h => ?_) ?_
  · by_cases e : k + 1 = (partsL s).length
    · rw [if_pos e]; simp [e]
    · rw [if_neg e]; simp [e]
  · have e : k + 1 ≠ (partsL s).length := by simpa using h
    exact partsK_full _ s k p (by unfold partsL at e hk; omega) hp
  · have := head_short (t := T) (i := i) (c := if k + 1 = (partsL s).length then 0 else 1) (by omega) (by omega) (by split <;> omega)
    omega
section pi
variable {d : Dk} {f n N T B : Nat} {old new : List (Nat × List UInt8)} {S : Nat → Option Pc}
theorem PI.fresh (h1 : 4 ≤ n) (h2 : n ≤ 1000) (h3 : f + n ≤ N) (h4 : N ≤ 4096) : PI (nextD (newD N) f 1 0) f n N 1 0 [] [] (fun _ => none) := by
  have hlk : ∀ j, lkR j (nextD (newD N) f 1 0).stays = if ((f + 1 % 2 : Nat) : Int) = j then pad (turnB 1 0) else zeros := fun j => by rw [lk_next (DkG_new N), rd_new]
  refine ⟨((DkG_new N).wr _ _).fl, rfl, h1, h2, h3, h4, fun j => ?_, fun i hi => ?_, fun _ _ => rfl, fun k p h => by simp [pcs] at h, Nat.zero_le _, (fun r h => by cases h), Nat.zero_le _, (fun i _ p h => by cases h), .inr fun w rs u => ?_, by omega, ?_, ⟨0, 0, by omega, ?_⟩, fun k w h => by cases h⟩
  · rw [hlk]
    split
    · unfold turnB; exact pad_seal_len _
    · rw [zeros_len]; omega
  · rw [hlk, if_neg (by omega)]; exact at_zeros i
  · unfold Dead
    rw [scan_nil]
  · rw [hlk, if_pos rfl]; exact tell_turn (by omega) (by omega)
  · rw [hlk, if_neg (by omega)]; exact tell_zeros
/-- One more record is to be written. -/
theorem PI.ext (h : PI d f n N T B old new S) (s : List UInt8) (hf : (pcs old).length + (pcs new).length + (pcsR T s).length ≤ n - 2) : PI d f n N T B old (new ++ [(T, s)]) S := by
  have hl : pcs (new ++ [(T, s)]) = pcs new ++ (pcsR T s ++ []) := pcs_app _ _
  refine { h with newT := fun r hr => ?_, fit := ?_, cache := fun k w hk => ?_ }
  · rcases List.mem_append.1 hr with hr | hr
    · exact h.newT r hr
    · rw [List.mem_singleton.1 hr]
  · rw [hl, List.append_nil, List.length_append]; omega
  · obtain ⟨h1, h2, p, h3, h4⟩ := h.cache k w hk
    exact ⟨h1, h2, p, by rw [hl]; exact app_left h3, h4⟩
/-- A place is written. -/
theorem PI.write (h : PI d f n N T B old new S) {b : List UInt8} {p : Pc} (hb : b.length ≤ 128) (hp : (pcs new)[d.cache.length]? = some p) (ha : AtOK (pad b) ((pcs old).length + d.cache.length) (some p)) :
    PI (wrD d ((f + 2 + ((pcs old).length + d.cache.length) : Nat) : Int) b) f n N T B old new S := by
  refine { h with g := h.g, dn := h.dn, len := h.len, at_ := h.at_, s0 := h.s0, s1 := h.s1, cache := fun k w hk => ?_ }
  have hk' : (d.cache ++ [(((f + 2 + ((pcs old).length + d.cache.length) : Nat) : Int), pad b)])[k]? = some w := hk
  rcases Nat.lt_trichotomy k d.cache.length with hlt | e | hgt
  · rw [List.getElem?_append_left hlt] at hk'
    exact h.cache k w hk'
  · rw [e, List.getElem?_append_right (Nat.le_refl _), Nat.sub_self] at hk'
    cases hk'
    rw [e]
    exact ⟨rfl, by rw [pad_len hb]; omega, p, hp, ha⟩
  · rw [List.getElem?_append_right (by omega), List.getElem?_eq_none (by rw [List.length_singleton]; omega)] at hk'
    cases hk'
/-- A record's first places are written. -/
theorem PI.append (h : PI d f n N T B old new S) {l : Lg} (hl1 : l.from_ = f) (hl2 : l.turn = T) (hl3 : l.used = (pcs old).length + (pcs new).length) (hc : d.cache.length = (pcs new).length) (s : List UInt8) (hfit : l.used + (partsL s).length ≤ n - 2) :
    ∀ k, k ≤ (partsL s).length → PI (apD l s (partsL s).length (partsL s) d k) f n N T B old (new ++ [(T, s)]) S
  | 0, _ => h.ext s (by rw [pcsR, pcK_len]; omega)
  | k + 1, hk => by
    have ih := PI.append h hl1 hl2 hl3 hc s hfit k (by omega)
    obtain ⟨_, hsc, _, _⟩ := apD_spec l s (partsL s).length (partsL s) d k
    have hkl : k < (partsL s).length := by omega
    have hg : (partsL s)[k]? = some ((partsL s)[k]) := List.getElem?_eq_getElem hkl
    have hgd : (partsL s).getD k [] = (partsL s)[k] := by rw [List.getD_eq_getElem?_getD, hg]; rfl
    have hpk : (pcs (new ++ [(T, s)]))[(pcs new).length + k]? = some ⟨T, sum4 s, (partsL s)[k], !decide (k + 1 = (partsL s).length)⟩ := by
      rw [show pcs (new ++ [(T, s)]) = pcs new ++ (pcsR T s ++ []) from pcs_app _ _, List.append_nil]
      refine app_right ?_
      unfold pcsR
      rw [pcK_get, hg]; rfl
    have hn2 := h.n2
    have hT := h.hT
    have hw := ih.write (b := placeB l s (partsL s).length k (partsL s)[k]) (p := ⟨T, sum4 s, (partsL s)[k], !decide (k + 1 = (partsL s).length)⟩) (sealB_len _) (by rw [hsc, hc]; exact hpk) (by
      rw [hsc, hc]
      unfold placeB
      rw [hl2, show l.used + k = (pcs old).length + ((pcs new).length + k) by omega]
      exact place_at hT (by omega) hg)
    show PI (wrD (apD l s (partsL s).length (partsL s) d k) ((l.from_ + 2 + (l.used + k) : Nat) : Int) (placeB l s (partsL s).length k ((partsL s).getD k []))) f n N T B old _ S
    rw [hgd, hl1, show f + 2 + (l.used + k) = f + 2 + ((pcs old).length + (apD l s (partsL s).length (partsL s) d k).cache.length) by rw [hsc, hc]; omega]
    exact hw
theorem PI.commit (h : PI d f n N T B old new S) (hc : d.cache.length = (pcs new).length) : ∃ R, PI (flD d) f n N T B (old ++ new) [] R := by
  obtain ⟨R, r1, r2, r3, r4, r5, r6⟩ := h.mix d.cache (fun _ h => h)
  have hlk : ∀ j, lkR j (flD d).stays = (lastW j d.cache).getD (lkR j d.stays) := fun j => by rw [lk_fl h.g, rd_eq]
  have hfit := h.fit
  have hpl : (pcs (old ++ new)).length = (pcs old).length + (pcs new).length := by rw [pcs_app, List.length_append]
  have hlast : lastT B old ≤ T := riseT_last h.rise
  obtain ⟨t, b, ht, hs1⟩ := h.s1
  refine ⟨R, h.g.fl, h.dn, h.n1, h.n2, h.hin, h.hN, fun j => by rw [hlk]; exact r5 j, fun i hi => by rw [hlk]; exact r1 i hi, r3, fun k p hk => ?_, riseT_app h.rise (riseT_const hlast (Nat.le_refl T) new h.newT), (fun r hr => by cases hr), by rw [hpl]; exact hfit, fun i hi p hp => ?_, ?_, h.hT, ?_, ⟨t, b, ht, ?_⟩, fun k w hk => by cases hk⟩
  · rw [pcs_app] at hk
    rcases Nat.lt_or_ge k (pcs old).length with hlt | hge
    · rw [List.getElem?_append_left hlt] at hk
      rcases r2 k with e | ⟨m, q, e, _, _⟩
      · rw [e]; exact h.laid k p hk
      · omega
    · rw [List.getElem?_append_right hge] at hk
      have hlt2 := (List.getElem?_eq_some_iff.1 hk).1
      have hcl : k - (pcs old).length < d.cache.length := by omega
      obtain ⟨e1, _⟩ := h.cache (k - (pcs old).length) d.cache[k - (pcs old).length] (List.getElem?_eq_getElem hcl)
      have := r6 (k - (pcs old).length) p d.cache[k - (pcs old).length].2 hk (by rw [← e1]; exact List.getElem_mem hcl)
      rw [show (pcs old).length + (k - (pcs old).length) = k by omega] at this
      exact this
  · rw [hpl] at hi
    rcases r2 i with e | ⟨m, q, e, h2, _⟩
    · exact h.low i (by omega) p (by rw [← e]; exact hp)
    · have := (List.getElem?_eq_some_iff.1 h2).1
      omega
  · rw [lastT_app, hpl]
    cases hnew : new with
    | nil =>
      rw [hnew] at r2
      rcases h.dead with e | e
      · exact .inl e
      · refine .inr fun w rs u => ?_
        have := e w rs u
        unfold Dead at this ⊢
        show (scanK R T (n - 2 - (pcs old).length) (pcs old).length ⟨[], w, (pcs old).length, lastT B old, rs, u⟩).recs.length = rs.length
        rw [scan_congr (R := R) (S := S) _ _ _ (fun j _ => (r2 j).elim id fun ⟨m, p, _, h, _⟩ => by simp [pcs] at h)]
        exact this
    | cons r l =>
      refine .inl (lastT_const _ _ (fun x hx => h.newT x (by rw [hnew]; exact hx)) (by simp))
  · rw [hlk, r4 _ (by omega)]; exact h.s0
  · rw [hlk, r4 _ (by omega)]; exact hs1
theorem PI.reset (h : PI d f n N T B old new S) (hT : T < 1000000) : ∃ R, PI (nextD d f (T + 1) (T + 1)) f n N (T + 1) (T + 1) [] [] R := by
  obtain ⟨R, r1, r2, r3, r4, r5, _⟩ := h.mix d.cache (fun _ h => h)
  have hle := h.mixle r2
  have hlk : ∀ j, lkR j (nextD d f (T + 1) (T + 1)).stays = if ((f + (T + 1) % 2 : Nat) : Int) = j then pad (turnB (T + 1) (T + 1)) else (lastW j d.cache).getD (lkR j d.stays) := fun j => by rw [lk_next h.g, rd_eq]
  have hBT : B ≤ T := riseT_le h.rise
  refine ⟨R, (h.g.wr _ _).fl, h.dn, h.n1, h.n2, h.hin, h.hN, fun j => ?_, fun i hi => ?_, r3, fun k p hk => by simp [pcs] at hk, Nat.le_refl _, (fun r hr => by cases hr), Nat.zero_le _, fun i _ p hp => by have := hle i p hp; omega, .inl rfl, by omega, ?_, ⟨T, B, by omega, ?_⟩, fun k w hk => by cases hk⟩
  · rw [hlk]
    split
    · unfold turnB; exact pad_seal_len _
    · exact r5 j
  · rw [hlk, if_neg (by omega)]; exact r1 i hi
  · rw [hlk, if_pos rfl]; exact tell_turn (by omega) (by omega)
  · rw [show (T + 1 + 1) % 2 = T % 2 by omega, hlk, if_neg (by omega), r4 _ (by omega)]; exact h.s0
end pi
end Go.Proofs

/-
  The pager: what it is; pages; whether it is there.
-/

namespace Go.Proofs
open Go.PW
structure Pg where
  logs : Nat
  ch : List (Int × List UInt8)
  halted : Bool
def encPg (did lid : Nat) (κp : Tok) (p : Pg) : List CV := [.ptr did 0, .ptr lid 0, .d (.lit (.int .i64 p.logs)), .mpr κp, .d (.lit (.bool p.halted))]
/-- A pager lies there. -/
structure PgAt (H : HMap) (A : AMap) (pid did lid : Nat) (κp : Tok) (p : Pg) : Prop where
  h : H pid = some (encPg did lid κp p)
  m : A κp = some (.mp (encNS p.ch))
theorem Try.mk128p : mksS Try.prog 62 (.c (.d (.lit (.int .i64 128)))) (.c (.d (.lit (.int .i64 128)))) = some (.c (.full (bytesEls zeros))) := by kernel_rfl
set_option maxRecDepth 8000 in
set_option maxHeartbeats 4000000 in
theorem Try.kEmptyP : PureOK Try.prog 49 [] (.one (.d (dS zeros))) := by
  refine Try.pure (md := []) Try.func49 rfl Try.call49 (by kernel_rfl) (by rfl) (by exact Nat.le_of_ble_eq_true rfl) ?_
  repeat' (first
   | with_reducible first | refine VC_seq fun K hK => ?_ | refine W_region ?_ | refine VC_block ?_ | refine VC_scope ?_ | refine VC_if ?_ | refine VC_skip ?_ | refine VC_exit ?_ | refine VC_ret ?_
   | (with_reducible first | refine G_not (fun h => ?_) (fun h => ?_) | refine G_cases (fun h => ?_) (fun h => ?_)) <;> (try simp only [h])
   | with_reducible first | (refine hK _ ?_; clear hK K) | (clear hK K; refine hK _ ?_; clear hK K) | (clear hK K; clear hK K; refine hK _ ?_; clear hK K) | (clear hK K; clear hK K; clear hK K; refine hK _ ?_; clear hK K)
   | (with_reducible refine todo ?_; simp +decide only [go_sem, Try.mk128p]))
  exact Ret_d rfl rfl
set_option maxRecDepth 8000 in
set_option maxHeartbeats 8000000 in
theorem Try.kFull (s : List UInt8) (hs : s.length ≤ 128) : PureOK Try.prog 51 [pD (dS s)] (.one (.d (dS (pad s)))) := by
  refine Try.pure (md := []) Try.func51 rfl Try.call51 (by kernel_rfl) (by rfl) (by exact Nat.le_of_ble_eq_true rfl) ?_
  have ke := Try.kEmptyP
  have hz := zeros_len
  have hp : pad s = s ++ zeros.drop s.length := rfl
  have hd : (zeros.drop s.length).take (128 - s.length) = zeros.drop s.length := List.take_of_length_le (by rw [List.length_drop, hz]; exact Nat.le_refl _)
  have hl : (zeros.drop s.length).length ≤ 128 := by rw [List.length_drop, hz]; omega
  rw [hp]
  generalize hzz : zeros = z at *
  generalize hdd : z.drop s.length = zd at *
  have s1 : (s.length + zd.length ≤ 9223372036854775807) = True := eq_true (by omega)
  repeat' (first
   | with_reducible first | refine VC_seq fun K hK => ?_ | refine W_region ?_ | refine VC_block ?_ | refine VC_scope ?_ | refine VC_if ?_ | refine VC_skip ?_ | refine VC_exit ?_ | refine VC_ret ?_
   | (with_reducible first | refine G_not (fun h => ?_) (fun h => ?_) | refine G_cases (fun h => ?_) (fun h => ?_)) <;> (try simp only [h])
   | refine C_pure ke rfl rfl (fun _ => rfl) ?_
   | refine W_slcS (a := z) (l := s.length) (h := 128) Try.underlying9 rfl (by simp [optNat, natOf?, intOf?]) (by simp [optNat, hz]) (by omega) (by omega) ?_
   | with_reducible first | (refine hK _ ?_; clear hK K) | (clear hK K; refine hK _ ?_; clear hK K) | (clear hK K; clear hK K; refine hK _ ?_; clear hK K) | (clear hK K; clear hK K; clear hK K; refine hK _ ?_; clear hK K)
   | (with_reducible refine todo ?_; simp +decide only [go_sem, hdd, hd, s1]))
  exact Ret_d rfl rfl
section pg
variable {H : HMap} {A : AMap} {pid did lid : Nat} {κm κc κp : Tok} {d : Dk} {p : Pg}
theorem PgAt.ptr (hp : PgAt H A pid did lid κp p) {A1 A2 : AMap} : PV.wk (hOver [] H) A1 A2 (.c (.ptr pid 0)) (.c (.ptr pid 0)) = True := eq_true (wkP_ptr (by show H pid ≠ none; rw [hp.h]; simp))
set_option maxRecDepth 8000 in
set_option maxHeartbeats 4000000 in
theorem Try.kThere (off : Nat) (hw : Wf H A) (hp : PgAt H A pid did lid κp p) : EffOK Try.prog 37 off H A [.c (.ptr pid 0)] (pD (.lit (.bool true))) H A := by
  refine effr_ok (E := envOf Try.prog [] off [] []) (envOf_ok Try.mixed) Try.func37 rfl Try.call37 (by kernel_rfl) (by exact Nat.le_of_ble_eq_true rfl) (fun hab => ?_)
  have hph := hp.h
  unfold encPg at hph
  repeat' (first
   | with_reducible first | refine VC_seq fun K hK => ?_ | refine W_region ?_ | refine VC_block ?_ | refine VC_scope ?_ | refine VC_if ?_ | refine VC_skip ?_ | refine VC_exit ?_ | refine VC_ret ?_
   | (with_reducible first | refine G_not (fun h => ?_) (fun h => ?_) | refine G_cases (fun h => ?_) (fun h => ?_)) <;> (try simp only [h])
   | with_reducible first | (refine hK _ ?_; clear hK K) | (clear hK K; refine hK _ ?_; clear hK K) | (clear hK K; clear hK K; refine hK _ ?_; clear hK K) | (clear hK K; clear hK K; clear hK K; refine hK _ ?_; clear hK K)
   | (with_reducible refine todo ?_; simp +decide only [go_sem, hph]))
  exact RetR_same rfl (by simp +decide only [go_sem]) True.intro hw kp_refl (fun _ _ => rfl)
/-- How many pages there are. -/
def pgN (d : Dk) (p : Pg) : Nat := d.n - p.logs
set_option maxRecDepth 8000 in
set_option maxHeartbeats 8000000 in
theorem Try.kPgLen (off : Nat) (hw : Wf H A) (hp : PgAt H A pid did lid κp p) (hd : DkAt H A did κm κc d) (hl : p.logs ≤ d.n) (hn : d.n ≤ 4096) : EffOK Try.prog 31 off H A [.c (.ptr pid 0)] (pD (.lit (.int .i64 (pgN d p)))) H A := by
  refine effr_ok (E := envOf Try.prog [37, 2000000 + 34] off [] []) (envOf_ok Try.mixed) Try.func31 rfl Try.call31 (by kernel_rfl) (by exact Nat.le_of_ble_eq_true rfl) (fun hab => ?_)
  have hph := hp.h
  have kt := Try.kThere (off + 1000) hw hp
  have kl := Try.kLen (off + 1000) hw hd
  unfold encPg at hph
  have c1 : IntKind.i64.wrap ((d.n : Int) - (p.logs : Int)) = ((pgN d p : Nat) : Int) := by unfold pgN; rw [Go.IntWalk.i64_in _ (by omega)]; omega
  repeat' (first
   | with_reducible first | refine VC_seq fun K hK => ?_ | refine W_region ?_ | refine VC_block ?_ | refine VC_scope ?_ | refine VC_if ?_ | refine VC_skip ?_ | refine VC_exit ?_ | refine VC_ret ?_
   | (with_reducible first | refine G_not (fun h => ?_) (fun h => ?_) | refine G_cases (fun h => ?_) (fun h => ?_)) <;> (try simp only [h])
   | refine C_call rfl kt rfl (Above_mono hab (by omega)) ?_
   | refine C_quiet rfl rfl kl rfl (Above_mono hab (by omega)) ?_
   | with_reducible first | (refine hK _ ?_; clear hK K) | (clear hK K; refine hK _ ?_; clear hK K) | (clear hK K; clear hK K; refine hK _ ?_; clear hK K) | (clear hK K; clear hK K; clear hK K; refine hK _ ?_; clear hK K)
   | (with_reducible refine todo ?_; simp +decide only [go_sem, hph, c1]))
  exact RetR_same rfl (by simp +decide only [go_sem]) True.intro hw kp_refl (fun _ _ => rfl)
/-- What is wrong with a page's number. -/
def pgRight (n : Nat) (page : Int) : Int := if page < 0 ∨ (n : Int) ≤ page then 2 else 0
set_option maxRecDepth 8000 in
set_option maxHeartbeats 8000000 in
theorem Try.kPgRight (off : Nat) (hw : Wf H A) (hp : PgAt H A pid did lid κp p) (hd : DkAt H A did κm κc d) (hl : p.logs ≤ d.n) (hn : d.n ≤ 4096) (page : Int) : EffOK Try.prog 50 off H A [.c (.ptr pid 0), pD (.lit (.int .i64 page))] (pD (.lit (.int .i64 (pgRight (pgN d p) page)))) H A := by
  refine effr_ok (E := envOf Try.prog [37, 31] off [] []) (envOf_ok Try.mixed) Try.func50 rfl Try.call50 (by kernel_rfl) (by exact Nat.le_of_ble_eq_true rfl) (fun hab => ?_)
  have kt := Try.kThere (off + 1000) hw hp
  have kl := Try.kPgLen (off + 1000) hw hp hd hl hn
  unfold pgRight
  by_cases h0 : page < 0
  · have f0 : (page < 0) = True := eq_true h0
    rw [if_pos (.inl h0)]
    repeat' (first
     | with_reducible first | refine VC_seq fun K hK => ?_ | refine W_region ?_ | refine VC_block ?_ | refine VC_scope ?_ | refine VC_if ?_ | refine VC_skip ?_ | refine VC_exit ?_ | refine VC_ret ?_
     | (with_reducible first | refine G_not (fun h => ?_) (fun h => ?_) | refine G_cases (fun h => ?_) (fun h => ?_)) <;> (try simp only [h])
     | refine C_call rfl kt rfl (Above_mono hab (by omega)) ?_
     | refine C_call rfl kl rfl (Above_mono hab (by omega)) ?_
     | with_reducible first | (refine hK _ ?_; clear hK K) | (clear hK K; refine hK _ ?_; clear hK K) | (clear hK K; clear hK K; refine hK _ ?_; clear hK K) | (clear hK K; clear hK K; clear hK K; refine hK _ ?_; clear hK K)
     | (with_reducible refine todo ?_; simp +decide only [go_sem, f0]))
    exact RetR_same rfl (by simp +decide only [go_sem]) True.intro hw kp_refl (fun _ _ => rfl)
  · have f0 : (page < 0) = False := eq_false h0
    by_cases h1 : ((pgN d p : Nat) : Int) ≤ page
    · have f1 : (((pgN d p : Nat) : Int) ≤ page) = True := eq_true h1
      rw [if_pos (.inr h1)]
      repeat' (first
       | with_reducible first | refine VC_seq fun K hK => ?_ | refine W_region ?_ | refine VC_block ?_ | refine VC_scope ?_ | refine VC_if ?_ | refine VC_skip ?_ | refine VC_exit ?_ | refine VC_ret ?_
       | (with_reducible first | refine G_not (fun h => ?_) (fun h => ?_) | refine G_cases (fun h => ?_) (fun h => ?_)) <;> (try simp only [h])
       | refine C_call rfl kt rfl (Above_mono hab (by omega)) ?_
       | refine C_call rfl kl rfl (Above_mono hab (by omega)) ?_
       | with_reducible first | (refine hK _ ?_; clear hK K) | (clear hK K; refine hK _ ?_; clear hK K) | (clear hK K; clear hK K; refine hK _ ?_; clear hK K) | (clear hK K; clear hK K; clear hK K; refine hK _ ?_; clear hK K)
       | (with_reducible refine todo ?_; simp +decide only [go_sem, f0, f1]))
      exact RetR_same rfl (by simp +decide only [go_sem]) True.intro hw kp_refl (fun _ _ => rfl)
    · have f1 : (((pgN d p : Nat) : Int) ≤ page) = False := eq_false h1
      rw [if_neg (by omega)]
      repeat' (first
       | with_reducible first | refine VC_seq fun K hK => ?_ | refine W_region ?_ | refine VC_block ?_ | refine VC_scope ?_ | refine VC_if ?_ | refine VC_skip ?_ | refine VC_exit ?_ | refine VC_ret ?_
       | (with_reducible first | refine G_not (fun h => ?_) (fun h => ?_) | refine G_cases (fun h => ?_) (fun h => ?_)) <;> (try simp only [h])
       | refine C_call rfl kt rfl (Above_mono hab (by omega)) ?_
       | refine C_call rfl kl rfl (Above_mono hab (by omega)) ?_
       | with_reducible first | (refine hK _ ?_; clear hK K) | (clear hK K; refine hK _ ?_; clear hK K) | (clear hK K; clear hK K; refine hK _ ?_; clear hK K) | (clear hK K; clear hK K; clear hK K; refine hK _ ?_; clear hK K)
       | (with_reducible refine todo ?_; simp +decide only [go_sem, f0, f1]))
      exact RetR_same rfl (by simp +decide only [go_sem]) True.intro hw kp_refl (fun _ _ => rfl)
/-- A page, as it is read. -/
def pgRd (d : Dk) (p : Pg) (page : Nat) : List UInt8 := match findN (page : Int) p.ch 0 with
  | some r => r.2
  | none => rd d ((p.logs + page : Nat) : Int)
set_option maxRecDepth 8000 in
set_option maxHeartbeats 8000000 in
theorem Try.kPgRead (off : Nat) (hw : Wf H A) (hp : PgAt H A pid did lid κp p) (hd : DkAt H A did κm κc d) (hl : p.logs ≤ d.n) (hn : d.n ≤ 4096) (hcl : d.cache.length ≤ 1000000) (page : Nat) (hpg : page < pgN d p) :
    EffOK Try.prog 33 off H A [.c (.ptr pid 0), pD (.lit (.int .i64 page))] (.tup [.c (.d (dS (pgRd d p page))), .c (.d (.lit (.int .i64 0)))]) H A := by
  refine effr_ok (E := envOf Try.prog [50, 2000000 + 55] off [] []) (envOf_ok Try.mixed) Try.func33 rfl Try.call33 (by kernel_rfl) (by exact Nat.le_of_ble_eq_true rfl) (fun hab => ?_)
  have hph := hp.h
  unfold encPg at hph
  have kr := Try.kPgRight (off + 1000) hw hp hd hl hn page
  have e0 : pgRight (pgN d p) page = 0 := by unfold pgRight; rw [if_neg (by omega)]
  rw [e0] at kr
  have hpn : pgN d p = d.n - p.logs := rfl
  have c1 : IntKind.i64.wrap ((p.logs : Int) + (page : Int)) = ((p.logs + page : Nat) : Int) := by rw [Go.IntWalk.i64_in _ (by omega)]; omega
  have kd := Try.kRead (off + 1000) hw hd ((p.logs + page : Nat) : Int) (by omega) hcl
  have e1 : dkRight d ((p.logs + page : Nat) : Int) = 0 := by unfold dkRight; rw [if_neg (by omega), if_neg (by omega)]
  unfold readPV at kd
  rw [if_pos e1] at kd
  cases hf : findN (page : Int) p.ch 0 with
  | none =>
    have e : pgRd d p page = rd d ((p.logs + page : Nat) : Int) := by unfold pgRd; rw [hf]
    rw [e]
    repeat' (first
     | with_reducible first | refine VC_seq fun K hK => ?_ | refine W_region ?_ | refine VC_block ?_ | refine VC_scope ?_ | refine VC_if ?_ | refine VC_skip ?_ | refine VC_exit ?_ | refine VC_ret ?_
     | (with_reducible first | refine G_not (fun h => ?_) (fun h => ?_) | refine G_cases (fun h => ?_) (fun h => ?_)) <;> (try simp only [h])
     | refine C_call rfl kr rfl (Above_mono hab (by omega)) ?_
     | refine C_quiet rfl rfl kd rfl (Above_mono hab (by omega)) ?_
     | with_reducible first | (refine hK _ ?_; clear hK K) | (clear hK K; refine hK _ ?_; clear hK K) | (clear hK K; clear hK K; refine hK _ ?_; clear hK K) | (clear hK K; clear hK K; clear hK K; refine hK _ ?_; clear hK K)
     | (with_reducible refine todo ?_; simp +decide only [go_sem, hph, zne, c1, mapOf_mpr hp.m, mfind_N, hf]))
    exact RetR_same rfl wk_pair oks_pair hw kp_refl (fun _ _ => rfl)
  | some r =>
    have e : pgRd d p page = r.2 := by unfold pgRd; rw [hf]
    rw [e]
    repeat' (first
     | with_reducible first | refine VC_seq fun K hK => ?_ | refine W_region ?_ | refine VC_block ?_ | refine VC_scope ?_ | refine VC_if ?_ | refine VC_skip ?_ | refine VC_exit ?_ | refine VC_ret ?_
     | (with_reducible first | refine G_not (fun h => ?_) (fun h => ?_) | refine G_cases (fun h => ?_) (fun h => ?_)) <;> (try simp only [h])
     | refine C_call rfl kr rfl (Above_mono hab (by omega)) ?_
     | with_reducible first | (refine hK _ ?_; clear hK K) | (clear hK K; refine hK _ ?_; clear hK K) | (clear hK K; clear hK K; refine hK _ ?_; clear hK K) | (clear hK K; clear hK K; clear hK K; refine hK _ ?_; clear hK K)
     | (with_reducible refine todo ?_; simp +decide only [go_sem, hph, zne, mapOf_mpr hp.m, mfind_N, hf]))
    exact RetR_same rfl wk_pair oks_pair hw kp_refl (fun _ _ => rfl)
end pg
end Go.Proofs
