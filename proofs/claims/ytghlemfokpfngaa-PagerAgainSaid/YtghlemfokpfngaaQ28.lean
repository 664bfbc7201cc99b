/-
  Parts of the proof, laid together: PwHv, PwHw.
-/
import Derived.Test.YtghlemfokpfngaaQ27

namespace Go.Proofs
open Go.PW
theorem uintK_lt : ∀ (k j n : Nat), n < 128 ^ (j + 1) → (uintK k n).length ≤ j + 1
  | 0, j, n, _ => by simp [uintK]
  | k + 1, j, n, h => by
    unfold uintK
    by_cases hn : n < 128
    · rw [if_pos hn]; simp
    · rw [if_neg hn, List.length_cons]
      cases j with
      | zero => exact (hn h).elim
      | succ j =>
        have := uintK_lt k j (n / 128) (by rw [Nat.div_lt_iff_lt_mul (by omega), ← Nat.pow_succ]; exact h)
        omega
theorem head_short {t i c : Nat} (ht : t < 2097152) (hi : i < 16384) (hc : c < 128) : (headL t i c).length ≤ 7 := by
  have h1 := uintK_lt 10 2 t ht
  have h2 := uintK_lt 10 1 i hi
  have h3 := uintK_lt 10 0 c hc
  unfold headL uintB
  simp only [List.length_append, List.length_singleton]
  omega
theorem scan_nil (t : Nat) : ∀ (k i : Nat) (x : Sc), scanK (fun _ => none) t k i x = x
  | 0, _, _ => rfl
  | _ + 1, _, _ => rfl
theorem pcK_get (t : Nat) (sm : List UInt8) : ∀ (cut : List (List UInt8)) (k : Nat), (pcK t sm cut)[k]? = (cut[k]?).map fun p => ⟨t, sm, p, !decide (k + 1 = cut.length)⟩
  | [], k => by simp [pcK]
  | [q], k => by
    cases k with
    | zero => rfl
    | succ k => simp [pcK]
  | q :: q2 :: r, k => by
    cases k with
    | zero => simp [pcK]
    | succ k =>
      have := pcK_get t sm (q2 :: r) k
      show (pcK t sm (q2 :: r))[k]? = _
      rw [this]
      simp
theorem partsK_full : ∀ (m : Nat) (s : List UInt8) (k : Nat) (p : List UInt8), k + 1 < (partsK m s).length → (partsK m s)[k]? = some p → p.length = 100
  | 0, s, k, p, h, _ => by simp [partsK] at h
  | m + 1, s, k, p, h, hp => by
    unfold partsK at h hp
    by_cases hs : 100 < s.length
    · rw [if_pos hs] at h hp
      cases k with
      | zero =>
        have : p = s.take 100 := (Option.some.inj hp).symm
        rw [this, List.length_take]; omega
      | succ k => exact partsK_full m (s.drop 100) k p (by simpa using h) hp
    · rw [if_neg hs] at h
      simp at h
theorem place_at {T i k : Nat} {s p : List UInt8} (hT : T ≤ 1000000) (hi : i < 1000) (hp : (partsL s)[k]? = some p) :
    AtOK (pad (sealB (headL T i (if k + 1 = (partsL s).length then 0 else 1) ++ sum4 s ++ p))) i (some ⟨T, sum4 s, p, !decide (k + 1 = (partsL s).length)⟩) := by
  have hpl : p.length ≤ 100 := partsL_mem s p (List.mem_of_getElem? hp)
  have hk := (List.getElem?_eq_some_iff.1 hp).1
  refine at_place ?_ (by omega) (sum4_len s) hpl (fun h => ?_) ?_
  · by_cases e : k + 1 = (partsL s).length
    · rw [if_pos e]; simp [e]
    · rw [if_neg e]; simp [e]
  · have e : k + 1 ≠ (partsL s).length := by simpa using h
    exact partsK_full _ s k p (by unfold partsL at e hk; omega) hp
  · have := head_short (t := T) (i := i) (c := if k + 1 = (partsL s).length then 0 else 1) (by omega) (by omega) (by split <;> omega)
    omega
section pi
variable {d : Dk} {f n N T B : Nat} {old new : List (Nat × List UInt8)} {S : Nat → Option Pc}
theorem PI.fresh (h1 : 4 ≤ n) (h2 : n ≤ 1000) (h3 : f + n ≤ N) (h4 : N ≤ 4096) : PI (nextD (newD N) f 1 0) f n N 1 0 [] [] (fun _ => none) := by
  have hlk : ∀ j, lkR j (nextD (newD N) f 1 0).stays = if ((f + 1 % 2 : Nat) : Int) = j then pad (turnB 1 0) else zeros := fun j => by rw [lk_next (DkG_new N), rd_new]
  refine ⟨((DkG_new N).wr _ _).fl, rfl, h1, h2, h3, h4, fun j => ?_, fun i hi => ?_, fun _ _ => rfl, fun k p h => by simp [pcs] at h, Nat.zero_le _, (fun r h => by cases h), Nat.zero_le _, (fun i _ p h => by cases h), .inr fun w rs u => ?_, by omega, ?_, ⟨0, 0, by omega, ?_⟩, fun k w h => by cases h⟩
  · rw [hlk]
    split
    · unfold turnB; exact pad_seal_len _
    · rw [zeros_len]; omega
  · rw [hlk, if_neg (by omega)]; exact at_zeros i
  · unfold Dead
    rw [scan_nil]
  · rw [hlk, if_pos rfl]; exact tell_turn (by omega) (by omega)
  · rw [hlk, if_neg (by omega)]; exact tell_zeros
theorem PI.ext (h : PI d f n N T B old new S) (s : List UInt8) (hf : (pcs old).length + (pcs new).length + (pcsR T s).length ≤ n - 2) : PI d f n N T B old (new ++ [(T, s)]) S := by
  have hl : pcs (new ++ [(T, s)]) = pcs new ++ (pcsR T s ++ []) := pcs_app _ _
  refine { h with newT := fun r hr => ?_, fit := ?_, cache := fun k w hk => ?_ }
  · rcases List.mem_append.1 hr with hr | hr
    · exact h.newT r hr
    · rw [List.mem_singleton.1 hr]
  · rw [hl, List.append_nil, List.length_append]; omega
  · obtain ⟨h1, h2, p, h3, h4⟩ := h.cache k w hk
    exact ⟨h1, h2, p, by rw [hl]; exact app_left h3, h4⟩
theorem PI.write (h : PI d f n N T B old new S) {b : List UInt8} {p : Pc} (hb : b.length ≤ 128) (hp : (pcs new)[d.cache.length]? = some p) (ha : AtOK (pad b) ((pcs old).length + d.cache.length) (some p)) :
    PI (wrD d ((f + 2 + ((pcs old).length + d.cache.length) : Nat) : Int) b) f n N T B old new S := by
  refine { h with g := h.g, dn := h.dn, len := h.len, at_ := h.at_, s0 := h.s0, s1 := h.s1, cache := fun k w hk => ?_ }
  have hk' : (d.cache ++ [(((f + 2 + ((pcs old).length + d.cache.length) : Nat) : Int), pad b)])[k]? = some w := hk
  rcases Nat.lt_trichotomy k d.cache.length with hlt | e | hgt
  · rw [List.getElem?_append_left hlt] at hk'
    exact h.cache k w hk'
  · rw [e, List.getElem?_append_right (Nat.le_refl _), Nat.sub_self] at hk'
    cases hk'
    rw [e]
    exact ⟨rfl, by rw [pad_len hb]; omega, p, hp, ha⟩
  · rw [List.getElem?_append_right (by omega), List.getElem?_eq_none (by rw [List.length_singleton]; omega)] at hk'
    cases hk'
theorem PI.append (h : PI d f n N T B old new S) {l : Lg} (hl1 : l.from_ = f) (hl2 : l.turn = T) (hl3 : l.used = (pcs old).length + (pcs new).length) (hc : d.cache.length = (pcs new).length) (s : List UInt8) (hfit : l.used + (partsL s).length ≤ n - 2) :
    ∀ k, k ≤ (partsL s).length → PI (apD l s (partsL s).length (partsL s) d k) f n N T B old (new ++ [(T, s)]) S
  | 0, _ => h.ext s (by rw [pcsR, pcK_len]; omega)
  | k + 1, hk => by
    have ih := PI.append h hl1 hl2 hl3 hc s hfit k (by omega)
    obtain ⟨_, hsc, _, _⟩ := apD_spec l s (partsL s).length (partsL s) d k
    have hkl : k < (partsL s).length := by omega
    have hg : (partsL s)[k]? = some ((partsL s)[k]) := List.getElem?_eq_getElem hkl
    have hgd : (partsL s).getD k [] = (partsL s)[k] := by rw [List.getD_eq_getElem?_getD, hg]; rfl
    have hpk : (pcs (new ++ [(T, s)]))[(pcs new).length + k]? = some ⟨T, sum4 s, (partsL s)[k], !decide (k + 1 = (partsL s).length)⟩ := by
      rw [show pcs (new ++ [(T, s)]) = pcs new ++ (pcsR T s ++ []) from pcs_app _ _, List.append_nil]
      refine app_right ?_
      unfold pcsR
      rw [pcK_get, hg]; rfl
    have hn2 := h.n2
    have hT := h.hT
    have hw := ih.write (b := placeB l s (partsL s).length k (partsL s)[k]) (p := ⟨T, sum4 s, (partsL s)[k], !decide (k + 1 = (partsL s).length)⟩) (sealB_len _) (by rw [hsc, hc]; exact hpk) (by
      rw [hsc, hc]
      unfold placeB
      rw [hl2, show l.used + k = (pcs old).length + ((pcs new).length + k) by omega]
      exact place_at hT (by omega) hg)
    show PI (wrD (apD l s (partsL s).length (partsL s) d k) ((l.from_ + 2 + (l.used + k) : Nat) : Int) (placeB l s (partsL s).length k ((partsL s).getD k []))) f n N T B old _ S
    rw [hgd, hl1, show f + 2 + (l.used + k) = f + 2 + ((pcs old).length + (apD l s (partsL s).length (partsL s) d k).cache.length) by rw [hsc, hc]; omega]
    exact hw
theorem PI.commit (h : PI d f n N T B old new S) (hc : d.cache.length = (pcs new).length) : ∃ R, PI (flD d) f n N T B (old ++ new) [] R := by
  obtain ⟨R, r1, r2, r3, r4, r5, r6⟩ := h.mix d.cache (fun _ h => h)
  have hlk : ∀ j, lkR j (flD d).stays = (lastW j d.cache).getD (lkR j d.stays) := fun j => by rw [lk_fl h.g, rd_eq]
  have hfit := h.fit
  have hpl : (pcs (old ++ new)).length = (pcs old).length + (pcs new).length := by rw [pcs_app, List.length_append]
  have hlast : lastT B old ≤ T := riseT_last h.rise
  obtain ⟨t, b, ht, hs1⟩ := h.s1
  refine ⟨R, h.g.fl, h.dn, h.n1, h.n2, h.hin, h.hN, fun j => by rw [hlk]; exact r5 j, fun i hi => by rw [hlk]; exact r1 i hi, r3, fun k p hk => ?_, riseT_app h.rise (riseT_const hlast (Nat.le_refl T) new h.newT), (fun r hr => by cases hr), by rw [hpl]; exact hfit, fun i hi p hp => ?_, ?_, h.hT, ?_, ⟨t, b, ht, ?_⟩, fun k w hk => by cases hk⟩
  · rw [pcs_app] at hk
    rcases Nat.lt_or_ge k (pcs old).length with hlt | hge
    · rw [List.getElem?_append_left hlt] at hk
      rcases r2 k with e | ⟨m, q, e, _, _⟩
      · rw [e]; exact h.laid k p hk
      · omega
    · rw [List.getElem?_append_right hge] at hk
      have hlt2 := (List.getElem?_eq_some_iff.1 hk).1
      have hcl : k - (pcs old).length < d.cache.length := by omega
      obtain ⟨e1, _⟩ := h.cache (k - (pcs old).length) d.cache[k - (pcs old).length] (List.getElem?_eq_getElem hcl)
      have := r6 (k - (pcs old).length) p d.cache[k - (pcs old).length].2 hk (by rw [← e1]; exact List.getElem_mem hcl)
      rw [show (pcs old).length + (k - (pcs old).length) = k by omega] at this
      exact this
  · rw [hpl] at hi
    rcases r2 i with e | ⟨m, q, e, h2, _⟩
    · exact h.low i (by omega) p (by rw [← e]; exact hp)
    · have := (List.getElem?_eq_some_iff.1 h2).1
      omega
  · rw [lastT_app, hpl]
    cases hnew : new with
    | nil =>
      rw [hnew] at r2
      rcases h.dead with e | e
      · exact .inl e
      · refine .inr fun w rs u => ?_
        have := e w rs u
        unfold Dead at this ⊢
        show (scanK R T (n - 2 - (pcs old).length) (pcs old).length ⟨[], w, (pcs old).length, lastT B old, rs, u⟩).recs.length = rs.length
        rw [scan_congr (R := R) (S := S) _ _ _ (fun j _ => (r2 j).elim id fun ⟨m, p, _, h, _⟩ => by simp [pcs] at h)]
        exact this
    | cons r l =>
      refine .inl (lastT_const _ _ (fun x hx => h.newT x (by rw [hnew]; exact hx)) (by simp))
  · rw [hlk, r4 _ (by omega)]; exact h.s0
  · rw [hlk, r4 _ (by omega)]; exact hs1
theorem PI.reset (h : PI d f n N T B old new S) (hT : T < 1000000) : ∃ R, PI (nextD d f (T + 1) (T + 1)) f n N (T + 1) (T + 1) [] [] R := by
  obtain ⟨R, r1, r2, r3, r4, r5, _⟩ := h.mix d.cache (fun _ h => h)
  have hle := h.mixle r2
  have hlk : ∀ j, lkR j (nextD d f (T + 1) (T + 1)).stays = if ((f + (T + 1) % 2 : Nat) : Int) = j then pad (turnB (T + 1) (T + 1)) else (lastW j d.cache).getD (lkR j d.stays) := fun j => by rw [lk_next h.g, rd_eq]
  have hBT : B ≤ T := riseT_le h.rise
  refine ⟨R, (h.g.wr _ _).fl, h.dn, h.n1, h.n2, h.hin, h.hN, fun j => ?_, fun i hi => ?_, r3, fun k p hk => by simp [pcs] at hk, Nat.le_refl _, (fun r hr => by cases hr), Nat.zero_le _, fun i _ p hp => by have := hle i p hp; omega, .inl rfl, by omega, ?_, ⟨T, B, by omega, ?_⟩, fun k w hk => by cases hk⟩
  · rw [hlk]
    split
    · unfold turnB; exact pad_seal_len _
    · exact r5 j
  · rw [hlk, if_neg (by omega)]; exact r1 i hi
  · rw [hlk, if_pos rfl]; exact tell_turn (by omega) (by omega)
  · rw [show (T + 1 + 1) % 2 = T % 2 by omega, hlk, if_neg (by omega), r4 _ (by omega)]; exact h.s0
end pi
end Go.Proofs

namespace Go.PW
end Go.PW
namespace Go.Proofs
open Go.PW
section wal
variable {H : HMap} {A : AMap} {lid did k : Nat} {κm κc κr κ : Tok} {d : Dk} {l : Lg}
end wal
end Go.Proofs
