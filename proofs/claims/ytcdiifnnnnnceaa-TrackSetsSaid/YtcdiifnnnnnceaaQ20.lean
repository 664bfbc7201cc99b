import Derived.Test.YtcdiifnnnnnceaaQ19

/-
  Versions: what they are; open, ahead, alike, clash, all.
-/

namespace Go.Proofs
open Go.PW

structure Ver where
  sl : Int
  sh : Int
  p : Piece
def Ver.enc (v : Ver) : List D := [.lit (.int .i64 v.sl), .lit (.int .i64 v.sh), .lit (.int .i64 v.p.lo), .lit (.int .i64 v.p.hi), encRow v.p.row]
def encVers (l : List Ver) : D := .sl (l.map Ver.enc)
attribute [go_sem] Ver.enc encVers
theorem Try.appVers : AppT Try.prog 22 68 5 56 := ⟨Try.underlying22, Try.cl68, Try.by68, Try.zo68, by decide, by decide⟩
theorem szVers (l : List Ver) : Szd 5 (l.map Ver.enc) := fun e he => by
  obtain ⟨p, _, rfl⟩ := List.mem_map.1 he
  rfl

def Ver.open' (v : Ver) : Bool := v.sh == 1099511627776
def ahead' (v w : Ver) : Bool := if (v.sl == w.sl) = true then decide (v.p.lo < w.p.lo) else decide (v.sl < w.sl)
def clash (v w : Ver) : Bool := (meet (v.sl, v.sh) (w.sl, w.sh)).isSome && (meet (v.p.lo, v.p.hi) (w.p.lo, w.p.hi)).isSome

set_option maxRecDepth 8000 in
set_option maxHeartbeats 1000000 in
theorem Try.kOpen (v : Ver) : PureOK Try.prog 50 [pA v.enc] (.one (dB v.open')) := by
  refine Try.pure (md := []) Try.func50 rfl Try.call50 (by kernel_rfl) (by rfl) (by exact Nat.le_of_ble_eq_true rfl) ?_
  repeat' (first
    | with_reducible refine VC_seq fun K hK => ?_
    | with_reducible refine W_region ?_
    | with_reducible refine VC_block ?_
    | with_reducible refine VC_scope ?_
    | with_reducible refine VC_if ?_
    | with_reducible refine VC_skip ?_
    | with_reducible refine VC_exit ?_
    | with_reducible refine VC_ret ?_
    | (with_reducible refine G_not (fun h => ?_) (fun h => ?_) <;> (try simp only [h]))
    | (with_reducible refine G_cases (fun h => ?_) (fun h => ?_) <;> (try simp only [h]))
    | (with_reducible refine hK _ ?_; clear hK K)
    | (clear hK K; with_reducible refine hK _ ?_; clear hK K)
    | (clear hK K; clear hK K; with_reducible refine hK _ ?_; clear hK K)
    | (clear hK K; clear hK K; clear hK K; with_reducible refine hK _ ?_; clear hK K)
    | (with_reducible refine todo ?_; simp +decide only [go_sem]))
  refine Ret_d rfl ?_
  simp +decide only [go_sem, Ver.open']

set_option maxRecDepth 8000 in
set_option maxHeartbeats 1000000 in
theorem Try.kAheadV (v w : Ver) : PureOK Try.prog 40 [pA v.enc, pA w.enc] (.one (dB (ahead' v w))) := by
  refine Try.pure (md := []) Try.func40 rfl Try.call40 (by kernel_rfl) (by rfl) (by exact Nat.le_of_ble_eq_true rfl) ?_
  repeat' (first
    | with_reducible refine VC_seq fun K hK => ?_
    | with_reducible refine W_region ?_
    | with_reducible refine VC_block ?_
    | with_reducible refine VC_scope ?_
    | with_reducible refine VC_if ?_
    | with_reducible refine VC_skip ?_
    | with_reducible refine VC_exit ?_
    | with_reducible refine VC_ret ?_
    | (with_reducible refine G_not (fun h => ?_) (fun h => ?_) <;> (try simp only [h]))
    | (with_reducible refine G_cases (fun h => ?_) (fun h => ?_) <;> (try simp only [h]))
    | (with_reducible refine hK _ ?_; clear hK K)
    | (clear hK K; with_reducible refine hK _ ?_; clear hK K)
    | (clear hK K; clear hK K; with_reducible refine hK _ ?_; clear hK K)
    | (clear hK K; clear hK K; clear hK K; with_reducible refine hK _ ?_; clear hK K)
    | (with_reducible refine todo ?_; simp +decide only [go_sem]))
  all_goals (refine Ret_d rfl ?_; simp +decide only [go_sem, ahead', *])

set_option maxRecDepth 8000 in
set_option maxHeartbeats 1000000 in
theorem Try.kClash (v w : Ver) : PureOK Try.prog 41 [pA v.enc, pA w.enc] (.one (dB (clash v w))) := by
  refine Try.pure (md := []) Try.func41 rfl Try.call41 (by kernel_rfl) (by rfl) (by exact Nat.le_of_ble_eq_true rfl) ?_
  have k1 := Try.kMeet (v.sl, v.sh) (w.sl, w.sh)
  have k2 := Try.kMeet (v.p.lo, v.p.hi) (w.p.lo, w.p.hi)
  have e : clash v w = ((meet (v.sl, v.sh) (w.sl, w.sh)).isSome && (meet (v.p.lo, v.p.hi) (w.p.lo, w.p.hi)).isSome) := rfl
  rw [e]
  cases h1 : meet (v.sl, v.sh) (w.sl, w.sh) with
  | none =>
    rw [h1] at k1
    cases h2 : meet (v.p.lo, v.p.hi) (w.p.lo, w.p.hi) with
    | none =>
      rw [h2] at k2
      repeat' (first
        | with_reducible refine VC_seq fun K hK => ?_
        | with_reducible refine W_region ?_
        | with_reducible refine VC_block ?_
        | with_reducible refine VC_scope ?_
        | with_reducible refine VC_if ?_
        | with_reducible refine VC_skip ?_
        | with_reducible refine VC_exit ?_
        | with_reducible refine VC_ret ?_
        | (with_reducible refine G_not (fun h => ?_) (fun h => ?_) <;> (try simp only [h]))
        | (with_reducible refine G_cases (fun h => ?_) (fun h => ?_) <;> (try simp only [h]))
        | refine C_pure k1 rfl rfl (fun _ => rfl) ?_
        | refine C_pure k2 rfl rfl (fun _ => rfl) ?_
        | (with_reducible refine hK _ ?_; clear hK K)
        | (clear hK K; with_reducible refine hK _ ?_; clear hK K)
        | (clear hK K; clear hK K; with_reducible refine hK _ ?_; clear hK K)
        | (clear hK K; clear hK K; clear hK K; with_reducible refine hK _ ?_; clear hK K)
        | (with_reducible refine todo ?_; simp +decide only [go_sem, optSpan]))
      exact Ret_d rfl rfl
    | some m =>
      rw [h2] at k2
      have hme : m.enc = encSpan m.1 m.2 := rfl
      repeat' (first
        | with_reducible refine VC_seq fun K hK => ?_
        | with_reducible refine W_region ?_
        | with_reducible refine VC_block ?_
        | with_reducible refine VC_scope ?_
        | with_reducible refine VC_if ?_
        | with_reducible refine VC_skip ?_
        | with_reducible refine VC_exit ?_
        | with_reducible refine VC_ret ?_
        | (with_reducible refine G_not (fun h => ?_) (fun h => ?_) <;> (try simp only [h]))
        | (with_reducible refine G_cases (fun h => ?_) (fun h => ?_) <;> (try simp only [h]))
        | refine C_pure k1 rfl rfl (fun _ => rfl) ?_
        | refine C_pure k2 rfl rfl (fun _ => rfl) ?_
        | (with_reducible refine hK _ ?_; clear hK K)
        | (clear hK K; with_reducible refine hK _ ?_; clear hK K)
        | (clear hK K; clear hK K; with_reducible refine hK _ ?_; clear hK K)
        | (clear hK K; clear hK K; clear hK K; with_reducible refine hK _ ?_; clear hK K)
        | (with_reducible refine todo ?_; simp +decide only [go_sem, optSpan, hme]))
      exact Ret_d rfl rfl
  | some n =>
    rw [h1] at k1
    have hne : n.enc = encSpan n.1 n.2 := rfl
    cases h2 : meet (v.p.lo, v.p.hi) (w.p.lo, w.p.hi) with
    | none =>
      rw [h2] at k2
      repeat' (first
        | with_reducible refine VC_seq fun K hK => ?_
        | with_reducible refine W_region ?_
        | with_reducible refine VC_block ?_
        | with_reducible refine VC_scope ?_
        | with_reducible refine VC_if ?_
        | with_reducible refine VC_skip ?_
        | with_reducible refine VC_exit ?_
        | with_reducible refine VC_ret ?_
        | (with_reducible refine G_not (fun h => ?_) (fun h => ?_) <;> (try simp only [h]))
        | (with_reducible refine G_cases (fun h => ?_) (fun h => ?_) <;> (try simp only [h]))
        | refine C_pure k1 rfl rfl (fun _ => rfl) ?_
        | refine C_pure k2 rfl rfl (fun _ => rfl) ?_
        | (with_reducible refine hK _ ?_; clear hK K)
        | (clear hK K; with_reducible refine hK _ ?_; clear hK K)
        | (clear hK K; clear hK K; with_reducible refine hK _ ?_; clear hK K)
        | (clear hK K; clear hK K; clear hK K; with_reducible refine hK _ ?_; clear hK K)
        | (with_reducible refine todo ?_; simp +decide only [go_sem, optSpan, hne]))
      exact Ret_d rfl rfl
    | some m =>
      rw [h2] at k2
      have hme : m.enc = encSpan m.1 m.2 := rfl
      repeat' (first
        | with_reducible refine VC_seq fun K hK => ?_
        | with_reducible refine W_region ?_
        | with_reducible refine VC_block ?_
        | with_reducible refine VC_scope ?_
        | with_reducible refine VC_if ?_
        | with_reducible refine VC_skip ?_
        | with_reducible refine VC_exit ?_
        | with_reducible refine VC_ret ?_
        | (with_reducible refine G_not (fun h => ?_) (fun h => ?_) <;> (try simp only [h]))
        | (with_reducible refine G_cases (fun h => ?_) (fun h => ?_) <;> (try simp only [h]))
        | refine C_pure k1 rfl rfl (fun _ => rfl) ?_
        | refine C_pure k2 rfl rfl (fun _ => rfl) ?_
        | (with_reducible refine hK _ ?_; clear hK K)
        | (clear hK K; with_reducible refine hK _ ?_; clear hK K)
        | (clear hK K; clear hK K; with_reducible refine hK _ ?_; clear hK K)
        | (clear hK K; clear hK K; clear hK K; with_reducible refine hK _ ?_; clear hK K)
        | (with_reducible refine todo ?_; simp +decide only [go_sem, optSpan, hne, hme]))
      exact Ret_d rfl rfl

theorem samePieces_one (a b : Piece) : samePieces [a] [b] = samePiece a b := by
  unfold samePieces
  simp

set_option maxRecDepth 8000 in
set_option maxHeartbeats 1000000 in
theorem Try.kAlike (a b : Piece) (h : a.row.length ≤ 1048576) : PureOK Try.prog 55 [pA a.enc, pA b.enc] (.one (dB (samePiece a b))) := by
  refine Try.pure (md := []) Try.func55 rfl Try.call55 (by kernel_rfl) (by rfl) (by exact Nat.le_of_ble_eq_true rfl) ?_
  have k := Try.kSameP [a] [b] (by simp) (fun p hp => by rw [List.mem_singleton.1 hp]; exact h)
  rw [samePieces_one] at k
  repeat' (first
    | with_reducible refine VC_seq fun K hK => ?_
    | with_reducible refine W_region ?_
    | with_reducible refine VC_block ?_
    | with_reducible refine VC_scope ?_
    | with_reducible refine VC_if ?_
    | with_reducible refine VC_skip ?_
    | with_reducible refine VC_exit ?_
    | with_reducible refine VC_ret ?_
    | (with_reducible refine G_not (fun h => ?_) (fun h => ?_) <;> (try simp only [h]))
    | (with_reducible refine G_cases (fun h => ?_) (fun h => ?_) <;> (try simp only [h]))
    | refine C_pure k rfl rfl (fun _ => rfl) ?_
    | (with_reducible refine hK _ ?_; clear hK K)
    | (clear hK K; with_reducible refine hK _ ?_; clear hK K)
    | (clear hK K; clear hK K; with_reducible refine hK _ ?_; clear hK K)
    | (clear hK K; clear hK K; clear hK K; with_reducible refine hK _ ?_; clear hK K)
    | (with_reducible refine todo ?_; simp +decide only [go_sem]))
  exact Ret_d rfl rfl
end Go.Proofs

/-
  Functions that share variables and hand back an array that may be written to; own.
-/

namespace Go.PW

theorem hOver_spec1 {H : HMap} {A A' : AMap} {S : St} (hw : Wf H A) (hb : ∀ id, H id ≠ none → S.H id = H id) (hA : ∀ κ, A κ ≠ none → S.A κ = A κ ∧ A' κ = A κ) {all : List (Nat × List CV)} : ∀ {l : List (Nat × List CV)}, keepH (hOver all H) S.A A' S.H l → ∀ id, hOver l H id = none ∨ ∃ cs ds, hOver l H id = some cs ∧ S.H id = some ds ∧ cs.length = ds.length ∧
    ∀ (k : Nat) (c d : CV), cs[k]? = some c → ds[k]? = some d → CV.wk (hOver all H) S.A A' c d
  | [], _, t => by
    cases hH : H t with
    | none => exact .inl hH
    | some cs =>
      refine .inr ⟨cs, cs, hH, by rw [hb t (by rw [hH]; simp), hH], rfl, fun k c d h1 h2 => ?_⟩
      rw [h1] at h2
      cases h2
      exact .inr (.inl ⟨rfl, ok_mono (fun i hi => hOver_old hi) (fun κ hκ => ⟨by rw [(hA κ hκ).2]; exact hκ, by rw [(hA κ hκ).1, (hA κ hκ).2]⟩) (hw t cs c hH (List.mem_of_getElem? h1))⟩)
  | (u, x) :: r, h, t => by
    unfold hOver
    split
    · rename_i e
      subst e
      right
      obtain ⟨h1, _⟩ := h
      cases hH : S.H t with
      | none => rw [hH] at h1; exact h1.elim
      | some ds => rw [hH] at h1; exact ⟨x, ds, rfl, rfl, wkCells_spec h1⟩
    · exact hOver_spec1 hw hb hA h.2 t

/-- A state that keeps all that the caller has, and one array more. -/
def over1 (l : List (Nat × PV)) (h : List (Nat × List CV)) (H : HMap) (A : AMap) (κ : Tok) (ar : Arr) : St := ⟨rhoOf l, hOver h H, upd A κ (some ar)⟩
@[go_sem] theorem over1_eq (l : List (Nat × PV)) (h : List (Nat × List CV)) (H : HMap) (A : AMap) (κ : Tok) (ar : Arr) : over1 l h H A κ ar = ⟨rhoOf l, hOver h H, upd A κ (some ar)⟩ := rfl

theorem tok_ne {A : AMap} {κ κ' : Tok} (h0 : A κ = none) (h : A κ' ≠ none) : κ' ≠ κ := fun e => h (by rw [e]; exact h0)

theorem Weak_over1 {H : HMap} {A : AMap} {S : St} {l : List (Nat × PV)} {h : List (Nat × List CV)} {κ : Tok} {ar : Arr} (hw : Wf H A) (hb : ∀ id, H id ≠ none → S.H id = H id) (hA : ∀ κ', A κ' ≠ none → S.A κ' = A κ') (h0 : A κ = none) (hk : keepA1 ar (S.A κ))
    (h1 : keepP (hOver h H) S.A (upd A κ (some ar)) S.ρ l) (h2 : keepH (hOver h H) S.A (upd A κ (some ar)) S.H h) : Weak H A S (over1 l h H A κ ar) := by
  have hA' : ∀ κ', A κ' ≠ none → S.A κ' = A κ' ∧ upd A κ (some ar) κ' = A κ' := fun κ' hk' => ⟨hA κ' hk', upd_other _ _ (tok_ne h0 hk')⟩
  refine ⟨fun t => keepP_spec h1 t, fun id => hOver_spec1 hw hb hA' h2 id, fun κ' => ?_, fun id h => hOver_old h, fun κ' hk' => by show upd A κ (some ar) κ' ≠ none; rw [(hA' κ' hk').2]; exact hk'⟩
  show upd A κ (some ar) κ' = none ∨ upd A κ (some ar) κ' = S.A κ' ∨ _
  by_cases e : κ' = κ
  · subst e
    rw [upd_same]
    right
    cases hS : S.A κ' with
    | none =>
      rw [hS] at hk
      right
      refine ⟨rfl, ?_⟩
      show ∃ sz, upd A κ' (some ar) κ' = some (.co sz 0) ∨ upd A κ' (some ar) κ' = some (.mu sz [])
      rw [upd_same]
      cases ar with
      | co sz n => exact ⟨sz, .inl (by rw [show n = 0 from hk])⟩
      | mu sz els => exact ⟨sz, .inr (by rw [show els = [] from hk])⟩
    | some y => rw [hS] at hk; exact .inl (by rw [show y = ar from hk])
  · rw [upd_other _ _ e]
    cases hA0 : A κ' with
    | none => exact .inl rfl
    | some y => exact .inr (.inl (by rw [hA κ' (by rw [hA0]; simp), hA0]))

theorem wkP_mt {H' : HMap} {A A' : AMap} {κ : Tok} {m n : Nat} (h : A' κ ≠ none) (e : A' κ = A κ) : PV.wk H' A A' (.c (.mt κ m n)) (.c (.mt κ m n)) := wk_c (.inr (.inl ⟨rfl, h, e⟩))
theorem wkP_mt0 {H' : HMap} {A A' : AMap} {κ : Tok} {sz : Nat} (h : A κ = none) (e : A' κ = some (.mu sz [])) : PV.wk H' A A' (.c (.mt κ sz 0)) (.c (.full [])) := wk_c (.inr (.inr (.inr (.inr ⟨rfl, κ, sz, rfl, h, e⟩))))
theorem wkP_fn {H' : HMap} {A A' : AMap} {f : FuncId} {caps : List (Nat × Nat)} (h : ∀ p ∈ caps, H' p.1 ≠ none) : PV.wk H' A A' (.c (.fn f caps)) (.c (.fn f caps)) := wk_c (.inr (.inl ⟨rfl, h⟩))

/-- The end: an array that may be written to; all variables as they were. -/
theorem RetE_mt {P : Program} {fn : Func} {H : HMap} {A : AMap} {S : St} {t : Nat} {κ : Tok} {sz n : Nat} {ar : Arr} (hw : Wf H A) (hb : ∀ id, H id ≠ none → S.H id = H id) (hA : ∀ κ', A κ' ≠ none → S.A κ' = A κ') (h0 : A κ = none) (hk : S.A κ = some ar)
    (hr : fn.results.toList = [.tmp t]) (h : S.ρ t = .c (.mt κ sz n)) : RetE P fn H A (.c (.mt κ sz n)) H (upd A κ (some ar)) S := by
  refine ⟨S.ρ t, by rw [hr]; rfl, ?_⟩
  have hA' : ∀ κ', A κ' ≠ none → S.A κ' = A κ' ∧ upd A κ (some ar) κ' = A κ' := fun κ' hk' => ⟨hA κ' hk', upd_other _ _ (tok_ne h0 hk')⟩
  refine ⟨fun _ => ?_, fun id => hOver_spec1 (S := ⟨fun _ => S.ρ t, S.H, S.A⟩) (all := []) (l := []) hw hb hA' True.intro id, fun κ' => ?_, fun id h => h, fun κ' hk' => by show upd A κ (some ar) κ' ≠ none; rw [(hA' κ' hk').2]; exact hk'⟩
  · show PV.wk H S.A (upd A κ (some ar)) (.c (.mt κ sz n)) (S.ρ t)
    rw [h]
    exact wkP_mt (by rw [upd_same]; simp) (by rw [upd_same, hk])
  · show upd A κ (some ar) κ' = none ∨ upd A κ (some ar) κ' = S.A κ' ∨ _
    by_cases e : κ' = κ
    · subst e; rw [upd_same, hk]; exact .inr (.inl rfl)
    · rw [upd_other _ _ e]
      cases hA0 : A κ' with
      | none => exact .inl rfl
      | some y => exact .inr (.inl (by rw [hA κ' (by rw [hA0]; simp), hA0]))
theorem Wf_tok {H : HMap} {A : AMap} {κ : Tok} {ar : Arr} (h : Wf H A) : Wf H (upd A κ (some ar)) := fun id cs c h1 h2 => ok_mono (fun _ h => h) (fun κ' hk => by
  by_cases e : κ' = κ
  · subst e; rw [upd_same]; simp
  · rw [upd_other _ _ e]; exact hk) (h id cs c h1 h2)
theorem kpA_upd {A G : AMap} {κ : Tok} {x : Option Arr} (hn : A κ = none) (h : ∀ κ', A κ' ≠ none → G κ' = A κ') : ∀ κ', A κ' ≠ none → upd G κ x κ' = A κ' := fun i hi => by
  rw [upd_other _ _ (tok_ne hn hi)]; exact h i hi
theorem kpA_refl {A : AMap} : ∀ κ', A κ' ≠ none → A κ' = A κ' := fun _ _ => rfl
end Go.PW
namespace Go.Proofs
open Go.PW

/-- A test, as a function that a function is handed. -/
def TestOK (P : Program) (f : FuncId) (caps : List (Nat × Nat)) (off : Nat) (H : HMap) (A : AMap) (l : List Ver) (q : Ver → Bool) : Prop :=
  (∀ p ∈ caps, H p.1 ≠ none) ∧ ∀ (H' : HMap) (A' : AMap), Wf H' A' → (∀ id, H id ≠ none → H' id = H id) → (∀ κ, A κ ≠ none → A' κ = A κ) → ∀ v ∈ l, EffOK P f off H' A' ([pA v.enc] ++ caps.map capPV) (pD (.lit (.bool (q v)))) H' A'

theorem filter_next {α : Type} {q : α → Bool} {l : List α} {i : Nat} {x : α} (h : l[i]? = some x) : (l.take (i + 1)).filter q = (l.take i).filter q ++ (if q x then [x] else []) := by
  rw [take_next h, List.filter_append]
  cases hq : q x <;> simp [hq]

set_option maxRecDepth 4000 in
set_option maxHeartbeats 8000000 in
theorem Try.kOwnV (l : List Ver) (q : Ver → Bool) (hn : l.length ≤ 1048576) (hr : ∀ v ∈ l, v.p.row.length ≤ 1048576) {H : HMap} {A : AMap} (hw : Wf H A) {κ : Tok} (h0 : A κ = none) (hκ : κ.1 < 1000) {f : FuncId} {caps : List (Nat × Nat)} (ht : TestOK Try.prog f caps 2000 H A l q) :
    EffOK Try.prog 46 1000 H A [pD (encVers l), .c (.fn f caps)] (.c (.mt κ 5 (l.filter q).length)) H (upd A κ (some (.mu 5 ((l.filter q).map Ver.enc)))) := by
  obtain ⟨hcaps, ht⟩ := ht
  refine eff_ok (E := envOf Try.prog [] 1000 [] []) (envOf_ok Try.mixed) Try.func46 rfl Try.call46 (by kernel_rfl) (by exact Nat.le_of_ble_eq_true rfl) (fun hab => ?_)
  have h7 : H 1007 = none := (hab _ (by decide)).1
  have a20 : A (1020, 0) = none := (hab 1020 (by decide)).2 0
  have ne20 : ((1020, 0) = κ) = False := eq_false (fun e => by rw [← e] at hκ; exact absurd hκ (by decide))
  have ne20' : (κ = (1020, 0)) = False := eq_false (fun e => by rw [e] at hκ; exact absurd hκ (by decide))
  repeat' (first
    | with_reducible refine VC_seq fun K hK => ?_
    | with_reducible refine W_region ?_
    | with_reducible refine VC_block ?_
    | with_reducible refine VC_scope ?_
    | with_reducible refine VC_if ?_
    | with_reducible refine VC_skip ?_
    | with_reducible refine VC_exit ?_
    | with_reducible refine VC_ret ?_
    | (with_reducible refine G_not (fun h => ?_) (fun h => ?_) <;> (try simp only [h]))
    | (with_reducible refine G_cases (fun h => ?_) (fun h => ?_) <;> (try simp only [h]))
    | (with_reducible refine hK _ ?_; clear hK K)
    | (clear hK K; with_reducible refine hK _ ?_; clear hK K)
    | (clear hK K; clear hK K; with_reducible refine hK _ ?_; clear hK K)
    | (clear hK K; clear hK K; clear hK K; with_reducible refine hK _ ?_; clear hK K)
    | (with_reducible refine todo ?_; simp +decide only [go_sem]))
  refine VC_range l.length (fun _ => True) (fun i => over1 [(1, .c (.fn f caps)), (5, .c (.mt κ 5 ((l.take i).filter q).length)), (8, pD (encVers l)), (9, pD (.lit (.int .i64 l.length))), (10, pD (.lit (.int .i64 i)))] [] H A κ (.mu 5 (((l.take i).filter q).map Ver.enc))) True.intro ?_ ?_
  · refine Weak_over1 hw kp_refl kpA_refl h0 (by show keepA1 _ (A κ); rw [h0]; rfl) ?_ ?_ <;> simp +decide only [go_sem, List.filter_nil]
    exact ⟨wkP_fn hcaps, wkP_mt0 h0 (upd_same _ _ _)⟩
  · intro i hi hI
    rcases Nat.lt_or_ge i l.length with hlt | hge
    · have hg := List.getElem?_eq_getElem hlt
      have hd := int_lt_true hlt
      have hwi := int_next hlt (show l.length ≤ 4294967296 by omega)
      generalize l[i] = x at hg
      have hm := List.mem_of_getElem? hg
      have hx := hr x hm
      have hnx := filter_next (q := q) hg
      have hl : ((l.take i).filter q).length ≤ i := Nat.le_trans (List.length_filter_le _ _) (by rw [List.length_take]; omega)
      have kt := ht (upd (upd H 1007 (some [.d (.lit (.int .i64 0)), .d (.lit (.int .i64 0)), .d (.lit (.int .i64 0)), .d (.lit (.int .i64 0)), .full []])) 1007 (some [.d (.lit (.int .i64 x.sl)), .d (.lit (.int .i64 x.sh)), .d (.lit (.int .i64 x.p.lo)), .d (.lit (.int .i64 x.p.hi)), .d (encRow x.p.row)])) (upd A κ (some (.mu 5 (((l.take i).filter q).map Ver.enc))))
        (Wf_upd (Wf_upd (Wf_tok hw) rfl) rfl) (kp_upd h7 (kp_upd h7 kp_refl)) (kpA_upd h0 kpA_refl) x hm
      have hab2 := Above_updA (κ := κ) (ar := .mu 5 (((l.take i).filter q).map Ver.enc)) (Above_updH (cs := [.d (.lit (.int .i64 x.sl)), .d (.lit (.int .i64 x.sh)), .d (.lit (.int .i64 x.p.lo)), .d (.lit (.int .i64 x.p.hi)), .d (encRow x.p.row)]) (id := 1007) (Above_updH (cs := [.d (.lit (.int .i64 0)), .d (.lit (.int .i64 0)), .d (.lit (.int .i64 0)), .d (.lit (.int .i64 0)), .full []]) (id := 1007) (Above_mono (m := 2000) hab (by decide)) (by decide)) (by decide)) (by omega)
      cases hq : q x with
      | true =>
        rw [hq] at kt hnx
        simp only [if_true] at hnx
        repeat' (first
          | with_reducible refine VC_seq fun K hK => ?_
          | with_reducible refine W_region ?_
          | with_reducible refine VC_block ?_
          | with_reducible refine VC_scope ?_
          | with_reducible refine VC_if ?_
          | with_reducible refine VC_skip ?_
          | with_reducible refine VC_exit ?_
          | with_reducible refine VC_ret ?_
          | (with_reducible refine G_not (fun h => ?_) (fun h => ?_) <;> (try simp only [h]))
          | (with_reducible refine G_cases (fun h => ?_) (fun h => ?_) <;> (try simp only [h]))
          | refine C_eff kt rfl hab2 ?_
          | (refine W_full Try.appVals rfl rfl szNil (szRow _) (by simp; omega) (by simp +decide only [go_sem, ne20, a20]) ?_)
          | (refine W_mt Try.appVers (els := ((l.take i).filter q).map Ver.enc) (by simp +decide only [go_sem, ne20']) (by simp +decide only [go_sem]) rfl (szOne rfl) (by simp; omega) ?_)
          | (with_reducible refine hK _ ?_; clear hK K)
          | (clear hK K; with_reducible refine hK _ ?_; clear hK K)
          | (clear hK K; clear hK K; with_reducible refine hK _ ?_; clear hK K)
          | (clear hK K; clear hK K; clear hK K; with_reducible refine hK _ ?_; clear hK K)
          | (with_reducible refine todo ?_; simp +decide only [go_sem, hg, hd, hwi, h7]))
        refine Next_of hlt True.intro (Weak_over1 hw (kp_upd h7 (kp_upd h7 (kp_upd h7 kp_nil))) (kpA_upd h0 (kpA_upd a20 (kpA_upd h0 kpA_refl))) h0 ?_ ?_ ?_) <;> simp +decide only [go_sem, hnx]
        exact ⟨wkP_fn hcaps, wkP_mt (by simp [upd]) (by simp [upd])⟩
      | false =>
        rw [hq] at kt hnx
        simp only [Bool.false_eq_true, if_false, List.append_nil] at hnx
        repeat' (first
          | with_reducible refine VC_seq fun K hK => ?_
          | with_reducible refine W_region ?_
          | with_reducible refine VC_block ?_
          | with_reducible refine VC_scope ?_
          | with_reducible refine VC_if ?_
          | with_reducible refine VC_skip ?_
          | with_reducible refine VC_exit ?_
          | with_reducible refine VC_ret ?_
          | (with_reducible refine G_not (fun h => ?_) (fun h => ?_) <;> (try simp only [h]))
          | (with_reducible refine G_cases (fun h => ?_) (fun h => ?_) <;> (try simp only [h]))
          | refine C_eff kt rfl hab2 ?_
          | (with_reducible refine hK _ ?_; clear hK K)
          | (clear hK K; with_reducible refine hK _ ?_; clear hK K)
          | (clear hK K; clear hK K; with_reducible refine hK _ ?_; clear hK K)
          | (clear hK K; clear hK K; clear hK K; with_reducible refine hK _ ?_; clear hK K)
          | (with_reducible refine todo ?_; simp +decide only [go_sem, hg, hd, hwi, h7]))
        refine Next_of hlt True.intro (Weak_over1 hw (kp_upd h7 (kp_upd h7 kp_nil)) (kpA_upd h0 kpA_refl) h0 ?_ ?_ ?_) <;> simp +decide only [go_sem, hnx]
        exact ⟨wkP_fn hcaps, wkP_mt (by simp [upd]) rfl⟩
    · have hd := int_lt_false hge
      rw [List.take_of_length_le hge]
      repeat' (first
        | with_reducible refine VC_seq fun K hK => ?_
        | with_reducible refine W_region ?_
        | with_reducible refine VC_block ?_
        | with_reducible refine VC_scope ?_
        | with_reducible refine VC_if ?_
        | with_reducible refine VC_skip ?_
        | with_reducible refine VC_exit ?_
        | with_reducible refine VC_ret ?_
        | (with_reducible refine G_not (fun h => ?_) (fun h => ?_) <;> (try simp only [h]))
        | (with_reducible refine G_cases (fun h => ?_) (fun h => ?_) <;> (try simp only [h]))
        | (with_reducible refine hK _ ?_; clear hK K)
        | (clear hK K; with_reducible refine hK _ ?_; clear hK K)
        | (clear hK K; clear hK K; with_reducible refine hK _ ?_; clear hK K)
        | (clear hK K; clear hK K; clear hK K; with_reducible refine hK _ ?_; clear hK K)
        | (with_reducible refine todo ?_; simp +decide only [go_sem, hd]))
      exact RetE_mt hw kp_refl (kpA_upd h0 kpA_refl) h0 (upd_same _ _ _) rfl rfl
end Go.Proofs
