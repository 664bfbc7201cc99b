import Derived.Test.YtkifoeiilkhnhaaQ28

/-
  The pager: bits, free pages, Write.
-/

namespace Go.Proofs
open Go.PW
/-- A page's bit. -/
def bitV (page : Nat) : Int := iShl .u8 1 (page % 8)
set_option maxRecDepth 8000 in
set_option maxHeartbeats 4000000 in
theorem Try.kBit (page : Nat) : PureOK Try.prog 54 [pD (.lit (.int .i64 page))] (.one (.d (.lit (.int .u8 (bitV page))))) := by
  refine Try.pure (md := []) Try.func54 rfl Try.call54 (by kernel_rfl) (by rfl) (by exact Nat.le_of_ble_eq_true rfl) ?_
  have c1 : Int.tmod (page : Int) 8 = ((page % 8 : Nat) : Int) := tmod_nat page 8
  have c2 : ((0 : Int) ≤ ((page % 8 : Nat) : Int)) = True := eq_true (by omega)
  have c3 : (((page % 8 : Nat) : Int)).toNat = page % 8 := Int.toNat_natCast _
  repeat' (first
   | with_reducible first | refine VC_seq fun K hK => ?_ | refine W_region ?_ | refine VC_block ?_ | refine VC_scope ?_ | refine VC_if ?_ | refine VC_skip ?_ | refine VC_exit ?_ | refine VC_ret ?_
   | (with_reducible first | refine G_not (fun h => ?_) (fun h => ?_) | refine G_cases (fun h => ?_) (fun h => ?_)) <;> (try simp only [h])
   | with_reducible first | (refine hK _ ?_; clear hK K) | (clear hK K; refine hK _ ?_; clear hK K) | (clear hK K; clear hK K; refine hK _ ?_; clear hK K) | (clear hK K; clear hK K; clear hK K; refine hK _ ?_; clear hK K)
   | (with_reducible refine todo ?_; simp +decide only [go_sem, c1, c2, c3]))
  exact Ret_d rfl rfl
/-- Whether a page is free, as page 0 says. -/
def freeB (s : List UInt8) (page : Nat) : Bool := iAnd .u8 ((s.getD (page / 8) 0).toNat : Nat) (bitV page) == 0
section pg
variable {H : HMap} {A : AMap} {pid did lid : Nat} {κm κc κp : Tok} {d : Dk} {p : Pg}
set_option maxRecDepth 8000 in
set_option maxHeartbeats 8000000 in
theorem Try.kIsFree (off : Nat) (hw : Wf H A) (hp : PgAt H A pid did lid κp p) (hd : DkAt H A did κm κc d) (hl : p.logs ≤ d.n) (hn : d.n ≤ 4096) (hcl : d.cache.length ≤ 1000000) (page : Nat) (h0 : page ≠ 0) (hpg : page < pgN d p) (hlen : page / 8 < (pgRd d p 0).length) :
    EffOK Try.prog 32 off H A [.c (.ptr pid 0), pD (.lit (.int .i64 page))] (pD (.lit (.bool (freeB (pgRd d p 0) page)))) H A := by
  refine effr_ok (E := envOf Try.prog [50, 33] off [] []) (envOf_ok Try.mixed) Try.func32 rfl Try.call32 (by kernel_rfl) (by exact Nat.le_of_ble_eq_true rfl) (fun hab => ?_)
  have hpn : pgN d p = d.n - p.logs := rfl
  have kr := Try.kPgRight (off + 1000) hw hp hd hl hn page
  have e0 : pgRight (pgN d p) page = 0 := by unfold pgRight; rw [if_neg (by omega)]
  rw [e0] at kr
  have kd := Try.kPgRead (off + 1000) hw hp hd hl hn hcl 0 (by omega)
  have kb := Try.kBit page
  have z : ((page : Int) == 0) = false := by rw [beq_eq_false_iff_ne]; omega
  have c1 : IntKind.i64.wrap (Int.tdiv (page : Int) 8) = ((page / 8 : Nat) : Int) := by rw [show Int.tdiv (page : Int) 8 = ((page / 8 : Nat) : Int) from tdiv_nat page 8, Go.IntWalk.i64_in _ (by omega)]
  have hfr : freeB (pgRd d p 0) page = (iAnd .u8 (((pgRd d p 0)[page / 8]).toNat : Nat) (bitV page) == 0) := by
    unfold freeB
    rw [List.getD_eq_getElem?_getD, List.getElem?_eq_getElem hlen]; rfl
  have hg : (pgRd d p 0)[page / 8]? = some (pgRd d p 0)[page / 8] := List.getElem?_eq_getElem hlen
  rw [hfr]
  generalize (pgRd d p 0)[page / 8] = x at *
  repeat' (first
   | with_reducible first | refine VC_seq fun K hK => ?_ | refine W_region ?_ | refine VC_block ?_ | refine VC_scope ?_ | refine VC_if ?_ | refine VC_skip ?_ | refine VC_exit ?_ | refine VC_ret ?_
   | (with_reducible first | refine G_not (fun h => ?_) (fun h => ?_) | refine G_cases (fun h => ?_) (fun h => ?_)) <;> (try simp only [h])
   | refine C_call rfl kr rfl (Above_mono hab (by omega)) ?_
   | refine C_call rfl kd rfl (Above_mono hab (by omega)) ?_
   | refine C_pure kb rfl rfl (fun k => (hab _ (Nat.le_add_right _ _)).2 k) ?_
   | with_reducible first | (refine hK _ ?_; clear hK K) | (clear hK K; refine hK _ ?_; clear hK K) | (clear hK K; clear hK K; refine hK _ ?_; clear hK K) | (clear hK K; clear hK K; clear hK K; refine hK _ ?_; clear hK K)
   | (with_reducible refine todo ?_; simp +decide only [go_sem, zne, z, c1, hg]))
  exact RetR_same rfl (by simp +decide only [go_sem]) True.intro hw kp_refl (fun _ _ => rfl)
set_option maxRecDepth 8000 in
set_option maxHeartbeats 8000000 in
theorem Try.kIsFree0 (off : Nat) (hw : Wf H A) : EffOK Try.prog 32 off H A [.c (.ptr pid 0), pD (.lit (.int .i64 0))] (pD (.lit (.bool false))) H A := by
  refine effr_ok (E := envOf Try.prog [50, 33] off [] []) (envOf_ok Try.mixed) Try.func32 rfl Try.call32 (by kernel_rfl) (by exact Nat.le_of_ble_eq_true rfl) (fun hab => ?_)
  repeat' (first
   | with_reducible first | refine VC_seq fun K hK => ?_ | refine W_region ?_ | refine VC_block ?_ | refine VC_scope ?_ | refine VC_if ?_ | refine VC_skip ?_ | refine VC_exit ?_ | refine VC_ret ?_
   | (with_reducible first | refine G_not (fun h => ?_) (fun h => ?_) | refine G_cases (fun h => ?_) (fun h => ?_)) <;> (try simp only [h])
   | with_reducible first | (refine hK _ ?_; clear hK K) | (clear hK K; refine hK _ ?_; clear hK K) | (clear hK K; clear hK K; refine hK _ ?_; clear hK K) | (clear hK K; clear hK K; clear hK K; refine hK _ ?_; clear hK K)
   | (with_reducible refine todo ?_; simp +decide only [go_sem]))
  exact RetR_same rfl (by simp +decide only [go_sem]) True.intro hw kp_refl (fun _ _ => rfl)
set_option maxRecDepth 8000 in
set_option maxHeartbeats 8000000 in
theorem Try.kPgWrite (off : Nat) (hw : Wf H A) (hp : PgAt H A pid did lid κp p) (hd : DkAt H A did κm κc d) (hl : p.logs ≤ d.n) (hn : d.n ≤ 4096) (page : Nat) (h0 : page ≠ 0) (hpg : page < pgN d p) (s : List UInt8) (hs : s.length ≤ 128) :
    EffOK Try.prog 26 off H A [.c (.ptr pid 0), pD (.lit (.int .i64 page)), pD (dS s)] (pD (.lit (.int .i64 0))) H (upd A κp (some (.mp (encNS (putN p.ch page (pad s)))))) := by
  refine effr_ok (E := envOf Try.prog [50] off [] []) (envOf_ok Try.mixed) Try.func26 rfl Try.call26 (by kernel_rfl) (by exact Nat.le_of_ble_eq_true rfl) (fun hab => ?_)
  have hph := hp.h
  unfold encPg at hph
  have kr := Try.kPgRight (off + 1000) hw hp hd hl hn page
  have e0 : pgRight (pgN d p) page = 0 := by unfold pgRight; rw [if_neg (by omega)]
  rw [e0] at kr
  have kf := Try.kFull s hs
  have z : ((page : Int) == 0) = false := by rw [beq_eq_false_iff_ne]; omega
  have f1 : ((128 : Int) < (s.length : Int)) = False := eq_false (by omega)
  rw [← encNS_put]
  repeat' (first
   | with_reducible first | refine VC_seq fun K hK => ?_ | refine W_region ?_ | refine VC_block ?_ | refine VC_scope ?_ | refine VC_if ?_ | refine VC_skip ?_ | refine VC_exit ?_ | refine VC_ret ?_
   | (with_reducible first | refine G_not (fun h => ?_) (fun h => ?_) | refine G_cases (fun h => ?_) (fun h => ?_)) <;> (try simp only [h])
   | refine C_call rfl kr rfl (Above_mono hab (by omega)) ?_
   | refine C_pure kf rfl rfl (fun k => (hab _ (Nat.le_add_right _ _)).2 k) ?_
   | with_reducible first | (refine hK _ ?_; clear hK K) | (clear hK K; refine hK _ ?_; clear hK K) | (clear hK K; clear hK K; refine hK _ ?_; clear hK K) | (clear hK K; clear hK K; clear hK K; refine hK _ ?_; clear hK K)
   | (with_reducible refine todo ?_; simp +decide only [go_sem, hph, zne, z, f1, mapOf_mpr hp.m, mfind_N]))
  exact RetR_arr rfl (by simp +decide only [go_sem]) True.intro hw kp_refl (by simp +decide only [go_sem]) upd_keep
/-- What is wrong with a write. -/
def pgWrE (n : Nat) (page : Int) (s : List UInt8) : Int := if pgRight n page ≠ 0 then pgRight n page else if page = 0 then 1 else if 128 < s.length then 19 else 0
set_option maxRecDepth 8000 in
set_option maxHeartbeats 8000000 in
theorem Try.kPgWriteE (off : Nat) (hw : Wf H A) (hp : PgAt H A pid did lid κp p) (hd : DkAt H A did κm κc d) (hl : p.logs ≤ d.n) (hn : d.n ≤ 4096) (page : Int) (s : List UInt8) (he : pgWrE (pgN d p) page s ≠ 0) :
    EffOK Try.prog 26 off H A [.c (.ptr pid 0), pD (.lit (.int .i64 page)), pD (dS s)] (pD (.lit (.int .i64 (pgWrE (pgN d p) page s)))) H A := by
  refine effr_ok (E := envOf Try.prog [50] off [] []) (envOf_ok Try.mixed) Try.func26 rfl Try.call26 (by kernel_rfl) (by exact Nat.le_of_ble_eq_true rfl) (fun hab => ?_)
  have kr := Try.kPgRight (off + 1000) hw hp hd hl hn page
  unfold pgWrE at he ⊢
  by_cases h1 : pgRight (pgN d p) page = 0
  · rw [if_neg (by simpa using h1)] at he ⊢
    rw [h1] at kr
    by_cases h2 : page = 0
    · rw [if_pos h2]
      subst h2
      repeat' (first
       | with_reducible first | refine VC_seq fun K hK => ?_ | refine W_region ?_ | refine VC_block ?_ | refine VC_scope ?_ | refine VC_if ?_ | refine VC_skip ?_ | refine VC_exit ?_ | refine VC_ret ?_
       | (with_reducible first | refine G_not (fun h => ?_) (fun h => ?_) | refine G_cases (fun h => ?_) (fun h => ?_)) <;> (try simp only [h])
       | refine C_call rfl kr rfl (Above_mono hab (by omega)) ?_
       | with_reducible first | (refine hK _ ?_; clear hK K) | (clear hK K; refine hK _ ?_; clear hK K) | (clear hK K; clear hK K; refine hK _ ?_; clear hK K) | (clear hK K; clear hK K; clear hK K; refine hK _ ?_; clear hK K)
       | (with_reducible refine todo ?_; simp +decide only [go_sem, zne]))
      exact RetR_same rfl (by simp +decide only [go_sem]) True.intro hw kp_refl (fun _ _ => rfl)
    · have z : (page == 0) = false := by simpa using h2
      rw [if_neg h2] at he ⊢
      by_cases h3 : 128 < s.length
      · have f1 : ((128 : Int) < (s.length : Int)) = True := eq_true (by omega)
        rw [if_pos h3]
        repeat' (first
         | with_reducible first | refine VC_seq fun K hK => ?_ | refine W_region ?_ | refine VC_block ?_ | refine VC_scope ?_ | refine VC_if ?_ | refine VC_skip ?_ | refine VC_exit ?_ | refine VC_ret ?_
         | (with_reducible first | refine G_not (fun h => ?_) (fun h => ?_) | refine G_cases (fun h => ?_) (fun h => ?_)) <;> (try simp only [h])
         | refine C_call rfl kr rfl (Above_mono hab (by omega)) ?_
         | with_reducible first | (refine hK _ ?_; clear hK K) | (clear hK K; refine hK _ ?_; clear hK K) | (clear hK K; clear hK K; refine hK _ ?_; clear hK K) | (clear hK K; clear hK K; clear hK K; refine hK _ ?_; clear hK K)
         | (with_reducible refine todo ?_; simp +decide only [go_sem, zne, z, f1]))
        exact RetR_same rfl (by simp +decide only [go_sem]) True.intro hw kp_refl (fun _ _ => rfl)
      · rw [if_neg h3] at he
        exact (he rfl).elim
  · rw [if_pos (by simpa using h1)]
    have z : (pgRight (pgN d p) page != 0) = true := by simpa using h1
    repeat' (first
     | with_reducible first | refine VC_seq fun K hK => ?_ | refine W_region ?_ | refine VC_block ?_ | refine VC_scope ?_ | refine VC_if ?_ | refine VC_skip ?_ | refine VC_exit ?_ | refine VC_ret ?_
     | (with_reducible first | refine G_not (fun h => ?_) (fun h => ?_) | refine G_cases (fun h => ?_) (fun h => ?_)) <;> (try simp only [h])
     | refine C_call rfl kr rfl (Above_mono hab (by omega)) ?_
     | with_reducible first | (refine hK _ ?_; clear hK K) | (clear hK K; refine hK _ ?_; clear hK K) | (clear hK K; clear hK K; refine hK _ ?_; clear hK K) | (clear hK K; clear hK K; clear hK K; refine hK _ ?_; clear hK K)
     | (with_reducible refine todo ?_; simp +decide only [go_sem, z]))
    exact RetR_same rfl (by simp +decide only [go_sem]) True.intro hw kp_refl (fun _ _ => rfl)
end pg
end Go.Proofs

/-
  The pager: Dirty, Abort.
-/

namespace Go.Proofs
open Go.PW
/-- The pages below 'k' that are changed. -/
def dirtyK (ch : List (Int × List UInt8)) : Nat → List Int
  | 0 => []
  | k + 1 => dirtyK ch k ++ if (findN (k : Int) ch 0).isSome then [(k : Int)] else []
theorem dirtyK_len (ch : List (Int × List UInt8)) : ∀ k, (dirtyK ch k).length ≤ k
  | 0 => Nat.le_refl _
  | k + 1 => by
    have ih := dirtyK_len ch k
    unfold dirtyK
    rw [List.length_append]
    split <;> simp <;> omega
theorem ints_len (l : List Int) : (ints l).length = l.length := by simp [ints]
theorem ints_app (a b : List Int) : ints (a ++ b) = ints a ++ ints b := List.map_append
theorem szInts (l : List Int) : Szd 1 (ints l) := fun e he => by obtain ⟨w, _, rfl⟩ := List.mem_map.1 he; rfl
section pg
variable {H : HMap} {A : AMap} {pid did lid : Nat} {κm κc κp : Tok} {d : Dk} {p : Pg}
set_option maxRecDepth 8000 in
set_option maxHeartbeats 16000000 in
theorem Try.kPgDirty (off : Nat) (hw : Wf H A) (hp : PgAt H A pid did lid κp p) (hd : DkAt H A did κm κc d) (hl : p.logs ≤ d.n) (hn : d.n ≤ 4096) : EffOK Try.prog 73 off H A [.c (.ptr pid 0)] (.c (.d (.sl (ints (dirtyK p.ch (pgN d p)))))) H A := by
  refine effr_ok (E := envOf Try.prog [37, 31] off [] []) (envOf_ok Try.mixed) Try.func73 rfl Try.call73 (by kernel_rfl) (by exact Nat.le_of_ble_eq_true rfl) (fun hab => ?_)
  have hph := hp.h
  unfold encPg at hph
  have kt := Try.kThere (off + 1000) hw hp
  have kl := Try.kPgLen (off + 1000) hw hp hd hl hn
  have hN : pgN d p ≤ 4096 := by unfold pgN; omega
  generalize pgN d p = N at *
  have ha : A (off + 28, 0) = none := (hab _ (Nat.le_add_right _ _)).2 _
  have hptr := fun {X Y : AMap} => hp.ptr (A1 := X) (A2 := Y)
  have hmp : ∀ ar, mapOf (aOver [((off + 28, 0), ar)] A) (.c (.mpr κp)) = some (encNS p.ch) := fun ar => mapOf_mpr ((aOver_old (by rw [hp.m]; simp) (fun q hq => by rw [List.mem_singleton.1 hq]; exact ha)).trans hp.m)
  repeat' (first
   | with_reducible first | refine VC_seq fun K hK => ?_ | refine W_region ?_ | refine VC_block ?_ | refine VC_scope ?_ | refine VC_if ?_ | refine VC_skip ?_ | refine VC_exit ?_ | refine VC_ret ?_
   | (with_reducible first | refine G_not (fun h => ?_) (fun h => ?_) | refine G_cases (fun h => ?_) (fun h => ?_)) <;> (try simp only [h])
   | refine C_call rfl kt rfl (Above_mono hab (by omega)) ?_
   | refine C_call rfl kl rfl (Above_mono hab (by omega)) ?_
   | with_reducible first | (refine hK _ ?_; clear hK K) | (clear hK K; refine hK _ ?_; clear hK K) | (clear hK K; clear hK K; refine hK _ ?_; clear hK K) | (clear hK K; clear hK K; clear hK K; refine hK _ ?_; clear hK K)
   | (with_reducible refine todo ?_; simp +decide only [go_sem]))
  refine VC_range N (fun _ => True) (fun i => overA [(0, .c (.ptr pid 0)), (3, .c (.own (off + 28, 0) (ints (dirtyK p.ch i)))), (11, pD (.lit (.int .i64 N))), (12, pD (.lit (.int .i64 i)))] []
    [((off + 28, 0), .co 1 (dirtyK p.ch i).length)] H A) True.intro ?_ ?_
  · refine Weak_overA hw kp_refl (fun _ _ => rfl) (fun q hq => by rw [List.mem_singleton.1 hq]; exact ha) ?_ ?_ ?_ (fun _ h => h) (fun _ h => h)
    · simp +decide only [go_sem, hptr]
      exact wkP_new ha (sz := 1) (if_pos rfl)
    · simp +decide only [go_sem]
    · simp +decide only [go_sem, ha]
      rfl
  · intro i hi _
    rcases Nat.lt_or_ge i N with hi2 | hi2
    · have hc := int_lt_true hi2
      have hnx := int_next hi2 (by omega)
      have hlen := dirtyK_len p.ch i
      have hil := ints_len (dirtyK p.ch i)
      have hoth : ∀ κ, A κ ≠ none → κ ≠ (off + 28, 0) := fun κ hκ e => hκ (by rw [e]; exact ha)
      cases hf : findN (i : Int) p.ch 0 with
      | none =>
        have e : dirtyK p.ch (i + 1) = dirtyK p.ch i := by unfold dirtyK; rw [hf]; simp; cases i <;> rfl
        repeat' (first
         | with_reducible first | refine VC_seq fun K hK => ?_ | refine W_region ?_ | refine VC_block ?_ | refine VC_scope ?_ | refine VC_if ?_ | refine VC_skip ?_ | refine VC_exit ?_ | refine VC_ret ?_
         | (with_reducible first | refine G_not (fun h => ?_) (fun h => ?_) | refine G_cases (fun h => ?_) (fun h => ?_)) <;> (try simp only [h])
         | with_reducible first | (refine hK _ ?_; clear hK K) | (clear hK K; refine hK _ ?_; clear hK K) | (clear hK K; clear hK K; refine hK _ ?_; clear hK K) | (clear hK K; clear hK K; clear hK K; refine hK _ ?_; clear hK K)
         | (with_reducible refine todo ?_; simp +decide only [go_sem, hph, hc, hnx, hmp, mfind_N, hf]))
        refine Next_of hi2 True.intro (Weak_overA hw kp_nil (fun κ hκ => ?_) (fun q hq => by rw [List.mem_singleton.1 hq]; exact ha) ?_ ?_ ?_ (fun _ h => h) (fun _ h => h))
        · exact if_neg (hoth κ hκ)
        · simp +decide only [go_sem, hptr, e]
          exact wkP_own (by rw [aOver_hd]; simp) rfl
        · simp +decide only [go_sem]
        · simp +decide only [go_sem, e]
      | some r =>
        have e : dirtyK p.ch (i + 1) = dirtyK p.ch i ++ [(i : Int)] := by show dirtyK p.ch i ++ _ = _; rw [hf]; rfl
        repeat' (first
         | with_reducible first | refine VC_seq fun K hK => ?_ | refine W_region ?_ | refine VC_block ?_ | refine VC_scope ?_ | refine VC_if ?_ | refine VC_skip ?_ | refine VC_exit ?_ | refine VC_ret ?_
         | (with_reducible first | refine G_not (fun h => ?_) (fun h => ?_) | refine G_cases (fun h => ?_) (fun h => ?_)) <;> (try simp only [h])
         | (refine W_own Try.appI rfl (szInts _) (szOne rfl) (by rw [hil]; simp only [List.length_singleton]; omega) (by rw [hil]; exact if_pos rfl) ?_)
         | with_reducible first | (refine hK _ ?_; clear hK K) | (clear hK K; refine hK _ ?_; clear hK K) | (clear hK K; clear hK K; refine hK _ ?_; clear hK K) | (clear hK K; clear hK K; clear hK K; refine hK _ ?_; clear hK K)
         | (with_reducible refine todo ?_; simp +decide only [go_sem, hph, hc, hnx, hmp, mfind_N, hf]))
        refine Next_of hi2 True.intro (Weak_overA hw kp_nil (fun κ hκ => ?_) (fun q hq => by rw [List.mem_singleton.1 hq]; exact ha) ?_ ?_ ?_ (fun _ h => h) (fun _ h => h))
        · show upd _ _ _ κ = _
          rw [upd_other _ _ (hoth κ hκ)]
          exact if_neg (hoth κ hκ)
        · have e2 : ints (dirtyK p.ch i ++ [(i : Int)]) = ints (dirtyK p.ch i) ++ [[.lit (.int .i64 i)]] := ints_app _ _
          simp +decide only [go_sem, hptr, e, e2]
          exact wkP_own (by rw [aOver_hd]; simp) (by rw [upd_same, hil]; exact aOver_hd)
        · simp +decide only [go_sem]
        · simp +decide only [go_sem, e, hil]
    · have hc := int_lt_false hi2
      have hie : i = N := by omega
      subst hie
      repeat' (first
       | with_reducible first | refine VC_seq fun K hK => ?_ | refine W_region ?_ | refine VC_block ?_ | refine VC_scope ?_ | refine VC_if ?_ | refine VC_skip ?_ | refine VC_exit ?_ | refine VC_ret ?_
       | (with_reducible first | refine G_not (fun h => ?_) (fun h => ?_) | refine G_cases (fun h => ?_) (fun h => ?_)) <;> (try simp only [h])
       | with_reducible first | (refine hK _ ?_; clear hK K) | (clear hK K; refine hK _ ?_; clear hK K) | (clear hK K; clear hK K; refine hK _ ?_; clear hK K) | (clear hK K; clear hK K; clear hK K; refine hK _ ?_; clear hK K)
       | (with_reducible refine todo ?_; simp +decide only [go_sem, hc]))
      refine RetR_same rfl (by simp +decide only [go_sem]) True.intro hw kp_nil (fun κ hκ => if_neg (fun e => hκ (by rw [e]; exact ha)))
end pg
end Go.Proofs

/-
  The pager: Abort, Frees.
-/

namespace Go.Proofs
open Go.PW
def delK (ch : List (Int × List UInt8)) (l : List Int) : List (Int × List UInt8) := l.foldl delN ch
theorem ints_get {l : List Int} {i : Nat} (h : i < l.length) : (ints l)[i]? = some [.lit (.int .i64 l[i])] := by
  unfold ints; rw [List.getElem?_map, List.getElem?_eq_getElem h]; rfl
section pg
variable {H : HMap} {A : AMap} {pid did lid : Nat} {κm κc κp : Tok} {d : Dk} {p : Pg}
set_option maxRecDepth 8000 in
set_option maxHeartbeats 16000000 in
theorem Try.kPgAbort (off : Nat) (hw : Wf H A) (hp : PgAt H A pid did lid κp p) (hd : DkAt H A did κm κc d) (hl : p.logs ≤ d.n) (hn : d.n ≤ 4096) : EffOK Try.prog 46 off H A [.c (.ptr pid 0)] (.c .any) H (upd A κp (some (.mp (encNS (delK p.ch (dirtyK p.ch (pgN d p))))))) := by
  refine effr_ok (E := envOf Try.prog [37, 73] off [] []) (envOf_ok Try.mixed) Try.func46 rfl Try.call46 (by kernel_rfl) (by exact Nat.le_of_ble_eq_true rfl) (fun hab => ?_)
  have hph := hp.h
  unfold encPg at hph
  have kt := Try.kThere (off + 1000) hw hp
  have kd := Try.kPgDirty (off + 1000) hw hp hd hl hn
  have hlen := dirtyK_len p.ch (pgN d p)
  have hN : pgN d p ≤ 4096 := by unfold pgN; omega
  have hptr := fun {X Y : AMap} => hp.ptr (A1 := X) (A2 := Y)
  generalize dirtyK p.ch (pgN d p) = L at *
  have hil := ints_len L
  repeat' (first
   | with_reducible first | refine VC_seq fun K hK => ?_ | refine W_region ?_ | refine VC_block ?_ | refine VC_scope ?_ | refine VC_if ?_ | refine VC_skip ?_ | refine VC_exit ?_ | refine VC_ret ?_
   | (with_reducible first | refine G_not (fun h => ?_) (fun h => ?_) | refine G_cases (fun h => ?_) (fun h => ?_)) <;> (try simp only [h])
   | refine C_call rfl kt rfl (Above_mono hab (by omega)) ?_
   | refine C_call rfl kd rfl (Above_mono hab (by omega)) ?_
   | with_reducible first | (refine hK _ ?_; clear hK K) | (clear hK K; refine hK _ ?_; clear hK K) | (clear hK K; clear hK K; refine hK _ ?_; clear hK K) | (clear hK K; clear hK K; clear hK K; refine hK _ ?_; clear hK K)
   | (with_reducible refine todo ?_; simp +decide only [go_sem]))
  refine VC_range L.length (fun _ => True) (fun i => over [(0, .c (.ptr pid 0)), (8, .c (.d (.sl (ints L)))), (9, pD (.lit (.int .i64 L.length))), (10, pD (.lit (.int .i64 i)))] []
    H (upd A κp (some (.mp (encNS (delK p.ch (L.take i))))))) True.intro ?_ ?_
  · refine Weak_overG (Wf_arr hw upd_keep) (fun _ _ => rfl) (upd_self hp.m).symm ?_ ?_ (fun i hi => hi) upd_keep
    · simp +decide only [go_sem, hptr, hil]
    · simp +decide only [go_sem]
  · intro i hi _
    rcases Nat.lt_or_ge i L.length with hi2 | hi2
    · have hc := int_lt_true hi2
      have hnx := int_next hi2 (by omega)
      have hg := ints_get hi2
      have hst : delK p.ch (L.take (i + 1)) = delN (delK p.ch (L.take i)) L[i] := by
        unfold delK
        rw [List.take_add_one, List.getElem?_eq_getElem hi2, Option.toList_some, List.foldl_append]; rfl
      have hmp : mapOf (upd A κp (some (.mp (encNS (delK p.ch (L.take i)))))) (.c (.mpr κp)) = some (encNS (delK p.ch (L.take i))) := mapOf_mpr (upd_same _ _ _)
      generalize delK p.ch (L.take i) = m at *
      generalize L[i] = x at *
      repeat' (first
       | with_reducible first | refine VC_seq fun K hK => ?_ | refine W_region ?_ | refine VC_block ?_ | refine VC_scope ?_ | refine VC_if ?_ | refine VC_skip ?_ | refine VC_exit ?_ | refine VC_ret ?_
       | (with_reducible first | refine G_not (fun h => ?_) (fun h => ?_) | refine G_cases (fun h => ?_) (fun h => ?_)) <;> (try simp only [h])
       | with_reducible first | (refine hK _ ?_; clear hK K) | (clear hK K; refine hK _ ?_; clear hK K) | (clear hK K; clear hK K; refine hK _ ?_; clear hK K) | (clear hK K; clear hK K; clear hK K; refine hK _ ?_; clear hK K)
       | (with_reducible refine todo ?_; simp +decide only [go_sem, hph, hc, hnx, hg, hmp, mfind_N, upd_twice]))
      refine Next_of hi2 True.intro (Weak_overG (Wf_arr hw upd_keep) kp_nil ?_ ?_ ?_ (fun i hi => hi) upd_keep)
      · rw [hst, ← encNS_del]
        rfl
      · simp +decide only [go_sem, hptr]
      · simp +decide only [go_sem]
    · have hc := int_lt_false hi2
      rw [List.take_of_length_le hi2]
      repeat' (first
       | with_reducible first | refine VC_seq fun K hK => ?_ | refine W_region ?_ | refine VC_block ?_ | refine VC_scope ?_ | refine VC_if ?_ | refine VC_skip ?_ | refine VC_exit ?_ | refine VC_ret ?_
       | (with_reducible first | refine G_not (fun h => ?_) (fun h => ?_) | refine G_cases (fun h => ?_) (fun h => ?_)) <;> (try simp only [h])
       | with_reducible first | (refine hK _ ?_; clear hK K) | (clear hK K; refine hK _ ?_; clear hK K) | (clear hK K; clear hK K; refine hK _ ?_; clear hK K) | (clear hK K; clear hK K; clear hK K; refine hK _ ?_; clear hK K)
       | (with_reducible refine todo ?_; simp +decide only [go_sem, hc]))
      exact RetR_arr rfl True.intro True.intro hw kp_nil rfl upd_keep
/-- How many of the pages below 'k' are free. -/
def freesK (s : List UInt8) : Nat → Nat
  | 0 => 0
  | k + 1 => freesK s k + if k ≠ 0 ∧ freeB s k = true then 1 else 0
theorem freesK_le (s : List UInt8) : ∀ k, freesK s k ≤ k
  | 0 => Nat.le_refl _
  | k + 1 => by
    have ih := freesK_le s k
    unfold freesK
    split <;> omega
set_option maxRecDepth 8000 in
set_option maxHeartbeats 16000000 in
theorem Try.kFrees (off : Nat) (hw : Wf H A) (hp : PgAt H A pid did lid κp p) (hd : DkAt H A did κm κc d) (hl : p.logs ≤ d.n) (hn : d.n ≤ 4096) (hcl : d.cache.length ≤ 1000000) (hlen : pgN d p ≤ 8 * (pgRd d p 0).length) :
    EffOK Try.prog 14 off H A [.c (.ptr pid 0)] (pD (.lit (.int .i64 (freesK (pgRd d p 0) (pgN d p))))) H A := by
  refine effr_ok (E := envOf Try.prog [31, 32] off [] []) (envOf_ok Try.mixed) Try.func14 rfl Try.call14 (by kernel_rfl) (by exact Nat.le_of_ble_eq_true rfl) (fun hab => ?_)
  have kl := Try.kPgLen (off + 1000) hw hp hd hl hn
  have hN : pgN d p ≤ 4096 := by unfold pgN; omega
  have hptr := fun {X Y : AMap} => hp.ptr (A1 := X) (A2 := Y)
  have hzf := Try.kIsFree0 (pid := pid) (off + 1000) hw
  have hif := fun (i : Nat) h0 h1 h2 => Try.kIsFree (off + 1000) hw hp hd hl hn hcl i h0 h1 h2
  repeat' (first
   | with_reducible first | refine VC_seq fun K hK => ?_ | refine W_region ?_ | refine VC_block ?_ | refine VC_scope ?_ | refine VC_if ?_ | refine VC_skip ?_ | refine VC_exit ?_ | refine VC_ret ?_
   | (with_reducible first | refine G_not (fun h => ?_) (fun h => ?_) | refine G_cases (fun h => ?_) (fun h => ?_)) <;> (try simp only [h])
   | refine C_call rfl kl rfl (Above_mono hab (by omega)) ?_
   | with_reducible first | (refine hK _ ?_; clear hK K) | (clear hK K; refine hK _ ?_; clear hK K) | (clear hK K; clear hK K; refine hK _ ?_; clear hK K) | (clear hK K; clear hK K; clear hK K; refine hK _ ?_; clear hK K)
   | (with_reducible refine todo ?_; simp +decide only [go_sem]))
  refine VC_range (pgN d p) (fun _ => True) (fun i => over [(0, .c (.ptr pid 0)), (3, pD (.lit (.int .i64 (freesK (pgRd d p 0) i)))), (6, pD (.lit (.int .i64 (pgN d p)))), (7, pD (.lit (.int .i64 i)))] [] H A) True.intro ?_ ?_
  · refine Weak_overG hw (fun _ _ => rfl) rfl ?_ ?_ (fun i hi => hi) (fun _ h => h)
    · simp +decide only [go_sem, hptr, freesK]
    · simp +decide only [go_sem]
  · intro i hi _
    rcases Nat.lt_or_ge i (pgN d p) with hi2 | hi2
    · have hc := int_lt_true hi2
      have hnx := int_next hi2 (by omega)
      have hle := freesK_le (pgRd d p 0) i
      have c1 : IntKind.i64.wrap ((freesK (pgRd d p 0) i : Int) + 1) = ((freesK (pgRd d p 0) i + 1 : Nat) : Int) := Go.IntWalk.i64_in _ (by omega)
      by_cases h0 : i = 0
      · have kf : EffOK Try.prog 32 (off + 1000) H A [.c (.ptr pid 0), pD (.lit (.int .i64 i))] (pD (.lit (.bool false))) H A := by rw [h0]; exact hzf
        have e : freesK (pgRd d p 0) (i + 1) = freesK (pgRd d p 0) i := by rw [freesK, if_neg (by rw [h0]; simp)]; rfl
        repeat' (first
         | with_reducible first | refine VC_seq fun K hK => ?_ | refine W_region ?_ | refine VC_block ?_ | refine VC_scope ?_ | refine VC_if ?_ | refine VC_skip ?_ | refine VC_exit ?_ | refine VC_ret ?_
         | (with_reducible first | refine G_not (fun h => ?_) (fun h => ?_) | refine G_cases (fun h => ?_) (fun h => ?_)) <;> (try simp only [h])
         | refine C_call rfl kf rfl (Above_mono hab (by omega)) ?_
         | with_reducible first | (refine hK _ ?_; clear hK K) | (clear hK K; refine hK _ ?_; clear hK K) | (clear hK K; clear hK K; refine hK _ ?_; clear hK K) | (clear hK K; clear hK K; clear hK K; refine hK _ ?_; clear hK K)
         | (with_reducible refine todo ?_; simp +decide only [go_sem, hc, hnx]))
        refine Next_of hi2 True.intro (Weak_overG hw kp_nil rfl ?_ ?_ (fun i hi => hi) (fun _ h => h))
        · simp +decide only [go_sem, hptr, e]
        · simp +decide only [go_sem]
      · have kf := hif i h0 hi2 (by omega)
        cases hb : freeB (pgRd d p 0) i with
        | true =>
          rw [hb] at kf
          have e : freesK (pgRd d p 0) (i + 1) = freesK (pgRd d p 0) i + 1 := by rw [freesK, if_pos ⟨h0, hb⟩]
          repeat' (first
           | with_reducible first | refine VC_seq fun K hK => ?_ | refine W_region ?_ | refine VC_block ?_ | refine VC_scope ?_ | refine VC_if ?_ | refine VC_skip ?_ | refine VC_exit ?_ | refine VC_ret ?_
           | (with_reducible first | refine G_not (fun h => ?_) (fun h => ?_) | refine G_cases (fun h => ?_) (fun h => ?_)) <;> (try simp only [h])
           | refine C_call rfl kf rfl (Above_mono hab (by omega)) ?_
           | with_reducible first | (refine hK _ ?_; clear hK K) | (clear hK K; refine hK _ ?_; clear hK K) | (clear hK K; clear hK K; refine hK _ ?_; clear hK K) | (clear hK K; clear hK K; clear hK K; refine hK _ ?_; clear hK K)
           | (with_reducible refine todo ?_; simp +decide only [go_sem, hc, hnx, c1]))
          refine Next_of hi2 True.intro (Weak_overG hw kp_nil rfl ?_ ?_ (fun i hi => hi) (fun _ h => h))
          · simp +decide only [go_sem, hptr, e]
          · simp +decide only [go_sem]
        | false =>
          rw [hb] at kf
          have e : freesK (pgRd d p 0) (i + 1) = freesK (pgRd d p 0) i := by rw [freesK, if_neg (by rw [hb]; simp)]; rfl
          repeat' (first
           | with_reducible first | refine VC_seq fun K hK => ?_ | refine W_region ?_ | refine VC_block ?_ | refine VC_scope ?_ | refine VC_if ?_ | refine VC_skip ?_ | refine VC_exit ?_ | refine VC_ret ?_
           | (with_reducible first | refine G_not (fun h => ?_) (fun h => ?_) | refine G_cases (fun h => ?_) (fun h => ?_)) <;> (try simp only [h])
           | refine C_call rfl kf rfl (Above_mono hab (by omega)) ?_
           | with_reducible first | (refine hK _ ?_; clear hK K) | (clear hK K; refine hK _ ?_; clear hK K) | (clear hK K; clear hK K; refine hK _ ?_; clear hK K) | (clear hK K; clear hK K; clear hK K; refine hK _ ?_; clear hK K)
           | (with_reducible refine todo ?_; simp +decide only [go_sem, hc, hnx]))
          refine Next_of hi2 True.intro (Weak_overG hw kp_nil rfl ?_ ?_ (fun i hi => hi) (fun _ h => h))
          · simp +decide only [go_sem, hptr, e]
          · simp +decide only [go_sem]
    · have hc := int_lt_false hi2
      have hie : i = pgN d p := by omega
      subst hie
      repeat' (first
       | with_reducible first | refine VC_seq fun K hK => ?_ | refine W_region ?_ | refine VC_block ?_ | refine VC_scope ?_ | refine VC_if ?_ | refine VC_skip ?_ | refine VC_exit ?_ | refine VC_ret ?_
       | (with_reducible first | refine G_not (fun h => ?_) (fun h => ?_) | refine G_cases (fun h => ?_) (fun h => ?_)) <;> (try simp only [h])
       | with_reducible first | (refine hK _ ?_; clear hK K) | (clear hK K; refine hK _ ?_; clear hK K) | (clear hK K; clear hK K; refine hK _ ?_; clear hK K) | (clear hK K; clear hK K; clear hK K; refine hK _ ?_; clear hK K)
       | (with_reducible refine todo ?_; simp +decide only [go_sem, hc]))
      exact RetR_same rfl (by simp +decide only [go_sem]) True.intro hw kp_nil (fun _ _ => rfl)
end pg
end Go.Proofs

/-
  The pager: bytes without zeros at their end; code.Text.
-/

namespace Go.Proofs
open Go.PW
def bareL (s : List UInt8) : List UInt8 := (s.reverse.dropWhile (· == 0)).reverse
theorem bareL_zero {t : List UInt8} : bareL (t ++ [0]) = bareL t := by
  unfold bareL
  rw [List.reverse_append]; rfl
theorem bareL_stop {t : List UInt8} {x : UInt8} (h : x ≠ 0) : bareL (t ++ [x]) = t ++ [x] := by
  unfold bareL
  rw [List.reverse_append]
  show (List.dropWhile _ (x :: t.reverse)).reverse = _
  rw [List.dropWhile_cons, if_neg (by simpa using h)]
  simp
set_option maxRecDepth 8000 in
set_option maxHeartbeats 8000000 in
theorem Try.kBare (s : List UInt8) (hs : s.length ≤ 1000000) : PureOK Try.prog 63 [pD (dS s)] (.one (.d (dS (bareL s)))) := by
  refine Try.pure (md := []) Try.func63 rfl Try.call63 (by kernel_rfl) (by rfl) (by exact Nat.le_of_ble_eq_true rfl) ?_
  repeat' (first
   | with_reducible first | refine VC_seq fun K hK => ?_ | refine W_region ?_ | refine VC_block ?_ | refine VC_scope ?_ | refine VC_if ?_ | refine VC_skip ?_ | refine VC_exit ?_ | refine VC_ret ?_
   | (with_reducible first | refine G_not (fun h => ?_) (fun h => ?_) | refine G_cases (fun h => ?_) (fun h => ?_)) <;> (try simp only [h])
   | with_reducible first | (refine hK _ ?_; clear hK K) | (clear hK K; refine hK _ ?_; clear hK K) | (clear hK K; clear hK K; refine hK _ ?_; clear hK K) | (clear hK K; clear hK K; clear hK K; refine hK _ ?_; clear hK K)
   | (with_reducible refine todo ?_; simp +decide only [go_sem]))
  refine VC_while (ι := Nat) (fun k => k ≤ s.length ∧ bareL (s.take k) = bareL s) (fun k => frame [(0, pD (dS (s.take k)))] [] []) (fun k => k) s.length ⟨Nat.le_refl _, by rw [List.take_length]⟩ ?_ ?_
  · rw [List.take_length]
    refine Weak_frame ?_ ?_ ?_ <;> simp +decide only [go_sem]
  · rintro k ⟨hk, hi⟩
    cases k with
    | zero =>
      have e : bareL s = [] := by rw [← hi]; rfl
      have e0 : s.take 0 = [] := rfl
      rw [e0]
      repeat' (first
       | with_reducible first | refine VC_seq fun K hK => ?_ | refine W_region ?_ | refine VC_block ?_ | refine VC_scope ?_ | refine VC_if ?_ | refine VC_skip ?_ | refine VC_exit ?_ | refine VC_ret ?_
       | (with_reducible first | refine G_not (fun h => ?_) (fun h => ?_) | refine G_cases (fun h => ?_) (fun h => ?_)) <;> (try simp only [h])
       | with_reducible first | (refine hK _ ?_; clear hK K) | (clear hK K; refine hK _ ?_; clear hK K) | (clear hK K; clear hK K; refine hK _ ?_; clear hK K) | (clear hK K; clear hK K; clear hK K; refine hK _ ?_; clear hK K)
       | (with_reducible refine todo ?_; simp +decide only [go_sem, nil_eq_nil]))
      rw [e]
      exact Ret_d rfl rfl
    | succ k =>
      have ht : s.take (k + 1) = s.take k ++ [s[k]] := by rw [List.take_add_one, List.getElem?_eq_getElem hk, Option.toList_some]
      have hln : (s.take (k + 1)).length = k + 1 := by rw [List.length_take]; omega
      have hg : (s.take (k + 1))[k]? = some s[k] := by rw [ht, List.getElem?_append_right (by rw [List.length_take]; omega), List.length_take, Nat.min_eq_left (by omega), Nat.sub_self]; rfl
      have hne : (s.take (k + 1) == []) = false := by rw [ht]; cases s.take k <;> rfl
      have htk : (s.take (k + 1)).take (k - 0) = s.take k := by rw [Nat.sub_zero, List.take_take, Nat.min_eq_left (by omega)]
      have hz := fun h : s[k] = 0 => (show bareL (s.take k) = bareL s by rw [← hi, ht, h, bareL_zero])
      have hst := fun h : s[k] ≠ 0 => (show s.take (k + 1) = bareL s by rw [← hi, ht, bareL_stop h])
      have c1 : IntKind.i64.wrap (((k + 1 : Nat) : Int) - 1) = ((k : Nat) : Int) := by rw [Go.IntWalk.i64_in _ (by omega)]; omega
      generalize s[k] = x at *
      generalize s.take (k + 1) = t at *
      by_cases hx : x = 0
      · have hx' : ((x.toNat : Int) == 0) = true := by rw [hx]; rfl
        repeat' (first
         | with_reducible first | refine VC_seq fun K hK => ?_ | refine W_region ?_ | refine VC_block ?_ | refine VC_scope ?_ | refine VC_if ?_ | refine VC_skip ?_ | refine VC_exit ?_ | refine VC_ret ?_
         | (with_reducible first | refine G_not (fun h => ?_) (fun h => ?_) | refine G_cases (fun h => ?_) (fun h => ?_)) <;> (try simp only [h])
         | refine W_slcS (a := t) (l := 0) (h := k) Try.underlying9 rfl rfl (by simp [optNat, natOf?, intOf?]) (by omega) (by omega) ?_
         | with_reducible first | (refine hK _ ?_; clear hK K) | (clear hK K; refine hK _ ?_; clear hK K) | (clear hK K; clear hK K; refine hK _ ?_; clear hK K) | (clear hK K; clear hK K; clear hK K; refine hK _ ?_; clear hK K)
         | (with_reducible refine todo ?_; simp +decide only [go_sem, hne, hln, c1, hg, hx', htk]))
        refine ⟨⟨k, by omega, hz hx⟩, Weak_frame ?_ ?_ ?_, by show k < k + 1; omega⟩ <;> simp +decide only [go_sem]
      · have hx' : ((x.toNat : Int) == 0) = false := by
          rw [beq_eq_false_iff_ne]
          intro e
          exact hx (by apply UInt8.toNat_inj.1; show x.toNat = 0; omega)
        repeat' (first
         | with_reducible first | refine VC_seq fun K hK => ?_ | refine W_region ?_ | refine VC_block ?_ | refine VC_scope ?_ | refine VC_if ?_ | refine VC_skip ?_ | refine VC_exit ?_ | refine VC_ret ?_
         | (with_reducible first | refine G_not (fun h => ?_) (fun h => ?_) | refine G_cases (fun h => ?_) (fun h => ?_)) <;> (try simp only [h])
         | with_reducible first | (refine hK _ ?_; clear hK K) | (clear hK K; refine hK _ ?_; clear hK K) | (clear hK K; clear hK K; refine hK _ ?_; clear hK K) | (clear hK K; clear hK K; clear hK K; refine hK _ ?_; clear hK K)
         | (with_reducible refine todo ?_; simp +decide only [go_sem, hne, hln, c1, hg, hx']))
        rw [← hst hx]
        exact Ret_d rfl rfl
/-- A text's bytes. -/
def textB (s : List UInt8) : List UInt8 := uintB s.length ++ s
set_option maxRecDepth 8000 in
set_option maxHeartbeats 8000000 in
theorem Try.kText (s : List UInt8) (hs : s.length ≤ 1000000) : PureOK Try.prog 62 [pD (dS s)] (.one (.d (dS (textB s)))) := by
  refine Try.pure (md := []) Try.func62 rfl Try.call62 (by kernel_rfl) (by rfl) (by exact Nat.le_of_ble_eq_true rfl) ?_
  have ku := Try.kUint s.length (by omega)
  have hl := uintB_len s.length
  have c1 : IntKind.u64.wrap (s.length : Int) = (s.length : Int) := Go.IntWalk.u64_in _ (by omega)
  unfold textB
  generalize uintB s.length = u at *
  have s1 : (u.length + s.length ≤ 9223372036854775807) = True := eq_true (by omega)
  repeat' (first
   | with_reducible first | refine VC_seq fun K hK => ?_ | refine W_region ?_ | refine VC_block ?_ | refine VC_scope ?_ | refine VC_if ?_ | refine VC_skip ?_ | refine VC_exit ?_ | refine VC_ret ?_
   | (with_reducible first | refine G_not (fun h => ?_) (fun h => ?_) | refine G_cases (fun h => ?_) (fun h => ?_)) <;> (try simp only [h])
   | refine C_pure ku rfl rfl (fun _ => rfl) ?_
   | with_reducible first | (refine hK _ ?_; clear hK K) | (clear hK K; refine hK _ ?_; clear hK K) | (clear hK K; clear hK K; refine hK _ ?_; clear hK K) | (clear hK K; clear hK K; clear hK K; refine hK _ ?_; clear hK K)
   | (with_reducible refine todo ?_; simp +decide only [go_sem, c1, s1]))
  exact Ret_d rfl rfl
end Go.Proofs
