/-
  Parts of the proof, laid together: PwRk, PwRl, PwRm, PwNo.
-/
import Derived.Test.YtghlemfokpfngaaQ34
import Derived.Test.YtghlemfokpfngaaQ38
import Derived.Test.YtghlemfokpfngaaQ15

namespace Go.Proofs
open Go.PW
def knZ : Nat → List UInt8 := fun _ => zeros
def knF : List UInt8 := flipB zeros 1
def knC1 : List (Int × List UInt8) := putN (putN [] ((0 : Nat) : Int) knF) ((1 : Nat) : Int) zeros
def knC2 : List (Int × List UInt8) := putN knC1 ((1 : Nat) : Int) (pad [97])
def knB : Nat → List UInt8 := ct knZ knC2
theorem kn_b0 : ct knB [] 0 = knF := by
  show ct knZ knC2 0 = _
  unfold knC2 knC1
  rw [ct_put, if_neg (by omega), ct_put, if_neg (by omega), ct_put, if_pos rfl]
theorem kn_b1 : ct knB [] 1 = pad [97] := by
  show ct knZ knC2 1 = _
  unfold knC2
  rw [ct_put, if_pos rfl]
theorem kn_f1 : freeB zeros 1 = true := by decide +kernel
theorem kn_f2 : freeB knF 1 = false ∧ freeB knF 2 = true ∧ freesK knF 20 = 18 := by decide +kernel
theorem kn_rec : (recK knC2 20).length ≤ 5000 ∧ needN (recK knC2 20).length ≤ 18 := by decide +kernel
theorem kn_d2 : dirtyK knC2 20 = [0, 1] := by decide +kernel
theorem kn_d0 : dirtyK [] 20 = [] := by decide +kernel
theorem Try.xOpenBad {Q : Dk → Lg → Bool → Prop} {H : HMap} {A : AMap} {k did pid N logs : Nat} {ch : List (Int × List UInt8)} {b : Nat → List UInt8} (off : Nat) (h : QX Q H A k did pid N logs ch b) (n : Nat) (hn : N ≤ n) (hl : n ≤ 4096) : EffOK Try.prog 6 off H A [.c (.ptr did 0), pD (.lit (.int .i64 n))] (.tup [.c (.d (.lit (.pointer none))), .c (.d (.lit (.int .i64 1)))]) H A := by
  obtain ⟨lid, κm, κc, κr, κp, d, l, p, hx, rfl, hb, _⟩ := h
  obtain ⟨n1, _⟩ := hx.st.num
  exact Try.kOpenBad off hx.lw.wf hx.lw.dk n (by omega) hl
set_option maxRecDepth 8000 in
set_option maxHeartbeats 32000000 in
theorem Try.kKnown : PureOK Try.prog 5 [] (.one (.d (.lit (.bool true)))) := by
  obtain ⟨H1, A1, e1, L1, lo1, lo2⟩ := Try.sNew 200 40 (by omega) (by omega)
  have D1 := DY.new (logs := 20) L1 (by omega) (by omega) (by omega) (by omega) (by omega) (fun j hj => ⟨lo1 j (by omega), fun q => lo2 _ (by show j ≠ 200; omega)⟩)
  obtain ⟨p1, H2, A2, e2, P2, _, _⟩ := Try.xOpen 1000 D1 (by omega) (by omega) (by omega)
  have P2 : QX (LV 20 40 2 False) H2 A2 214 200 p1 40 20 [] knZ := P2
  have e3 := Try.xOpenBad 1000 P2 40 (by omega) (by omega)
  obtain ⟨H4, A4, e4, P4, _, _⟩ := Try.xAlloc 1000 P2 1 (by omega) (by omega) kn_f1 (fun i h1 h2 => by omega)
  have P4 : QX (LV 20 40 2 False) H4 A4 214 200 p1 40 20 knC1 knZ := P4
  obtain ⟨H5, A5, e5, P5, _, _⟩ := Try.xWrite 1000 P4 1 (by omega) (by omega) [97] (by decide)
  have P5 : QX (LV 20 40 2 False) H5 A5 214 200 p1 40 20 knC2 knZ := P5
  have e6 := Try.xDirty 1000 P5
  have hC := Try.xCommit 1000 P5 (by omega) (by omega) (by omega) (fun _ => kn_rec.2)
  obtain ⟨_, ⟨rfl, H7, A7, e7, P7, _, _⟩ | ⟨_, h, _⟩⟩ := hC
  case inr => exact h.elim
  have P7 : QX (LV 20 40 3 False) H7 A7 217 200 p1 40 20 [] knB := P7
  have hf8 : freeB (ct knB [] 0) 2 = true := by rw [kn_b0]; exact kn_f2.2.1
  have hn8 : ∀ i, i ≠ 0 → i < 2 → freeB (ct knB [] 0) i = false := fun i h1 h2 => by
    rw [kn_b0, show i = 1 by omega]; exact kn_f2.1
  obtain ⟨H8, A8, e8, P8, _, _⟩ := Try.xAlloc 1000 P7 2 (by omega) (by omega) hf8 hn8
  obtain ⟨H9, A9, e9, P9, _, _⟩ := Try.xAbort 1000 P8
  obtain ⟨_, _, _, hcr⟩ := Try.xCrashAny 1000 P9
  obtain ⟨d9, l9, x9, q9, s9, r9, H10, A10, e10, hD⟩ := hcr [] (Nat.zero_le _)
  have D10 := hD 3 _ (q9.crash (by omega) s9 r9 [])
  have e10 : EffOK Try.prog 10 1000 H9 A9 [.c (.ptr 200 0), .c (.d (.sl []))] (pD (.lit (.int .i64 0))) H10 A10 := e10
  obtain ⟨p2, H11, A11, e11, P11, _, _⟩ := Try.xOpen 1000 D10 (by omega) (by omega) (by omega)
  have P11 : QX (LV 20 40 5 False) H11 A11 231 200 p2 40 20 [] knB := P11
  have e12 := Try.xRead 1000 P11 1 (by omega)
  rw [kn_b1] at e12
  have e13 := Try.kPad [97] (by decide)
  have e14 := Try.xIsFree 1000 P11 2 (by omega)
  have e15 := Try.xIsFree 1000 P11 1 (by omega)
  have e16 := Try.xFrees 1000 P11
  rw [kn_b0] at e14 e15 e16
  rw [show isF knF 2 = true by unfold isF; rw [kn_f2.2.1]; rfl] at e14
  rw [show isF knF 1 = false by unfold isF; rw [kn_f2.1]; rfl] at e15
  rw [show freesK knF (40 - 20) = 18 from kn_f2.2.2] at e16
  have e17 := Try.xLen 1000 P11
  have g18 : pgFrE (40 - 20) (ct knB [] 0) 2 = 6 := by
    rw [kn_b0]
    unfold pgFrE pgRight
    rw [if_neg (by decide), if_neg (by decide), if_pos (by exact kn_f2.2.1)]
  have e18 := Try.xFreeE 1000 P11 2 (by rw [g18]; decide)
  rw [g18] at e18
  have g19 : pgFrE (40 - 20) (ct knB [] 0) 0 = 1 := by
    unfold pgFrE pgRight
    rw [if_neg (by decide), if_pos rfl]
  have e19 := Try.xFreeE 1000 P11 0 (by rw [g19]; decide)
  rw [g19] at e19
  have g20 : pgWrE (40 - 20) 20 [] = 2 := by decide
  have e20 := Try.xWriteE 1000 P11 20 [] (by rw [g20]; decide)
  rw [g20] at e20
  have e21 := Try.xDirty 1000 P11
  rw [show dirtyK [] (40 - 20) = [] from kn_d0] at e21
  rw [show dirtyK knC2 (40 - 20) = [0, 1] from kn_d2] at e6
  have e22 := Try.kInts [0, 1] [0, 1] (by decide)
  have b1 : Above 1000 H1 A1 := Above_mono L1.ab (by omega)
  have ab : ∀ {X : HMap} {Y : AMap} {k p M : Nat} {c : List (Int × List UInt8)} {b : Nat → List UInt8}, QX (LV 20 40 M False) X Y k 200 p 40 20 c b → k ≤ 1000 → Above (0 + 1000) X Y := fun h hk => by
    obtain ⟨_, _, _, _, _, _, _, _, _, _, hab, _⟩ := h.nums
    exact Above_mono hab (by omega)
  have b2 := ab P2 (by omega)
  have b4 := ab P4 (by omega)
  have b5 := ab P5 (by omega)
  have b7 := ab P7 (by omega)
  have b8 := ab P8 (by omega)
  have b9 := ab P9 (by omega)
  have b11 := ab P11 (by omega)
  have b10 : Above (0 + 1000) H10 A10 := by
    obtain ⟨_, _, _, L, _⟩ := D10
    exact Above_mono L.ab (by omega)
  have lo11 : ∀ j, j < 200 → H11 j = none ∧ ∀ q, A11 (j, q) = none := by
    obtain ⟨_, _, _, _, _, _, _, _, _, _, _, _, _, h, _⟩ := P11.nums
    exact h
  generalize pad [97] = pa at *
  refine pure_eff rfl (effr_ok (E := envOf Try.prog [4, 6, 15, 16, 17, 9, 18, 10, 19, 22, 23, 24, 25] 0 [] []) (envOf_ok Try.mixed) Try.func5 rfl Try.call5 (by kernel_rfl) (by exact Nat.le_of_ble_eq_true rfl) (fun hab => ?_))
  have v0 : (((ints []).length : Int) == 0) = true := rfl
  have v1 : (((1 : Nat) : Int) == 1) = true := rfl
  have v2 : (((2 : Nat) : Int) == 2) = true := rfl
  have v3 : (((18 : Nat) : Int) == 18) = true := rfl
  have v4 : (((40 - 20 : Nat) : Int) == 20) = true := rfl
  repeat' (first
   |with_reducible first|refine vSq fun K hK=>?_|refine vRg ?_|refine vBl ?_|refine vSc ?_|refine vIf ?_|refine vSk ?_|refine vEx ?_|refine vRt ?_
   |(with_reducible first|refine gNt (fun h=>?_) (fun h=>?_)|refine gCs (fun h=>?_) (fun h=>?_))<;>(try simp only[h])
   |(refine RunV_app (by simp only [List.append_eq, List.cons_append, List.nil_append]; exact rfl) ?_)
   |refine C_call rfl e1 rfl (Above_mono hab (by omega)) ?_
   |refine C_call rfl e2 rfl b1 ?_
   |refine C_call rfl e3 rfl b2 ?_
   |refine C_call rfl e4 rfl b2 ?_
   |refine C_call rfl e5 rfl b4 ?_
   |refine C_call rfl e6 rfl b5 ?_
   |refine C_call rfl e7 rfl b5 ?_
   |refine C_call rfl e8 rfl b7 ?_
   |refine C_call rfl e9 rfl b8 ?_
   |refine C_call rfl e10 rfl b9 ?_
   |refine C_call rfl e11 rfl b10 ?_
   |refine C_call rfl e12 rfl b11 ?_
   |refine C_pure e13 rfl rfl (fun k => (lo11 _ (Nat.le_of_ble_eq_true rfl)).2 k) ?_
   |refine C_pure e22 rfl rfl (fun k => (lo11 _ (Nat.le_of_ble_eq_true rfl)).2 k) ?_
   |refine C_call rfl e14 rfl b11 ?_
   |refine C_call rfl e15 rfl b11 ?_
   |refine C_call rfl e16 rfl b11 ?_
   |refine C_call rfl e17 rfl b11 ?_
   |refine C_call rfl e18 rfl b11 ?_
   |refine C_call rfl e19 rfl b11 ?_
   |refine C_call rfl e20 rfl b11 ?_
   |refine C_call rfl e21 rfl b11 ?_
   |with_reducible first|(refine hK _ ?_;clear hK K)|(clear hK K;refine hK _ ?_;clear hK K)|(clear hK K;clear hK K;refine hK _ ?_;clear hK K)|(clear hK K;clear hK K;clear hK K;refine hK _ ?_;clear hK K)
   |(with_reducible refine todo ?_;simp +decide only[go_sem, zne, v0, v1, v2, v3, v4]))
  exact RetR_same rfl (by simp +decide only [go_sem]) True.intro (fun i cs c h => by cases h) (fun i h => (h rfl).elim) (fun i h => (h rfl).elim)
end Go.Proofs

namespace Go.Proofs
open Go.PW
structure OpP where
  kind : Int
  n : Int
  s : List UInt8
  keep : List Bool
def OpP.enc (o : OpP) : List D := [.lit (.int .i64 o.kind), .lit (.int .i64 o.n), dS o.s, .sl (bools o.keep)]
def oPC (o : OpP) : List CV := [.d (.lit (.int .i64 o.kind)), .d (.lit (.int .i64 o.n)), .d (dS o.s), .d (.sl (bools o.keep))]
def opsP (l : List OpP) : List (List D) := l.map OpP.enc
theorem opsP_get {l : List OpP} {i : Nat} (h : i < l.length) : (opsP l)[i]? = some [.lit (.int .i64 l[i].kind), .lit (.int .i64 l[i].n), dS l[i].s, .sl (bools l[i].keep)] := by
  unfold opsP; rw [List.getElem?_map, List.getElem?_eq_getElem h]; rfl
theorem opsP_len (l : List OpP) : (opsP l).length = l.length := by simp [opsP]
theorem wk_trip {H' : HMap} {A A' : AMap} {x y z : D} : PV.wk H' A A' (.tup [.c (.d x), .c (.d y), .c (.d z)]) (.tup [.c (.d x), .c (.d y), .c (.d z)]) := by
  refine ⟨rfl, fun k a b h1 h2 => ?_⟩
  rw [h1] at h2
  cases h2
  match k, h1 with
  | 0, h => cases h; exact .inr (.inl ⟨rfl, True.intro⟩)
  | 1, h => cases h; exact .inr (.inl ⟨rfl, True.intro⟩)
  | 2, h => cases h; exact .inr (.inl ⟨rfl, True.intro⟩)
theorem oks_trip {hk : Nat → Prop} {tk : Tok → Prop} {x y z : D} : PV.oks hk tk (.tup [.c (.d x), .c (.d y), .c (.d z)]) := fun w hw => by
  simp only [List.mem_cons, List.not_mem_nil, or_false] at hw
  rcases hw with rfl | rfl | rfl <;> exact True.intro
theorem oks_args {hk : Nat → Prop} {tk : Tok → Prop} {id : Nat} (h : hk id) {l : List D} : ∀ x ∈ (.c (.ptr id 0) :: l.map fun d => (.c (.d d) : PV)), x.oks hk tk := fun x hx => by
  rcases List.mem_cons.1 hx with rfl | hx
  · exact h
  · obtain ⟨d, _, rfl⟩ := List.mem_map.1 hx
    exact True.intro
section px
variable {Q : Dk → Lg → Bool → Prop} {H : HMap} {A : AMap} {k did pid lid : Nat} {κm κc κr κp : Tok} {N logs : Nat} {d : Dk} {p : Pg} {ch : List (Int × List UInt8)} {b : Nat → List UInt8}
set_option maxRecDepth 8000 in
set_option maxHeartbeats 16000000 in
theorem Try.xPages (off : Nat) (h : QX Q H A k did pid N logs ch b) : EffOK Try.prog 14 off H A [.c (.ptr pid 0)] (.c (.d (.sl (textsD (pgsL b ch (N - logs)))))) H A := by
  refine effr_ok (E := envOf Try.prog [24, 19] off [] []) (envOf_ok Try.mixed) Try.func14 rfl Try.call14 (by kernel_rfl) (by exact Nat.le_of_ble_eq_true rfl) (fun hab => ?_)
  obtain ⟨n1, n2, n3, n4, n5, n6, n7, n8, n9, hw, hab0, hd0, hp0, _⟩ := h.nums
  have ha : A (off + 22, 0) = none := (hab _ (Nat.le_add_right _ _)).2 _
  have hptr : ∀ {X Y : AMap}, PV.wk (hOver [] H) X Y (.c (.ptr pid 0)) (.c (.ptr pid 0)) = True := eq_true (wkP_ptr (by show H pid ≠ none; exact hp0))
  have kl := Try.xLen (off + 1000) h
  have kr := fun i hi => Try.xRead (off + 1000) h i hi
  have hok2 : ∀ {x : D}, ∀ y ∈ ([.c (.ptr pid 0), .c (.d x)] : List PV), y.oks (fun i => H i ≠ none) (fun τ => A τ ≠ none) := fun {x} y hy => by
    simp only [List.mem_cons, List.not_mem_nil, or_false] at hy
    rcases hy with rfl | rfl
    · exact hp0
    · exact True.intro
  generalize hM : N - logs = M at *
  repeat' (first
   |with_reducible first|refine vSq fun K hK=>?_|refine vRg ?_|refine vBl ?_|refine vSc ?_|refine vIf ?_|refine vSk ?_|refine vEx ?_|refine vRt ?_
   |(with_reducible first|refine gNt (fun h=>?_) (fun h=>?_)|refine gCs (fun h=>?_) (fun h=>?_))<;>(try simp only[h])
   |with_reducible first|(refine hK _ ?_;clear hK K)|(clear hK K;refine hK _ ?_;clear hK K)|(clear hK K;clear hK K;refine hK _ ?_;clear hK K)|(clear hK K;clear hK K;clear hK K;refine hK _ ?_;clear hK K)
   |(with_reducible refine todo ?_;simp +decide only[go_sem]))
  refine VC_range M (fun _ => True) (fun i => overA [(0, .c (.ptr pid 0)), (3, .c (.own (off + 22, 0) (textsD (pgsL b ch i)))), (4, pD (.lit (.int .i64 i)))] []
    [((off + 22, 0), .co 1 i)] H A) True.intro ?_ ?_
  · refine Weak_overA hw kp_refl (fun _ _ => rfl) (fun q hq => by rw [List.mem_singleton.1 hq]; exact ha) ?_ ?_ ?_ (fun _ h => h) (fun _ h => h)
    · simp +decide only [go_sem, hptr]
      exact wkP_new ha (sz := 1) (if_pos rfl)
    · simp +decide only [go_sem]
    · simp +decide only [go_sem, ha]
  · intro i hi _
    have hoth : ∀ κ, A κ ≠ none → κ ≠ (off + 22, 0) := fun κ hκ e => hκ (by rw [e]; exact ha)
    rcases Nat.lt_or_ge i M with hi2 | hi2
    · have hc := int_lt_true hi2
      have hnx := int_next hi2 (by omega)
      have kri := eff_frameA (κ := (off + 22, 0)) (ar := .co 1 i) (kr i hi2) hw hok2 ha ha
      have kli := eff_frameA (κ := (off + 22, 0)) (ar := .co 1 i) kl hw (oks_ptr1 hp0) ha ha
      have hab2 : Above (off + 1000) H (upd A (off + 22, 0) (some (.co 1 i))) := Above_updA (Above_mono hab (by omega)) (by show off + 22 < off + 1000; omega)
      have hil : (textsD (pgsL b ch i)).length = i := by rw [textsD_len, pgsL_len]
      have e := pgsL_next b ch i
      repeat' (first
       |with_reducible first|refine vSq fun K hK=>?_|refine vRg ?_|refine vBl ?_|refine vSc ?_|refine vIf ?_|refine vSk ?_|refine vEx ?_|refine vRt ?_
       |(with_reducible first|refine gNt (fun h=>?_) (fun h=>?_)|refine gCs (fun h=>?_) (fun h=>?_))<;>(try simp only[h])
       |refine C_call rfl kli rfl hab2 ?_
       |refine C_call rfl kri rfl hab2 ?_
       |(refine W_own Try.appT rfl (szd_texts _) (szOne rfl) (by rw [hil]; simp only [List.length_singleton]; omega) (by rw [hil]; exact if_pos rfl) ?_)
       |with_reducible first|(refine hK _ ?_;clear hK K)|(clear hK K;refine hK _ ?_;clear hK K)|(clear hK K;clear hK K;refine hK _ ?_;clear hK K)|(clear hK K;clear hK K;clear hK K;refine hK _ ?_;clear hK K)
       |(with_reducible refine todo ?_;simp +decide only[go_sem, hc, hnx]))
      refine Next_of hi2 True.intro (Weak_overA hw kp_nil (fun κ hκ => ?_) (fun q hq => by rw [List.mem_singleton.1 hq]; exact ha) ?_ ?_ ?_ (fun _ h => h) (fun _ h => h))
      · show upd _ _ _ κ = _
        rw [upd_other _ _ (hoth κ hκ)]
        exact if_neg (hoth κ hκ)
      · have e2 : textsD (pgsL b ch i ++ [ct b ch i]) = textsD (pgsL b ch i) ++ [[dS (ct b ch i)]] := textsD_app _ _
        simp +decide only [go_sem, hptr, e, e2]
        exact wkP_own (by rw [aOver_hd]; simp) (by rw [upd_same, hil]; exact aOver_hd)
      · simp +decide only [go_sem]
      · simp +decide only [go_sem, hil]
    · have hc := int_lt_false hi2
      have hie : i = M := by omega
      subst hie
      have kli := eff_frameA (κ := (off + 22, 0)) (ar := .co 1 i) kl hw (oks_ptr1 hp0) ha ha
      have hab2 : Above (off + 1000) H (upd A (off + 22, 0) (some (.co 1 i))) := Above_updA (Above_mono hab (by omega)) (by show off + 22 < off + 1000; omega)
      repeat' (first
       |with_reducible first|refine vSq fun K hK=>?_|refine vRg ?_|refine vBl ?_|refine vSc ?_|refine vIf ?_|refine vSk ?_|refine vEx ?_|refine vRt ?_
       |(with_reducible first|refine gNt (fun h=>?_) (fun h=>?_)|refine gCs (fun h=>?_) (fun h=>?_))<;>(try simp only[h])
       |refine C_call rfl kli rfl hab2 ?_
       |with_reducible first|(refine hK _ ?_;clear hK K)|(clear hK K;refine hK _ ?_;clear hK K)|(clear hK K;clear hK K;refine hK _ ?_;clear hK K)|(clear hK K;clear hK K;clear hK K;refine hK _ ?_;clear hK K)
       |(with_reducible refine todo ?_;simp +decide only[go_sem, hc]))
      exact RetR_same rfl (by simp +decide only [go_sem]) True.intro hw kp_nil (fun κ hκ => if_neg (fun e => hκ (by rw [e]; exact ha)))
set_option maxRecDepth 8000 in
set_option maxHeartbeats 8000000 in
theorem Try.kPgReadE (off : Nat) (hw : Wf H A) (hp : PgAt H A pid did lid κp p) (hd : DkAt H A did κm κc d) (hl : p.logs ≤ d.n) (hn : d.n ≤ 4096) (page : Int) (he : pgRight (pgN d p) page ≠ 0) :
    EffOK Try.prog 19 off H A [.c (.ptr pid 0), pD (.lit (.int .i64 page))] (.tup [.c (.d (dS [])), .c (.d (.lit (.int .i64 (pgRight (pgN d p) page))))]) H A := by
  refine effr_ok (E := envOf Try.prog [41, 2000000 + 43] off [] []) (envOf_ok Try.mixed) Try.func19 rfl Try.call19 (by kernel_rfl) (by exact Nat.le_of_ble_eq_true rfl) (fun hab => ?_)
  have kr := Try.kPgRight (off + 1000) hw hp hd hl hn page
  have z : (pgRight (pgN d p) page != 0) = true := by simpa using he
  repeat' (first
   |with_reducible first|refine vSq fun K hK=>?_|refine vRg ?_|refine vBl ?_|refine vSc ?_|refine vIf ?_|refine vSk ?_|refine vEx ?_|refine vRt ?_
   |(with_reducible first|refine gNt (fun h=>?_) (fun h=>?_)|refine gCs (fun h=>?_) (fun h=>?_))<;>(try simp only[h])
   |refine C_call rfl kr rfl (Above_mono hab (by omega)) ?_
   |with_reducible first|(refine hK _ ?_;clear hK K)|(clear hK K;refine hK _ ?_;clear hK K)|(clear hK K;clear hK K;refine hK _ ?_;clear hK K)|(clear hK K;clear hK K;clear hK K;refine hK _ ?_;clear hK K)
   |(with_reducible refine todo ?_;simp +decide only[go_sem, z]))
  exact RetR_same rfl wk_pair oks_pair hw kp_refl (fun _ _ => rfl)
theorem Try.xReadE (off : Nat) (h : QX Q H A k did pid N logs ch b) (page : Int) (he : pgRight (N - logs) page ≠ 0) : EffOK Try.prog 19 off H A [.c (.ptr pid 0), pD (.lit (.int .i64 page))] (.tup [.c (.d (dS [])), .c (.d (.lit (.int .i64 (pgRight (N - logs) page))))]) H A := by
  obtain ⟨lid, κm, κc, κr, κp, d, l, p, hx, rfl, hb, hq⟩ := h
  obtain ⟨n1, n2, n3, n4, n5, n6, n7, n8, _⟩ := hx.st.num
  rw [← n7] at he ⊢
  exact Try.kPgReadE off hx.lw.wf hx.pg hx.lw.dk (by rw [hx.st.p1]; omega) (by omega) page he
theorem firstF (s : List UInt8) (n : Nat) : (∀ i, i ≠ 0 → i < n → freeB s i = false) ∨ ∃ q, q ≠ 0 ∧ q < n ∧ freeB s q = true ∧ ∀ i, i ≠ 0 → i < q → freeB s i = false := by
  induction n with
  | zero => exact .inl fun i _ h => by omega
  | succ n ih =>
    rcases ih with ih | ⟨q, h1, h2, h3, h4⟩
    · by_cases h : n ≠ 0 ∧ freeB s n = true
      · exact .inr ⟨n, h.1, by omega, h.2, ih⟩
      · refine .inl fun i h1 h2 => ?_
        by_cases e : i = n
        · subst e
          cases hf : freeB s i with
          | false => rfl
          | true => exact (h ⟨h1, hf⟩).elim
        · exact ih i h1 (by omega)
    · exact .inr ⟨q, h1, by omega, h3, h4⟩
def Call3 (Q : Dk → Lg → Bool → Prop) (off : Nat) (P : Program) (f : FuncId) (H : HMap) (A : AMap) (args : List PV) (k did pid N logs : Nat) (b : Nat → List UInt8) : Prop :=
  ∃ (x y z : D) (ch' : List (Int × List UInt8)), QSO Q off P f H A args (.tup [.c (.d x), .c (.d y), .c (.d z)]) k did pid N logs ch' b
theorem eqf {a b : Int} (h : a ≠ b) : (a == b) = false := by simpa using h
set_option maxRecDepth 8000 in
set_option maxHeartbeats 32000000 in
theorem Try.xDo (off : Nat) (h : QX Q H A k did pid N logs ch b) (o : OpP) (hk : k + 4 ≤ off) (k3 : o.kind ≠ 3) :
    Call3 Q off Try.prog 7 H A [.c (.ptr pid 0), .agg (oPC o)] k did pid N logs b := by
  obtain ⟨n1, n2, n3, n4, n5, n6, n7, n8, n9, hw, hab0, hd0, hp0, lo, ks, hct⟩ := h.nums
  have n3 : H (off + 3) = none := (hab0 _ (by omega)).1
  have hw3 : Wf (upd H (off + 3) (some (oPC o))) A := Wf_upd hw rfl
  have fin : ∀ {f : FuncId} {args : List PV} {v : PV} {H' : HMap} {A' : AMap} {ch' : List (Int × List UInt8)}, EffOK Try.prog f (off + 1000) H A args v H' A' → QX Q H' A' k did pid N logs ch' b → (∀ x ∈ args, x.oks (fun i => H i ≠ none) (fun κ => A κ ≠ none)) →
      EffOK Try.prog f (off + 1000) (upd H (off + 3) (some (oPC o))) A args v (upd H' (off + 3) (some (oPC o))) A' ∧ H' (off + 3) = none ∧ Wf H' A' := fun e hx ha => by
    obtain ⟨_, _, _, _, _, _, _, _, _, hw', hab', _⟩ := hx.nums
    have n3' := (hab' (off + 3) (by omega)).1
    exact ⟨eff_frame e hw ha n3 n3', n3', hw'⟩
  have a1 : ∀ x ∈ ([.c (.ptr pid 0)] : List PV), x.oks (fun i => H i ≠ none) (fun κ => A κ ≠ none) := oks_ptr1 hp0
  have a2 : ∀ {y : D}, ∀ x ∈ ([.c (.ptr pid 0), .c (.d y)] : List PV), x.oks (fun i => H i ≠ none) (fun κ => A κ ≠ none) := fun {y} => oks_args (l := [y]) hp0
  have a3 : ∀ {y z : D}, ∀ x ∈ ([.c (.ptr pid 0), .c (.d y), .c (.d z)] : List PV), x.oks (fun i => H i ≠ none) (fun κ => A κ ≠ none) := fun {y z} => oks_args (l := [y, z]) hp0
  have ab3 : Above (off + 1000) (upd H (off + 3) (some (oPC o))) A := Above_updH (Above_mono hab0 (by omega)) (by omega)
  have run : ∀ (x y z : D) {H' : HMap} {A' : AMap} {ch' : List (Int × List UInt8)}, QX Q H' A' k did pid N logs ch' b → (∀ j, H j ≠ none → H' j ≠ none) → (∀ τ, A τ ≠ none → A' τ ≠ none) →
      EffOK Try.prog 7 off H A [.c (.ptr pid 0), .agg (oPC o)] (.tup [.c (.d x), .c (.d y), .c (.d z)]) H' A' → Call3 Q off Try.prog 7 H A [.c (.ptr pid 0), .agg (oPC o)] k did pid N logs b :=
    fun x y z {H'} {A'} {ch'} hx q4 q5 e => ⟨x, y, z, ch', H', A', e, hx, q4, q5⟩
  by_cases k0 : o.kind = 0
  · have p0 : (o.kind == 0) = true := by rw [k0]; rfl
    by_cases hE : pgWrE (N - logs) o.n o.s = 0
    · have hE2 := hE
      unfold pgWrE pgRight at hE2
      have hr : ¬ (o.n < 0 ∨ ((N - logs : Nat) : Int) ≤ o.n) := fun hc => by rw [if_pos hc, if_pos (by decide)] at hE2; cases hE2
      rw [if_neg hr, if_neg (by decide)] at hE2
      have hz : o.n ≠ 0 := fun hc => by rw [if_pos hc] at hE2; cases hE2
      rw [if_neg hz] at hE2
      have hs : ¬ 128 < o.s.length := fun hc => by rw [if_pos hc] at hE2; cases hE2
      obtain ⟨q, hq⟩ : ∃ q : Nat, o.n = (q : Int) := ⟨o.n.toNat, by omega⟩
      obtain ⟨HW, AW, e, hx, q4, q5⟩ := Try.xWrite (off + 1000) h q (by omega) (by omega) o.s (by omega)
      rw [← hq] at e
      obtain ⟨e', n3', hw'⟩ := fin e hx a3
      unfold oPC at e' ab3
      refine run (.lit (.int .i64 0)) (dS []) (.lit (.int .i64 0)) hx q4 q5 ?_
      refine effr_ok (E := envOf Try.prog [16, 15, 25, 9, 18, 19] off [] []) (envOf_ok Try.mixed) Try.func7 rfl Try.call7 (by kernel_rfl) (by exact Nat.le_of_ble_eq_true rfl) (fun hab => ?_)
      unfold oPC
      repeat' (first
       |with_reducible first|refine vSq fun K hK=>?_|refine vRg ?_|refine vBl ?_|refine vSc ?_|refine vIf ?_|refine vSk ?_|refine vEx ?_|refine vRt ?_
       |(with_reducible first|refine gNt (fun h=>?_) (fun h=>?_)|refine gCs (fun h=>?_) (fun h=>?_))<;>(try simp only[h])
       |refine And.intro n3 ?_
       |refine C_call rfl e' rfl ab3 ?_
       |with_reducible first|(refine hK _ ?_;clear hK K)|(clear hK K;refine hK _ ?_;clear hK K)|(clear hK K;clear hK K;refine hK _ ?_;clear hK K)|(clear hK K;clear hK K;clear hK K;refine hK _ ?_;clear hK K)
       |(with_reducible refine todo ?_;simp +decide only[go_sem, p0]))
      exact RetR_sub rfl wk_trip oks_trip hw' (fun j hj => upd_other _ _ fun e => hj (by rw [e]; exact n3')) (fun _ _ => rfl) q4 q5
    · have e := Try.xWriteE (off + 1000) h o.n o.s hE
      have hx := h
      have q4 : ∀ j, H j ≠ none → H j ≠ none := fun _ h => h
      have q5 : ∀ τ, A τ ≠ none → A τ ≠ none := fun _ h => h
      obtain ⟨e', n3', hw'⟩ := fin e hx a3
      unfold oPC at e' ab3
      refine run (.lit (.int .i64 0)) (dS []) (.lit (.int .i64 (pgWrE (N - logs) o.n o.s))) hx q4 q5 ?_
      refine effr_ok (E := envOf Try.prog [16, 15, 25, 9, 18, 19] off [] []) (envOf_ok Try.mixed) Try.func7 rfl Try.call7 (by kernel_rfl) (by exact Nat.le_of_ble_eq_true rfl) (fun hab => ?_)
      unfold oPC
      repeat' (first
       |with_reducible first|refine vSq fun K hK=>?_|refine vRg ?_|refine vBl ?_|refine vSc ?_|refine vIf ?_|refine vSk ?_|refine vEx ?_|refine vRt ?_
       |(with_reducible first|refine gNt (fun h=>?_) (fun h=>?_)|refine gCs (fun h=>?_) (fun h=>?_))<;>(try simp only[h])
       |refine And.intro n3 ?_
       |refine C_call rfl e' rfl ab3 ?_
       |with_reducible first|(refine hK _ ?_;clear hK K)|(clear hK K;refine hK _ ?_;clear hK K)|(clear hK K;clear hK K;refine hK _ ?_;clear hK K)|(clear hK K;clear hK K;clear hK K;refine hK _ ?_;clear hK K)
       |(with_reducible refine todo ?_;simp +decide only[go_sem, p0]))
      exact RetR_sub rfl wk_trip oks_trip hw' (fun j hj => upd_other _ _ fun e => hj (by rw [e]; exact n3')) (fun _ _ => rfl) q4 q5
  · have p0 : (o.kind == 0) = false := eqf k0
    by_cases k1 : o.kind = 1
    · have p1 : (o.kind == 1) = true := by rw [k1]; rfl
      rcases firstF (ct b ch 0) (N - logs) with hno | ⟨q, c1, c2, c3, c4⟩
      · have e := Try.xAllocN (off + 1000) h hno
        have hx := h
        have q4 : ∀ j, H j ≠ none → H j ≠ none := fun _ h => h
        have q5 : ∀ τ, A τ ≠ none → A τ ≠ none := fun _ h => h
        obtain ⟨e', n3', hw'⟩ := fin e hx a1
        unfold oPC at e' ab3
        refine run (.lit (.int .i64 0)) (dS []) (.lit (.int .i64 3)) hx q4 q5 ?_
        refine effr_ok (E := envOf Try.prog [16, 15, 25, 9, 18, 19] off [] []) (envOf_ok Try.mixed) Try.func7 rfl Try.call7 (by kernel_rfl) (by exact Nat.le_of_ble_eq_true rfl) (fun hab => ?_)
        unfold oPC
        repeat' (first
         |with_reducible first|refine vSq fun K hK=>?_|refine vRg ?_|refine vBl ?_|refine vSc ?_|refine vIf ?_|refine vSk ?_|refine vEx ?_|refine vRt ?_
         |(with_reducible first|refine gNt (fun h=>?_) (fun h=>?_)|refine gCs (fun h=>?_) (fun h=>?_))<;>(try simp only[h])
         |refine And.intro n3 ?_
         |refine C_call rfl e' rfl ab3 ?_
         |with_reducible first|(refine hK _ ?_;clear hK K)|(clear hK K;refine hK _ ?_;clear hK K)|(clear hK K;clear hK K;refine hK _ ?_;clear hK K)|(clear hK K;clear hK K;clear hK K;refine hK _ ?_;clear hK K)
         |(with_reducible refine todo ?_;simp +decide only[go_sem, p0, p1]))
        exact RetR_sub rfl wk_trip oks_trip hw' (fun j hj => upd_other _ _ fun e => hj (by rw [e]; exact n3')) (fun _ _ => rfl) q4 q5
      · obtain ⟨HW, AW, e, hx, q4, q5⟩ := Try.xAlloc (off + 1000) h q c1 c2 c3 c4
        obtain ⟨e', n3', hw'⟩ := fin e hx a1
        unfold oPC at e' ab3
        refine run (.lit (.int .i64 q)) (dS []) (.lit (.int .i64 0)) hx q4 q5 ?_
        refine effr_ok (E := envOf Try.prog [16, 15, 25, 9, 18, 19] off [] []) (envOf_ok Try.mixed) Try.func7 rfl Try.call7 (by kernel_rfl) (by exact Nat.le_of_ble_eq_true rfl) (fun hab => ?_)
        unfold oPC
        repeat' (first
         |with_reducible first|refine vSq fun K hK=>?_|refine vRg ?_|refine vBl ?_|refine vSc ?_|refine vIf ?_|refine vSk ?_|refine vEx ?_|refine vRt ?_
         |(with_reducible first|refine gNt (fun h=>?_) (fun h=>?_)|refine gCs (fun h=>?_) (fun h=>?_))<;>(try simp only[h])
         |refine And.intro n3 ?_
         |refine C_call rfl e' rfl ab3 ?_
         |with_reducible first|(refine hK _ ?_;clear hK K)|(clear hK K;refine hK _ ?_;clear hK K)|(clear hK K;clear hK K;refine hK _ ?_;clear hK K)|(clear hK K;clear hK K;clear hK K;refine hK _ ?_;clear hK K)
         |(with_reducible refine todo ?_;simp +decide only[go_sem, p0, p1]))
        exact RetR_sub rfl wk_trip oks_trip hw' (fun j hj => upd_other _ _ fun e => hj (by rw [e]; exact n3')) (fun _ _ => rfl) q4 q5
    · have p1 : (o.kind == 1) = false := eqf k1
      by_cases k2 : o.kind = 2
      · have p2 : (o.kind == 2) = true := by rw [k2]; rfl
        by_cases hE : pgFrE (N - logs) (ct b ch 0) o.n = 0
        · have hE2 := hE
          unfold pgFrE pgRight at hE2
          have hr : ¬ (o.n < 0 ∨ ((N - logs : Nat) : Int) ≤ o.n) := fun hc => by rw [if_pos hc, if_pos (by decide)] at hE2; cases hE2
          rw [if_neg hr, if_neg (by decide)] at hE2
          have hz : o.n ≠ 0 := fun hc => by rw [if_pos hc] at hE2; cases hE2
          rw [if_neg hz] at hE2
          obtain ⟨q, hq⟩ : ∃ q : Nat, o.n = (q : Int) := ⟨o.n.toNat, by omega⟩
          have hs : freeB (ct b ch 0) q = false := by
            cases hf : freeB (ct b ch 0) q with
            | false => rfl
            | true => rw [hq, Int.toNat_natCast, if_pos hf] at hE2; cases hE2
          obtain ⟨HW, AW, e, hx, q4, q5⟩ := Try.xFree (off + 1000) h q (by omega) (by omega) hs
          rw [← hq] at e
          obtain ⟨e', n3', hw'⟩ := fin e hx a2
          unfold oPC at e' ab3
          refine run (.lit (.int .i64 0)) (dS []) (.lit (.int .i64 0)) hx q4 q5 ?_
          refine effr_ok (E := envOf Try.prog [16, 15, 25, 9, 18, 19] off [] []) (envOf_ok Try.mixed) Try.func7 rfl Try.call7 (by kernel_rfl) (by exact Nat.le_of_ble_eq_true rfl) (fun hab => ?_)
          unfold oPC
          repeat' (first
           |with_reducible first|refine vSq fun K hK=>?_|refine vRg ?_|refine vBl ?_|refine vSc ?_|refine vIf ?_|refine vSk ?_|refine vEx ?_|refine vRt ?_
           |(with_reducible first|refine gNt (fun h=>?_) (fun h=>?_)|refine gCs (fun h=>?_) (fun h=>?_))<;>(try simp only[h])
           |refine And.intro n3 ?_
           |refine C_call rfl e' rfl ab3 ?_
           |with_reducible first|(refine hK _ ?_;clear hK K)|(clear hK K;refine hK _ ?_;clear hK K)|(clear hK K;clear hK K;refine hK _ ?_;clear hK K)|(clear hK K;clear hK K;clear hK K;refine hK _ ?_;clear hK K)
           |(with_reducible refine todo ?_;simp +decide only[go_sem, p0, p1, p2]))
          exact RetR_sub rfl wk_trip oks_trip hw' (fun j hj => upd_other _ _ fun e => hj (by rw [e]; exact n3')) (fun _ _ => rfl) q4 q5
        · have e := Try.xFreeE (off + 1000) h o.n hE
          have hx := h
          have q4 : ∀ j, H j ≠ none → H j ≠ none := fun _ h => h
          have q5 : ∀ τ, A τ ≠ none → A τ ≠ none := fun _ h => h
          obtain ⟨e', n3', hw'⟩ := fin e hx a2
          unfold oPC at e' ab3
          refine run (.lit (.int .i64 0)) (dS []) (.lit (.int .i64 (pgFrE (N - logs) (ct b ch 0) o.n))) hx q4 q5 ?_
          refine effr_ok (E := envOf Try.prog [16, 15, 25, 9, 18, 19] off [] []) (envOf_ok Try.mixed) Try.func7 rfl Try.call7 (by kernel_rfl) (by exact Nat.le_of_ble_eq_true rfl) (fun hab => ?_)
          unfold oPC
          repeat' (first
           |with_reducible first|refine vSq fun K hK=>?_|refine vRg ?_|refine vBl ?_|refine vSc ?_|refine vIf ?_|refine vSk ?_|refine vEx ?_|refine vRt ?_
           |(with_reducible first|refine gNt (fun h=>?_) (fun h=>?_)|refine gCs (fun h=>?_) (fun h=>?_))<;>(try simp only[h])
           |refine And.intro n3 ?_
           |refine C_call rfl e' rfl ab3 ?_
           |with_reducible first|(refine hK _ ?_;clear hK K)|(clear hK K;refine hK _ ?_;clear hK K)|(clear hK K;clear hK K;refine hK _ ?_;clear hK K)|(clear hK K;clear hK K;clear hK K;refine hK _ ?_;clear hK K)
           |(with_reducible refine todo ?_;simp +decide only[go_sem, p0, p1, p2]))
          exact RetR_sub rfl wk_trip oks_trip hw' (fun j hj => upd_other _ _ fun e => hj (by rw [e]; exact n3')) (fun _ _ => rfl) q4 q5
      · have p2 : (o.kind == 2) = false := eqf k2
        have p3 : (o.kind == 3) = false := eqf k3
        by_cases k4 : o.kind = 4
        · have p4 : (o.kind == 4) = true := by rw [k4]; rfl
          obtain ⟨HW, AW, e, hx, q4, q5⟩ := Try.xAbort (off + 1000) h
          obtain ⟨e', n3', hw'⟩ := fin e hx a1
          unfold oPC at e' ab3
          refine run (.lit (.int .i64 0)) (dS []) (.lit (.int .i64 0)) hx q4 q5 ?_
          refine effr_ok (E := envOf Try.prog [16, 15, 25, 9, 18, 19] off [] []) (envOf_ok Try.mixed) Try.func7 rfl Try.call7 (by kernel_rfl) (by exact Nat.le_of_ble_eq_true rfl) (fun hab => ?_)
          unfold oPC
          repeat' (first
           |with_reducible first|refine vSq fun K hK=>?_|refine vRg ?_|refine vBl ?_|refine vSc ?_|refine vIf ?_|refine vSk ?_|refine vEx ?_|refine vRt ?_
           |(with_reducible first|refine gNt (fun h=>?_) (fun h=>?_)|refine gCs (fun h=>?_) (fun h=>?_))<;>(try simp only[h])
           |refine And.intro n3 ?_
           |refine C_call rfl e' rfl ab3 ?_
           |with_reducible first|(refine hK _ ?_;clear hK K)|(clear hK K;refine hK _ ?_;clear hK K)|(clear hK K;clear hK K;refine hK _ ?_;clear hK K)|(clear hK K;clear hK K;clear hK K;refine hK _ ?_;clear hK K)
           |(with_reducible refine todo ?_;simp +decide only[go_sem, p0, p1, p2, p3, p4]))
          exact RetR_sub rfl wk_trip oks_trip hw' (fun j hj => upd_other _ _ fun e => hj (by rw [e]; exact n3')) (fun _ _ => rfl) q4 q5
        · have p4 : (o.kind == 4) = false := eqf k4
          by_cases hE : pgRight (N - logs) o.n = 0
          · have hr : ¬ (o.n < 0 ∨ ((N - logs : Nat) : Int) ≤ o.n) := fun hc => by unfold pgRight at hE; rw [if_pos hc] at hE; cases hE
            obtain ⟨q, hq⟩ : ∃ q : Nat, o.n = (q : Int) := ⟨o.n.toNat, by omega⟩
            have e := Try.xRead (off + 1000) h q (by omega)
            rw [← hq] at e
            have hx := h
            have q4 : ∀ j, H j ≠ none → H j ≠ none := fun _ h => h
            have q5 : ∀ τ, A τ ≠ none → A τ ≠ none := fun _ h => h
            obtain ⟨e', n3', hw'⟩ := fin e hx a2
            unfold oPC at e' ab3
            refine run (.lit (.int .i64 0)) (dS (ct b ch q)) (.lit (.int .i64 0)) hx q4 q5 ?_
            refine effr_ok (E := envOf Try.prog [16, 15, 25, 9, 18, 19] off [] []) (envOf_ok Try.mixed) Try.func7 rfl Try.call7 (by kernel_rfl) (by exact Nat.le_of_ble_eq_true rfl) (fun hab => ?_)
            unfold oPC
            repeat' (first
             |with_reducible first|refine vSq fun K hK=>?_|refine vRg ?_|refine vBl ?_|refine vSc ?_|refine vIf ?_|refine vSk ?_|refine vEx ?_|refine vRt ?_
             |(with_reducible first|refine gNt (fun h=>?_) (fun h=>?_)|refine gCs (fun h=>?_) (fun h=>?_))<;>(try simp only[h])
             |refine And.intro n3 ?_
             |refine C_call rfl e' rfl ab3 ?_
             |with_reducible first|(refine hK _ ?_;clear hK K)|(clear hK K;refine hK _ ?_;clear hK K)|(clear hK K;clear hK K;refine hK _ ?_;clear hK K)|(clear hK K;clear hK K;clear hK K;refine hK _ ?_;clear hK K)
             |(with_reducible refine todo ?_;simp +decide only[go_sem, p0, p1, p2, p3, p4]))
            exact RetR_sub rfl wk_trip oks_trip hw' (fun j hj => upd_other _ _ fun e => hj (by rw [e]; exact n3')) (fun _ _ => rfl) q4 q5
          · have e := Try.xReadE (off + 1000) h o.n hE
            have hx := h
            have q4 : ∀ j, H j ≠ none → H j ≠ none := fun _ h => h
            have q5 : ∀ τ, A τ ≠ none → A τ ≠ none := fun _ h => h
            obtain ⟨e', n3', hw'⟩ := fin e hx a2
            unfold oPC at e' ab3
            refine run (.lit (.int .i64 0)) (dS []) (.lit (.int .i64 (pgRight (N - logs) o.n))) hx q4 q5 ?_
            refine effr_ok (E := envOf Try.prog [16, 15, 25, 9, 18, 19] off [] []) (envOf_ok Try.mixed) Try.func7 rfl Try.call7 (by kernel_rfl) (by exact Nat.le_of_ble_eq_true rfl) (fun hab => ?_)
            unfold oPC
            repeat' (first
             |with_reducible first|refine vSq fun K hK=>?_|refine vRg ?_|refine vBl ?_|refine vSc ?_|refine vIf ?_|refine vSk ?_|refine vEx ?_|refine vRt ?_
             |(with_reducible first|refine gNt (fun h=>?_) (fun h=>?_)|refine gCs (fun h=>?_) (fun h=>?_))<;>(try simp only[h])
             |refine And.intro n3 ?_
             |refine C_call rfl e' rfl ab3 ?_
             |with_reducible first|(refine hK _ ?_;clear hK K)|(clear hK K;refine hK _ ?_;clear hK K)|(clear hK K;clear hK K;refine hK _ ?_;clear hK K)|(clear hK K;clear hK K;clear hK K;refine hK _ ?_;clear hK K)
             |(with_reducible refine todo ?_;simp +decide only[go_sem, p0, p1, p2, p3, p4]))
            exact RetR_sub rfl wk_trip oks_trip hw' (fun j hj => upd_other _ _ fun e => hj (by rw [e]; exact n3')) (fun _ _ => rfl) q4 q5
end px
end Go.Proofs

namespace Go.Proofs
open Go.PW
theorem Try.appB : AppT Try.prog 24 4 1 1 := ⟨Try.underlying24, Try.cl4, Try.by4, Try.zo4, by decide, by decide⟩
theorem szd_bools (l : List Bool) : Szd 1 (bools l) := fun e he => by obtain ⟨w, _, rfl⟩ := List.mem_map.1 he; rfl
theorem bools_len (l : List Bool) : (bools l).length = l.length := by simp [bools]
theorem bools_take (l : List Bool) (n : Nat) : (bools l).take (n - 0) = bools (l.take n) := by rw [Nat.sub_zero]; exact (List.map_take).symm
section px
variable {Q Q' : Dk → Lg → Bool → Prop} {H : HMap} {A : AMap} {k k' did pid : Nat} {N logs M : Nat} {ch ch' : List (Int × List UInt8)} {b b' : Nat → List UInt8}
theorem QX.wf (h : QX Q H A k did pid N logs ch b) : Wf H A ∧ (∀ j, j < 200 → ∀ q, A (j, q) = none) ∧ H did ≠ none ∧ H pid ≠ none := by
  obtain ⟨_, _, _, _, _, _, _, _, _, hw, _, h1, h2, lo, _⟩ := h.nums
  exact ⟨hw, fun j hj => (lo j hj).2, h1, h2⟩
theorem QX.ab (h : QX Q H A k did pid N logs ch b) (hk : k ≤ 1000) : Above (0 + 1000) H A := by
  obtain ⟨_, _, _, _, _, _, _, _, _, _, hab, _⟩ := h.nums
  exact Above_mono hab (by omega)
theorem QX.fit (h : QX Q H A k did pid 60 40 ch b) : needN (recK ch (60 - 40)).length ≤ 40 - 2 := by
  obtain ⟨_, _, _, _, _, _, _, _, _, _, _, _, _, _, ks, _⟩ := h.nums
  have hle := ks.le
  have hr := recK_le (by omega) ks.find 20 (by omega)
  show needN (recK ch 20).length ≤ 38
  unfold needN
  omega
end px
structure ASt where
  i : Nat
  k : Nat
  M : Nat
  H : HMap
  A : AMap
  ch : List (Int × List UInt8)
  b : Nat → List UInt8
structure AV (pid : Nat) (y : ASt) : Prop where
  px : QX (LV 40 60 y.M False) y.H y.A y.k 200 pid 60 40 y.ch y.b
  k : y.k ≤ 214 + 3 * y.i
  m : y.M ≤ 2 + y.i
  i : y.i ≤ 30
structure BSt where
  i : Nat
  H : HMap
  A : AMap
  ch : List (Int × List UInt8)
  L : List Bool
structure BV (k M pid : Nat) (b : Nat → List UInt8) (y : BSt) : Prop where
  px : QX (LV 40 60 M False) y.H y.A k 200 pid 60 40 y.ch b
  l : y.L.length ≤ 20 * y.i
  i : y.i ≤ 30
end Go.Proofs

namespace Go.PW
def layH (H L : HMap) : HMap := fun i => match L i with
  | some c => some c
  | none => H i
def layA (A M : AMap) : AMap := fun κ => match M κ with
  | some c => some c
  | none => A κ
theorem layH_l {H L : HMap} {i : Nat} {c : List CV} (h : L i = some c) : layH H L i = some c := by unfold layH; rw [h]
theorem layH_h {H L : HMap} {i : Nat} (h : L i = none) : layH H L i = H i := by unfold layH; rw [h]
theorem layA_l {A M : AMap} {κ : Tok} {c : Arr} (h : M κ = some c) : layA A M κ = some c := by unfold layA; rw [h]
theorem layA_h {A M : AMap} {κ : Tok} (h : M κ = none) : layA A M κ = A κ := by unfold layA; rw [h]
theorem layH_upd (H L : HMap) (i : Nat) (c : List CV) : upd (layH H L) i (some c) = layH H (upd L i (some c)) := by
  funext j
  by_cases e : j = i
  · subst e
    rw [upd_same]
    unfold layH
    rw [upd_same]
  · rw [upd_other _ _ e]
    unfold layH
    rw [upd_other _ _ e]
theorem layA_keep {A M : AMap} {κ : Tok} (h : A κ ≠ none) : layA A M κ ≠ none := by
  unfold layA
  split
  · simp
  · exact h
theorem eff_over {P : Program} {H H' : HMap} {A A' : AMap} {f : FuncId} {n : Nat} {args : List PV} {v : PV} (h : EffOK P f n H A args v H' A') (hw : Wf H A) (hargs : ∀ (tk : Tok → Prop), ∀ x ∈ args, x.oks (fun i => H i ≠ none) tk) {L : HMap} {M : AMap} (hL : ∀ i, L i ≠ none → H i = none ∧ H' i = none) (hM : ∀ κ, M κ ≠ none → A κ = none ∧ A' κ = none) :
    EffOK P f n (layH H L) (layA A M) args v (layH H' L) (layA A' M) := by
  have h1 : EffOK P f n H (layA A M) args v H' (layA A' M) := by
    refine eff_extA h hw (hargs _) (fun i hi => layA_h ?_) (fun i hi h2 => ?_) (fun i hi => ?_)
    · cases hl : M i with
      | none => rfl
      | some c => exact (hi (hM i (by rw [hl]; simp)).1).elim
    · cases hl : M i with
      | none => rw [layA_h hl] at h2; exact (h2 hi).elim
      | some c => exact ⟨by rw [layA_l hl, layA_l hl], (hM i (by rw [hl]; simp)).2⟩
    · have hl : M i = none := by
        cases hl : M i with
        | none => rfl
        | some c =>
          rcases hi with hi | hi
          · exact (hi (hM i (by rw [hl]; simp)).1).elim
          · rw [layA_l hl] at hi; cases hi
      rw [layA_h hl]
  refine eff_ext h1 (fun i cs c hi hc => ok_mono (fun _ h => h) (fun κ hκ => ?_) (hw i cs c hi hc)) (hargs _) (fun i hi => layH_h ?_) (fun i hi h2 => ?_) (fun i hi => ?_)
  · exact layA_keep hκ
  · cases hl : L i with
    | none => rfl
    | some c => exact (hi (hL i (by rw [hl]; simp)).1).elim
  · cases hl : L i with
    | none => rw [layH_h hl] at h2; exact (h2 hi).elim
    | some c => exact ⟨by rw [layH_l hl, layH_l hl], (hL i (by rw [hl]; simp)).2⟩
  · have hl : L i = none := by
      cases hl : L i with
      | none => rfl
      | some c =>
        rcases hi with hi | hi
        · exact (hi (hL i (by rw [hl]; simp)).1).elim
        · rw [layH_l hl] at hi; cases hi
    rw [layH_h hl]
end Go.PW
