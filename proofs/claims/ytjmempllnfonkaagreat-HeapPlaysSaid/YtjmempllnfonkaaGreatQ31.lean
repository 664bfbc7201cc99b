/-
  Parts of the proof, laid together: PwKi, PwKl, PwKj, PwKm, PwKp.
-/
import Derived.Test.YtjmempllnfonkaaGreatQ30
import Derived.Test.YtjmempllnfonkaaGreatQ28

namespace Go.Proofs
open Go.PW
theorem putG_id {gs : List (List UInt8)} (h : GOK gs) (s : List UInt8) : (putG gs s).1 < 65536 := by
  unfold putG
  by_cases h1 : 100000 < s.length
  · rw [if_pos h1]; exact Nat.zero_lt_succ _
  · rw [if_neg h1]
    by_cases h2 : frG gs < need s.length
    · rw [if_pos h2]; exact Nat.zero_lt_succ _
    · rw [if_neg h2]
      obtain ⟨ht, hn⟩ := allocsG_took h (k := need s.length) (by omega)
      have hb := h.big
      have n3 := (need_ge s.length).2.2
      show (allocsG gs (need s.length)).1.getD 0 0 < 65536
      have hm : (allocsG gs (need s.length)).1.getD 0 0 ∈ (allocsG gs (need s.length)).1 := by
        rw [List.getD_eq_getElem?_getD, List.getElem?_eq_getElem (by omega)]
        exact List.getElem_mem _
      have := (ht.all _ hm).1
      omega
section hy
variable {H : HMap} {A : AMap} {k did pid hid N logs T m : Nat} {gs : List (List UInt8)}
set_option maxRecDepth 8000 in
set_option maxHeartbeats 16000000 in
theorem Tryz.hSetRoot (off : Nat) (h : HY H A k did pid hid N logs T m gs) (hko : hid < off) (s : List UInt8) :
    HSO off Tryz.prog 44 H A [.c (.ptr hid 0), pD (dS s)] (pD (.lit (.int .i64 (setRootG gs s).1))) k did pid hid N logs T (m + 3 * need s.length + ((rowG (putG gs s).2.2 ((rootG (putG gs s).2.2 : Nat) : Int)).1.length + 1)) (setRootG gs s).2 := by
  obtain ⟨hw, hab0, hh, hp, hg, hl, hk, hpk, hne⟩ := h.nums
  have hab := Above_mono hab0 (show hid + 1 ≤ off by omega)
  obtain ⟨H1, A1, e1, h1, kh1, ka1⟩ := Tryz.hPut (off + 1000) h (by omega) s
  have hid1 := putG_id hg s
  unfold setRootG
  generalize putG gs s = R at *
  obtain ⟨id, er, g1⟩ := R
  unfold putV at e1
  simp only at e1 h1 hid1 ⊢
  obtain ⟨hw1, hab1, hh1, hp1, hg1, hl1, _, _, hne1⟩ := h1.nums
  by_cases h0 : er = 0
  · rw [if_neg (by rw [h0]; simp)]
    subst h0
    have e2 := Tryz.hRootId (off + 1000) h1
    obtain ⟨H2, A2, e3, h2, kh2, ka2⟩ := Tryz.hDrop (off + 1000) h1 (by omega) ((rootG g1 : Nat) : Int)
    obtain ⟨hw2, hab2, hh2, hp2, hg2, hl2, _, _, hne2⟩ := h2.nums
    have h2l := hg2.two
    obtain ⟨H3, A3, e4, h3, kh3, ka3⟩ := Tryz.hWrite (off + 1000) h2 1 (by omega) (by omega) (82 :: two id) (by show 3 ≤ 128; omega)
    obtain ⟨hw3, _⟩ := h3.nums
    have e5 := Tryz.kTwo id hid1
    have hone : [[D.lit (.int .u8 82)]] = bytesEls [82] := rfl
    have hl3 : (two id).length = 2 := rfl
    refine ⟨H3, A3, ?_, h3.mono (by omega), fun j hj => kh3 j (kh2 j (kh1 j hj)), fun τ hτ => ka3 τ (ka2 τ (ka1 τ hτ))⟩
    refine effr_ok (E := envOf Tryz.prog [41, 77, 46, 10] off [] []) (envOf_ok Tryz.mixed) Tryz.func44 rfl Tryz.call44 (by kernel_rfl) (by exact Nat.le_of_ble_eq_true rfl) (fun _ => ?_)
    generalize two id = tw at *
    have o27 : ∀ q, A2 (off + 27, q) = none := fun q => (hab2 _ (by omega)).2 q
    have s1 : (1 + tw.length ≤ 9223372036854775807) = True := eq_true (by omega)
    repeat' (first
     |with_reducible first|refine vSq fun K hK=>?_|refine vRg ?_|refine vBl ?_|refine vSc ?_|refine vIf ?_|refine vSk ?_|refine vEx ?_|refine vRt ?_
     |(with_reducible first|refine gNt (fun h=>?_) (fun h=>?_)|refine gCs (fun h=>?_) (fun h=>?_))<;>(try simp only[h])
     |refine C_call rfl e1 rfl (Above_mono hab (by omega)) ?_
     |refine C_call rfl e2 rfl (Above_mono hab1 (by omega)) ?_
     |refine C_call rfl e3 rfl (Above_mono hab1 (by omega)) ?_
     |refine C_pure e5 rfl rfl o27 ?_
     |refine C_call rfl e4 rfl (Above_mono hab2 (by omega)) ?_
     |with_reducible first|(refine hK _ ?_;clear hK K)|(clear hK K;refine hK _ ?_;clear hK K)|(clear hK K;clear hK K;refine hK _ ?_;clear hK K)|(clear hK K;clear hK K;clear hK K;refine hK _ ?_;clear hK K)
     |(with_reducible refine todo ?_;simp +decide only[go_sem, hh2, hone, zne, s1]))
    exact RetR_sub rfl (by simp +decide only [go_sem]) True.intro hw3 kp_refl (fun _ _ => rfl) (fun j hj => kh3 j (kh2 j (kh1 j hj))) (fun τ hτ => ka3 τ (ka2 τ (ka1 τ hτ)))
  · rw [if_pos h0]
    refine ⟨H1, A1, ?_, h1.mono (by omega), kh1, ka1⟩
    refine effr_ok (E := envOf Tryz.prog [41, 77, 46, 10] off [] []) (envOf_ok Tryz.mixed) Tryz.func44 rfl Tryz.call44 (by kernel_rfl) (by exact Nat.le_of_ble_eq_true rfl) (fun _ => ?_)
    have z : (er != 0) = true := by simpa using h0
    repeat' (first
     |with_reducible first|refine vSq fun K hK=>?_|refine vRg ?_|refine vBl ?_|refine vSc ?_|refine vIf ?_|refine vSk ?_|refine vEx ?_|refine vRt ?_
     |(with_reducible first|refine gNt (fun h=>?_) (fun h=>?_)|refine gCs (fun h=>?_) (fun h=>?_))<;>(try simp only[h])
     |refine C_call rfl e1 rfl (Above_mono hab (by omega)) ?_
     |with_reducible first|(refine hK _ ?_;clear hK K)|(clear hK K;refine hK _ ?_;clear hK K)|(clear hK K;clear hK K;refine hK _ ?_;clear hK K)|(clear hK K;clear hK K;clear hK K;refine hK _ ?_;clear hK K)
     |(with_reducible refine todo ?_;simp +decide only[go_sem, z]))
    exact RetR_sub rfl (by simp +decide only [go_sem]) True.intro hw1 kp_refl (fun _ _ => rfl) kh1 ka1
def openG (gs : List (List UInt8)) : List (List UInt8) := if isFG gs 1 = true then (allocG gs 1).set 1 (pad [82]) else gs
set_option maxRecDepth 8000 in
set_option maxHeartbeats 16000000 in
theorem Tryz.hOpen (off : Nat) (h : PY H A k did pid N logs T m gs) (h2 : 2 ≤ gs.length) (hid : Nat) (hk : k ≤ hid) (hko : hid < off) (hr : (pgAt (openG gs) 1).getD 0 0 = 82) :
    ∃ H' A', EffOK Tryz.prog 12 off H A [.c (.ptr pid 0)] (.tup [.c (.ptr hid 0), .c (.d (.lit (.int .i64 0)))]) H' A' ∧ HY H' A' k did pid hid N logs T (m + 3) (openG gs) ∧ (∀ j, H j ≠ none → H' j ≠ none) ∧ ∀ τ, A τ ≠ none → A' τ ≠ none := by
  obtain ⟨hw, hab, hp, hb, hl, hg, lo, hpk, _⟩ := h.nums
  have hg := hg h2
  have obj : ∀ {X : HMap} {Y : AMap} {m' : Nat} {g : List (List UInt8)} {S : St}, PY X Y k did pid N logs T m' g → (∀ j, H j ≠ none → X j ≠ none) → (∀ τ, A τ ≠ none → Y τ ≠ none) → S.H = upd X (off + 27) (some [.ptr pid 0]) → S.A = Y →
      resPVs Tryz.prog S (Tryz.f12).results.toList = some (.tup [.c (.ptr (off + 27) 0), .c (.d (.lit (.int .i64 0)))]) → RetR Tryz.prog Tryz.f12 H A (.tup [.c (.ptr hid 0), .c (.d (.lit (.int .i64 0)))]) (upd X hid (some [.ptr pid 0])) Y S := fun {X} {Y} {m'} {g} {S} hx kh ka y1 y2 y3 => by
    obtain ⟨hwX, habX, hpX, _⟩ := hx.nums
    have n1 : X hid = none := (habX _ hk).1
    have n2 : X (off + 27) = none := (habX _ (by omega)).1
    have him : [CV.ptr pid 0].map (CV.im (swp hid (off + 27)) (fun τ => τ)) = [CV.ptr pid 0] := by
      show [CV.ptr (swp hid (off + 27) pid) 0] = _
      rw [show swp hid (off + 27) pid = pid from if_neg (by omega)]
    have hcok : ∀ {i : Nat} {Z : AMap}, ∀ c ∈ [CV.ptr pid 0], c.ok (fun j => upd X i (some [CV.ptr pid 0]) j ≠ none) (fun κ => Z κ ≠ none) := fun {i} {Z} c hc => by
      rw [List.mem_singleton.1 hc]
      exact upd_keepH _ hpX
    refine RetR_obj (H1 := X) (A1 := Y) (A'' := Y) (i' := off + 27) (h := fun τ => τ) (ds := [.ptr pid 0]) y3 ?_ (oks_pairP (by rw [upd_same]; simp)) hwX kh ka n1 n2 hcok ?_ (by rw [y1]; exact upd_same _ _ _) ?_ (fun κ h => ⟨rfl, h⟩) (fun κ ar h => h) (fun i j _ _ h => h) (fun τ => .inr (.inl (by rw [y2])))
    · show PV.wk _ _ _ (.tup [.c (.ptr (swp hid (off + 27) hid) 0), _]) _
      rw [show swp hid (off + 27) hid = off + 27 from if_pos rfl]
      exact wk_pairP (by rw [upd_same]; simp)
    · intro i es hi
      have hne : i ≠ off + 27 := fun e => by rw [e, n2] at hi; cases hi
      refine ⟨es, by rw [y1, upd_other _ _ hne]; exact hi, wkC_same fun c hc => ok_mono upd_keepH (fun τ h => ⟨h, by rw [y2]⟩) (hwX i es c hi hc)⟩
    · rw [him]
      exact wkC_same (fun c hc => ok_mono (fun _ h => h) (fun τ h => ⟨h, by rw [y2]⟩) (hcok (Z := Y) c hc))
  have fin : ∀ {X : HMap} {Y : AMap} {m' : Nat} {g : List (List UInt8)}, PY X Y k did pid N logs T m' g → 2 ≤ g.length → m' ≤ m + 3 → HY (upd X hid (some [.ptr pid 0])) Y k did pid hid N logs T (m + 3) g := fun {X} {Y} {m'} {g} hx hl2 hm => ⟨X, hx.mono hm, hk, hl2, rfl⟩
  have kl := Tryz.yLen (off + 1000) h
  have ki := Tryz.yIsFree (off + 1000) h 1 (by omega)
  have abo := Above_mono hab (show k ≤ off + 1000 by omega)
  have c1 : ((gs.length : Int) < 2) = False := eq_false (by omega)
  have gi : ∀ {g : List UInt8}, g.length = 128 → g.getD 0 0 = 82 → g[0]? = some 82 := fun {g} h1 h2 => by
    rw [List.getD_eq_getElem?_getD, List.getElem?_eq_getElem (by omega)] at h2
    rw [List.getElem?_eq_getElem (by omega)]
    exact congrArg some h2
  have n27 : ∀ {X : HMap} {Y : AMap} {m' : Nat} {g : List (List UInt8)}, PY X Y k did pid N logs T m' g → X (off + 27) = none := fun hx => by
    obtain ⟨_, habX, _⟩ := hx.nums
    exact (habX _ (by omega)).1
  have kH : ∀ {X : HMap} {Y : AMap}, (∀ j, H j ≠ none → X j ≠ none) → ∀ j, H j ≠ none → upd X hid (some [.ptr pid 0]) j ≠ none := fun hx j hj => by
    by_cases e : j = hid
    · subst e; rw [upd_same]; simp
    · rw [upd_other _ _ e]; exact hx j hj
  unfold openG at hr ⊢
  by_cases hf : isFG gs 1 = true
  · rw [if_pos hf] at hr ⊢
    rw [hf] at ki
    have tk := allocG_took hg hf (by omega)
    obtain ⟨H1, A1, e1, h1, kh1, ka1⟩ := Tryz.yAlloc (off + 1000) h 1 (by omega) hf (fun i hi => by rw [show i = 0 by omega]; rfl)
    obtain ⟨hw1, hab1, hp1, _⟩ := h1.nums
    obtain ⟨H2, A2, e2, hy2, kh2, ka2⟩ := Tryz.yWrite (off + 1000) h1 1 (by omega) (by rw [tk.len]; omega) [82] (by decide)
    obtain ⟨hw2, hab2, hp2, _, _, hg2, _⟩ := hy2.nums
    have hl2 : ((allocG gs 1).set 1 (pad [82])).length = gs.length := by rw [List.length_set, tk.len]
    have hg2 := hg2 (by omega)
    have e3 := Tryz.yRead (off + 1000) hy2 1 (by omega)
    have g1 := gi (hg2.len 1 (by omega)) hr
    have n2 := n27 hy2
    have hone : [[D.lit (.int .u8 82)]] = bytesEls [82] := rfl
    generalize (allocG gs 1).set 1 (pad [82]) = g at *
    refine ⟨_, A2, ?_, fin hy2 (by omega) (by omega), kH (Y := A2) (fun j hj => kh2 j (kh1 j hj)), fun τ hτ => ka2 τ (ka1 τ hτ)⟩
    refine effr_ok (E := envOf Tryz.prog [30, 31, 8, 10, 18] off [] []) (envOf_ok Tryz.mixed) Tryz.func12 rfl Tryz.call12 (by kernel_rfl) (by exact Nat.le_of_ble_eq_true rfl) (fun _ => ?_)
    have z82 : (((82 : UInt8).toNat : Int) != 82) = false := rfl
    repeat' (first
     |with_reducible first|refine vSq fun K hK=>?_|refine vRg ?_|refine vBl ?_|refine vSc ?_|refine vIf ?_|refine vSk ?_|refine vEx ?_|refine vRt ?_
     |(with_reducible first|refine gNt (fun h=>?_) (fun h=>?_)|refine gCs (fun h=>?_) (fun h=>?_))<;>(try simp only[h])
     |refine C_call rfl kl rfl abo ?_
     |refine C_call rfl ki rfl abo ?_
     |refine C_call rfl e1 rfl abo ?_
     |refine C_call rfl e2 rfl (Above_mono hab1 (by omega)) ?_
     |refine C_call rfl e3 rfl (Above_mono hab2 (by omega)) ?_
     |refine And.intro n2 ?_
     |with_reducible first|(refine hK _ ?_;clear hK K)|(clear hK K;refine hK _ ?_;clear hK K)|(clear hK K;clear hK K;refine hK _ ?_;clear hK K)|(clear hK K;clear hK K;clear hK K;refine hK _ ?_;clear hK K)
     |(with_reducible refine todo ?_;simp +decide only[go_sem, c1, hone, g1, z82]))
    exact obj hy2 (fun j hj => kh2 j (kh1 j hj)) (fun τ hτ => ka2 τ (ka1 τ hτ)) rfl rfl rfl
  · have hf' : isFG gs 1 = false := by simpa using hf
    rw [if_neg hf] at hr ⊢
    rw [hf'] at ki
    have e3 := Tryz.yRead (off + 1000) h 1 (by omega)
    have g1 := gi (hg.len 1 (by omega)) hr
    have n2 := n27 h
    refine ⟨_, A, ?_, fin h h2 (by omega), kH (Y := A) (fun _ h => h), fun _ h => h⟩
    refine effr_ok (E := envOf Tryz.prog [30, 31, 8, 10, 18] off [] []) (envOf_ok Tryz.mixed) Tryz.func12 rfl Tryz.call12 (by kernel_rfl) (by exact Nat.le_of_ble_eq_true rfl) (fun _ => ?_)
    have z82 : (((82 : UInt8).toNat : Int) != 82) = false := rfl
    repeat' (first
     |with_reducible first|refine vSq fun K hK=>?_|refine vRg ?_|refine vBl ?_|refine vSc ?_|refine vIf ?_|refine vSk ?_|refine vEx ?_|refine vRt ?_
     |(with_reducible first|refine gNt (fun h=>?_) (fun h=>?_)|refine gCs (fun h=>?_) (fun h=>?_))<;>(try simp only[h])
     |refine C_call rfl kl rfl abo ?_
     |refine C_call rfl ki rfl abo ?_
     |refine C_call rfl e3 rfl abo ?_
     |refine And.intro n2 ?_
     |with_reducible first|(refine hK _ ?_;clear hK K)|(clear hK K;refine hK _ ?_;clear hK K)|(clear hK K;clear hK K;refine hK _ ?_;clear hK K)|(clear hK K;clear hK K;clear hK K;refine hK _ ?_;clear hK K)
     |(with_reducible refine todo ?_;simp +decide only[go_sem, c1, g1, z82]))
    exact obj h (fun _ h => h) (fun _ h => h) rfl rfl rfl
end hy
end Go.Proofs

namespace Go.Proofs
open Go.PW
theorem bytes_set (l : List UInt8) (i : Nat) (b : UInt8) : (bytesEls l).set i [.lit (.int .u8 ((b.toNat : Nat) : Int))] = bytesEls (l.set i b) := by
  unfold bytesEls
  rw [List.map_set]
theorem bytes_rep (n : Nat) : List.replicate n [D.lit (.int .u8 0)] = bytesEls (List.replicate n 0) := by
  unfold bytesEls
  rw [List.map_replicate]; rfl
def lgK (n : Nat) (c : UInt8) (i : Nat) : List UInt8 := List.replicate i c ++ List.replicate (n - i) 0
theorem lgK_len {n : Nat} {c : UInt8} {i : Nat} (h : i ≤ n) : (lgK n c i).length = n := by
  unfold lgK
  rw [List.length_append, List.length_replicate, List.length_replicate]; omega
theorem lgK_set {n : Nat} {c : UInt8} {i : Nat} (h : i < n) : (lgK n c i).set i c = lgK n c (i + 1) := by
  unfold lgK
  rw [List.set_append_right _ _ (by rw [List.length_replicate]; exact Nat.le_refl _), List.length_replicate, Nat.sub_self, show n - i = (n - (i + 1)) + 1 by omega, List.replicate_succ, List.set_cons_zero, List.replicate_succ' (n := i), List.append_assoc]
  rfl
set_option maxRecDepth 8000 in
set_option maxHeartbeats 8000000 in
theorem Tryz.kLong (n : Nat) (h0 : 1 ≤ n) (hn : n ≤ 100000) (c : UInt8) : PureOK Tryz.prog 42 [pD (.lit (.int .i64 n)), pD (.lit (.int .u8 ((c.toNat : Nat) : Int)))] (.one (.d (dS (List.replicate n c)))) := by
  refine pure_ok (E := envOf Tryz.prog [3000000 + 84, 4000000 + 84] 0 [8] []) (envOf_ok Tryz.mixed) Tryz.func42 rfl Tryz.call42 (by kernel_rfl) (by rfl) (by exact Nat.le_of_ble_eq_true rfl) ?_
  repeat' (first
   |with_reducible first|refine vSq fun K hK=>?_|refine vRg ?_|refine vBl ?_|refine vSc ?_|refine vIf ?_|refine vSk ?_|refine vEx ?_|refine vRt ?_
   |(with_reducible first|refine gNt (fun h=>?_) (fun h=>?_)|refine gCs (fun h=>?_) (fun h=>?_))<;>(try simp only[h])
   |(refine W_mksm Tryz.underlying84 Tryz.ze5 Tryz.cl5 (by omega) (by omega) (by show n * Tryz.prog.bytesOf 5 ≤ _; rw [Tryz.by5]; omega) rfl ?_)
   |with_reducible first|(refine hK _ ?_;clear hK K)|(clear hK K;refine hK _ ?_;clear hK K)|(clear hK K;clear hK K;refine hK _ ?_;clear hK K)|(clear hK K;clear hK K;clear hK K;refine hK _ ?_;clear hK K)
   |(with_reducible refine todo ?_;simp +decide only[go_sem, bytes_rep]))
  have e0 : List.replicate n (0 : UInt8) = lgK n c 0 := rfl
  refine VC_range n (fun _ => True) (fun i => frame [(0, pD (.lit (.int .i64 n))), (1, pD (.lit (.int .u8 ((c.toNat : Nat) : Int)))), (5, .c (.mt (8, 0) 1 n)), (6, pD (.lit (.int .i64 i)))] [] [((8, 0), .mu 1 (bytesEls (lgK n c i)))]) True.intro ?_ ?_
  · refine Weak_frame ?_ ?_ ?_
    · have w2 : PV.wk (hOf []) (upd noA (8, 0) (some (.mu 1 (bytesEls (lgK n c 0))))) (aOf [((8, 0), .mu 1 (bytesEls (lgK n c 0)))]) (.c (.mt (8, 0) 1 n)) (.c (.mt (8, 0) 1 n)) = True := eq_true (wk_c (.inr (.inl ⟨rfl, ⟨by simp [aOf], by rw [upd_same]; simp [aOf]⟩⟩)))
      simp +decide only [go_sem, e0, w2]
    · simp +decide only [go_sem]
    · simp +decide only [go_sem, e0]
  · intro i hi _
    have hbl := bytesEls_length (lgK n c i)
    rw [lgK_len hi] at hbl
    rcases Nat.lt_or_ge i n with hi2 | hi2
    · have hc := int_lt_true hi2
      have hnx := int_next hi2 (by omega)
      have hi0 : idxE Tryz.prog 5 i (.c (.mt (8, 0) 1 n)) = some (.c (.mptr (8, 0) 1 n i 0)) := by
        show (if i < n ∧ 1 = Tryz.prog.cellsOf 5 then _ else none) = _
        rw [if_pos ⟨hi2, by rw [Tryz.cl5]⟩]
      have hb1 : (n = (bytesEls (lgK n c i)).length) = True := eq_true hbl.symm
      have hg := bytesEls_get (l := lgK n c i) (j := i) (by rw [lgK_len hi]; exact hi2)
      have es := lgK_set (c := c) hi2
      repeat' (first
       |with_reducible first|refine vSq fun K hK=>?_|refine vRg ?_|refine vBl ?_|refine vSc ?_|refine vIf ?_|refine vSk ?_|refine vEx ?_|refine vRt ?_
       |(with_reducible first|refine gNt (fun h=>?_) (fun h=>?_)|refine gCs (fun h=>?_) (fun h=>?_))<;>(try simp only[h])
       |with_reducible first|(refine hK _ ?_;clear hK K)|(clear hK K;refine hK _ ?_;clear hK K)|(clear hK K;clear hK K;refine hK _ ?_;clear hK K)|(clear hK K;clear hK K;clear hK K;refine hK _ ?_;clear hK K)
       |(with_reducible refine todo ?_;simp +decide only[go_sem, hc, hnx, hi0, hb1, hg, bytes_set, es]))
      refine Next_of hi2 True.intro (Weak_frame ?_ ?_ ?_)
      · have w2 : PV.wk (hOf []) (upd (aOf [((8, 0), .mu 1 (bytesEls (lgK n c i)))]) (8, 0) (some (.mu 1 (bytesEls (lgK n c (i + 1)))))) (aOf [((8, 0), .mu 1 (bytesEls (lgK n c (i + 1))))]) (.c (.mt (8, 0) 1 n)) (.c (.mt (8, 0) 1 n)) = True := eq_true (wk_c (.inr (.inl ⟨rfl, ⟨by simp [aOf], by rw [upd_same]; simp [aOf]⟩⟩)))
        simp +decide only [go_sem, w2]
      · simp +decide only [go_sem]
      · simp +decide only [go_sem]
    · have hc := int_lt_false hi2
      have hie : i = n := by omega
      subst hie
      have hcv : convA Tryz.prog (aOf [((8, 0), .mu 1 (bytesEls (lgK i c i)))]) 84 9 (.c (.mt (8, 0) 1 i)) = some (.c (.d (dS (lgK i c i)))) := convA_of Tryz.bytesT Tryz.underlying9 (lgK_len (Nat.le_refl _)).symm (if_pos rfl)
      have el : lgK i c i = List.replicate i c := by unfold lgK; rw [Nat.sub_self]; exact List.append_nil _
      repeat' (first
       |with_reducible first|refine vSq fun K hK=>?_|refine vRg ?_|refine vBl ?_|refine vSc ?_|refine vIf ?_|refine vSk ?_|refine vEx ?_|refine vRt ?_
       |(with_reducible first|refine gNt (fun h=>?_) (fun h=>?_)|refine gCs (fun h=>?_) (fun h=>?_))<;>(try simp only[h])
       |with_reducible first|(refine hK _ ?_;clear hK K)|(clear hK K;refine hK _ ?_;clear hK K)|(clear hK K;clear hK K;refine hK _ ?_;clear hK K)|(clear hK K;clear hK K;clear hK K;refine hK _ ?_;clear hK K)
       |(with_reducible refine todo ?_;simp +decide only[go_sem, hc, hcv]))
      rw [← el]
      exact Ret_d rfl rfl
end Go.Proofs

namespace Go.Proofs
open Go.PW
theorem Tryz.sNewO (off b n : Nat) (h1 : 1 ≤ n) (h2 : n ≤ 4096) : ∃ H' A', EffOK Tryz.prog 4 off noH noA [pD (.lit (.int .i64 n))] (.tup [.c (.ptr b 0), .c (.d (.lit (.int .i64 0)))]) H' A' ∧
    LW H' A' (b + 1) b (b, 0) (b, 1) (newD n) ∧ (∀ j, j ≠ b → H' j = none) ∧ ∀ τ, τ.1 ≠ b → A' τ = none := by
  have hw : Wf noH noA := fun i cs c h => by cases h
  have nk : ((b, 0) : Tok) ≠ (b, 1) := fun e => by cases e
  have kn := Tryz.kDiskNew (id := b) (κm := (b, 0)) (κc := (b, 1)) off hw n h1 h2 rfl rfl rfl nk
  refine ⟨_, _, kn, ⟨?_, ?_, upd_same _ _ _, ?_, upd_same _ _ _⟩, fun j hj => upd_other _ _ hj, fun τ hτ => by rw [upd_other _ _ (tok_ne hτ), upd_other _ _ (tok_ne hτ)]; rfl⟩
  · refine Wf_set hw (DkAt.ok (A := upd (upd noA (b, 0) (some (.mp []))) (b, 1) (some (.co 2 0))) ?_ ?_) (fun κ h => (h rfl).elim)
    · rw [upd_other _ _ nk, upd_same]; simp
    · rw [upd_same]; simp
  · exact Above_updA (Above_updA (Above_updH (fun i _ => ⟨rfl, fun _ => rfl⟩) (Nat.lt_succ_self b)) (Nat.lt_succ_self b)) (Nat.lt_succ_self b)
  · rw [upd_other _ _ nk, upd_same]; rfl
theorem wk_ptrs {H' : HMap} {A A' : AMap} {i j : Nat} (h1 : H' i ≠ none) (h2 : H' j ≠ none) : PV.wk H' A A' (.tup [.c (.ptr i 0), .c (.ptr j 0)]) (.tup [.c (.ptr i 0), .c (.ptr j 0)]) := by
  refine ⟨rfl, fun k a b g1 g2 => ?_⟩
  rw [g1] at g2
  cases g2
  match k, g1 with
  | 0, h => cases h; exact .inr (.inl ⟨rfl, h1⟩)
  | 1, h => cases h; exact .inr (.inl ⟨rfl, h2⟩)
theorem oks_ptrs {hk : Nat → Prop} {tk : Tok → Prop} {i j : Nat} (h1 : hk i) (h2 : hk j) : PV.oks hk tk (.tup [.c (.ptr i 0), .c (.ptr j 0)]) := fun z hz => by
  rcases List.mem_cons.1 hz with rfl | hz
  · exact h1
  · rw [List.mem_singleton.1 hz]; exact h2
def newG (n : Nat) : List (List UInt8) := List.replicate n zeros
theorem newG_at {n j : Nat} (h : j < n) : pgAt (newG n) j = zeros := by
  unfold pgAt newG
  rw [List.getD_eq_getElem?_getD, List.getElem?_replicate, if_pos h]; rfl
theorem newG_ok {n : Nat} (h1 : 2 ≤ n) (h2 : n ≤ 1024) : GOK (newG n) := by
  have e : (newG n).length = n := List.length_replicate
  exact ⟨by omega, by omega, fun j hj => by rw [newG_at (by omega)]; exact zeros_len⟩
theorem newG_free {n j : Nat} (h1 : 2 ≤ n) : isFG (newG n) j = (j != 0) := by
  unfold isFG
  rw [newG_at (by omega), isF_zeros]
structure NewR (n : Nat) (gs : List (List UInt8)) : Prop where
  ok : GOK gs
  len : gs.length = n
  one : isFG gs 1 = false
  root : (pgAt gs 1).getD 0 0 = 82 ∧ rootG gs = 0
  cnt : frG gs = n - 2
theorem pad82 : (pad [82]).getD 0 0 = 82 ∧ (pad [82]).getD 1 0 = 0 ∧ (pad [82]).getD 2 0 = 0 := by decide +kernel
theorem cntP_ne (n : Nat) : cntP (fun j => j != 0) n = n - 1 := by
  induction n with
  | zero => rfl
  | succ n ih =>
    unfold cntP
    rw [ih]
    by_cases h : n = 0
    · subst h; rfl
    · rw [if_pos (by simpa using h)]; omega
theorem openG_new {n : Nat} (h1 : 2 ≤ n) (h2 : n ≤ 1024) : NewR n (openG (newG n)) := by
  have hg := newG_ok h1 h2
  have hl : (newG n).length = n := List.length_replicate
  have hf : isFG (newG n) 1 = true := by rw [newG_free h1]; rfl
  have tk := allocG_took hg hf (by omega)
  unfold openG
  rw [if_pos hf]
  have hl1 : (allocG (newG n) 1).length = n := by rw [tk.len, hl]
  have hp1 : pgAt ((allocG (newG n) 1).set 1 (pad [82])) 1 = pad [82] := by rw [pgAt_set _ _ _ _ (by omega), if_pos rfl]
  obtain ⟨p0, p1, p2⟩ := pad82
  refine ⟨tk.ok.set (by omega) (pad_len (by decide)), by rw [List.length_set, hl1], ?_, ⟨by rw [hp1]; exact p0, ?_⟩, ?_⟩
  · rw [isFG_set (by omega) (by omega)]; exact tk.now
  · unfold rootG
    rw [hp1, p1, p2]; rfl
  · have e : frG ((allocG (newG n) 1).set 1 (pad [82])) = frG (allocG (newG n) 1) := by
      unfold frG
      rw [List.length_set, pgAt_set _ _ _ _ (by omega), if_neg (by omega)]
    have hc := tk.cnt
    have : frG (newG n) = n - 1 := by
      rw [frG_cnt, hl, ← cntP_ne n]
      exact cntP_same fun j _ => newG_free h1
    omega
theorem HY.lo {H : HMap} {A : AMap} {k did pid hid N logs T m : Nat} {gs : List (List UInt8)} (h : HY H A k did pid hid N logs T m gs) (hh : 200 ≤ hid) : ∀ j, j < 200 → H j = none ∧ ∀ q, A (j, q) = none := by
  obtain ⟨H0, hy, _, _, rfl⟩ := h
  obtain ⟨_, _, _, _, _, _, lo, _⟩ := hy.nums
  intro j hj
  rw [upd_other _ _ (by omega)]
  exact lo j hj
set_option maxRecDepth 8000 in
set_option maxHeartbeats 16000000 in
theorem Tryz.kBegin (off n hid : Nat) (h1 : 2 ≤ n) (h2 : n ≤ 1000) (h3 : 203 ≤ hid) (h4 : hid < off) : ∃ H' A', EffOK Tryz.prog 40 off noH noA [pD (.lit (.int .i64 n))] (.tup [.c (.ptr 202 0), .c (.ptr hid 0)]) H' A' ∧ HY H' A' 203 200 202 hid (10 + n) 10 1 3 (openG (newG n)) := by
  obtain ⟨H1, A1, e1, L1, lo1, lo2⟩ := Tryz.sNewO (off + 1000) 200 (10 + n) (by omega) (by omega)
  have D1 := DX.new (logs := 10) L1 (by omega) (by omega) (by omega) (by omega) (by omega) (fun j hj => ⟨lo1 j (by omega), fun q => lo2 _ (by show j ≠ 200; omega)⟩)
  obtain ⟨H2, A2, e2, P2⟩ := Tryz.pOpen (off + 1000) D1 (by omega)
  have hl : (newG n).length = n := List.length_replicate
  have Y2 : PY H2 A2 203 200 202 (10 + n) 10 1 0 (newG n) := ⟨[], _, P2, Nat.le_refl _, by omega, fun j hj => by rw [ct_nil, newG_at (by omega)]⟩
  have hr := openG_new h1 (by omega)
  obtain ⟨H3, A3, e3, Y3, _, _⟩ := Tryz.hOpen (off + 1000) Y2 (by omega) hid h3 (by omega) hr.root.1
  refine ⟨H3, A3, ?_, Y3⟩
  obtain ⟨hw, hab3, _, hp3, _, _, _, _, hh3⟩ := Y3.nums
  obtain ⟨_, hab2, _⟩ := Y2.nums
  refine effr_ok (E := envOf Tryz.prog [4, 6, 12] off [] []) (envOf_ok Tryz.mixed) Tryz.func40 rfl Tryz.call40 (by kernel_rfl) (by exact Nat.le_of_ble_eq_true rfl) (fun hab => ?_)
  have c1 : IntKind.i64.wrap ((10 : Int) + (n : Int)) = ((10 + n : Nat) : Int) := by rw [Go.IntWalk.i64_in _ (by omega)]; omega
  repeat' (first
   |with_reducible first|refine vSq fun K hK=>?_|refine vRg ?_|refine vBl ?_|refine vSc ?_|refine vIf ?_|refine vSk ?_|refine vEx ?_|refine vRt ?_
   |(with_reducible first|refine gNt (fun h=>?_) (fun h=>?_)|refine gCs (fun h=>?_) (fun h=>?_))<;>(try simp only[h])
   |refine C_call rfl e1 rfl (Above_mono hab (by omega)) ?_
   |refine C_call rfl e2 rfl (Above_mono L1.ab (by omega)) ?_
   |refine C_call rfl e3 rfl (Above_mono hab2 (by omega)) ?_
   |with_reducible first|(refine hK _ ?_;clear hK K)|(clear hK K;refine hK _ ?_;clear hK K)|(clear hK K;clear hK K;refine hK _ ?_;clear hK K)|(clear hK K;clear hK K;clear hK K;refine hK _ ?_;clear hK K)
   |(with_reducible refine todo ?_;simp +decide only[go_sem, c1, zne]))
  exact RetR_sub rfl (wk_ptrs hp3 hh3) (oks_ptrs hp3 hh3) hw kp_refl (fun _ _ => rfl) (fun _ h => (h rfl).elim) (fun _ h => (h rfl).elim)
end Go.Proofs

namespace Go.Proofs
open Go.PW
def HZ (H : HMap) (A : AMap) (k did pid hid N logs T : Nat) (gs : List (List UInt8)) : Prop := ∃ m, HY H A k did pid hid N logs T m gs
def ZSO (off : Nat) (P : Program) (f : FuncId) (H : HMap) (A : AMap) (args : List PV) (v : PV) (k did pid hid N logs T : Nat) (gs : List (List UInt8)) : Prop :=
  ∃ H' A', EffOK P f off H A args v H' A' ∧ HZ H' A' k did pid hid N logs T gs
section hy
variable {H : HMap} {A : AMap} {k did pid hid N logs T m : Nat} {gs : List (List UInt8)}
theorem HSO.z {off : Nat} {P : Program} {f : FuncId} {args : List PV} {v : PV} (h : HSO off P f H A args v k did pid hid N logs T m gs) : ZSO off P f H A args v k did pid hid N logs T gs := by
  obtain ⟨H', A', e, hy, _⟩ := h
  exact ⟨H', A', e, m, hy⟩
theorem HZ.nums (h : HZ H A k did pid hid N logs T gs) (hh : 200 ≤ hid) : Wf H A ∧ Above (hid + 1) H A ∧ H hid ≠ none ∧ H pid ≠ none ∧ GOK gs ∧ ∀ j, j < 200 → H j = none ∧ ∀ q, A (j, q) = none := by
  obtain ⟨m, hy⟩ := h
  obtain ⟨a, b, _, c, d, _, _, _, e⟩ := hy.nums
  exact ⟨a, b, e, c, d, hy.lo hh⟩
theorem Tryz.zPut (h : HZ H A k did pid hid N logs T gs) (hk : hid < 1000) (s : List UInt8) : ZSO 1000 Tryz.prog 41 H A [.c (.ptr hid 0), pD (dS s)] (putV (putG gs s)) k did pid hid N logs T (putG gs s).2.2 := by
  obtain ⟨m, hy⟩ := h
  exact (Tryz.hPut 1000 hy hk s).z
theorem Tryz.zSetRoot (h : HZ H A k did pid hid N logs T gs) (hk : hid < 1000) (s : List UInt8) : ZSO 1000 Tryz.prog 44 H A [.c (.ptr hid 0), pD (dS s)] (pD (.lit (.int .i64 (setRootG gs s).1))) k did pid hid N logs T (setRootG gs s).2 := by
  obtain ⟨m, hy⟩ := h
  exact (Tryz.hSetRoot 1000 hy hk s).z
theorem Tryz.zDrop (h : HZ H A k did pid hid N logs T gs) (hk : hid < 1000) (id : Int) : ZSO 1000 Tryz.prog 46 H A [.c (.ptr hid 0), pD (.lit (.int .i64 id))] (pD (.lit (.int .i64 (rowG gs id).2.2))) k did pid hid N logs T (dropG gs id) := by
  obtain ⟨m, hy⟩ := h
  exact (Tryz.hDrop 1000 hy hk id).z
theorem Tryz.zGet (h : HZ H A k did pid hid N logs T gs) (id : Int) : EffOK Tryz.prog 45 1000 H A [.c (.ptr hid 0), pD (.lit (.int .i64 id))] (getV (rowG gs id)) H A := by
  obtain ⟨m, hy⟩ := h
  exact Tryz.hGet 1000 hy id
theorem Tryz.zRoot (h : HZ H A k did pid hid N logs T gs) : EffOK Tryz.prog 43 1000 H A [.c (.ptr hid 0)] (rootV gs) H A := by
  obtain ⟨m, hy⟩ := h
  exact Tryz.hRoot 1000 hy
theorem Tryz.zNeed (h : HZ H A k did pid hid N logs T gs) (n : Int) : EffOK Tryz.prog 14 1000 H A [.c (.ptr hid 0), pD (.lit (.int .i64 n))] (pD (.lit (.int .i64 (needI n)))) H A := by
  obtain ⟨m, hy⟩ := h
  exact Tryz.hNeed 1000 hy n
theorem Tryz.zFrees (h : HZ H A k did pid hid N logs T gs) : EffOK Tryz.prog 47 1000 H A [.c (.ptr pid 0)] (pD (.lit (.int .i64 (frG gs)))) H A := by
  obtain ⟨m, hy⟩ := h
  exact Tryz.hFrees 1000 hy
theorem Tryz.zBegin (n : Nat) (h1 : 2 ≤ n) (h2 : n ≤ 1000) : ∃ H' A', EffOK Tryz.prog 40 1000 noH noA [pD (.lit (.int .i64 n))] (.tup [.c (.ptr 202 0), .c (.ptr 210 0)]) H' A' ∧ HZ H' A' 203 200 202 210 (10 + n) 10 1 (openG (newG n)) := by
  obtain ⟨H', A', e, hy⟩ := Tryz.kBegin 1000 n 210 h1 h2 (by omega) (by omega)
  exact ⟨H', A', e, 3, hy⟩
end hy
def knX : List UInt8 := List.replicate 126 120
def knY : List UInt8 := List.replicate 2000 122
def kg0 : List (List UInt8) := openG (newG 12)
def kg1 : List (List UInt8) := (putG kg0 knX).2.2
def kg2 : List (List UInt8) := (putG kg1 []).2.2
def kg3 : List (List UInt8) := (setRootG kg2 [114]).2
def kg4 : List (List UInt8) := (setRootG kg3 [115]).2
def kg5 : List (List UInt8) := dropG kg4 2
def kg6 : List (List UInt8) := (putG kg5 [121]).2.2
def kg7 : List (List UInt8) := (putG kg6 knY).2.2
theorem kn1 : (putG kg0 knX).1 = 2 ∧ (putG kg0 knX).2.1 = 0 ∧ (putG kg1 []).1 = 4 ∧ (putG kg1 []).2.1 = 0 ∧ rootG kg2 = 0 := by decide +kernel
theorem kn2 : (setRootG kg2 [114]).1 = 0 ∧ (setRootG kg3 [115]).1 = 0 := by decide +kernel
theorem kn3 : rowG kg4 2 = ([2, 3], knX, 0) := by decide +kernel
theorem kn4 : rowG kg5 2 = ([], [], 4) ∧ rootG kg5 = 5 + 1 ∧ (rowG kg5 6).2 = ([115], 0) := by decide +kernel
theorem kn5 : (putG kg5 [121]).1 = 2 ∧ (putG kg5 [121]).2.1 = 0 ∧ (putG kg6 knY).2.1 = 3 ∧ frG kg7 = 7 := by decide +kernel
set_option maxRecDepth 8000 in
set_option maxHeartbeats 32000000 in
theorem Tryz.kKnown : PureOK Tryz.prog 16 [] (.one (.d (.lit (.bool true)))) := by
  obtain ⟨H1, A1, e1, P1⟩ := Tryz.zBegin 12 (by omega) (by omega)
  have P1 : HZ H1 A1 203 200 202 210 22 10 1 kg0 := P1
  have e2 : PureOK Tryz.prog 42 [pD (.lit (.int .i64 126)), pD (.lit (.int .u8 120))] (.one (.d (dS knX))) := Tryz.kLong 126 (by omega) (by omega) 120
  have e3 : PureOK Tryz.prog 42 [pD (.lit (.int .i64 2000)), pD (.lit (.int .u8 122))] (.one (.d (dS knY))) := Tryz.kLong 2000 (by omega) (by omega) 122
  obtain ⟨H2, A2, e4, P2⟩ := Tryz.zPut P1 (by omega) knX
  have P2 : HZ H2 A2 203 200 202 210 22 10 1 kg1 := P2
  obtain ⟨H3, A3, e5, P3⟩ := Tryz.zPut P2 (by omega) []
  have P3 : HZ H3 A3 203 200 202 210 22 10 1 kg2 := P3
  have e6 := Tryz.zRoot P3
  obtain ⟨H4, A4, e7, P4⟩ := Tryz.zSetRoot P3 (by omega) [114]
  have P4 : HZ H4 A4 203 200 202 210 22 10 1 kg3 := P4
  obtain ⟨H5, A5, e8, P5⟩ := Tryz.zSetRoot P4 (by omega) [115]
  have P5 : HZ H5 A5 203 200 202 210 22 10 1 kg4 := P5
  have e9 := Tryz.zGet P5 2
  obtain ⟨H6, A6, e10, P6⟩ := Tryz.zDrop P5 (by omega) 2
  have P6 : HZ H6 A6 203 200 202 210 22 10 1 kg5 := P6
  have e11 := Tryz.zGet P6 2
  have e12 := Tryz.zRoot P6
  obtain ⟨H7, A7, e13, P7⟩ := Tryz.zPut P6 (by omega) [121]
  have P7 : HZ H7 A7 203 200 202 210 22 10 1 kg6 := P7
  obtain ⟨H8, A8, e14, P8⟩ := Tryz.zPut P7 (by omega) knY
  have P8 : HZ H8 A8 203 200 202 210 22 10 1 kg7 := P8
  have e15 := Tryz.zFrees P8
  have e16 := Tryz.zNeed P8 125
  have e17 := Tryz.zNeed P8 126
  have e18 := Tryz.zNeed P8 (-1)
  obtain ⟨a1, a2, a3, a4, a5⟩ := kn1
  obtain ⟨b1, b2⟩ := kn2
  obtain ⟨d1, d2, d3⟩ := kn4
  obtain ⟨f1, f2, f3, f4⟩ := kn5
  unfold putV at e4 e5 e13 e14
  rw [a1, a2] at e4
  rw [a3, a4] at e5
  rw [show rootV kg2 = .tup [.c (.d (dS [])), .c (.d (.lit (.int .i64 4)))] from if_pos a5] at e6
  rw [b1] at e7
  rw [b2] at e8
  rw [kn3] at e9 e10
  rw [d1] at e11
  rw [show rootV kg5 = .tup [.c (.d (dS [115])), .c (.d (.lit (.int .i64 0)))] by
    unfold rootV getV
    rw [d2, if_neg (by omega), show (((5 + 1 : Nat) : Int)) = 6 from rfl, d3]] at e12
  rw [f1, f2] at e13
  rw [f3] at e14
  rw [f4] at e15
  rw [show needI 125 = 1 by decide] at e16
  rw [show needI 126 = 2 by decide] at e17
  rw [show needI (-1) = 0 by decide] at e18
  unfold getV at e9 e11
  simp only at e9 e10 e11
  have nu := fun {H : HMap} {A : AMap} {gs : List (List UInt8)} (h : HZ H A 203 200 202 210 22 10 1 gs) => h.nums (by omega)
  have ab : ∀ {H : HMap} {A : AMap} {gs : List (List UInt8)}, HZ H A 203 200 202 210 22 10 1 gs → Above (0 + 1000) H A := fun h => Above_mono (nu h).2.1 (by omega)
  have l1 := (nu P1).2.2.2.2.2
  have l5 := (nu P5).2.2.2.2.2
  have l7 := (nu P7).2.2.2.2.2
  have l8 := (nu P8).2.2.2.2.2
  have vx : (knX == knX) = true := beq_self_eq_true _
  generalize knX = X at *
  generalize knY = Y at *
  have v4 : (((4 : Nat) : Int) == 4) = true := rfl
  have v7 : (((7 : Nat) : Int) == 7) = true := rfl
  have c2 : (((2 : Nat) : Int)) = 2 := rfl
  refine pure_eff rfl (effr_ok (E := envOf Tryz.prog [40, 41, 43, 44, 45, 46, 14, 47] 0 [] []) (envOf_ok Tryz.mixed) Tryz.func16 rfl Tryz.call16 (by kernel_rfl) (by exact Nat.le_of_ble_eq_true rfl) (fun hab => ?_))
  repeat' (first
   |with_reducible first|refine vSq fun K hK=>?_|refine vRg ?_|refine vBl ?_|refine vSc ?_|refine vIf ?_|refine vSk ?_|refine vEx ?_|refine vRt ?_
   |(with_reducible first|refine gNt (fun h=>?_) (fun h=>?_)|refine gCs (fun h=>?_) (fun h=>?_))<;>(try simp only[h])
   |(refine RunV_app (by simp only [List.append_eq, List.cons_append, List.nil_append]; exact rfl) ?_)
   |refine C_call rfl e1 rfl (Above_mono hab (by omega)) ?_
   |refine C_pure e2 rfl rfl (fun k => (l1 _ (Nat.le_of_ble_eq_true rfl)).2 k) ?_
   |refine C_call rfl e4 rfl (ab P1) ?_
   |refine C_call rfl e5 rfl (ab P2) ?_
   |refine C_call rfl e6 rfl (ab P3) ?_
   |refine C_call rfl e7 rfl (ab P3) ?_
   |refine C_call rfl e8 rfl (ab P4) ?_
   |refine C_call rfl e9 rfl (ab P5) ?_
   |refine C_call rfl e10 rfl (ab P5) ?_
   |refine C_call rfl e11 rfl (ab P6) ?_
   |refine C_call rfl e12 rfl (ab P6) ?_
   |refine C_call rfl e13 rfl (ab P6) ?_
   |refine C_pure e3 rfl rfl (fun k => (l7 _ (Nat.le_of_ble_eq_true rfl)).2 k) ?_
   |refine C_call rfl e14 rfl (ab P7) ?_
   |refine C_pure e2 rfl rfl (fun k => (l8 _ (Nat.le_of_ble_eq_true rfl)).2 k) ?_
   |refine C_call rfl e15 rfl (ab P8) ?_
   |refine C_call rfl e16 rfl (ab P8) ?_
   |refine C_call rfl e17 rfl (ab P8) ?_
   |refine C_call rfl e18 rfl (ab P8) ?_
   |with_reducible first|(refine hK _ ?_;clear hK K)|(clear hK K;refine hK _ ?_;clear hK K)|(clear hK K;clear hK K;refine hK _ ?_;clear hK K)|(clear hK K;clear hK K;clear hK K;refine hK _ ?_;clear hK K)
   |(with_reducible refine todo ?_;simp +decide only[go_sem, v4, v7, c2, vx]))
  exact RetR_same rfl (by simp +decide only [go_sem]) True.intro (fun i cs c h => by cases h) (fun i h => (h rfl).elim) (fun i h => (h rfl).elim)
end Go.Proofs

namespace Go.Proofs
open Go.PW
structure OpH where
  kind : Int
  n : Int
  s : List UInt8
def OpH.enc (o : OpH) : List D := [.lit (.int .i64 o.kind), .lit (.int .i64 o.n), dS o.s]
def opsH (l : List OpH) : List (List D) := l.map OpH.enc
theorem opsH_get {l : List OpH} {i : Nat} (h : i < l.length) : (opsH l)[i]? = some [.lit (.int .i64 l[i].kind), .lit (.int .i64 l[i].n), dS l[i].s] := by
  unfold opsH; rw [List.getElem?_map, List.getElem?_eq_getElem h]; rfl
theorem opsH_len (l : List OpH) : (opsH l).length = l.length := by simp [opsH]
structure GV (n : Nat) (gs : List (List UInt8)) : Prop where
  ok : GOK gs
  len : gs.length = n
  one : isFG gs 1 = false
structure TSt where
  i : Nat
  H : HMap
  A : AMap
  gs : List (List UInt8)
structure TV (y : TSt) : Prop where
  z : HZ y.H y.A 203 200 202 210 110 10 1 y.gs
  g : GV 100 y.gs
  i : y.i ≤ 20
end Go.Proofs
