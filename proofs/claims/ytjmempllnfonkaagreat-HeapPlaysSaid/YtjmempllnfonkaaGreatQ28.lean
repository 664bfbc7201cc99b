/-
  Parts of the proof, laid together: PwKb, PwKc, PwKe.
-/
import Derived.Test.YtjmempllnfonkaaGreatQ27
import Derived.Test.YtjmempllnfonkaaGreatQ14

namespace Go.Proofs
open Go.PW
theorem putR_le (k : Int) (s : List UInt8) : ∀ m : List (Int × List UInt8), (putR k s m).length ≤ m.length + 1
  | [] => Nat.le_refl _
  | p :: m => by
    have ih := putR_le k s m
    unfold putR
    split
    · simp
    · simp only [List.length_cons]; omega
theorem putN_le (m : List (Int × List UInt8)) (k : Int) (s : List UInt8) : (putN m k s).length ≤ m.length + 1 := by
  rw [putN_R]; exact putR_le k s m
def PY (H : HMap) (A : AMap) (k did pid N logs T m : Nat) (gs : List (List UInt8)) : Prop :=
  ∃ ch b, PX H A k did pid N logs T ch b ∧ ch.length ≤ m ∧ gs.length = N - logs ∧ ∀ j, j < N - logs → ct b ch j = pgAt gs j
def HY (H : HMap) (A : AMap) (k did pid hid N logs T m : Nat) (gs : List (List UInt8)) : Prop :=
  ∃ H0, PY H0 A k did pid N logs T m gs ∧ k ≤ hid ∧ 2 ≤ gs.length ∧ H = upd H0 hid (some [.ptr pid 0])
def HSO (off : Nat) (P : Program) (f : FuncId) (H : HMap) (A : AMap) (args : List PV) (v : PV) (k did pid hid N logs T m : Nat) (gs : List (List UInt8)) : Prop :=
  ∃ H' A', EffOK P f off H A args v H' A' ∧ HY H' A' k did pid hid N logs T m gs ∧ (∀ j, H j ≠ none → H' j ≠ none) ∧ ∀ τ, A τ ≠ none → A' τ ≠ none
theorem oksP {hk : Nat → Prop} {tk : Tok → Prop} {id : Nat} (h : hk id) {l : List D} : ∀ x ∈ (.c (.ptr id 0) :: l.map fun d => (.c (.d d) : PV)), x.oks hk tk := fun x hx => by
  rcases List.mem_cons.1 hx with rfl | hx
  · exact h
  · obtain ⟨d, _, rfl⟩ := List.mem_map.1 hx
    exact True.intro
section hy
variable {H : HMap} {A : AMap} {k did pid hid N logs T m : Nat} {gs : List (List UInt8)}
theorem PY.nums (h : PY H A k did pid N logs T m gs) : Wf H A ∧ Above k H A ∧ H pid ≠ none ∧ gs.length ≤ 1024 ∧ gs.length = N - logs ∧ (2 ≤ gs.length → GOK gs) ∧ (∀ j, j < 200 → H j = none ∧ ∀ q, A (j, q) = none) ∧ pid < k ∧ 0 < gs.length := by
  obtain ⟨ch, b, hx, hm, hl, hg⟩ := h
  obtain ⟨n1, n2, n3, n4, n5, n6, n7, n8, n9, n10, hw, hab, hd0, hp0, lo, ks, hlen⟩ := hx.nums
  exact ⟨hw, hab, hp0, by omega, hl, fun h2 => ⟨h2, by omega, fun j hj => by rw [← hg j (by omega)]; exact hlen j (by omega)⟩, lo, n8, by omega⟩
theorem HY.nums (h : HY H A k did pid hid N logs T m gs) : Wf H A ∧ Above (hid + 1) H A ∧ H hid = some [.ptr pid 0] ∧ H pid ≠ none ∧ GOK gs ∧ gs.length = N - logs ∧ k ≤ hid ∧ pid < k ∧ H hid ≠ none := by
  obtain ⟨H0, hy, hk, h2, rfl⟩ := h
  obtain ⟨hw, hab, hp, hb, hl, hg, lo, hpk, _⟩ := hy.nums
  refine ⟨?_, ?_, upd_same _ _ _, ?_, hg h2, hl, hk, hpk, by rw [upd_same]; simp⟩
  · refine Wf_set hw (fun c hc => ?_) (fun _ h => h)
    rw [List.mem_singleton.1 hc]
    show upd H0 hid _ pid ≠ none
    rw [upd_other _ _ (by omega)]
    exact hp
  · exact Above_updH (Above_mono hab (by omega)) (by omega)
  · rw [upd_other _ _ (by omega)]
    exact hp
theorem HY.eff {P : Program} {f : FuncId} {off : Nat} {l : List D} {v : PV} (h : HY H A k did pid hid N logs T m gs)
    (he : ∀ H0, PY H0 A k did pid N logs T m gs → EffOK P f off H0 A (.c (.ptr pid 0) :: l.map fun d => (.c (.d d) : PV)) v H0 A) : EffOK P f off H A (.c (.ptr pid 0) :: l.map fun d => (.c (.d d) : PV)) v H A := by
  obtain ⟨H0, hy, hk, h2, rfl⟩ := h
  obtain ⟨hw, hab, hp, _⟩ := hy.nums
  exact eff_frame (he H0 hy) hw (oksP hp) (hab _ hk).1 (hab _ hk).1
theorem HY.so {P : Program} {f : FuncId} {off m' : Nat} {l : List D} {v : PV} {gs' : List (List UInt8)} (h : HY H A k did pid hid N logs T m gs) (h2' : 2 ≤ gs'.length)
    (he : ∀ H0, PY H0 A k did pid N logs T m gs → ∃ H' A', EffOK P f off H0 A (.c (.ptr pid 0) :: l.map fun d => (.c (.d d) : PV)) v H' A' ∧ PY H' A' k did pid N logs T m' gs' ∧ (∀ j, H0 j ≠ none → H' j ≠ none) ∧ ∀ τ, A τ ≠ none → A' τ ≠ none) :
    HSO off P f H A (.c (.ptr pid 0) :: l.map fun d => (.c (.d d) : PV)) v k did pid hid N logs T m' gs' := by
  obtain ⟨H0, hy, hk, h2, rfl⟩ := h
  obtain ⟨hw, hab, hp, _⟩ := hy.nums
  obtain ⟨H', A', e, hy', kh, ka⟩ := he H0 hy
  obtain ⟨hw', hab', hp', _⟩ := hy'.nums
  refine ⟨_, A', eff_frame e hw (oksP hp) (hab _ hk).1 (hab' _ hk).1, ⟨H', hy', hk, h2', rfl⟩, fun j hj => ?_, ka⟩
  by_cases e : j = hid
  · subst e; rw [upd_same]; simp
  · rw [upd_other _ _ e] at hj ⊢
    exact kh j hj
theorem Tryz.yLen (off : Nat) (h : PY H A k did pid N logs T m gs) : EffOK Tryz.prog 30 off H A [.c (.ptr pid 0)] (pD (.lit (.int .i64 gs.length))) H A := by
  obtain ⟨ch, b, hx, hm, hl, hg⟩ := h
  rw [hl]
  exact Tryz.pLen off hx
theorem Tryz.yRead (off : Nat) (h : PY H A k did pid N logs T m gs) (j : Nat) (hj : j < gs.length) : EffOK Tryz.prog 18 off H A [.c (.ptr pid 0), pD (.lit (.int .i64 j))] (.tup [.c (.d (dS (pgAt gs j))), .c (.d (.lit (.int .i64 0)))]) H A := by
  obtain ⟨ch, b, hx, hm, hl, hg⟩ := h
  rw [← hg j (by omega)]
  exact Tryz.pRead off hx j (by omega)
theorem Tryz.yIsFree (off : Nat) (h : PY H A k did pid N logs T m gs) (j : Nat) (hj : j < gs.length) : EffOK Tryz.prog 31 off H A [.c (.ptr pid 0), pD (.lit (.int .i64 j))] (pD (.lit (.bool (isFG gs j)))) H A := by
  obtain ⟨ch, b, hx, hm, hl, hg⟩ := h
  unfold isFG
  rw [← hg 0 (by omega)]
  exact Tryz.pIsFree off hx j (by omega)
theorem Tryz.yFrees (off : Nat) (h : PY H A k did pid N logs T m gs) : EffOK Tryz.prog 47 off H A [.c (.ptr pid 0)] (pD (.lit (.int .i64 (frG gs)))) H A := by
  have h0 := h.nums.2.2.2.2.2.2.2.2
  obtain ⟨ch, b, hx, hm, hl, hg⟩ := h
  unfold frG
  rw [← hg 0 (by omega), hl]
  exact Tryz.pFrees off hx
theorem PY.put {ch : List (Int × List UInt8)} {b : Nat → List UInt8} {j : Nat} {s : List UInt8} (hj : j < gs.length) (hg : ∀ j, j < N - logs → ct b ch j = pgAt gs j) : ∀ i, i < N - logs → ct b (putN ch j s) i = pgAt (gs.set j s) i := fun i hi => by
  rw [ct_put, pgAt_set _ _ _ _ hj]
  split
  · rfl
  · exact hg i hi
theorem Tryz.yWrite (off : Nat) (h : PY H A k did pid N logs T m gs) (j : Nat) (h0 : j ≠ 0) (hj : j < gs.length) (s : List UInt8) (hs : s.length ≤ 128) :
    ∃ H' A', EffOK Tryz.prog 10 off H A [.c (.ptr pid 0), pD (.lit (.int .i64 j)), pD (dS s)] (pD (.lit (.int .i64 0))) H' A' ∧ PY H' A' k did pid N logs T (m + 1) (gs.set j (pad s)) ∧ (∀ j, H j ≠ none → H' j ≠ none) ∧ ∀ τ, A τ ≠ none → A' τ ≠ none := by
  obtain ⟨ch, b, hx, hm, hl, hg⟩ := h
  obtain ⟨H', A', e, hx', kh, ka⟩ := Tryz.pWrite off hx j h0 (by omega) s hs
  have := putN_le ch j (pad s)
  exact ⟨H', A', e, ⟨_, b, hx', by omega, by rw [List.length_set]; exact hl, PY.put hj hg⟩, kh, ka⟩
theorem Tryz.yFree (off : Nat) (h : PY H A k did pid N logs T m gs) (q : Nat) (h0 : q ≠ 0) (hq : q < gs.length) (hf : isFG gs q = false) :
    ∃ H' A', EffOK Tryz.prog 79 off H A [.c (.ptr pid 0), pD (.lit (.int .i64 q))] (pD (.lit (.int .i64 0))) H' A' ∧ PY H' A' k did pid N logs T (m + 1) (gs.set 0 (flipB (pgAt gs 0) q)) ∧ (∀ j, H j ≠ none → H' j ≠ none) ∧ ∀ τ, A τ ≠ none → A' τ ≠ none := by
  obtain ⟨ch, b, hx, hm, hl, hg⟩ := h
  have e0 := hg 0 (by omega)
  have hf' : freeB (ct b ch 0) q = false := by
    rw [e0]
    unfold isFG isF at hf
    simpa [h0] using hf
  obtain ⟨H', A', e, hx', kh, ka⟩ := Tryz.pFree off hx q h0 (by omega) hf'
  rw [e0] at hx'
  have := putN_le ch ((0 : Nat) : Int) (flipB (pgAt gs 0) q)
  exact ⟨H', A', e, ⟨_, b, hx', by omega, by rw [List.length_set]; exact hl, PY.put (by omega) hg⟩, kh, ka⟩
theorem Tryz.yFreeE (off : Nat) (h : PY H A k did pid N logs T m gs) (q : Nat) (hq : q < gs.length) (hf : isFG gs q = true) :
    EffOK Tryz.prog 79 off H A [.c (.ptr pid 0), pD (.lit (.int .i64 q))] (pD (.lit (.int .i64 6))) H A := by
  obtain ⟨ch, b, hx, hm, hl, hg⟩ := h
  have e0 := hg 0 (by omega)
  have e : pgFrE (N - logs) (ct b ch 0) (q : Int) = 6 := by
    obtain ⟨_, hfb⟩ := isF_pos hf
    unfold pgFrE pgRight
    have h0 := (isF_pos hf).1
    rw [if_neg (by rw [if_neg (by omega)]; simp), if_neg (by omega), Int.toNat_natCast, e0, if_pos hfb]
  have := Tryz.pFreeE off hx (q : Int) (by rw [e]; decide)
  rw [e] at this
  exact this
theorem Tryz.yAlloc (off : Nat) (h : PY H A k did pid N logs T m gs) (q : Nat) (hq : q < gs.length) (hf : isFG gs q = true) (hno : ∀ i, i < q → isFG gs i = false) :
    ∃ H' A', EffOK Tryz.prog 8 off H A [.c (.ptr pid 0)] (.tup [.c (.d (.lit (.int .i64 q))), .c (.d (.lit (.int .i64 0)))]) H' A' ∧ PY H' A' k did pid N logs T (m + 2) (allocG gs q) ∧ (∀ j, H j ≠ none → H' j ≠ none) ∧ ∀ τ, A τ ≠ none → A' τ ≠ none := by
  obtain ⟨ch, b, hx, hm, hl, hg⟩ := h
  have e0 := hg 0 (by omega)
  obtain ⟨h0, hfb⟩ := isF_pos hf
  obtain ⟨H', A', e, hx', kh, ka⟩ := Tryz.pAlloc off hx q h0 (by omega) (by rw [e0]; exact hfb) (fun i hi hiq => by
    have := hno i hiq
    rw [e0]
    unfold isFG isF at this
    simpa [hi] using this)
  rw [e0] at hx'
  have h1 := putN_le ch ((0 : Nat) : Int) (flipB (pgAt gs 0) q)
  have h2 := putN_le (putN ch ((0 : Nat) : Int) (flipB (pgAt gs 0) q)) q zeros
  refine ⟨H', A', e, ⟨_, b, hx', by omega, ?_, ?_⟩, kh, ka⟩
  · unfold allocG; rw [List.length_set, List.length_set]; exact hl
  · exact PY.put (by rw [List.length_set]; exact hq) (PY.put (by omega) hg)
theorem Tryz.hLen (off : Nat) (h : HY H A k did pid hid N logs T m gs) : EffOK Tryz.prog 30 off H A [.c (.ptr pid 0)] (pD (.lit (.int .i64 gs.length))) H A := h.eff (l := []) fun _ hy => Tryz.yLen off hy
theorem Tryz.hRead (off : Nat) (h : HY H A k did pid hid N logs T m gs) (j : Nat) (hj : j < gs.length) : EffOK Tryz.prog 18 off H A [.c (.ptr pid 0), pD (.lit (.int .i64 j))] (.tup [.c (.d (dS (pgAt gs j))), .c (.d (.lit (.int .i64 0)))]) H A := h.eff (l := [.lit (.int .i64 j)]) fun _ hy => Tryz.yRead off hy j hj
theorem Tryz.hIsFree (off : Nat) (h : HY H A k did pid hid N logs T m gs) (j : Nat) (hj : j < gs.length) : EffOK Tryz.prog 31 off H A [.c (.ptr pid 0), pD (.lit (.int .i64 j))] (pD (.lit (.bool (isFG gs j)))) H A := h.eff (l := [.lit (.int .i64 j)]) fun _ hy => Tryz.yIsFree off hy j hj
theorem Tryz.hFrees (off : Nat) (h : HY H A k did pid hid N logs T m gs) : EffOK Tryz.prog 47 off H A [.c (.ptr pid 0)] (pD (.lit (.int .i64 (frG gs)))) H A := h.eff (l := []) fun _ hy => Tryz.yFrees off hy
theorem Tryz.hWrite (off : Nat) (h : HY H A k did pid hid N logs T m gs) (j : Nat) (h0 : j ≠ 0) (hj : j < gs.length) (s : List UInt8) (hs : s.length ≤ 128) :
    HSO off Tryz.prog 10 H A [.c (.ptr pid 0), pD (.lit (.int .i64 j)), pD (dS s)] (pD (.lit (.int .i64 0))) k did pid hid N logs T (m + 1) (gs.set j (pad s)) :=
  h.so (l := [.lit (.int .i64 j), dS s]) (by obtain ⟨_, _, _, h2, _⟩ := h; rw [List.length_set]; exact h2) fun _ hy => Tryz.yWrite off hy j h0 hj s hs
theorem Tryz.hFree (off : Nat) (h : HY H A k did pid hid N logs T m gs) (q : Nat) (h0 : q ≠ 0) (hq : q < gs.length) (hf : isFG gs q = false) :
    HSO off Tryz.prog 79 H A [.c (.ptr pid 0), pD (.lit (.int .i64 q))] (pD (.lit (.int .i64 0))) k did pid hid N logs T (m + 1) (gs.set 0 (flipB (pgAt gs 0) q)) :=
  h.so (l := [.lit (.int .i64 q)]) (by obtain ⟨_, _, _, h2, _⟩ := h; rw [List.length_set]; exact h2) fun _ hy => Tryz.yFree off hy q h0 hq hf
theorem Tryz.hAlloc (off : Nat) (h : HY H A k did pid hid N logs T m gs) (q : Nat) (hq : q < gs.length) (hf : isFG gs q = true) (hno : ∀ i, i < q → isFG gs i = false) :
    HSO off Tryz.prog 8 H A [.c (.ptr pid 0)] (.tup [.c (.d (.lit (.int .i64 q))), .c (.d (.lit (.int .i64 0)))]) k did pid hid N logs T (m + 2) (allocG gs q) :=
  h.so (l := []) (by obtain ⟨_, _, _, h2, _⟩ := h; unfold allocG; rw [List.length_set, List.length_set]; exact h2) fun _ hy => Tryz.yAlloc off hy q hq hf hno
end hy
end Go.Proofs

namespace Go.Proofs
open Go.PW
theorem u8_small {n : Nat} (h : n < 256) : IntKind.u8.wrap (n : Int) = (((UInt8.ofNat n).toNat : Nat) : Int) := by
  rw [UInt8.toNat_ofNat', Nat.mod_eq_of_lt (by omega)]
  have e : IntKind.u8.wrap (n : Int) = (n : Int) % 256 := by
    unfold IntKind.wrap
    simp [IntKind.bits, IntKind.signed]
  rw [e]; omega
set_option maxRecDepth 8000 in
set_option maxHeartbeats 4000000 in
theorem Tryz.kTwo (n : Nat) (hn : n < 65536) : PureOK Tryz.prog 76 [pD (.lit (.int .i64 n))] (.one (.d (dS (two n)))) := by
  refine Tryz.pure (md := []) Tryz.func76 rfl Tryz.call76 (by kernel_rfl) (by rfl) (by exact Nat.le_of_ble_eq_true rfl) ?_
  have c1 : IntKind.u8.wrap (IntKind.i64.wrap (Int.tdiv (n : Int) 256)) = (((UInt8.ofNat (n / 256)).toNat : Nat) : Int) := by
    rw [show Int.tdiv (n : Int) 256 = ((n / 256 : Nat) : Int) from tdiv_nat n 256, Go.IntWalk.i64_in _ (by omega), u8_small (by omega)]
  have c2 : IntKind.u8.wrap (Int.tmod (n : Int) 256) = (((UInt8.ofNat (n % 256)).toNat : Nat) : Int) := by
    rw [show Int.tmod (n : Int) 256 = ((n % 256 : Nat) : Int) from tmod_nat n 256, u8_small (by omega)]
  have hone : ∀ a b : UInt8, [[D.lit (.int .u8 ((a.toNat : Nat) : Int))], [D.lit (.int .u8 ((b.toNat : Nat) : Int))]] = bytesEls [a, b] := fun _ _ => rfl
  repeat' (first
   |with_reducible first|refine vSq fun K hK=>?_|refine vRg ?_|refine vBl ?_|refine vSc ?_|refine vIf ?_|refine vSk ?_|refine vEx ?_|refine vRt ?_
   |(with_reducible first|refine gNt (fun h=>?_) (fun h=>?_)|refine gCs (fun h=>?_) (fun h=>?_))<;>(try simp only[h])
   |with_reducible first|(refine hK _ ?_;clear hK K)|(clear hK K;refine hK _ ?_;clear hK K)|(clear hK K;clear hK K;refine hK _ ?_;clear hK K)|(clear hK K;clear hK K;clear hK K;refine hK _ ?_;clear hK K)
   |(with_reducible refine todo ?_;simp +decide only[go_sem, c1, c2, hone]))
  exact Ret_d rfl rfl
set_option maxRecDepth 8000 in
set_option maxHeartbeats 4000000 in
theorem Tryz.kNumber2 (a b : UInt8) : PureOK Tryz.prog 116 [pD (.lit (.int .u8 (a.toNat : Nat))), pD (.lit (.int .u8 (b.toNat : Nat)))] (.one (.d (.lit (.int .i64 (numB a b))))) := by
  refine Tryz.pure (md := []) Tryz.func116 rfl Tryz.call116 (by kernel_rfl) (by rfl) (by exact Nat.le_of_ble_eq_true rfl) ?_
  have ha := a.toNat_lt
  have hb := b.toNat_lt
  have c1 : IntKind.i64.wrap (((a.toNat : Nat) : Int)) = ((a.toNat : Nat) : Int) := Go.IntWalk.i64_in _ (by omega)
  have c2 : IntKind.i64.wrap (((b.toNat : Nat) : Int)) = ((b.toNat : Nat) : Int) := Go.IntWalk.i64_in _ (by omega)
  have c3 : IntKind.i64.wrap (256 * ((a.toNat : Nat) : Int)) = 256 * ((a.toNat : Nat) : Int) := Go.IntWalk.i64_in _ (by omega)
  have c4 : IntKind.i64.wrap (256 * ((a.toNat : Nat) : Int) + ((b.toNat : Nat) : Int)) = ((numB a b : Nat) : Int) := by
    rw [Go.IntWalk.i64_in _ (by omega)]
    unfold numB
    omega
  repeat' (first
   |with_reducible first|refine vSq fun K hK=>?_|refine vRg ?_|refine vBl ?_|refine vSc ?_|refine vIf ?_|refine vSk ?_|refine vEx ?_|refine vRt ?_
   |(with_reducible first|refine gNt (fun h=>?_) (fun h=>?_)|refine gCs (fun h=>?_) (fun h=>?_))<;>(try simp only[h])
   |with_reducible first|(refine hK _ ?_;clear hK K)|(clear hK K;refine hK _ ?_;clear hK K)|(clear hK K;clear hK K;refine hK _ ?_;clear hK K)|(clear hK K;clear hK K;clear hK K;refine hK _ ?_;clear hK K)
   |(with_reducible refine todo ?_;simp +decide only[go_sem, c1, c2, c3, c4]))
  exact Ret_d rfl rfl
def needI (n : Int) : Int := if n < 0 ∨ 100000 < n then 0 else need n.toNat
theorem needI_nat {n : Nat} (h : n ≤ 100000) : needI (n : Int) = (need n : Nat) := by
  unfold needI
  rw [if_neg (by omega), Int.toNat_natCast]
section hy
variable {H : HMap} {A : AMap} {k did pid hid N logs T m : Nat} {gs : List (List UInt8)}
set_option maxRecDepth 8000 in
set_option maxHeartbeats 4000000 in
theorem Tryz.hNeed (off : Nat) (h : HY H A k did pid hid N logs T m gs) (n : Int) : EffOK Tryz.prog 14 off H A [.c (.ptr hid 0), pD (.lit (.int .i64 n))] (pD (.lit (.int .i64 (needI n)))) H A := by
  refine effr_ok (E := envOf Tryz.prog [] off [] []) (envOf_ok Tryz.mixed) Tryz.func14 rfl Tryz.call14 (by kernel_rfl) (by exact Nat.le_of_ble_eq_true rfl) (fun hab => ?_)
  obtain ⟨hw, hab0, hh, hp, hg, hl, hk, hpk, hne⟩ := h.nums
  by_cases h1 : n < 0
  · have c1 : (n < 0) = True := eq_true h1
    repeat' (first
     |with_reducible first|refine vSq fun K hK=>?_|refine vRg ?_|refine vBl ?_|refine vSc ?_|refine vIf ?_|refine vSk ?_|refine vEx ?_|refine vRt ?_
     |(with_reducible first|refine gNt (fun h=>?_) (fun h=>?_)|refine gCs (fun h=>?_) (fun h=>?_))<;>(try simp only[h])
     |with_reducible first|(refine hK _ ?_;clear hK K)|(clear hK K;refine hK _ ?_;clear hK K)|(clear hK K;clear hK K;refine hK _ ?_;clear hK K)|(clear hK K;clear hK K;clear hK K;refine hK _ ?_;clear hK K)
     |(with_reducible refine todo ?_;simp +decide only[go_sem, c1]))
    rw [show needI n = 0 from if_pos (.inl h1)]
    exact RetR_same rfl (by simp +decide only [go_sem]) True.intro hw kp_refl (fun _ _ => rfl)
  · have c1 : (n < 0) = False := eq_false h1
    by_cases h2 : 100000 < n
    · have c2 : (100000 < n) = True := eq_true h2
      repeat' (first
       |with_reducible first|refine vSq fun K hK=>?_|refine vRg ?_|refine vBl ?_|refine vSc ?_|refine vIf ?_|refine vSk ?_|refine vEx ?_|refine vRt ?_
       |(with_reducible first|refine gNt (fun h=>?_) (fun h=>?_)|refine gCs (fun h=>?_) (fun h=>?_))<;>(try simp only[h])
       |with_reducible first|(refine hK _ ?_;clear hK K)|(clear hK K;refine hK _ ?_;clear hK K)|(clear hK K;clear hK K;refine hK _ ?_;clear hK K)|(clear hK K;clear hK K;clear hK K;refine hK _ ?_;clear hK K)
       |(with_reducible refine todo ?_;simp +decide only[go_sem, c1, c2]))
      rw [show needI n = 0 from if_pos (.inr h2)]
      exact RetR_same rfl (by simp +decide only [go_sem]) True.intro hw kp_refl (fun _ _ => rfl)
    · have c2 : (100000 < n) = False := eq_false h2
      obtain ⟨q, rfl⟩ : ∃ q : Nat, n = (q : Int) := ⟨n.toNat, by omega⟩
      have w1 : IntKind.i64.wrap ((q : Int) + 125) = (q : Int) + 125 := Go.IntWalk.i64_in _ (by omega)
      have w2 : IntKind.i64.wrap ((q : Int) + 125 - 1) = ((q + 124 : Nat) : Int) := by rw [Go.IntWalk.i64_in _ (by omega)]; omega
      have w3 : IntKind.i64.wrap (Int.tdiv ((q + 124 : Nat) : Int) 125) = (((q + 124) / 125 : Nat) : Int) := by
        rw [show Int.tdiv ((q + 124 : Nat) : Int) 125 = (((q + 124) / 125 : Nat) : Int) from tdiv_nat (q + 124) 125, Go.IntWalk.i64_in _ (by omega)]
      have w4 : (if (((q + 124) / 125 : Nat) : Int) > 1 then (((q + 124) / 125 : Nat) : Int) else 1) = needI (q : Int) := by
        rw [needI_nat (by omega)]
        unfold need
        split <;> omega
      repeat' (first
       |with_reducible first|refine vSq fun K hK=>?_|refine vRg ?_|refine vBl ?_|refine vSc ?_|refine vIf ?_|refine vSk ?_|refine vEx ?_|refine vRt ?_
       |(with_reducible first|refine gNt (fun h=>?_) (fun h=>?_)|refine gCs (fun h=>?_) (fun h=>?_))<;>(try simp only[h])
       |with_reducible first|(refine hK _ ?_;clear hK K)|(clear hK K;refine hK _ ?_;clear hK K)|(clear hK K;clear hK K;refine hK _ ?_;clear hK K)|(clear hK K;clear hK K;clear hK K;refine hK _ ?_;clear hK K)
       |(with_reducible refine todo ?_;simp +decide only[go_sem, c1, c2, w1, w2, w3, w4]))
      exact RetR_same rfl (by simp +decide only [go_sem]) True.intro hw kp_refl (fun _ _ => rfl)
set_option maxRecDepth 8000 in
set_option maxHeartbeats 4000000 in
theorem Tryz.hThere (off : Nat) (h : HY H A k did pid hid N logs T m gs) : EffOK Tryz.prog 74 off H A [.c (.ptr hid 0)] (pD (.lit (.bool true))) H A := by
  refine effr_ok (E := envOf Tryz.prog [] off [] []) (envOf_ok Tryz.mixed) Tryz.func74 rfl Tryz.call74 (by kernel_rfl) (by exact Nat.le_of_ble_eq_true rfl) (fun hab => ?_)
  obtain ⟨hw, hab0, hh, hp, hg, hl, hk, hpk, hne⟩ := h.nums
  repeat' (first
   |with_reducible first|refine vSq fun K hK=>?_|refine vRg ?_|refine vBl ?_|refine vSc ?_|refine vIf ?_|refine vSk ?_|refine vEx ?_|refine vRt ?_
   |(with_reducible first|refine gNt (fun h=>?_) (fun h=>?_)|refine gCs (fun h=>?_) (fun h=>?_))<;>(try simp only[h])
   |with_reducible first|(refine hK _ ?_;clear hK K)|(clear hK K;refine hK _ ?_;clear hK K)|(clear hK K;clear hK K;refine hK _ ?_;clear hK K)|(clear hK K;clear hK K;clear hK K;refine hK _ ?_;clear hK K)
   |(with_reducible refine todo ?_;simp +decide only[go_sem, hh]))
  exact RetR_same rfl (by simp +decide only [go_sem]) True.intro hw kp_refl (fun _ _ => rfl)
set_option maxRecDepth 8000 in
set_option maxHeartbeats 8000000 in
theorem Tryz.hIsRec (off : Nat) (h : HY H A k did pid hid N logs T m gs) (j : Int) : EffOK Tryz.prog 117 off H A [.c (.ptr hid 0), pD (.lit (.int .i64 j))] (pD (.lit (.bool (isRec gs j)))) H A := by
  refine effr_ok (E := envOf Tryz.prog [30, 31] off [] []) (envOf_ok Tryz.mixed) Tryz.func117 rfl Tryz.call117 (by kernel_rfl) (by exact Nat.le_of_ble_eq_true rfl) (fun hab => ?_)
  obtain ⟨hw, hab0, hh, hp, hg, hl, hk, hpk, hne⟩ := h.nums
  have kl := Tryz.hLen (off + 1000) h
  by_cases h1 : 2 ≤ j
  · have c1 : (2 ≤ j) = True := eq_true h1
    obtain ⟨q, rfl⟩ : ∃ q : Nat, j = (q : Int) := ⟨j.toNat, by omega⟩
    by_cases h2 : q < gs.length
    · have c2 : ((q : Int) < (gs.length : Int)) = True := eq_true (by omega)
      have kf := Tryz.hIsFree (off + 1000) h q h2
      have e : isRec gs (q : Int) = !isFG gs q := by
        unfold isRec
        rw [Int.toNat_natCast]
        simp [h2]; omega
      rw [e]
      repeat' (first
       |with_reducible first|refine vSq fun K hK=>?_|refine vRg ?_|refine vBl ?_|refine vSc ?_|refine vIf ?_|refine vSk ?_|refine vEx ?_|refine vRt ?_
       |(with_reducible first|refine gNt (fun h=>?_) (fun h=>?_)|refine gCs (fun h=>?_) (fun h=>?_))<;>(try simp only[h])
       |refine C_call rfl kl rfl (Above_mono hab (by omega)) ?_
       |refine C_call rfl kf rfl (Above_mono hab (by omega)) ?_
       |with_reducible first|(refine hK _ ?_;clear hK K)|(clear hK K;refine hK _ ?_;clear hK K)|(clear hK K;clear hK K;refine hK _ ?_;clear hK K)|(clear hK K;clear hK K;clear hK K;refine hK _ ?_;clear hK K)
       |(with_reducible refine todo ?_;simp +decide only[go_sem, hh, c1, c2]))
      exact RetR_same rfl (by simp +decide only [go_sem]) True.intro hw kp_refl (fun _ _ => rfl)
    · have c2 : ((q : Int) < (gs.length : Int)) = False := eq_false (by omega)
      have e : isRec gs (q : Int) = false := by
        unfold isRec
        simp [h2]
      rw [e]
      repeat' (first
       |with_reducible first|refine vSq fun K hK=>?_|refine vRg ?_|refine vBl ?_|refine vSc ?_|refine vIf ?_|refine vSk ?_|refine vEx ?_|refine vRt ?_
       |(with_reducible first|refine gNt (fun h=>?_) (fun h=>?_)|refine gCs (fun h=>?_) (fun h=>?_))<;>(try simp only[h])
       |refine C_call rfl kl rfl (Above_mono hab (by omega)) ?_
       |with_reducible first|(refine hK _ ?_;clear hK K)|(clear hK K;refine hK _ ?_;clear hK K)|(clear hK K;clear hK K;refine hK _ ?_;clear hK K)|(clear hK K;clear hK K;clear hK K;refine hK _ ?_;clear hK K)
       |(with_reducible refine todo ?_;simp +decide only[go_sem, hh, c1, c2]))
      exact RetR_same rfl (by simp +decide only [go_sem]) True.intro hw kp_refl (fun _ _ => rfl)
  · have c1 : (2 ≤ j) = False := eq_false h1
    have e : isRec gs j = false := by
      unfold isRec
      simp [h1]
    rw [e]
    repeat' (first
     |with_reducible first|refine vSq fun K hK=>?_|refine vRg ?_|refine vBl ?_|refine vSc ?_|refine vIf ?_|refine vSk ?_|refine vEx ?_|refine vRt ?_
     |(with_reducible first|refine gNt (fun h=>?_) (fun h=>?_)|refine gCs (fun h=>?_) (fun h=>?_))<;>(try simp only[h])
     |with_reducible first|(refine hK _ ?_;clear hK K)|(clear hK K;refine hK _ ?_;clear hK K)|(clear hK K;clear hK K;refine hK _ ?_;clear hK K)|(clear hK K;clear hK K;clear hK K;refine hK _ ?_;clear hK K)
     |(with_reducible refine todo ?_;simp +decide only[go_sem, c1]))
    exact RetR_same rfl (by simp +decide only [go_sem]) True.intro hw kp_refl (fun _ _ => rfl)
end hy
end Go.Proofs

namespace Go.PW
theorem W_slc3 {P : Program} {t e : TypeId} {c b : Nat} {els : List (List D)} {x : PV} {lo : Option PV} {hi m : PV} {l h : Nat} {K : PV → Prop} (T : AppT P t e c b) (hx : sliceEls x = some els) (hl : optNat lo 0 = some l) (hh : optNat (some hi) els.length = some h) (hm : natOf? m = some h) (h1 : l ≤ h) (h2 : h ≤ els.length) (sz : Szd c els)
    (hK : Todo (K (.c (.full ((els.drop l).take (h - l)))))) : slcV P t x lo (some hi) (some m) K := by
  unfold slcV
  rw [T.und]
  simp only [T.hc, hx, hl, hh, Opt, slcM, hm]
  exact ⟨T.pc, ⟨h1, h2, sz, fun _ => rfl⟩, True.intro, hK⟩
end Go.PW
namespace Go.Proofs
open Go.PW
def bsD (l : List (List UInt8)) : List (List D) := l.map fun b => [.sl (bytesEls b)]
theorem bsD_len (l : List (List UInt8)) : (bsD l).length = l.length := by simp [bsD]
theorem bsD_app (a b : List (List UInt8)) : bsD (a ++ b) = bsD a ++ bsD b := List.map_append
theorem szd_bs (l : List (List UInt8)) : Szd 1 (bsD l) := fun e he => by
  obtain ⟨b, _, rfl⟩ := List.mem_map.1 he
  rfl
theorem Tryz.appB : AppT Tryz.prog 120 84 1 24 := ⟨Tryz.underlying120, Tryz.cl84, Tryz.by84, Tryz.zo84, by decide, by decide⟩
def prH (s : List UInt8) (i : Nat) : List (List UInt8) := (List.range i).map (partH s)
theorem prH_next (s : List UInt8) (i : Nat) : prH s (i + 1) = prH s i ++ [partH s i] := by
  unfold prH
  rw [List.range_succ, List.map_append]; rfl
theorem prH_len (s : List UInt8) (i : Nat) : (prH s i).length = i := by simp [prH]
theorem prH_all (s : List UInt8) : ∀ k, prH s k = lsK k s
  | 0 => rfl
  | k + 1 => by
    have e : ∀ {k : Nat} {s : List UInt8}, prH s (k + 1) = s.take 125 :: prH (s.drop 125) k := fun {k} {s} => by
      unfold prH
      rw [List.range_succ_eq_map, List.map_cons, List.map_map]
      congr 1
      refine List.map_congr_left fun i _ => ?_
      show partH s (i + 1) = _
      exact partH_next s i
    rw [e, prH_all (s.drop 125) k]; rfl
section hy
variable {H : HMap} {A : AMap} {k did pid hid N logs T m : Nat} {gs : List (List UInt8)}
set_option maxRecDepth 8000 in
set_option maxHeartbeats 8000000 in
theorem Tryz.hParts (off : Nat) (h : HY H A k did pid hid N logs T m gs) (s : List UInt8) (hs : s.length ≤ 100000) : EffOK Tryz.prog 75 off H A [.c (.ptr hid 0), pD (dS s)] (.c (.d (.sl (bsD (lsK (need s.length) s))))) H A := by
  refine effr_ok (E := envOf Tryz.prog [14, 1000000 + 84] off [] []) (envOf_ok Tryz.mixed) Tryz.func75 rfl Tryz.call75 (by kernel_rfl) (by exact Nat.le_of_ble_eq_true rfl) (fun hab => ?_)
  obtain ⟨hw, hab0, hh, hp, hg, hl, hk, hpk, hne⟩ := h.nums
  have kn := Tryz.hNeed (off + 1000) h (s.length : Int)
  rw [needI_nat hs] at kn
  obtain ⟨n1, n2, n3⟩ := need_ge s.length
  have ha : A (off + 25, 0) = none := (hab _ (Nat.le_add_right _ _)).2 _
  have ha9 : A (off + 9, 0) = none := (hab _ (Nat.le_add_right _ _)).2 _
  have kn := eff_frameA (κ := (off + 9, 0)) (ar := .co 1 s.length) kn hw (oksP (l := [_]) hne) ha9 ha9
  have hab9 : Above (off + 1000) H (upd A (off + 9, 0) (some (.co 1 s.length))) := Above_updA (Above_mono hab (by omega)) (by show off + 9 < off + 1000; omega)
  have ha9' : upd A (off + 9, 0) (some (.co 1 s.length)) (off + 25, 0) = none := by rw [upd_other _ _ (tok_ne (by show off + 25 ≠ off + 9; omega))]; exact ha
  generalize hM : need s.length = M at *
  have hMb : M ≤ 1000 := by rw [← hM]; unfold need; omega
  repeat' (first
   |with_reducible first|refine vSq fun K hK=>?_|refine vRg ?_|refine vBl ?_|refine vSc ?_|refine vIf ?_|refine vSk ?_|refine vEx ?_|refine vRt ?_
   |(with_reducible first|refine gNt (fun h=>?_) (fun h=>?_)|refine gCs (fun h=>?_) (fun h=>?_))<;>(try simp only[h])
   |refine C_call rfl kn rfl hab9 ?_
   |refine W_bytes rfl rfl rfl ha9 ?_
   |with_reducible first|(refine hK _ ?_;clear hK K)|(clear hK K;refine hK _ ?_;clear hK K)|(clear hK K;clear hK K;refine hK _ ?_;clear hK K)|(clear hK K;clear hK K;clear hK K;refine hK _ ?_;clear hK K)
   |(with_reducible refine todo ?_;simp +decide only[go_sem]))
  refine VC_range M (fun _ => True) (fun i => overA [(5, .c (.d (.sl (bytesEls (s.drop (125 * i)))))), (6, .c (.own (off + 25, 0) (bsD (prH s i)))), (13, pD (.lit (.int .i64 M))), (14, pD (.lit (.int .i64 i)))] []
    [((off + 25, 0), .co 1 i)] H A) True.intro ?_ ?_
  · refine Weak_overA hw kp_refl (fun τ hτ => upd_other _ _ fun e => hτ (by rw [e]; exact ha9)) (fun q hq => by rw [List.mem_singleton.1 hq]; exact ha) ?_ ?_ ?_ (fun _ h => h) (fun _ h => h)
    · simp +decide only [go_sem, Nat.mul_zero, List.drop_zero]
      exact wkP_new ha9' (sz := 1) (if_pos rfl)
    · simp +decide only [go_sem]
    · simp +decide only [go_sem, ha9']
  · intro i hi _
    rcases Nat.lt_or_ge i M with hi2 | hi2
    · have hc := int_lt_true hi2
      have hnx := int_next hi2 (by omega)
      have hX : (s.drop (125 * i)).length = s.length - 125 * i := List.length_drop
      have hlX := bytesEls_length (s.drop (125 * i))
      have hg0 : (partH s i).length ≤ (s.drop (125 * i)).length := by unfold partH; rw [List.length_take]; omega
      have hmn : (if ((bytesEls (s.drop (125 * i))).length : Int) < 125 then ((bytesEls (s.drop (125 * i))).length : Int) else 125) = (((partH s i).length : Nat) : Int) := by
        unfold partH
        rw [hlX, List.length_take]
        split <;> omega
      have e1 : List.take ((partH s i).length - 0) (bytesEls (s.drop (125 * i))) = bytesEls (partH s i) := by
        unfold bytesEls partH
        rw [Nat.sub_zero, ← List.map_take]
        congr 1
        rw [List.length_take]
        rcases Nat.le_total 125 (s.drop (125 * i)).length with h | h
        · rw [Nat.min_eq_left h]
        · rw [Nat.min_eq_right h, List.take_of_length_le (Nat.le_refl _), List.take_of_length_le h]
      have e2 : List.take ((bytesEls (s.drop (125 * i))).length - (partH s i).length) (List.drop (partH s i).length (bytesEls (s.drop (125 * i)))) = bytesEls (s.drop (125 * (i + 1))) := by
        rw [List.take_of_length_le (by rw [List.length_drop]; omega)]
        unfold bytesEls partH
        rw [← List.map_drop]
        congr 1
        rw [List.drop_drop, List.length_take]
        rcases Nat.le_total 125 (s.drop (125 * i)).length with h | h
        · rw [Nat.min_eq_left h]; congr 1
        · rw [Nat.min_eq_right h, List.drop_of_length_le (by omega), List.drop_of_length_le (by omega)]
      have hll := bsD_len (prH s i)
      rw [prH_len] at hll
      repeat' (first
       |with_reducible first|refine vSq fun K hK=>?_|refine vRg ?_|refine vBl ?_|refine vSc ?_|refine vIf ?_|refine vSk ?_|refine vEx ?_|refine vRt ?_
       |(with_reducible first|refine gNt (fun h=>?_) (fun h=>?_)|refine gCs (fun h=>?_) (fun h=>?_))<;>(try simp only[h])
       |(refine W_slc3 (l := 0) (h := (partH s i).length) Tryz.appBytes rfl rfl (by simp [optNat, natOf?, intOf?]) (by simp [natOf?, intOf?]) (Nat.zero_le _) (by rw [hlX]; exact hg0) (szBytes _) ?_)
       |(refine W_slc (l := (partH s i).length) (h := (bytesEls (s.drop (125 * i))).length) Tryz.appBytes rfl (by simp [optNat, natOf?, intOf?]) rfl (by rw [hlX]; exact hg0) (Nat.le_refl _) (szBytes _) ?_)
       |(refine W_own Tryz.appB rfl (szd_bs _) (szOne rfl) (by rw [hll]; simp only [List.length_singleton]; omega) (by rw [hll]; exact if_pos rfl) ?_)
       |with_reducible first|(refine hK _ ?_;clear hK K)|(clear hK K;refine hK _ ?_;clear hK K)|(clear hK K;clear hK K;refine hK _ ?_;clear hK K)|(clear hK K;clear hK K;clear hK K;refine hK _ ?_;clear hK K)
       |(with_reducible refine todo ?_;simp +decide only[go_sem, hc, hnx, hmn]))
      refine Next_of hi2 True.intro (Weak_overA hw kp_nil (fun κ hκ => ?_) (fun q hq => by rw [List.mem_singleton.1 hq]; exact ha) ?_ ?_ ?_ (fun _ h => h) (fun _ h => h))
      · have hne' : κ ≠ (off + 25, 0) := fun e => hκ (by rw [e]; exact ha)
        show upd _ _ _ κ = _
        rw [upd_other _ _ hne']
        exact if_neg hne'
      · have e3 : bsD (prH s (i + 1)) = bsD (prH s i) ++ [[.sl (bytesEls (partH s i))]] := by rw [prH_next, bsD_app]; rfl
        simp +decide only [go_sem, e1, e2, e3]
        exact wkP_own (by rw [aOver_hd]; simp) (by rw [upd_same, hll]; exact aOver_hd)
      · simp +decide only [go_sem]
      · simp +decide only [go_sem, hll]
    · have hc := int_lt_false hi2
      have hie : i = M := by omega
      subst hie
      repeat' (first
       |with_reducible first|refine vSq fun K hK=>?_|refine vRg ?_|refine vBl ?_|refine vSc ?_|refine vIf ?_|refine vSk ?_|refine vEx ?_|refine vRt ?_
       |(with_reducible first|refine gNt (fun h=>?_) (fun h=>?_)|refine gCs (fun h=>?_) (fun h=>?_))<;>(try simp only[h])
       |with_reducible first|(refine hK _ ?_;clear hK K)|(clear hK K;refine hK _ ?_;clear hK K)|(clear hK K;clear hK K;refine hK _ ?_;clear hK K)|(clear hK K;clear hK K;clear hK K;refine hK _ ?_;clear hK K)
       |(with_reducible refine todo ?_;simp +decide only[go_sem, hc]))
      rw [← prH_all]
      exact RetR_same rfl (by simp +decide only [go_sem]) True.intro hw kp_nil (fun κ hκ => if_neg (fun e => hκ (by rw [e]; exact ha)))
end hy
end Go.Proofs
