/-
  Parts of the proof, laid together: PwCa, PwCb, PwCc.
-/
import Derived.Test.YtjmempllnfonkaaGreatQ15
import Derived.Test.YtjmempllnfonkaaGreatQ13

namespace Go.Proofs
open Go.PW
theorem u32_nat {n : Nat} (h : n < 4294967296) : IntKind.u32.wrap (n : Int) = n := Go.IntWalk.u32_in _ (by omega)
theorem u8_nat (n : Nat) : IntKind.u8.wrap (n : Int) = ((n % 256 : Nat) : Int) := by rw [IntKind.wrap_u8]; omega
theorem xor_lt {m n : Nat} (hm : m < 4294967296) (hn : n < 4294967296) : m ^^^ n < 4294967296 := Nat.xor_lt_two_pow (n := 32) hm hn
theorem iXor_u32 {m n : Nat} (hm : m < 4294967296) (hn : n < 4294967296) : iXor .u32 (m : Int) (n : Int) = ((m ^^^ n : Nat) : Int) := by
  show IntKind.u32.wrap ((BitVec.ofInt 32 (m : Int) ^^^ BitVec.ofInt 32 (n : Int)).toNat : Int) = _
  rw [BitVec.ofInt_natCast, BitVec.ofInt_natCast, BitVec.toNat_xor, BitVec.toNat_ofNat, BitVec.toNat_ofNat, Nat.mod_eq_of_lt hm, Nat.mod_eq_of_lt hn, u32_nat (xor_lt hm hn)]
theorem iXor_u8 {m n : Nat} (hm : m < 256) (hn : n < 256) : iXor .u8 (m : Int) (n : Int) = ((m ^^^ n : Nat) : Int) := by
  show IntKind.u8.wrap ((BitVec.ofInt 8 (m : Int) ^^^ BitVec.ofInt 8 (n : Int)).toNat : Int) = _
  have hx : m ^^^ n < 256 := Nat.xor_lt_two_pow (n := 8) hm hn
  rw [BitVec.ofInt_natCast, BitVec.ofInt_natCast, BitVec.toNat_xor, BitVec.toNat_ofNat, BitVec.toNat_ofNat, Nat.mod_eq_of_lt hm, Nat.mod_eq_of_lt hn, u8_nat, Nat.mod_eq_of_lt hx]
theorem iNot_u32 {m : Nat} (hm : m < 4294967296) : iNot .u32 (m : Int) = ((4294967295 ^^^ m : Nat) : Int) := iXor_u32 (m := 4294967295) (by decide) hm
theorem iAnd_u32 {m : Nat} (hm : m < 4294967296) : iAnd .u32 (m : Int) 1 = ((m % 2 : Nat) : Int) := by
  show IntKind.u32.wrap ((BitVec.ofInt 32 (m : Int) &&& BitVec.ofInt 32 ((1 : Nat) : Int)).toNat : Int) = _
  rw [BitVec.ofInt_natCast, BitVec.ofInt_natCast, BitVec.toNat_and, BitVec.toNat_ofNat, BitVec.toNat_ofNat, Nat.mod_eq_of_lt hm, show 1 % 2 ^ 32 = 1 from rfl, Nat.and_one_is_mod, u32_nat (by omega)]
theorem iShr_u32 (m n : Nat) (h : n ≤ 32) : iShr .u32 (m : Int) n = ((m / 2 ^ n : Nat) : Int) := by
  show Int.fdiv (m : Int) (2 ^ min n 32) = _
  rw [Nat.min_eq_left h, Int.fdiv_eq_ediv_of_nonneg _ (Int.le_of_lt (Int.pow_pos (by decide))), Int.natCast_ediv, Int.natCast_pow]
  rfl
def st1 (n : Nat) : Nat := if n % 2 = 1 then (n / 2) ^^^ 3988292384 else n / 2
def stK : Nat → Nat → Nat
  | 0, n => n
  | k + 1, n => st1 (stK k n)
def st8 (n : Nat) : Nat := stK 8 n
def crcTbl : List Nat := [0, 1996959894, 3993919788, 2567524794, 124634137, 1886057615, 3915621685, 2657392035, 249268274, 2044508324, 3772115230, 2547177864, 162941995, 2125561021, 3887607047, 2428444049, 498536548, 1789927666, 4089016648, 2227061214, 450548861, 1843258603, 4107580753, 2211677639, 325883990, 1684777152, 4251122042, 2321926636, 335633487, 1661365465, 4195302755, 2366115317, 997073096, 1281953886, 3579855332, 2724688242, 1006888145, 1258607687, 3524101629, 2768942443, 901097722, 1119000684, 3686517206, 2898065728, 853044451, 1172266101, 3705015759, 2882616665, 651767980, 1373503546, 3369554304, 3218104598, 565507253, 1454621731, 3485111705, 3099436303, 671266974, 1594198024, 3322730930, 2970347812, 795835527, 1483230225, 3244367275, 3060149565, 1994146192, 31158534, 2563907772, 4023717930, 1907459465, 112637215, 2680153253, 3904427059, 2013776290, 251722036, 2517215374, 3775830040, 2137656763, 141376813, 2439277719, 3865271297, 1802195444, 476864866, 2238001368, 4066508878, 1812370925, 453092731, 2181625025, 4111451223, 1706088902, 314042704, 2344532202, 4240017532, 1658658271, 366619977, 2362670323, 4224994405, 1303535960, 984961486, 2747007092, 3569037538, 1256170817, 1037604311, 2765210733, 3554079995, 1131014506, 879679996, 2909243462, 3663771856, 1141124467, 855842277, 2852801631, 3708648649, 1342533948, 654459306, 3188396048, 3373015174, 1466479909, 544179635, 3110523913, 3462522015, 1591671054, 702138776, 2966460450, 3352799412, 1504918807, 783551873, 3082640443, 3233442989, 3988292384, 2596254646, 62317068, 1957810842, 3939845945, 2647816111, 81470997, 1943803523, 3814918930, 2489596804, 225274430, 2053790376, 3826175755, 2466906013, 167816743, 2097651377, 4027552580, 2265490386, 503444072, 1762050814, 4150417245, 2154129355, 426522225, 1852507879, 4275313526, 2312317920, 282753626, 1742555852, 4189708143, 2394877945, 397917763, 1622183637, 3604390888, 2714866558, 953729732, 1340076626, 3518719985, 2797360999, 1068828381, 1219638859, 3624741850, 2936675148, 906185462, 1090812512, 3747672003, 2825379669, 829329135, 1181335161, 3412177804, 3160834842, 628085408, 1382605366, 3423369109, 3138078467, 570562233, 1426400815, 3317316542, 2998733608, 733239954, 1555261956, 3268935591, 3050360625, 752459403, 1541320221, 2607071920, 3965973030, 1969922972, 40735498, 2617837225, 3943577151, 1913087877, 83908371, 2512341634, 3803740692, 2075208622, 213261112, 2463272603, 3855990285, 2094854071, 198958881, 2262029012, 4057260610, 1759359992, 534414190, 2176718541, 4139329115, 1873836001, 414664567, 2282248934, 4279200368, 1711684554, 285281116, 2405801727, 4167216745, 1634467795, 376229701, 2685067896, 3608007406, 1308918612, 956543938, 2808555105, 3495958263, 1231636301, 1047427035, 2932959818, 3654703836, 1088359270, 936918000, 2847714899, 3736837829, 1202900863, 817233897, 3183342108, 3401237130, 1404277552, 615818150, 3134207493, 3453421203, 1423857449, 601450431, 3009837614, 3294710456, 1567103746, 711928724, 3020668471, 3272380065, 1510334235, 755167117]
theorem tbl_len : crcTbl.length = 256 := by decide +kernel
theorem tbl_all : (List.range 256).all (fun i => crcTbl[i]? == some (st8 i)) = true := by decide +kernel
theorem tbl_at {i : Nat} (h : i < 256) : crcTbl[i]? = some (st8 i) := by
  have := List.all_eq_true.1 tbl_all i (List.mem_range.2 h)
  simpa using this
theorem st1_lt {n : Nat} (h : n < 4294967296) : st1 n < 4294967296 := by
  unfold st1
  split
  · exact xor_lt (by omega) (by decide)
  · omega
theorem stK_lt {n : Nat} (h : n < 4294967296) : ∀ k, stK k n < 4294967296
  | 0 => h
  | k + 1 => st1_lt (stK_lt h k)
theorem tbl_lt {i n : Nat} (h : crcTbl[i]? = some n) : n < 4294967296 := by
  have hi : i < 256 := by have := (List.getElem?_eq_some_iff.1 h).1; rwa [tbl_len] at this
  rw [tbl_at hi] at h
  cases h
  exact stK_lt (by omega) 8
def tblAt (i : Nat) : Nat := (crcTbl[i]?).getD 0
def crcStep (n : Nat) (b : UInt8) : Nat := tblAt ((n % 256) ^^^ b.toNat) ^^^ (n / 256)
def crcMore (s : Nat) (l : List UInt8) : Nat := 4294967295 ^^^ (l.foldl crcStep (4294967295 ^^^ s))
theorem xor_byte {m : Nat} {b : UInt8} (hm : m < 256) : m ^^^ b.toNat < 256 := Nat.xor_lt_two_pow (n := 8) hm b.toNat_lt
theorem tblAt_lt (i : Nat) : tblAt i < 4294967296 := by
  unfold tblAt
  cases h : crcTbl[i]? with
  | none => decide
  | some n => exact tbl_lt h
theorem crcStep_lt {n : Nat} (h : n < 4294967296) (b : UInt8) : crcStep n b < 4294967296 := xor_lt (tblAt_lt _) (by omega)
theorem crcFold_lt : ∀ (l : List UInt8) {n : Nat}, n < 4294967296 → l.foldl crcStep n < 4294967296
  | [], _, h => h
  | b :: l, _, h => crcFold_lt l (crcStep_lt h b)
theorem crcMore_lt {s : Nat} (l : List UInt8) (h : s < 4294967296) : crcMore s l < 4294967296 := xor_lt (by decide) (crcFold_lt l (xor_lt (by decide) h))
def u32D (n : Nat) : D := .lit (.int .u32 n)
def u32C (n : Nat) : CV := .d (u32D n)
theorem Ret_cell {P : Program} {fn : Func} {S : St} {t : Nat} {T : TypeId} {cs : List D} (hr : fn.results.toList = [.cell t T]) (h : loadS P none S.H S.A T (S.ρ t) = some (.agg (cs.map .d))) : Ret P fn (.one (.agg cs)) S :=
  ⟨True.intro, [none], Apart_one, by rw [hr]; exact ⟨_, h, by show PV.frz (.agg (cs.map .d)) = _; simp [PV.frz, CV.frz], rfl⟩⟩
def tblC (i : Nat) : List CV := (crcTbl.take i).map u32C ++ List.replicate (256 - i) (u32C 0)
theorem Tryz.zeTbl : zeroOf Tryz.prog 157 = some (tblC 0) := by kernel_rfl
theorem wk_isD {H' : HMap} {A A' : AMap} : ∀ {cs : List CV}, cs.all CV.isD = true → wkCells H' A A' cs cs
  | [], _ => True.intro
  | c :: r, h => by
    simp only [List.all_cons, Bool.and_eq_true] at h
    exact ⟨.inr (.inl ⟨rfl, isD_ok h.1⟩), wk_isD h.2⟩
theorem tblC_isD (i : Nat) : (tblC i).all CV.isD = true := by
  unfold tblC
  rw [List.all_append, Bool.and_eq_true]
  exact ⟨List.all_eq_true.2 fun c hc => by obtain ⟨n, _, rfl⟩ := List.mem_map.1 hc; rfl, List.all_eq_true.2 fun c hc => by rw [List.eq_of_mem_replicate hc]; rfl⟩
@[go_sem] theorem wk_tbl {H' : HMap} {A A' : AMap} {i : Nat} : wkCells H' A A' (tblC i) (tblC i) = True := eq_true (wk_isD (tblC_isD i))
theorem tblC_len {i : Nat} (h : i ≤ 256) : (tblC i).length = 256 := by simp [tblC, tbl_len]; omega
theorem tblC_next {i : Nat} (h : i < 256) : splice (tblC i) i [u32C (st8 i)] = tblC (i + 1) := by
  have hl : ((crcTbl.take i).map u32C).length = i := by simp [tbl_len]; omega
  have e : List.replicate (256 - i) (u32C 0) = u32C 0 :: List.replicate (256 - (i + 1)) (u32C 0) := by rw [show 256 - i = (256 - (i + 1)) + 1 by omega]; rfl
  unfold splice tblC
  rw [take_next (tbl_at h), List.map_append, e, List.take_append_of_le_length (by omega), List.take_of_length_le (by omega), List.drop_append, hl]
  simp [tbl_len]
  omega
theorem tblC_all : tblC 256 = crcTbl.map u32C := by unfold tblC; rw [List.take_of_length_le (by rw [tbl_len]; exact Nat.le_refl _)]; simp
set_option maxRecDepth 8000 in
set_option maxHeartbeats 8000000 in
theorem Tryz.kTable : PureOK Tryz.prog 146 [] (.one (.agg (crcTbl.map u32D))) := by
  refine Tryz.pure (md := []) Tryz.func146 rfl Tryz.call146 (by kernel_rfl) (by rfl) (by exact Nat.le_of_ble_eq_true rfl) ?_
  have c256 : ((256 : Nat) : Int) = 256 := rfl
  have c8 : ((8 : Nat) : Int) = 8 := rfl
  repeat' (first
   |with_reducible first|refine vSq fun K hK=>?_|refine vRg ?_|refine vBl ?_|refine vSc ?_|refine vIf ?_|refine vSk ?_|refine vEx ?_|refine vRt ?_
   |(with_reducible first|refine gNt (fun h=>?_) (fun h=>?_)|refine gCs (fun h=>?_) (fun h=>?_))<;>(try simp only[h])
   |with_reducible first|(refine hK _ ?_;clear hK K)|(clear hK K;refine hK _ ?_;clear hK K)|(clear hK K;clear hK K;refine hK _ ?_;clear hK K)|(clear hK K;clear hK K;clear hK K;refine hK _ ?_;clear hK K)
   |(with_reducible refine todo ?_;simp +decide only[go_sem, Tryz.zeTbl]))
  refine VC_range 256 (fun _ => True) (fun i => frame [(0, .c (.ptr 0 0)), (1, .c (.ptr 1 0)), (5, pD (.lit (.int .i64 i)))] [(0, tblC 0), (1, tblC i)] []) True.intro ?_ ?_
  · refine Weak_frame ?_ ?_ ?_ <;> simp +decide only [go_sem]
    exact ⟨wkP_ptr (by simp [hOf]), wkP_ptr (by simp [hOf])⟩
  · intro i hi hI
    rcases Nat.lt_or_ge i 256 with hlt | hge
    · have hd : ((i : Int) < 256) = True := eq_true (by omega)
      have hwi := int_next hlt (by decide)
      have hlT : (i < 256) = True := eq_true hlt
      have hu : IntKind.u32.wrap (i : Int) = (i : Int) := u32_nat (by omega)
      repeat' (first
       |with_reducible first|refine vSq fun K hK=>?_|refine vRg ?_|refine vBl ?_|refine vSc ?_|refine vIf ?_|refine vSk ?_|refine vEx ?_|refine vRt ?_
       |(with_reducible first|refine gNt (fun h=>?_) (fun h=>?_)|refine gCs (fun h=>?_) (fun h=>?_))<;>(try simp only[h])
       |with_reducible first|(refine hK _ ?_;clear hK K)|(clear hK K;refine hK _ ?_;clear hK K)|(clear hK K;clear hK K;refine hK _ ?_;clear hK K)|(clear hK K;clear hK K;clear hK K;refine hK _ ?_;clear hK K)
       |(with_reducible refine todo ?_;simp +decide only[go_sem, hd, hu]))
      refine VC_range 8 (fun _ => True) (fun k => frame [(0, .c (.ptr 0 0)), (1, .c (.ptr 1 0)), (2, pD (.lit (.int .i64 i))), (3, pD (u32D (stK k i))), (5, pD (.lit (.int .i64 i))), (10, pD (.lit (.int .i64 k)))] [(0, tblC 0), (1, tblC i)] []) True.intro ?_ ?_
      · refine Weak_frame ?_ ?_ ?_ <;> simp +decide only [go_sem, stK, u32D]
        exact ⟨wkP_ptr (by simp [hOf]), wkP_ptr (by simp [hOf])⟩
      · intro k hk hK'
        rcases Nat.lt_or_ge k 8 with hlt2 | hge2
        · have hd2 : ((k : Int) < 8) = True := eq_true (by omega)
          have hwk := int_next hlt2 (by decide)
          have hn := stK_lt (n := i) (by omega) k
          have hnx : stK (k + 1) i = st1 (stK k i) := rfl
          generalize stK k i = n at *
          have ha := iAnd_u32 hn
          have hs := iShr_u32 n 1 (by decide)
          have h2 : n / 2 ^ 1 = n / 2 := rfl
          rw [h2] at hs
          rcases Nat.mod_two_eq_zero_or_one n with h0 | h0
          · have hst : st1 n = n / 2 := by unfold st1; rw [if_neg (by omega)]
            rw [h0] at ha
            repeat' (first
             |with_reducible first|refine vSq fun K hK=>?_|refine vRg ?_|refine vBl ?_|refine vSc ?_|refine vIf ?_|refine vSk ?_|refine vEx ?_|refine vRt ?_
             |(with_reducible first|refine gNt (fun h=>?_) (fun h=>?_)|refine gCs (fun h=>?_) (fun h=>?_))<;>(try simp only[h])
             |with_reducible first|(refine hK _ ?_;clear hK K)|(clear hK K;refine hK _ ?_;clear hK K)|(clear hK K;clear hK K;refine hK _ ?_;clear hK K)|(clear hK K;clear hK K;clear hK K;refine hK _ ?_;clear hK K)
             |(with_reducible refine todo ?_;simp +decide only[go_sem, hd2, hwk, u32D, ha, hs]))
            refine Next_of hlt2 True.intro (Weak_frame ?_ ?_ ?_) <;> simp +decide only [go_sem, hnx, hst]
            exact ⟨wkP_ptr (by simp [hOf]), wkP_ptr (by simp [hOf])⟩
          · have hst : st1 n = (n / 2) ^^^ 3988292384 := by unfold st1; rw [if_pos h0]
            have hx : iXor .u32 ((n / 2 : Nat) : Int) 3988292384 = ((n / 2 ^^^ 3988292384 : Nat) : Int) := iXor_u32 (n := 3988292384) (by omega) (by decide)
            rw [h0] at ha
            repeat' (first
             |with_reducible first|refine vSq fun K hK=>?_|refine vRg ?_|refine vBl ?_|refine vSc ?_|refine vIf ?_|refine vSk ?_|refine vEx ?_|refine vRt ?_
             |(with_reducible first|refine gNt (fun h=>?_) (fun h=>?_)|refine gCs (fun h=>?_) (fun h=>?_))<;>(try simp only[h])
             |with_reducible first|(refine hK _ ?_;clear hK K)|(clear hK K;refine hK _ ?_;clear hK K)|(clear hK K;clear hK K;refine hK _ ?_;clear hK K)|(clear hK K;clear hK K;clear hK K;refine hK _ ?_;clear hK K)
             |(with_reducible refine todo ?_;simp +decide only[go_sem, hd2, hwk, u32D, ha, hs, hx]))
            refine Next_of hlt2 True.intro (Weak_frame ?_ ?_ ?_) <;> simp +decide only [go_sem, hnx, hst]
            exact ⟨wkP_ptr (by simp [hOf]), wkP_ptr (by simp [hOf])⟩
        · have hd2 : ((k : Int) < 8) = False := eq_false (by omega)
          have hk8 : k = 8 := by omega
          subst hk8
          have hlen := tblC_len hi
          have hle : (i + 1 ≤ 256) = True := eq_true (by omega)
          have hsp : (tblC i).take i ++ [CV.d (u32D (stK 8 i))] ++ (tblC i).drop (i + 1) = tblC (i + 1) := tblC_next hlt
          repeat' (first
           |with_reducible first|refine vSq fun K hK=>?_|refine vRg ?_|refine vBl ?_|refine vSc ?_|refine vIf ?_|refine vSk ?_|refine vEx ?_|refine vRt ?_
           |(with_reducible first|refine gNt (fun h=>?_) (fun h=>?_)|refine gCs (fun h=>?_) (fun h=>?_))<;>(try simp only[h])
           |with_reducible first|(refine hK _ ?_;clear hK K)|(clear hK K;refine hK _ ?_;clear hK K)|(clear hK K;clear hK K;refine hK _ ?_;clear hK K)|(clear hK K;clear hK K;clear hK K;refine hK _ ?_;clear hK K)
           |(with_reducible refine todo ?_;simp +decide only[go_sem, hwi, hlT, hlen, hle, hsp, c8]))
          refine Next_of hlt True.intro (Weak_frame ?_ ?_ ?_) <;> simp +decide only [go_sem]
          exact ⟨wkP_ptr (by simp [hOf]), wkP_ptr (by simp [hOf])⟩
    · have hd : ((i : Int) < 256) = False := eq_false (by omega)
      have hi256 : i = 256 := by omega
      subst hi256
      have q1 : (tblC 256).take 256 = tblC 256 := List.take_of_length_le (by rw [tblC_len (Nat.le_refl _)]; exact Nat.le_refl _)
      have q2 : (tblC 0).drop 256 = [] := List.drop_of_length_le (by rw [tblC_len (by decide)]; exact Nat.le_refl _)
      have q3 := tblC_len (Nat.le_refl 256)
      have q4 := tblC_len (Nat.zero_le 256)
      repeat' (first
       |with_reducible first|refine vSq fun K hK=>?_|refine vRg ?_|refine vBl ?_|refine vSc ?_|refine vIf ?_|refine vSk ?_|refine vEx ?_|refine vRt ?_
       |(with_reducible first|refine gNt (fun h=>?_) (fun h=>?_)|refine gCs (fun h=>?_) (fun h=>?_))<;>(try simp only[h])
       |with_reducible first|(refine hK _ ?_;clear hK K)|(clear hK K;refine hK _ ?_;clear hK K)|(clear hK K;clear hK K;refine hK _ ?_;clear hK K)|(clear hK K;clear hK K;clear hK K;refine hK _ ?_;clear hK K)
       |(with_reducible refine todo ?_;simp +decide only[go_sem, c256, q1, q2, q3, q4]))
      refine Ret_cell rfl ?_
      simp +decide only [go_sem, q1]
      rw [tblC_all, List.map_map]
      rfl
end Go.Proofs

namespace Go.Proofs
open Go.PW
theorem foldl_next {α β : Type} {f : β → α → β} {b : β} {l : List α} {i : Nat} {x : α} (h : l[i]? = some x) : (l.take (i + 1)).foldl f b = f ((l.take i).foldl f b) x := by
  rw [take_next h, List.foldl_append]; rfl
def tblF : List CV := (crcTbl.map u32D).map .d
theorem tblF_len : tblF.length = 256 := by simp [tblF, tbl_len]
theorem tblF_isD : tblF.all CV.isD = true := List.all_eq_true.2 fun c hc => by obtain ⟨n, _, rfl⟩ := List.mem_map.1 hc; rfl
@[go_sem] theorem wk_tblF {H' : HMap} {A A' : AMap} : wkCells H' A A' tblF tblF = True := eq_true (wk_isD tblF_isD)
theorem tblF_at {i : Nat} (h : i < 256) : (tblF.drop i).take 1 = [.d (u32D (tblAt i))] := by
  have hl : i < tblF.length := by rw [tblF_len]; exact h
  rw [List.drop_eq_getElem_cons hl, List.take_succ_cons, List.take_zero]
  have : tblF[i] = .d (u32D (tblAt i)) := by
    have h1 : tblF[i]? = some (.d (u32D (tblAt i))) := by
      unfold tblF tblAt
      rw [List.getElem?_map, List.getElem?_map, tbl_at h]
      rfl
    rw [List.getElem?_eq_getElem hl] at h1
    exact Option.some.inj h1
  rw [this]
set_option maxRecDepth 8000 in
set_option maxHeartbeats 8000000 in
theorem Tryz.kMore (s : Nat) (l : List UInt8) (hs : s < 4294967296) (hl : l.length ≤ 4294967296) : PureOK Tryz.prog 144 [pD (u32D s), pD (dS l)] (.one (.d (u32D (crcMore s l)))) := by
  refine Tryz.pure (md := []) Tryz.func144 rfl Tryz.call144 (by kernel_rfl) (by rfl) (by exact Nat.le_of_ble_eq_true rfl) ?_
  have kt : PureOK Tryz.prog 146 [] (.one (.agg (crcTbl.map u32D))) := Tryz.kTable
  have hF : (crcTbl.map u32D).map CV.d = tblF := rfl
  have q1 := tblF_len
  have q3 : (tblC 0).drop 256 = [] := List.drop_of_length_le (by rw [tblC_len (by decide)]; exact Nat.le_refl _)
  have hn0 := iNot_u32 hs
  repeat' (first
   |with_reducible first|refine vSq fun K hK=>?_|refine vRg ?_|refine vBl ?_|refine vSc ?_|refine vIf ?_|refine vSk ?_|refine vEx ?_|refine vRt ?_
   |(with_reducible first|refine gNt (fun h=>?_) (fun h=>?_)|refine gCs (fun h=>?_) (fun h=>?_))<;>(try simp only[h])
   |refine C_pure kt rfl rfl (fun _ => rfl) ?_
   |with_reducible first|(refine hK _ ?_;clear hK K)|(clear hK K;refine hK _ ?_;clear hK K)|(clear hK K;clear hK K;refine hK _ ?_;clear hK K)|(clear hK K;clear hK K;clear hK K;refine hK _ ?_;clear hK K)
   |(with_reducible refine todo ?_;simp +decide only[go_sem, Tryz.zeTbl, hF, q1, q3, u32D, hn0]))
  refine VC_range l.length (fun _ => True) (fun i => frame [(1, pD (dS l)), (5, .c (.ptr 5 0)), (6, pD (u32D ((l.take i).foldl crcStep (4294967295 ^^^ s)))), (12, pD (.lit (.int .i64 l.length))), (13, pD (.lit (.int .i64 i)))] [(5, tblF)] []) True.intro ?_ ?_
  · refine Weak_frame ?_ ?_ ?_ <;> simp +decide only [go_sem, List.foldl_nil, u32D]
    exact wkP_ptr (by simp [hOf])
  · intro i hi hI
    rcases Nat.lt_or_ge i l.length with hlt | hge
    · have hg := List.getElem?_eq_getElem hlt
      have hd := int_lt_true hlt
      have hwi := int_next hlt (show l.length ≤ 4294967296 by omega)
      generalize l[i] = b at hg
      have hnx := foldl_next (f := crcStep) (b := 4294967295 ^^^ s) hg
      have hn : (l.take i).foldl crcStep (4294967295 ^^^ s) < 4294967296 := crcFold_lt _ (xor_lt (by decide) hs)
      generalize (l.take i).foldl crcStep (4294967295 ^^^ s) = n at *
      have h8 := u8_nat n
      have hm : n % 256 < 256 := by omega
      have hx := iXor_u8 hm b.toNat_lt
      have hj := xor_byte (b := b) hm
      have hst : crcStep n b = tblAt ((n % 256) ^^^ b.toNat) ^^^ (n / 256) := rfl
      generalize (n % 256) ^^^ b.toNat = j at *
      have hjT : (j < 256) = True := eq_true hj
      have hjl : (j + 1 ≤ 256) = True := eq_true (by omega)
      have hat := tblF_at hj
      have hsh : iShr .u32 (n : Int) 8 = ((n / 256 : Nat) : Int) := iShr_u32 n 8 (by decide)
      have hxx := iXor_u32 (tblAt_lt j) (show n / 256 < 4294967296 by omega)
      repeat' (first
       |with_reducible first|refine vSq fun K hK=>?_|refine vRg ?_|refine vBl ?_|refine vSc ?_|refine vIf ?_|refine vSk ?_|refine vEx ?_|refine vRt ?_
       |(with_reducible first|refine gNt (fun h=>?_) (fun h=>?_)|refine gCs (fun h=>?_) (fun h=>?_))<;>(try simp only[h])
       |with_reducible first|(refine hK _ ?_;clear hK K)|(clear hK K;refine hK _ ?_;clear hK K)|(clear hK K;clear hK K;refine hK _ ?_;clear hK K)|(clear hK K;clear hK K;clear hK K;refine hK _ ?_;clear hK K)
       |(with_reducible refine todo ?_;simp +decide only[go_sem, hg, hd, hwi, u32D, h8, hx, hjT, hjl, q1, hat, hsh, hxx]))
      refine Next_of hlt True.intro (Weak_frame ?_ ?_ ?_) <;> simp +decide only [go_sem, hnx, hst]
      exact wkP_ptr (by simp [hOf])
    · have hd := int_lt_false hge
      rw [List.take_of_length_le hge]
      have hn : l.foldl crcStep (4294967295 ^^^ s) < 4294967296 := crcFold_lt _ (xor_lt (by decide) hs)
      have hend := iNot_u32 hn
      repeat' (first
       |with_reducible first|refine vSq fun K hK=>?_|refine vRg ?_|refine vBl ?_|refine vSc ?_|refine vIf ?_|refine vSk ?_|refine vEx ?_|refine vRt ?_
       |(with_reducible first|refine gNt (fun h=>?_) (fun h=>?_)|refine gCs (fun h=>?_) (fun h=>?_))<;>(try simp only[h])
       |with_reducible first|(refine hK _ ?_;clear hK K)|(clear hK K;refine hK _ ?_;clear hK K)|(clear hK K;clear hK K;refine hK _ ?_;clear hK K)|(clear hK K;clear hK K;clear hK K;refine hK _ ?_;clear hK K)
       |(with_reducible refine todo ?_;simp +decide only[go_sem, hd, u32D, hend]))
      exact Ret_d rfl rfl
def crcOf (l : List UInt8) : Nat := crcMore 0 l
theorem crcOf_lt (l : List UInt8) : crcOf l < 4294967296 := crcMore_lt l (by decide)
theorem Tryz.kOf (l : List UInt8) (hl : l.length ≤ 4294967296) : PureOK Tryz.prog 140 [pD (dS l)] (.one (.d (u32D (crcOf l)))) := by
  refine Tryz.pure (md := []) Tryz.func140 rfl Tryz.call140 (by kernel_rfl) (by rfl) (by exact Nat.le_of_ble_eq_true rfl) ?_
  have km := Tryz.kMore 0 l (by decide) hl
  change PureOK _ _ [pD (.lit (.int .u32 0)), _] _ at km
  repeat' (first
   |with_reducible first|refine vSq fun K hK=>?_|refine vRg ?_|refine vBl ?_|refine vSc ?_|refine vIf ?_|refine vSk ?_|refine vEx ?_|refine vRt ?_
   |(with_reducible first|refine gNt (fun h=>?_) (fun h=>?_)|refine gCs (fun h=>?_) (fun h=>?_))<;>(try simp only[h])
   |refine C_pure km rfl rfl (fun _ => rfl) ?_
   |with_reducible first|(refine hK _ ?_;clear hK K)|(clear hK K;refine hK _ ?_;clear hK K)|(clear hK K;clear hK K;refine hK _ ?_;clear hK K)|(clear hK K;clear hK K;clear hK K;refine hK _ ?_;clear hK K)
   |(with_reducible refine todo ?_;simp +decide only[go_sem]))
  exact Ret_d rfl rfl
def sumB (n : Nat) : Nat → List UInt8
  | 0 => []
  | k + 1 => sumB n k ++ [UInt8.ofNat (n / 256 ^ k % 256)]
def crcPut (l : List UInt8) : List UInt8 := l ++ sumB (crcOf l) 4
theorem sumB_len (n : Nat) : ∀ k, (sumB n k).length = k
  | 0 => rfl
  | k + 1 => by rw [sumB, List.length_append, sumB_len n k]; rfl
theorem crcPut_len (l : List UInt8) : (crcPut l).length = l.length + 4 := by rw [crcPut, List.length_append, sumB_len]
set_option maxRecDepth 8000 in
set_option maxHeartbeats 8000000 in
theorem Tryz.kPut (l : List UInt8) (hl : l.length ≤ 1073741824) : PureOK Tryz.prog 123 [pD (dS l)] (.one (.d (dS (crcPut l)))) := by
  refine pure_ok (E := envOf Tryz.prog [1000000 + 84] 0 [] []) (envOf_ok Tryz.mixed) Tryz.func123 rfl Tryz.call123 (by kernel_rfl) (by rfl) (by exact Nat.le_of_ble_eq_true rfl) ?_
  have ko := Tryz.kOf l (by omega)
  have hb := crcOf_lt l
  have c4 : ((4 : Nat) : Int) = 4 := rfl
  repeat' (first
   |with_reducible first|refine vSq fun K hK=>?_|refine vRg ?_|refine vBl ?_|refine vSc ?_|refine vIf ?_|refine vSk ?_|refine vEx ?_|refine vRt ?_
   |(with_reducible first|refine gNt (fun h=>?_) (fun h=>?_)|refine gCs (fun h=>?_) (fun h=>?_))<;>(try simp only[h])
   |refine C_pure ko rfl rfl (fun _ => rfl) ?_
   |refine W_bytes Tryz.strT Tryz.bytesT rfl rfl ?_
   |with_reducible first|(refine hK _ ?_;clear hK K)|(clear hK K;refine hK _ ?_;clear hK K)|(clear hK K;clear hK K;refine hK _ ?_;clear hK K)|(clear hK K;clear hK K;clear hK K;refine hK _ ?_;clear hK K)
   |(with_reducible refine todo ?_;simp +decide only[go_sem]))
  refine VC_range 4 (fun _ => True) (fun i => frame [(3, .c (.own (7, 0) (bytesEls (l ++ sumB (crcOf l) i)))), (4, pD (u32D (crcOf l / 256 ^ i))), (5, pD (.lit (.int .i64 i)))] [] [((7, 0), .co 1 (l ++ sumB (crcOf l) i).length)]) True.intro ?_ ?_
  · refine Weak_frame ?_ ?_ ?_ <;> simp +decide only [go_sem, sumB, u32D, Nat.pow_zero, Nat.div_one]
    exact wkP_own (by simp [aOf]) (by simp [aOf, upd])
  · intro i hi hI
    generalize hc : crcOf l = c at *
    have hcl : (l ++ sumB c i).length = l.length + i := by rw [List.length_append, sumB_len]
    have hbl : (bytesEls (l ++ sumB c i)).length = l.length + i := by rw [bytesEls_length, hcl]
    rcases Nat.lt_or_ge i 4 with hlt | hge
    · have hd : ((i : Int) < 4) = True := eq_true (by omega)
      have hwi := int_next hlt (by decide)
      have h8 := u8_nat (c / 256 ^ i)
      have hsh : iShr .u32 ((c / 256 ^ i : Nat) : Int) 8 = ((c / 256 ^ (i + 1) : Nat) : Int) := by
        rw [iShr_u32 _ 8 (by decide), Nat.div_div_eq_div_mul]
        rfl
      have hnx : bytesEls (l ++ sumB c (i + 1)) = bytesEls (l ++ sumB c i) ++ [[.lit (.int .u8 ((c / 256 ^ i % 256 : Nat) : Int))]] := by
        rw [bytesEls_one _ (by omega) (by omega), bytesEls_append, Int.toNat_natCast, sumB, List.append_assoc]
      repeat' (first
       |with_reducible first|refine vSq fun K hK=>?_|refine vRg ?_|refine vBl ?_|refine vSc ?_|refine vIf ?_|refine vSk ?_|refine vEx ?_|refine vRt ?_
       |(with_reducible first|refine gNt (fun h=>?_) (fun h=>?_)|refine gCs (fun h=>?_) (fun h=>?_))<;>(try simp only[h])
       |(refine W_own Tryz.appBytes rfl (szBytes _) (szOne rfl) (by rw [hbl]; show (l.length + i + 1) * 1 ≤ _; omega) (by rw [hbl]; rfl) ?_)
       |with_reducible first|(refine hK _ ?_;clear hK K)|(clear hK K;refine hK _ ?_;clear hK K)|(clear hK K;clear hK K;refine hK _ ?_;clear hK K)|(clear hK K;clear hK K;clear hK K;refine hK _ ?_;clear hK K)
       |(with_reducible refine todo ?_;simp +decide only[go_sem, hd, hwi, u32D, h8, hsh, hcl]))
      refine Next_of hlt True.intro (Weak_frame ?_ ?_ ?_) <;> simp +decide only [go_sem, hnx]
      · exact wkP_own (by simp [aOf]) (by simp [aOf, upd, bytesEls_length, sumB_len]; omega)
      · simp [bytesEls_length, sumB_len]; omega
    · have hi4 : i = 4 := by omega
      subst hi4
      repeat' (first
       |with_reducible first|refine vSq fun K hK=>?_|refine vRg ?_|refine vBl ?_|refine vSc ?_|refine vIf ?_|refine vSk ?_|refine vEx ?_|refine vRt ?_
       |(with_reducible first|refine gNt (fun h=>?_) (fun h=>?_)|refine gCs (fun h=>?_) (fun h=>?_))<;>(try simp only[h])
       |with_reducible first|(refine hK _ ?_;clear hK K)|(clear hK K;refine hK _ ?_;clear hK K)|(clear hK K;clear hK K;refine hK _ ?_;clear hK K)|(clear hK K;clear hK K;clear hK K;refine hK _ ?_;clear hK K)
       |(with_reducible refine todo ?_;simp +decide only[go_sem, c4]))
      rw [crcPut, hc]
      exact Ret_d rfl rfl
end Go.Proofs

namespace Go.Proofs
open Go.PW
def crcTake (s : List UInt8) : Option (List UInt8) := if 4 ≤ s.length then (if crcPut (s.take (s.length - 4)) = s then some (s.take (s.length - 4)) else none) else none
def optS : Option (List UInt8) → RV
  | some s => .tup [.d (dS s), .d (.lit (.bool true))]
  | none => .tup [.d (dS []), .d (.lit (.bool false))]
set_option maxRecDepth 8000 in
set_option maxHeartbeats 8000000 in
theorem Tryz.kTake (s : List UInt8) (hl : s.length ≤ 1073741824) : PureOK Tryz.prog 119 [pD (dS s)] (optS (crcTake s)) := by
  refine Tryz.pure (md := []) Tryz.func119 rfl Tryz.call119 (by kernel_rfl) (by rfl) (by exact Nat.le_of_ble_eq_true rfl) ?_
  rcases Nat.lt_or_ge s.length 4 with h4 | h4
  · have e : crcTake s = none := by unfold crcTake; rw [if_neg (by omega)]
    have hw : IntKind.i64.wrap ((s.length : Int) - 4) = (s.length : Int) - 4 := Go.IntWalk.i64_in _ (by omega)
    have hd : ((s.length : Int) - 4 < 0) = True := eq_true (by omega)
    repeat' (first
     |with_reducible first|refine vSq fun K hK=>?_|refine vRg ?_|refine vBl ?_|refine vSc ?_|refine vIf ?_|refine vSk ?_|refine vEx ?_|refine vRt ?_
     |(with_reducible first|refine gNt (fun h=>?_) (fun h=>?_)|refine gCs (fun h=>?_) (fun h=>?_))<;>(try simp only[h])
     |with_reducible first|(refine hK _ ?_;clear hK K)|(clear hK K;refine hK _ ?_;clear hK K)|(clear hK K;clear hK K;refine hK _ ?_;clear hK K)|(clear hK K;clear hK K;clear hK K;refine hK _ ?_;clear hK K)
     |(with_reducible refine todo ?_;simp +decide only[go_sem, hw, hd]))
    rw [e]
    exact Ret_two none rfl (.inl rfl) (.inl rfl)
  · have hw : IntKind.i64.wrap ((s.length : Int) - 4) = ((s.length - 4 : Nat) : Int) := by rw [Go.IntWalk.i64_in _ (by omega)]; omega
    have hd : (((s.length - 4 : Nat) : Int) < 0) = False := eq_false (by omega)
    have hz : List.drop 0 s = s := rfl
    have kp := Tryz.kPut (s.take (s.length - 4)) (by rw [List.length_take]; omega)
    have e0 : crcTake s = if crcPut (s.take (s.length - 4)) = s then some (s.take (s.length - 4)) else none := by unfold crcTake; rw [if_pos h4]
    cases hq : (crcPut (s.take (s.length - 4)) == s) with
    | false =>
      have e : crcTake s = none := by rw [e0, if_neg (by simpa using hq)]
      repeat' (first
       |with_reducible first|refine vSq fun K hK=>?_|refine vRg ?_|refine vBl ?_|refine vSc ?_|refine vIf ?_|refine vSk ?_|refine vEx ?_|refine vRt ?_
       |(with_reducible first|refine gNt (fun h=>?_) (fun h=>?_)|refine gCs (fun h=>?_) (fun h=>?_))<;>(try simp only[h])
       |refine C_pure kp rfl rfl (fun _ => rfl) ?_
       |refine W_slcS (a := s) (l := 0) (h := s.length - 4) Tryz.underlying9 rfl rfl (by simp [optNat, natOf?, intOf?]) (Nat.zero_le _) (Nat.sub_le _ _) ?_
       |with_reducible first|(refine hK _ ?_;clear hK K)|(clear hK K;refine hK _ ?_;clear hK K)|(clear hK K;clear hK K;refine hK _ ?_;clear hK K)|(clear hK K;clear hK K;clear hK K;refine hK _ ?_;clear hK K)
       |(with_reducible refine todo ?_;simp +decide only[go_sem, hw, hd, hz, Nat.sub_zero, hq]))
      rw [e]
      exact Ret_two none rfl (.inl rfl) (.inl rfl)
    | true =>
      have e : crcTake s = some (s.take (s.length - 4)) := by rw [e0, if_pos (by simpa using hq)]
      repeat' (first
       |with_reducible first|refine vSq fun K hK=>?_|refine vRg ?_|refine vBl ?_|refine vSc ?_|refine vIf ?_|refine vSk ?_|refine vEx ?_|refine vRt ?_
       |(with_reducible first|refine gNt (fun h=>?_) (fun h=>?_)|refine gCs (fun h=>?_) (fun h=>?_))<;>(try simp only[h])
       |refine C_pure kp rfl rfl (fun _ => rfl) ?_
       |refine W_slcS (a := s) (l := 0) (h := s.length - 4) Tryz.underlying9 rfl rfl (by simp [optNat, natOf?, intOf?]) (Nat.zero_le _) (Nat.sub_le _ _) ?_
       |with_reducible first|(refine hK _ ?_;clear hK K)|(clear hK K;refine hK _ ?_;clear hK K)|(clear hK K;clear hK K;refine hK _ ?_;clear hK K)|(clear hK K;clear hK K;clear hK K;refine hK _ ?_;clear hK K)
       |(with_reducible refine todo ?_;simp +decide only[go_sem, hw, hd, hz, Nat.sub_zero, hq]))
      rw [e]
      exact Ret_two none rfl (.inl rfl) (.inl rfl)
theorem st1_eq (n : Nat) : st1 n = (n / 2) ^^^ (if n % 2 = 1 then 3988292384 else 0) := by unfold st1; split <;> simp
theorem xor_half (a b : Nat) : (a ^^^ b) / 2 = (a / 2) ^^^ (b / 2) := by
  apply Nat.eq_of_testBit_eq
  intro i
  have h : ∀ n : Nat, (n / 2).testBit i = n.testBit (i + 1) := fun n => by rw [Nat.testBit_succ]
  rw [h, Nat.testBit_xor, Nat.testBit_xor, h, h]
theorem xor_odd (a b : Nat) : (a ^^^ b) % 2 = 1 ↔ ¬ (a % 2 = 1 ↔ b % 2 = 1) := by
  have h : ∀ n : Nat, n % 2 = 1 ↔ n.testBit 0 = true := fun n => by simp [Nat.testBit_zero]
  rw [h, h, h, Nat.testBit_xor]
  cases a.testBit 0 <;> cases b.testBit 0 <;> simp
theorem st1_xor (a b : Nat) : st1 (a ^^^ b) = st1 a ^^^ st1 b := by
  rw [st1_eq, st1_eq, st1_eq, xor_half]
  have hx := xor_odd a b
  by_cases ha : a % 2 = 1 <;> by_cases hb : b % 2 = 1
  · rw [if_neg (by rw [hx]; simp [ha, hb]), if_pos ha, if_pos hb]
    rw [Nat.xor_zero, show a / 2 ^^^ 3988292384 ^^^ (b / 2 ^^^ 3988292384) = a / 2 ^^^ b / 2 by rw [Nat.xor_assoc, ← Nat.xor_assoc 3988292384, Nat.xor_comm 3988292384 (b / 2), Nat.xor_assoc, Nat.xor_self, Nat.xor_zero]]
  · rw [if_pos (by rw [hx]; simp [ha, hb]), if_pos ha, if_neg hb, Nat.xor_zero, Nat.xor_assoc, Nat.xor_assoc, Nat.xor_comm 3988292384]
  · rw [if_pos (by rw [hx]; simp [ha, hb]), if_neg ha, if_pos hb, Nat.xor_zero, Nat.xor_assoc]
  · rw [if_neg (by rw [hx]; simp [ha, hb]), if_neg ha, if_neg hb, Nat.xor_zero, Nat.xor_zero, Nat.xor_zero]
theorem stK_xor (a b : Nat) : ∀ k, stK k (a ^^^ b) = stK k a ^^^ stK k b
  | 0 => rfl
  | k + 1 => by
    show st1 (stK k (a ^^^ b)) = _
    rw [stK_xor a b k, st1_xor]
    rfl
theorem st1_even (n : Nat) : st1 (2 * n) = n := by rw [st1_eq, if_neg (by omega), Nat.xor_zero]; omega
theorem st8_hi (n : Nat) : st8 (n * 256) = n := by
  show st1 (st1 (st1 (st1 (st1 (st1 (st1 (st1 (n * 256)))))))) = n
  rw [show n * 256 = 2 * (2 * (2 * (2 * (2 * (2 * (2 * (2 * n))))))) by omega]
  simp only [st1_even]
theorem split_256 (n : Nat) : n = (n % 256) ^^^ (n / 256 * 256) := by
  apply Nat.eq_of_testBit_eq
  intro i
  rw [Nat.testBit_xor, show 256 = 2 ^ 8 from rfl, Nat.testBit_mod_two_pow, Nat.testBit_mul_two_pow, Nat.testBit_div_two_pow]
  by_cases h : i < 8
  · simp [h, show ¬ 8 ≤ i by omega]
  · simp [h, show 8 ≤ i by omega]
theorem crcStep_eq {n : Nat} (b : UInt8) : crcStep n b = st8 (n ^^^ b.toNat) := by
  have hj := xor_byte (b := b) (show n % 256 < 256 by omega)
  have e : n ^^^ b.toNat = ((n % 256) ^^^ b.toNat) ^^^ (n / 256 * 256) := by
    conv => lhs; rw [split_256 n]
    rw [Nat.xor_assoc, Nat.xor_comm (n / 256 * 256), ← Nat.xor_assoc]
  unfold crcStep tblAt
  rw [tbl_at hj, e]
  show st8 _ ^^^ _ = stK 8 _
  rw [stK_xor]
  show _ = st8 _ ^^^ st8 _
  rw [st8_hi]
theorem not_sub {n : Nat} (h : n < 4294967296) : 4294967295 - n = 4294967295 ^^^ n := by
  have key : ∀ i < 32, (4294967295 : Nat).testBit i = true := by decide
  apply Nat.eq_of_testBit_eq
  intro i
  rw [show 4294967295 - n = 2 ^ 32 - (n + 1) by omega, Nat.testBit_two_pow_sub_succ h, Nat.testBit_xor]
  by_cases hi : i < 32
  · rw [key i hi]
    simp [hi]
  · have h1 : n.testBit i = false := Nat.testBit_lt_two_pow (Nat.lt_of_lt_of_le h (Nat.pow_le_pow_right (n := 2) (by decide) (show 32 ≤ i by omega)))
    have h2 : (4294967295 : Nat).testBit i = false := Nat.testBit_lt_two_pow (Nat.lt_of_lt_of_le (show 4294967295 < 2 ^ 32 by decide) (Nat.pow_le_pow_right (n := 2) (by decide) (show 32 ≤ i by omega)))
    rw [h1, h2]
    simp [hi]
end Go.Proofs
