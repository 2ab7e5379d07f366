/- Lemmas about the typed texts (joined: LSealApart LSealBack SRef1). -/
import Derived.Test.YthiccnmplgdheaaG11
import Derived.Test.YthiccnmplgdheaaG5
import Derived.Test.YthiccnmplgdheaaG8
set_option linter.unusedVariables false
set_option linter.unusedSimpArgs false
namespace Go.Proofs.Ythiccnmplgdheaa.T
open Go Go.Abs Go.Proofs
theorem rsize_f (n : Int) (h : H) : ref1_size n h = some (if okN n then sz n else -1, h) := by
  unfold ref1_size P.ref1_size
  rw [may_f, bind2_some]
  simp only [condK_eq]
  by_cases hk : okN n
  · simp only [hk, decide_true, Bool.not_true, Bool.false_eq_true, if_false, if_true, decide_eq_true_eq]
    unfold sz
    (repeat' split) <;> rfl
  · simp only [hk, decide_false, Bool.not_false, if_true, if_false]
theorem rsize_loop {h : H} {s : Sl} {zs : List Int} (hr : RdI .i64 h s zs) (hl : zs.length <= 2 ^ 46) : ∀ (k i : Nat) (sum : Int), i + k = zs.length -> 0 <= sum -> sum <= 8 * i ->
    loopO ref1_Size_l1 ((s, (sum, (i : Int))), h) = some (match szs (zs.drop i) with | some t => Sum.inl (sum + t, h) | none => Sum.inr (-1, h))
  | 0, i, sum, hik, h0, h1 => by
    rw [loopO_eq]
    have : zs.drop i = [] := List.drop_eq_nil_of_le (by omega)
    rw [this]
    simp only [P.ref1_Size_l1, condK_eq, decide_eq_true_eq, hr.len, show ¬ ((i : Int) < (zs.length : Int)) by omega, if_false, szs, Int.add_zero]
  | k + 1, i, sum, hik, h0, h1 => by
    rw [loopO_eq]
    obtain ⟨a, ha, e1, e2⟩ := hr.at (i := (i : Int)) (by omega) (by omega)
    have hd := drop_getD (zs := zs) (i := i) (by omega)
    simp only [Int.toNat_natCast] at e1 e2
    simp only [P.ref1_Size_l1, condK_eq, decide_eq_true_eq, hr.len, show ((i : Int) < (zs.length : Int)) by omega, if_true]
    rw [e1, bindO_some, e2, bindO_some, may_f, bind2_some]
    simp only [hd, szs]
    by_cases hn : okN (zs.getD i 0)
    · simp only [hn, decide_true, Bool.not_true, Bool.false_eq_true, if_false, if_true]
      rw [bindO_some, e2, bindO_some, rsize_f, bind2_some]
      simp only [hn, if_true]
      have hs := sz_pos (zs.getD i 0)
      rw [w64 (n := sum + sz _) (by omega) (by omega), w64 (n := (i : Int) + 1) (by omega) (by omega)]
      have := rsize_loop hr hl k (i + 1) (sum + sz (zs.getD i 0)) (by omega) (by omega) (by omega)
      simp only [Int.natCast_add, Int.natCast_one] at this
      simp only [this]
      cases szs (zs.drop (i + 1)) with
      | none => rfl
      | some t => simp only [Option.map_some, Int.add_assoc]
    · simp only [hn, decide_false, Bool.not_false, if_true, if_false]
theorem RSize_f {h : H} {s : Sl} {zs : List Int} (hr : RdI .i64 h s zs) (hl : zs.length <= 2 ^ 46) : ref1_Size s h = some (szV zs, h) := by
  unfold ref1_Size P.ref1_Size szV
  have := rsize_loop hr hl zs.length 0 0 (by omega) (by omega) (by omega)
  simp only [Int.natCast_zero, List.drop_zero, Int.zero_add] at this
  rw [show loopO (P.ref1_Size_l1 ref1_May ref1_size) = loopO ref1_Size_l1 from rfl, this]
  cases szs zs <;> rfl
theorem szs_nonneg : ∀ (zs : List Int) (t : Int), szs zs = some t -> 0 <= t
  | [], t, h => by simp [szs] at h; omega
  | n :: l, t, h => by
    unfold szs at h
    split at h
    · simp only [Option.map_eq_some_iff] at h
      obtain ⟨u, h1, h2⟩ := h
      have := szs_nonneg l u h1
      have := sz_pos n
      omega
    · simp at h
theorem szs_all : ∀ zs : List Int, (szs zs).isSome = true ↔ ∀ x ∈ zs, okN x
  | [] => by simp [szs]
  | n :: l => by
    have ih := szs_all l
    unfold szs
    by_cases hn : okN n
    · simp [hn, ih]
    · simp [hn]
theorem szV_neg (zs : List Int) : szV zs < 0 ↔ ¬ ∀ x ∈ zs, okN x := by
  rw [<- szs_all]
  unfold szV
  cases hz : szs zs with
  | none => simp
  | some t => have := szs_nonneg zs t hz; simp; omega
theorem byte_atk (k' : IntKind) {x : Int} (h0 : 0 <= x) (m : Nat) (hm : m < 8) : ∃ y, shrT .i64 x k' (8 * (m : Int)) = some y /\ IntKind.wrap .u8 y = ((UInt8.ofNat (x.toNat / 256 ^ m)).toNat : Int) := by
  obtain ⟨y, e1, e2⟩ := byte_at h0 m hm
  refine ⟨y, ?_, e2⟩
  rw [shrT_ok _ _ _ (by omega)] at e1 ⊢
  exact e1
theorem app_one {h0 h : H} {out : Sl} {l : List UInt8} (bv : UInt8) (hb : BufB h out l) (hx : EX h0 h) (hf : Fr h0.size out) (hl : l.length + 1 <= 2 ^ 47) :
    ∃ out1 h2, appT 5 1 1 (newAt (grow h 1) h.size (row 5 [.int .u8 (bv.toNat : Int)])) out ⟨some ⟨h.size, 0, some 0⟩, 1, 1⟩ = some (out1, h2) /\ BufB h2 out1 (l ++ [bv]) /\ EX h0 h2 /\ Fr h0.size out1 := by
  rw [show row 5 [Value.int .u8 (bv.toNat : Int)] = row 5 (vB [bv]) from rfl]
  have x1 := wf_new hx.wf 5 (vB [bv])
  have b1 : BufB _ ⟨some ⟨h.size, 0, some 0⟩, 1, 1⟩ [bv] := bufB_new hx.wf 5 [bv] (by simp [B63])
  generalize newAt (grow h 1) h.size (row 5 (vB [bv])) = h1 at x1 b1 ⊢
  generalize (⟨some ⟨h.size, 0, some 0⟩, 1, 1⟩ : Sl) = s1 at b1 ⊢
  obtain ⟨out1, h2, e3, k3, x3, b3, _, f3⟩ := appB_ok (e := 5) x1.wf (hb.ex hx.wf x1) b1.rd (by simp; omega)
  exact ⟨out1, h2, e3, b3, x3 _ (hx.trans x1) hf, f3 _ (hx.trans x1).size hf⟩
theorem rput_low {h0 : H} {x k : Int} (hx : 0 <= x) : ∀ (m : Nat) (out : Sl) (l : List UInt8) (h : H), m <= 7 -> (m : Int) < k -> k <= 8 -> BufB h out l -> EX h0 h -> Fr h0.size out -> l.length + m <= 2 ^ 47 ->
    ∃ out' h', loopO ref1_put_l1 ((out, (x, (k, (m : Int) - 1))), h) = some (Sum.inl (out', h')) /\ BufB h' out' (l ++ be m x.toNat) /\ EX h0 h' /\ Fr h0.size out'
  | 0, out, l, h, hm, hmk, hk8, hb, hx0, hf, hl => by
    refine ⟨out, h, ?_, by simpa [be] using hb, hx0, hf⟩
    rw [loopO_eq]
    simp only [ref1_put_l1, P.ref1_put_l1, condK_eq, decide_eq_true_eq, show ¬ (((0 : Nat) : Int) - 1 >= 0) by omega, if_false]
  | m + 1, out, l, h, hm, hmk, hk8, hb, hx0, hf, hl => by
    obtain ⟨y, e1, e2⟩ := byte_atk .u64 hx m (by omega)
    rw [loopO_eq]
    simp only [ref1_put_l1, P.ref1_put_l1, condK_eq, decide_eq_true_eq, show (((m + 1 : Nat) : Int) - 1 >= 0) by omega, if_true]
    rw [show (((m + 1 : Nat) : Int) - 1) = (m : Int) by omega, w64 (n := 8 * (m : Int)) (by omega) (by omega), wu64 (by omega) (by omega), e1, bindO_some, e2]
    rw [w64 (n := k - 1) (by omega) (by omega), show ((m : Int) == k - 1) = false by simp; omega]
    simp only [Bool.false_eq_true, if_false, joinO_inl]
    rw [newO_eq]
    obtain ⟨out1, h2, e3, b3, x3, f3⟩ := app_one (UInt8.ofNat (x.toNat / 256 ^ m)) hb hx0 hf (by omega)
    rw [e3, bind2_some]
    simp only
    rw [w64 (by omega) (by omega)]
    obtain ⟨out', h', e4, b4, x4, f4⟩ := rput_low (k := k) hx m out1 _ h2 (by omega) (by omega) hk8 b3 x3 f3 (by simp; omega)
    refine ⟨out', h', e4, ?_, x4, f4⟩
    rw [List.append_assoc] at b4
    simpa [be] using b4
theorem add_kind (b : UInt8) (k : Nat) (hb : b.toNat < 64) (hk : k < 4) : IntKind.wrap .u8 ((b.toNat : Int) + (k * 64 : Nat)) = ((b ||| UInt8.ofNat (k * 64)).toNat : Int) := by
  rw [or_kind b k hb hk, wu8_mod]; omega
theorem kd_sz {x : Int} (h : okN x) : (kd x = 0 /\ sz x = 1) \/ (kd x = 1 /\ sz x = 2) \/ (kd x = 2 /\ sz x = 4) \/ (kd x = 3 /\ sz x = 8) := by
  unfold okN at h
  unfold kd sz
  rw [if_neg (by omega), if_neg (by omega)]
  (repeat' split) <;> simp
theorem top_lt {x : Int} (h : okN x) : x.toNat / 256 ^ ((sz x).toNat - 1) < 64 := by
  have h' := h
  unfold okN at h'
  have h1 : (64 : Nat) * 256 ^ 0 = 64 /\ 64 * 256 ^ 1 = 16384 /\ 64 * 256 ^ 3 = 1073741824 /\ 64 * 256 ^ 7 = 4611686018427387904 := by decide
  apply Nat.div_lt_of_lt_mul
  rw [Nat.mul_comm]
  rcases sz_cases x with hs | hs | hs | hs <;> rw [hs] <;> simp only [Int.toNat_one, Int.reduceToNat, Nat.reduceSub] <;> unfold sz at hs <;> (repeat' split at hs) <;> omega
theorem rput_f {h0 : H} {x : Int} {out : Sl} {l : List UInt8} {h : H} (hok : okN x) (hb : BufB h out l) (hx0 : EX h0 h) (hf : Fr h0.size out) (hl : l.length + 8 <= 2 ^ 47) :
    ∃ out' h', ref1_put out x h = some (out', h') /\ BufB h' out' (l ++ enc x) /\ EX h0 h' /\ Fr h0.size out' := by
  unfold ref1_put P.ref1_put
  rw [rsize_f, bind2_some]
  simp only [hok, if_true]
  have hs := sz_pos x
  have hx := hok.1
  obtain ⟨m, hm⟩ : ∃ m : Nat, sz x = (m : Int) + 1 := ⟨(sz x).toNat - 1, by omega⟩
  have htop := top_lt hok
  have hks := kd_sz hok
  have henc : enc x = (UInt8.ofNat (x.toNat / 256 ^ m) ||| UInt8.ofNat ((kd x).toNat * 64)) :: be m x.toNat := by
    unfold enc
    rw [hm, show ((m : Int) + 1).toNat = m + 1 by omega]
    rfl
  rw [hm, show ((m : Int) + 1).toNat - 1 = m by omega] at htop
  rw [w64 (by omega) (by omega), loopO_eq]
  obtain ⟨y, e1, e2⟩ := byte_atk .u64 hx m (by omega)
  simp only [P.ref1_put_l1, condK_eq, decide_eq_true_eq, show (sz x - 1 >= 0) by omega, if_true]
  rw [show sz x - 1 = (m : Int) by omega, w64 (n := 8 * (m : Int)) (by omega) (by omega), wu64 (n := 8 * (m : Int)) (by omega) (by omega), e1, bindO_some, e2]
  have hof : (UInt8.ofNat (x.toNat / 256 ^ m)).toNat = x.toNat / 256 ^ m := by rw [UInt8.toNat_ofNat']; exact Nat.mod_eq_of_lt (Nat.lt_trans htop (by decide))
  have hadd := fun k hk => add_kind (UInt8.ofNat (x.toNat / 256 ^ m)) k (by omega) hk
  have hsw : (if (sz x == 2) = true then (some (Sum.inl ((out, (x, (sz x, ((m : Int), IntKind.wrap .u8 ((((UInt8.ofNat (x.toNat / 256 ^ m)).toNat : Nat) : Int) + 64))))), h)) : Option (((Sl × (Int × (Int × (Int × Int)))) × H) ⊕ (((Sl × (Int × (Int × Int))) × H) ⊕ ((Sl × H) ⊕ (Sl × H))))) else
      if (sz x == 4) = true then some (Sum.inl ((out, (x, (sz x, ((m : Int), IntKind.wrap .u8 ((((UInt8.ofNat (x.toNat / 256 ^ m)).toNat : Nat) : Int) + 128))))), h)) else
      if (sz x == 8) = true then some (Sum.inl ((out, (x, (sz x, ((m : Int), IntKind.wrap .u8 ((((UInt8.ofNat (x.toNat / 256 ^ m)).toNat : Nat) : Int) + 192))))), h)) else
      some (Sum.inl ((out, (x, (sz x, ((m : Int), (((UInt8.ofNat (x.toNat / 256 ^ m)).toNat : Nat) : Int))))), h)))
      = some (Sum.inl ((out, (x, (sz x, ((m : Int), ((UInt8.ofNat (x.toNat / 256 ^ m) ||| UInt8.ofNat ((kd x).toNat * 64)).toNat : Int))))), h)) := by
    rcases hks with ⟨a, b⟩ | ⟨a, b⟩ | ⟨a, b⟩ | ⟨a, b⟩
    · rw [a, b, show Int.toNat 0 = 0 from rfl, <- hadd 0 (by omega)]; simp; rw [wu8_mod]; omega
    · rw [a, b, show Int.toNat 1 = 1 from rfl, <- hadd 1 (by omega)]; rfl
    · rw [a, b, show Int.toNat 2 = 2 from rfl, <- hadd 2 (by omega)]; rfl
    · rw [a, b, show Int.toNat 3 = 3 from rfl, <- hadd 3 (by omega)]; rfl
  rw [hsw]
  rw [w64 (n := (m : Int)) (by omega) (by omega), if_pos (beq_self_eq_true _), joinO_inl]
  simp only
  rw [newO_eq]
  obtain ⟨out1, h2, e3, b3, x3, f3⟩ := app_one (UInt8.ofNat (x.toNat / 256 ^ m) ||| UInt8.ofNat ((kd x).toNat * 64)) hb hx0 hf (by omega)
  rw [e3, bind2_some]
  simp only
  rw [w64 (by omega) (by omega)]
  obtain ⟨out', h', e4, b4, x4, f4⟩ := rput_low (k := sz x) hx m out1 _ h2 (by omega) (by omega) (by omega) b3 x3 f3 (by simp; omega)
  simp only [ref1_put_l1] at e4
  rw [e4, joinO_inl]
  refine ⟨out', h', rfl, ?_, x4, f4⟩
  rw [List.append_assoc] at b4
  rw [henc]; simpa using b4
end Go.Proofs.Ythiccnmplgdheaa.T
