/- Lemmas about the typed texts (joined: SRef1 SRef2 SHead1). -/
import Derived.Test.YthiccnmplgdheaaG7
import Derived.Test.YthiccnmplgdheaaG8
import Derived.Test.YthiccnmplgdheaaTxt
import Derived.Test.YthiccnmplgdheaaG3
import Derived.Test.YthiccnmplgdheaaG9
/- The reference's functions of chapter 1 over the typed texts. -/
set_option linter.unusedVariables false
set_option linter.unusedSimpArgs false
namespace Go.Proofs.Ythiccnmplgdheaa.T
open Go Go.Abs Go.Proofs
theorem rsize_f (n : Int) (h : H) : ref1_size n h = some (if okN n then sz n else -1, h) := by
  unfold ref1_size P.ref1_size
  rw [may_f, bind2_some]
  simp only [condK_eq]
  by_cases hk : okN n
  · simp only [hk, decide_true, Bool.not_true, Bool.false_eq_true, if_false, if_true, decide_eq_true_eq]
    unfold sz
    (repeat' split) <;> rfl
  · simp only [hk, decide_false, Bool.not_false, if_true, if_false]
theorem rsize_loop {h : H} {s : Sl} {zs : List Int} (hr : RdI .i64 h s zs) (hl : zs.length ≤ 2 ^ 46) : ∀ (k i : Nat) (sum : Int), i + k = zs.length → 0 ≤ sum → sum ≤ 8 * i →
    loopO ref1_Size_l1 ((s, (sum, (i : Int))), h) = some (match szs (zs.drop i) with | some t => Sum.inl (sum + t, h) | none => Sum.inr (-1, h))
  | 0, i, sum, hik, h0, h1 => by
    rw [loopO_eq]
    have : zs.drop i = [] := List.drop_eq_nil_of_le (by omega)
    rw [this]
    simp only [P.ref1_Size_l1, condK_eq, decide_eq_true_eq, hr.len, show ¬ ((i : Int) < (zs.length : Int)) by omega, if_false, szs, Int.add_zero]
  | k + 1, i, sum, hik, h0, h1 => by
    rw [loopO_eq]
    obtain ⟨a, ha, e1, e2⟩ := hr.at (i := (i : Int)) (by omega) (by omega)
    have hd := drop_getD (zs := zs) (i := i) (by omega)
    simp only [Int.toNat_natCast] at e1 e2
    simp only [P.ref1_Size_l1, condK_eq, decide_eq_true_eq, hr.len, show ((i : Int) < (zs.length : Int)) by omega, if_true]
    rw [e1, bindO_some, e2, bindO_some, may_f, bind2_some]
    simp only [hd, szs]
    by_cases hn : okN (zs.getD i 0)
    · simp only [hn, decide_true, Bool.not_true, Bool.false_eq_true, if_false, if_true]
      rw [bindO_some, e2, bindO_some, rsize_f, bind2_some]
      simp only [hn, if_true]
      have hs := sz_pos (zs.getD i 0)
      rw [w64 (n := sum + sz _) (by omega) (by omega), w64 (n := (i : Int) + 1) (by omega) (by omega)]
      have := rsize_loop hr hl k (i + 1) (sum + sz (zs.getD i 0)) (by omega) (by omega) (by omega)
      simp only [Int.natCast_add, Int.natCast_one] at this
      simp only [this]
      cases szs (zs.drop (i + 1)) with
      | none => rfl
      | some t => simp only [Option.map_some, Int.add_assoc]
    · simp only [hn, decide_false, Bool.not_false, if_true, if_false]
theorem RSize_f {h : H} {s : Sl} {zs : List Int} (hr : RdI .i64 h s zs) (hl : zs.length ≤ 2 ^ 46) : ref1_Size s h = some (szV zs, h) := by
  unfold ref1_Size P.ref1_Size szV
  have := rsize_loop hr hl zs.length 0 0 (by omega) (by omega) (by omega)
  simp only [Int.natCast_zero, List.drop_zero, Int.zero_add] at this
  rw [show loopO (P.ref1_Size_l1 ref1_May ref1_size) = loopO ref1_Size_l1 from rfl, this]
  cases szs zs <;> rfl
theorem szs_nonneg : ∀ (zs : List Int) (t : Int), szs zs = some t → 0 ≤ t
  | [], t, h => by simp [szs] at h; omega
  | n :: l, t, h => by
    unfold szs at h
    split at h
    · simp only [Option.map_eq_some_iff] at h
      obtain ⟨u, h1, h2⟩ := h
      have := szs_nonneg l u h1
      have := sz_pos n
      omega
    · simp at h
theorem szs_all : ∀ zs : List Int, (szs zs).isSome = true ↔ ∀ x ∈ zs, okN x
  | [] => by simp [szs]
  | n :: l => by
    have ih := szs_all l
    unfold szs
    by_cases hn : okN n
    · simp [hn, ih]
    · simp [hn]
theorem szV_neg (zs : List Int) : szV zs < 0 ↔ ¬ ∀ x ∈ zs, okN x := by
  rw [← szs_all]
  unfold szV
  cases hz : szs zs with
  | none => simp
  | some t => have := szs_nonneg zs t hz; simp; omega
/-! bytes put -/
theorem byte_atk (k' : IntKind) {x : Int} (h0 : 0 ≤ x) (m : Nat) (hm : m < 8) : ∃ y, shrT .i64 x k' (8 * (m : Int)) = some y ∧ IntKind.wrap .u8 y = ((UInt8.ofNat (x.toNat / 256 ^ m)).toNat : Int) := by
  obtain ⟨y, e1, e2⟩ := byte_at h0 m hm
  refine ⟨y, ?_, e2⟩
  rw [shrT_ok _ _ _ (by omega)] at e1 ⊢
  exact e1
theorem app_one {h0 h : H} {out : Sl} {l : List UInt8} (bv : UInt8) (hb : BufB h out l) (hx : EX h0 h) (hf : Fr h0.size out) (hl : l.length + 1 ≤ 2 ^ 47) :
    ∃ out1 h2, appT 5 1 1 (newAt (grow h 1) h.size (row 5 [.int .u8 (bv.toNat : Int)])) out ⟨some ⟨h.size, 0, some 0⟩, 1, 1⟩ = some (out1, h2) ∧ BufB h2 out1 (l ++ [bv]) ∧ EX h0 h2 ∧ Fr h0.size out1 := by
  rw [show row 5 [Value.int .u8 (bv.toNat : Int)] = row 5 (vB [bv]) from rfl]
  have x1 := wf_new hx.wf 5 (vB [bv])
  have b1 : BufB _ ⟨some ⟨h.size, 0, some 0⟩, 1, 1⟩ [bv] := bufB_new hx.wf 5 [bv] (by simp [B63])
  generalize newAt (grow h 1) h.size (row 5 (vB [bv])) = h1 at x1 b1 ⊢
  generalize (⟨some ⟨h.size, 0, some 0⟩, 1, 1⟩ : Sl) = s1 at b1 ⊢
  obtain ⟨out1, h2, e3, k3, x3, b3, _, f3⟩ := appB_ok (e := 5) x1.wf (hb.ex hx.wf x1) b1.rd (by simp; omega)
  exact ⟨out1, h2, e3, b3, x3 _ (hx.trans x1) hf, f3 _ (hx.trans x1).size hf⟩
theorem rput_low {h0 : H} {x k : Int} (hx : 0 ≤ x) : ∀ (m : Nat) (out : Sl) (l : List UInt8) (h : H), m ≤ 7 → (m : Int) < k → k ≤ 8 → BufB h out l → EX h0 h → Fr h0.size out → l.length + m ≤ 2 ^ 47 →
    ∃ out' h', loopO ref1_put_l1 ((out, (x, (k, (m : Int) - 1))), h) = some (Sum.inl (out', h')) ∧ BufB h' out' (l ++ be m x.toNat) ∧ EX h0 h' ∧ Fr h0.size out'
  | 0, out, l, h, hm, hmk, hk8, hb, hx0, hf, hl => by
    refine ⟨out, h, ?_, by simpa [be] using hb, hx0, hf⟩
    rw [loopO_eq]
    simp only [ref1_put_l1, P.ref1_put_l1, condK_eq, decide_eq_true_eq, show ¬ (((0 : Nat) : Int) - 1 ≥ 0) by omega, if_false]
  | m + 1, out, l, h, hm, hmk, hk8, hb, hx0, hf, hl => by
    obtain ⟨y, e1, e2⟩ := byte_atk .u64 hx m (by omega)
    rw [loopO_eq]
    simp only [ref1_put_l1, P.ref1_put_l1, condK_eq, decide_eq_true_eq, show (((m + 1 : Nat) : Int) - 1 ≥ 0) by omega, if_true]
    rw [show (((m + 1 : Nat) : Int) - 1) = (m : Int) by omega, w64 (n := 8 * (m : Int)) (by omega) (by omega), wu64 (by omega) (by omega), e1, bindO_some, e2]
    rw [w64 (n := k - 1) (by omega) (by omega), show ((m : Int) == k - 1) = false by simp; omega]
    simp only [Bool.false_eq_true, if_false, joinO_inl]
    rw [newO_eq]
    obtain ⟨out1, h2, e3, b3, x3, f3⟩ := app_one (UInt8.ofNat (x.toNat / 256 ^ m)) hb hx0 hf (by omega)
    rw [e3, bind2_some]
    simp only
    rw [w64 (by omega) (by omega)]
    obtain ⟨out', h', e4, b4, x4, f4⟩ := rput_low (k := k) hx m out1 _ h2 (by omega) (by omega) hk8 b3 x3 f3 (by simp; omega)
    refine ⟨out', h', e4, ?_, x4, f4⟩
    rw [List.append_assoc] at b4
    simpa [be] using b4
theorem add_kind (b : UInt8) (k : Nat) (hb : b.toNat < 64) (hk : k < 4) : IntKind.wrap .u8 ((b.toNat : Int) + (k * 64 : Nat)) = ((b ||| UInt8.ofNat (k * 64)).toNat : Int) := by
  rw [or_kind b k hb hk, wu8_mod]; omega
theorem kd_sz {x : Int} (h : okN x) : (kd x = 0 ∧ sz x = 1) ∨ (kd x = 1 ∧ sz x = 2) ∨ (kd x = 2 ∧ sz x = 4) ∨ (kd x = 3 ∧ sz x = 8) := by
  unfold okN at h
  unfold kd sz
  rw [if_neg (by omega), if_neg (by omega)]
  (repeat' split) <;> simp
theorem top_lt {x : Int} (h : okN x) : x.toNat / 256 ^ ((sz x).toNat - 1) < 64 := by
  have h' := h
  unfold okN at h'
  have h1 : (64 : Nat) * 256 ^ 0 = 64 ∧ 64 * 256 ^ 1 = 16384 ∧ 64 * 256 ^ 3 = 1073741824 ∧ 64 * 256 ^ 7 = 4611686018427387904 := by decide
  apply Nat.div_lt_of_lt_mul
  rw [Nat.mul_comm]
  rcases sz_cases x with hs | hs | hs | hs <;> rw [hs] <;> simp only [Int.toNat_one, Int.reduceToNat, Nat.reduceSub] <;> unfold sz at hs <;> (repeat' split at hs) <;> omega
theorem rput_f {h0 : H} {x : Int} {out : Sl} {l : List UInt8} {h : H} (hok : okN x) (hb : BufB h out l) (hx0 : EX h0 h) (hf : Fr h0.size out) (hl : l.length + 8 ≤ 2 ^ 47) :
    ∃ out' h', ref1_put out x h = some (out', h') ∧ BufB h' out' (l ++ enc x) ∧ EX h0 h' ∧ Fr h0.size out' := by
  unfold ref1_put P.ref1_put
  rw [rsize_f, bind2_some]
  simp only [hok, if_true]
  have hs := sz_pos x
  have hx := hok.1
  obtain ⟨m, hm⟩ : ∃ m : Nat, sz x = (m : Int) + 1 := ⟨(sz x).toNat - 1, by omega⟩
  have htop := top_lt hok
  have hks := kd_sz hok
  have henc : enc x = (UInt8.ofNat (x.toNat / 256 ^ m) ||| UInt8.ofNat ((kd x).toNat * 64)) :: be m x.toNat := by
    unfold enc
    rw [hm, show ((m : Int) + 1).toNat = m + 1 by omega]
    rfl
  rw [hm, show ((m : Int) + 1).toNat - 1 = m by omega] at htop
  rw [w64 (by omega) (by omega), loopO_eq]
  obtain ⟨y, e1, e2⟩ := byte_atk .u64 hx m (by omega)
  simp only [P.ref1_put_l1, condK_eq, decide_eq_true_eq, show (sz x - 1 ≥ 0) by omega, if_true]
  rw [show sz x - 1 = (m : Int) by omega, w64 (n := 8 * (m : Int)) (by omega) (by omega), wu64 (n := 8 * (m : Int)) (by omega) (by omega), e1, bindO_some, e2]
  have hof : (UInt8.ofNat (x.toNat / 256 ^ m)).toNat = x.toNat / 256 ^ m := by rw [UInt8.toNat_ofNat']; exact Nat.mod_eq_of_lt (Nat.lt_trans htop (by decide))
  have hadd := fun k hk => add_kind (UInt8.ofNat (x.toNat / 256 ^ m)) k (by omega) hk
  have hsw : (if (sz x == 2) = true then (some (Sum.inl ((out, (x, (sz x, ((m : Int), IntKind.wrap .u8 ((((UInt8.ofNat (x.toNat / 256 ^ m)).toNat : Nat) : Int) + 64))))), h)) : Option (((Sl × (Int × (Int × (Int × Int)))) × H) ⊕ (((Sl × (Int × (Int × Int))) × H) ⊕ ((Sl × H) ⊕ (Sl × H))))) else
      if (sz x == 4) = true then some (Sum.inl ((out, (x, (sz x, ((m : Int), IntKind.wrap .u8 ((((UInt8.ofNat (x.toNat / 256 ^ m)).toNat : Nat) : Int) + 128))))), h)) else
      if (sz x == 8) = true then some (Sum.inl ((out, (x, (sz x, ((m : Int), IntKind.wrap .u8 ((((UInt8.ofNat (x.toNat / 256 ^ m)).toNat : Nat) : Int) + 192))))), h)) else
      some (Sum.inl ((out, (x, (sz x, ((m : Int), (((UInt8.ofNat (x.toNat / 256 ^ m)).toNat : Nat) : Int))))), h)))
      = some (Sum.inl ((out, (x, (sz x, ((m : Int), ((UInt8.ofNat (x.toNat / 256 ^ m) ||| UInt8.ofNat ((kd x).toNat * 64)).toNat : Int))))), h)) := by
    rcases hks with ⟨a, b⟩ | ⟨a, b⟩ | ⟨a, b⟩ | ⟨a, b⟩
    · rw [a, b, show Int.toNat 0 = 0 from rfl, ← hadd 0 (by omega)]; simp; rw [wu8_mod]; omega
    · rw [a, b, show Int.toNat 1 = 1 from rfl, ← hadd 1 (by omega)]; rfl
    · rw [a, b, show Int.toNat 2 = 2 from rfl, ← hadd 2 (by omega)]; rfl
    · rw [a, b, show Int.toNat 3 = 3 from rfl, ← hadd 3 (by omega)]; rfl
  rw [hsw]
  rw [w64 (n := (m : Int)) (by omega) (by omega), if_pos (beq_self_eq_true _), joinO_inl]
  simp only
  rw [newO_eq]
  obtain ⟨out1, h2, e3, b3, x3, f3⟩ := app_one (UInt8.ofNat (x.toNat / 256 ^ m) ||| UInt8.ofNat ((kd x).toNat * 64)) hb hx0 hf (by omega)
  rw [e3, bind2_some]
  simp only
  rw [w64 (by omega) (by omega)]
  obtain ⟨out', h', e4, b4, x4, f4⟩ := rput_low (k := sz x) hx m out1 _ h2 (by omega) (by omega) (by omega) b3 x3 f3 (by simp; omega)
  simp only [ref1_put_l1] at e4
  rw [e4, joinO_inl]
  refine ⟨out', h', rfl, ?_, x4, f4⟩
  rw [List.append_assoc] at b4
  rw [henc]; simpa using b4
end Go.Proofs.Ythiccnmplgdheaa.T
/- The reference's functions of chapter 1 over the typed texts: numbers put, taken. -/
set_option linter.unusedVariables false
set_option linter.unusedSimpArgs false
namespace Go.Proofs.Ythiccnmplgdheaa.T
open Go Go.Abs Go.Proofs
theorem app_new {h : H} {x : Sl} {l : List UInt8} (w : WF h) (hr : RdB h x l) (hl : l.length ≤ 2 ^ 47) :
    ∃ s' h', appT 5 1 1 (newAt (grow h 1) h.size (row 5 [])) ⟨some ⟨h.size, 0, some 0⟩, 0, 0⟩ x = some (s', h') ∧ EX h h' ∧ BufB h' s' l ∧ Fr h.size s' := by
  have x1 := wf_new w 5 (vB [])
  have b1 := bufB_new w 5 [] (by decide)
  rw [show row 5 [] = row 5 (vB []) from rfl]
  have f1 := fr_new h 0 0
  simp only [List.length_nil] at b1
  generalize newAt (grow h 1) h.size (row 5 (vB [])) = h1 at x1 b1 ⊢
  generalize (⟨some ⟨h.size, 0, some 0⟩, 0, 0⟩ : Sl) = s1 at b1 f1 ⊢
  obtain ⟨s', h', e2, k2, x2, b2, _, f2⟩ := appB_ok (e := 5) x1.wf b1 (hr.ex x1) (by simpa using hl)
  exact ⟨s', h', e2, x2 _ x1 f1, by simpa using b2, f2 _ x1.size f1⟩
def putV (l : List UInt8) (zs : List Int) : List UInt8 := if szV zs < 0 then [] else l ++ encs zs
theorem rput_l1 {h0 : H} {n : Sl} {zs : List Int} (hr : RdI .i64 h0 n zs) (hz : zs.length ≤ 2 ^ 47) (hall : ∀ x ∈ zs, okN x) : ∀ (k i : Nat) (out : Sl) (l : List UInt8) (h : H), i + k = zs.length → BufB h out l → EX h0 h → Fr h0.size out → l.length + 8 * k ≤ 2 ^ 47 →
    ∃ out' h', loopO ref1_Put_l1 ((n, (out, (i : Int))), h) = some (Sum.inl (out', h')) ∧ BufB h' out' (l ++ encs (zs.drop i)) ∧ EX h0 h' ∧ Fr h0.size out'
  | 0, i, out, l, h, hik, hb, hx, hf, hl => by
    have : zs.drop i = [] := List.drop_eq_nil_of_le (by omega)
    rw [this]
    refine ⟨out, h, ?_, by simpa [encs] using hb, hx, hf⟩
    rw [loopO_eq]
    simp only [P.ref1_Put_l1, condK_eq, decide_eq_true_eq, hr.len, show ¬ ((i : Int) < (zs.length : Int)) by omega, if_false]
  | k + 1, i, out, l, h, hik, hb, hx, hf, hl => by
    have hd := drop_getD (zs := zs) (i := i) (by omega)
    obtain ⟨a, ha, e1, e2⟩ := (hr.ex hx).at (i := (i : Int)) (by omega) (by omega)
    simp only [Int.toNat_natCast] at e1 e2
    have hok : okN (zs.getD i 0) := hall _ (List.mem_of_mem_drop (by rw [hd]; exact List.mem_cons_self ..))
    have hs := sz_pos (zs.getD i 0)
    have hel := enc_length (zs.getD i 0)
    obtain ⟨out1, h1, e3, b1, x1, f1⟩ := rput_f hok hb hx hf (by omega)
    obtain ⟨out', h', e8, b5, x5, f5⟩ := rput_l1 hr hz hall k (i + 1) out1 _ h1 (by omega) b1 x1 f1 (by rw [List.length_append]; omega)
    refine ⟨out', h', ?_, ?_, x5, f5⟩
    · rw [loopO_eq]
      simp only [P.ref1_Put_l1, condK_eq, decide_eq_true_eq, hr.len, show ((i : Int) < (zs.length : Int)) by omega, if_true]
      rw [e1, bindO_some, e2, bindO_some, e3, bind2_some]
      simp only
      rw [w64 (by omega) (by omega)]
      exact e8
    · rw [hd]; simpa [encs] using b5
theorem RPut_f {h : H} {b n : Sl} {l : List UInt8} {zs : List Int} (w : WF h) (hb : RdB h b l) (hr : RdI .i64 h n zs) (hl : l.length + 8 * zs.length ≤ 2 ^ 47) :
    ∃ s' h', ref1_Put b n h = some (s', h') ∧ EX h h' ∧ BufB h' s' (putV l zs) ∧ Fr h.size s' := by
  unfold ref1_Put P.ref1_Put putV
  rw [RSize_f hr (by omega), bind2_some]
  simp only [condK_eq, decide_eq_true_eq]
  by_cases hs : szV zs < 0
  · simp only [hs, if_true]
    exact ⟨_, h, rfl, EX.refl w, buf_nil 1 h, fr_nil _⟩
  · simp only [hs, if_false]
    have hall : ∀ x ∈ zs, okN x := by
      have := szV_neg zs
      exact Decidable.not_not.1 fun hn => hs (this.2 hn)
    rw [newO_eq]
    obtain ⟨s1, h1, e1, x1, b1, f1⟩ := app_new w hb (by omega)
    rw [e1, bind2_some]
    simp only
    obtain ⟨out', h', e2, b2, x2, f2⟩ := rput_l1 hr (by omega) hall zs.length 0 s1 l h1 (by omega) b1 x1 f1 (by omega)
    simp only [ref1_Put_l1, Int.natCast_zero, List.drop_zero] at e2 b2
    rw [e2, joinO_inl]
    exact ⟨out', h', rfl, x2, b2, f2⟩
theorem Put_all {h : H} {b n : Sl} {l : List UInt8} {zs : List Int} (w : WF h) (hb : RdB h b l) (hr : RdI .i64 h n zs) (hl : l.length + 8 * zs.length ≤ 2 ^ 47) :
    ∃ s' h', varint_Put b n h = some (s', h') ∧ EX h h' ∧ RdB h' s' (putV l zs) := by
  unfold putV
  by_cases hs : szV zs < 0
  · rw [if_pos hs]
    rw [szV_neg] at hs
    obtain ⟨h', e, x⟩ := Put_bad w hb hr hl (by
      have hd : ¬ ¬ ∃ x ∈ zs, ¬ okN x := fun hn => hs fun x hx => Decidable.not_not.1 fun hk => hn ⟨x, hx, hk⟩
      exact Classical.not_not.1 hd)
    exact ⟨_, h', e, x, rd_nil 1 h'⟩
  · rw [if_neg hs]
    have hall : ∀ x ∈ zs, okN x := Decidable.not_not.1 fun hn => hs ((szV_neg zs).2 hn)
    obtain ⟨s', h', e, x, r, _⟩ := Put_f w hb hr hl hall
    exact ⟨s', h', e, x, r⟩
/-! a number taken -/
theorem rtake_l1 {b : Sl} {h : H} : ∀ (q k : Nat), q ≤ 3 → k * 2 ^ q ≤ 64 → loopO ref1_Take_l1 ((b, ((k : Int), (q : Int))), h) = some (Sum.inl ((b, ((k * 2 ^ q : Nat) : Int)), h))
  | 0, k, hq, hk => by
    rw [loopO_eq]
    simp only [ref1_Take_l1, condK_eq, decide_eq_true_eq, show ¬ (((0 : Nat) : Int) > 0) by omega, if_false, Nat.pow_zero, Nat.mul_one]
  | q + 1, k, hq, hk => by
    have e : k * 2 ^ (q + 1) = 2 * k * 2 ^ q := by rw [Nat.pow_succ, Nat.mul_comm 2 k, Nat.mul_assoc, Nat.mul_comm 2]
    rw [e] at hk ⊢
    have h1 : 2 * k ≤ 2 * k * 2 ^ q := Nat.le_mul_of_pos_right _ (Nat.pow_pos (by omega))
    rw [loopO_eq]
    simp only [ref1_Take_l1, condK_eq, decide_eq_true_eq, show (((q + 1 : Nat) : Int) > 0) by omega, if_true]
    rw [w64 (by omega) (by omega), wu8 (by omega) (by omega), show (2 : Int) * (k : Int) = ((2 * k : Nat) : Int) by omega, show ((q + 1 : Nat) : Int) - 1 = (q : Int) by omega]
    exact rtake_l1 q (2 * k) (by omega) hk
theorem rtake_l2 {h : H} {b : Sl} {l : List UInt8} {K : Nat} (hr : RdB h b l) (hK : K ≤ l.length) (hK8 : K ≤ 8) : ∀ (j i n : Nat), 1 ≤ i → i + j = K → n < 64 * 256 ^ (i - 1) →
    loopO ref1_Take_l2 ((b, ((K : Int), ((n : Int), (i : Int)))), h) = some (Sum.inl ((b, ((K : Int), (val n ((l.drop i).take j) : Int))), h))
  | 0, i, n, hi, hij, hn => by
    rw [loopO_eq]
    simp only [ref1_Take_l2, condK_eq, decide_eq_true_eq, show ¬ ((i : Int) < (K : Int)) by omega, if_false, List.take_zero]
    rfl
  | j + 1, i, n, hi, hij, hn => by
    obtain ⟨a, ha, e1, e2⟩ := hr.at (i := (i : Int)) (by omega) (by omega)
    simp only [Int.toNat_natCast] at e1 e2
    have hd : l.drop i = l.getD i 0 :: l.drop (i + 1) := by
      rw [List.drop_eq_getElem_cons (by omega)]
      simp [List.getD, show i < l.length by omega]
    have hc := (l.getD i 0).toNat_lt
    have hp : 256 ^ (i - 1) ≤ 256 ^ 6 := Nat.pow_le_pow_right (by omega) (by omega)
    rw [loopO_eq]
    simp only [ref1_Take_l2, condK_eq, decide_eq_true_eq, show ((i : Int) < (K : Int)) by omega, if_true]
    rw [e1, bindO_some, e2, bindO_some, letO_eq, w64 (n := 256 * (n : Int)) (by omega) (by omega), w64 (n := ((l.getD i 0).toNat : Int)) (by omega) (by omega), w64 (n := 256 * (n : Int) + _) (by omega) (by omega), w64 (n := (i : Int) + 1) (by omega) (by omega)]
    have hpw : 256 ^ (i + 1 - 1) = 256 ^ (i - 1) * 256 := by rw [← Nat.pow_succ]; congr 1; omega
    have := rtake_l2 hr hK hK8 j (i + 1) (n * 256 + (l.getD i 0).toNat) (by omega) (by omega) (by rw [hpw]; omega)
    rw [hd, List.take_succ_cons, show 256 * (n : Int) + ((l.getD i 0).toNat : Int) = ((n * 256 + (l.getD i 0).toNat : Nat) : Int) by omega]
    exact this
theorem RTake_f {h : H} {b : Sl} {l : List UInt8} (w : WF h) (hr : RdB h b l) (hl : l.length ≤ 2 ^ 47) : ∃ r h', ref1_Take b h = some (((tk l).1, (r, (tk l).2.2)), h') ∧ EX h h' ∧ RdB h' r (tk l).2.1 := by
  unfold ref1_Take
  cases l with
  | nil =>
    rw [hr.len]
    simp only [List.length_nil, Int.natCast_zero, beq_self_eq_true, condK_eq, if_true, tk]
    exact ⟨_, h, rfl, EX.refl w, rd_nil 1 h⟩
  | cons c t =>
    obtain ⟨a, ha, e1, e2⟩ := hr.at (i := 0) (by omega) (by simp)
    simp only [Int.toNat_zero, List.getD_cons_zero] at e1 e2
    obtain ⟨e3, s1, s2⟩ := tsz_shl c
    have hc := c.toNat_lt
    have hz : ((b.len : Int) == 0) = false := by rw [hr.len]; simp; omega
    rw [hz]
    simp only [condK_eq, Bool.false_eq_true, if_false, e1, bindO_some, e2]
    have hq : IntKind.wrap .u8 (Int.tdiv (c.toNat : Int) 64) = ((c.toNat / 64 : Nat) : Int) := by
      rw [Int.tdiv_eq_ediv_of_nonneg (by omega), wu8 (by omega) (by omega)]; omega
    have ht := rtake_l1 (b := b) (h := h) (c.toNat / 64) 1 (by omega) (by
      rcases (by omega : c.toNat / 64 = 0 ∨ c.toNat / 64 = 1 ∨ c.toNat / 64 = 2 ∨ c.toNat / 64 = 3) with e | e | e | e <;> rw [e] <;> decide)
    rw [Nat.one_mul, Int.natCast_one] at ht
    rw [hq, ht, joinO_inl]
    simp only [hr.len, decide_eq_true_eq]
    rw [show (2 : Nat) ^ (c.toNat / 64) = tsz c from rfl]
    by_cases hsh : t.length + 1 < tsz c
    · simp only [tk, hsh, if_true]
      rw [if_pos (by simp; omega)]
      exact ⟨_, h, rfl, EX.refl w, rd_nil 1 h⟩
    · simp only [tk, hsh, if_false]
      rw [if_neg (by simp; omega), e1, bindO_some, e2, bindO_some]
      have hm : IntKind.wrap .i64 (Int.tmod (c.toNat : Int) 64) = ((c.toNat % 64 : Nat) : Int) := by
        rw [Int.tmod_eq_emod_of_nonneg (by omega), w64 (by omega) (by omega)]; omega
      have h2 := rtake_l2 hr (K := tsz c) (by simp; omega) s2 (tsz c - 1) 1 (c.toNat % 64) (by omega) (by omega) (by omega)
      rw [List.drop_succ_cons, List.drop_zero, Int.natCast_one] at h2
      rw [hm, h2, joinO_inl]
      simp only
      rw [newO_eq]
      have x1 := wf_new w 5 (vB [])
      obtain ⟨x6, e5, r5, l5, _⟩ := sl_lo (h := newAt (grow h 1) h.size (row 5 [])) (lo := (tsz c : Int)) (by omega) (by unfold B63; omega) (hr.ex x1) (by omega) (by rw [hr.len]; simp; omega)
      rw [e5, bindO_some]
      have e5' := sl_lo (h := h) (lo := (tsz c : Int)) (by omega) (by unfold B63; omega) hr (by omega) (by rw [hr.len]; simp; omega)
      obtain ⟨x7, e7, r7, l7, s7, _⟩ := e5'
      obtain ⟨x8, e8, r8, l8, s8, _⟩ := sl_lo (h := newAt (grow h 1) h.size (row 5 [])) (lo := (tsz c : Int)) (by omega) (by unfold B63; omega) (hr.ex x1) (by omega) (by rw [hr.len]; simp; omega)
      have h68 : x6 = x8 := by rw [e5] at e8; exact Option.some.inj e8
      have h67 : x6 = x7 := by rw [h68, s8, s7]
      have hr6 : RdB h x6 (t.drop (tsz c - 1)) := by
        rw [h67]
        obtain ⟨m, hm⟩ : ∃ m, tsz c = m + 1 := ⟨tsz c - 1, by omega⟩
        simp only [vB, Int.toNat_natCast, Nat.mul_one, List.map_cons, hm, List.drop_succ_cons] at r7
        unfold RdB vB
        rw [hm, List.map_drop]; exact r7
      obtain ⟨s', h', e6, x6', b6, _⟩ := app_new w hr6 (by simp at hl ⊢; omega)
      rw [e6, bind2_some]
      exact ⟨s', h', rfl, x6', b6.rd⟩
/-! numbers taken one behind the other -/
theorem rtakes_loop {h0 : H} {cnt : Nat} {cc : Int} (hc : cnt * 8 ≤ 2 ^ 47) (hcc : ∀ i : Nat, ((i : Int) < cc ↔ i < cnt)) : ∀ (k i : Nat) (out rest : Sl) (acc : List Int) (l : List UInt8) (h : H), i + k = cnt → acc.length = i → Buf 1 h out (acc.map (.int .i64)) → RdB h rest l → l.length ≤ 2 ^ 47 → EX h0 h → Fr h0.size out →
    TksR h0 acc (loopO ref1_Takes_l1 ((cc, (out, (rest, (i : Int)))), h)) (tks k l)
  | 0, i, out, rest, acc, l, h, hik, ha, hb, hr, hl, hx, hf => by
    refine ⟨out, rest, h, ?_, by simpa using hb, hr, hx, hf⟩
    have hn : ¬ ((i : Int) < cc) := by rw [hcc]; omega
    rw [loopO_eq]
    simp only [P.ref1_Takes_l1, condK_eq, decide_eq_true_eq, hn, if_false]
  | k + 1, i, out, rest, acc, l, h, hik, ha, hb, hr, hl, hx, hf => by
    obtain ⟨r, h1, e1, x1, r1⟩ := RTake_f hx.wf hr hl
    have hn : ((i : Int) < cc) := by rw [hcc]; omega
    rw [loopO_eq]
    simp only [P.ref1_Takes_l1, condK_eq, decide_eq_true_eq, hn, if_true]
    rw [e1, bind2_some]
    simp only
    rcases tk_err l with hk | hk
    · have et : tks (k + 1) l = (tks k (tk l).2.1).map (fun p => ((tk l).1 :: p.1, p.2)) := by
        show (if _ then _ else _) = _
        rw [if_pos hk]
      rw [et, hk]
      simp only [show ((0 : Int) != 0) = false from rfl, Bool.false_eq_true, if_false]
      rw [newO_eq]
      obtain ⟨x2, b2⟩ := one_new (tk l).1 x1.wf
      generalize newAt (grow h1 1) h1.size (row 3 [.int .i64 (tk l).1]) = h2 at x2 b2 ⊢
      generalize (⟨some ⟨h1.size, 0, some 0⟩, 1, 1⟩ : Sl) = s1 at b2 ⊢
      have hbo : Buf 1 h2 out (acc.map (.int .i64)) := (hb.ex hx.wf x1).ex x1.wf x2
      have l1 : out.len = acc.length := by have := hb.rd.len; simpa using this.symm
      have l2 : s1.len = 1 := by have := b2.rd.len; simpa using this.symm
      obtain ⟨out', h3, e3, k3, x3, b3, _, f3⟩ := appT_ok (e := 3) (bytes := 8) (by omega) (by unfold B63; omega) x2.wf hbo b2.rd (oneC_ints .i64 _) (by rw [l1, l2]; omega) (by rw [l1, l2]; omega)
      rw [e3, bind2_some]
      simp only
      rw [w64 (by omega) (by omega)]
      have hx2 := (hx.trans x1).trans x2
      rw [← List.map_append] at b3
      have ih := rtakes_loop hc hcc k (i + 1) out' r (acc ++ [(tk l).1]) (tk l).2.1 h3 (by omega) (by simp [ha]) b3 ((r1.ex x2).mono k3) (by have := tk_rest l; omega) (x3 _ hx2 hf) (f3 _ hx2.size hf)
      cases ht : tks k (tk l).2.1 with
      | none =>
        rw [ht] at ih
        obtain ⟨h', a1, a2⟩ := ih
        exact ⟨h', a1, a2⟩
      | some p =>
        obtain ⟨ns, rr⟩ := p
        rw [ht] at ih
        obtain ⟨o', r', h', a1, a2, a3, a4, a5⟩ := ih
        exact ⟨o', r', h', a1, by simpa using a2, a3, a4, a5⟩
    · have et : tks (k + 1) l = none := by
        show (if _ then _ else _) = _
        rw [if_neg (by rw [hk]; decide)]
      rw [et, hk]
      simp only [show ((3 : Int) != 0) = true from rfl, if_true]
      exact ⟨h1, rfl, hx.trans x1⟩
theorem RTakes_f {h : H} {b : Sl} {l : List UInt8} {cnt : Nat} (w : WF h) (hr : RdB h b l) (hl : l.length ≤ 2 ^ 47) (hc : cnt * 8 ≤ 2 ^ 47) {c : Int} (hcc : (if c > 0 then c else 0) = (cnt : Int)) :
    match tks cnt l with
    | some (ns, r) => ∃ s t h', ref1_Takes b c h = some ((s, t, 0), h') ∧ EX h h' ∧ RdI .i64 h' s ns ∧ RdB h' t r
    | none => ∃ h', ref1_Takes b c h = some ((⟨none, 0, 0⟩, ⟨none, 0, 0⟩, 3), h') ∧ EX h h' := by
  have hcc2 : ∀ i : Nat, ((i : Int) < c ↔ i < cnt) := by
    intro i
    split at hcc <;> omega
  obtain ⟨s1, h1, e1, x1, b1, f1⟩ := app_new w hr hl
  have ih := rtakes_loop (h0 := h) hc hcc2 cnt 0 ⟨none, 0, 0⟩ s1 [] l h1 (by omega) rfl (buf_nil 1 h1) b1.rd hl x1 (fr_nil _)
  unfold ref1_Takes P.ref1_Takes
  rw [newO_eq, e1, bind2_some]
  simp only
  cases hk : tks cnt l with
  | none =>
    rw [hk] at ih
    obtain ⟨h', a1, a2⟩ := ih
    simp only [Int.natCast_zero, ref1_Takes_l1] at a1
    exact ⟨h', by rw [a1]; rfl, a2⟩
  | some p =>
    obtain ⟨ns, rr⟩ := p
    rw [hk] at ih
    obtain ⟨o', r', h', a1, a2, a3, a4, a5⟩ := ih
    simp only [Int.natCast_zero, List.nil_append, ref1_Takes_l1] at a1 a2
    exact ⟨o', r', h', by rw [a1]; rfl, a4, a2.rd, a3⟩
end Go.Proofs.Ythiccnmplgdheaa.T
/- Chapter 18's functions over the typed texts: what a right head is, its pieces' bounds. -/
set_option linter.unusedVariables false
set_option linter.unusedSimpArgs false
namespace Go.Proofs.Ythiccnmplgdheaa.T
open Go Go.Abs Go.Proofs
abbrev Hd := Int × Int × Int × Int × Int
def hcnt (s : Int) : Int := (s + 79) / 80
def HR (x : Hd) : Prop := 0 ≤ x.1 ∧ x.1 < 40 ∧ 0 ≤ x.2.1 ∧ x.2.1 ≤ 4611686018427387903 ∧ 1 ≤ x.2.2.2.2 ∧ x.2.2.2.2 ≤ 600 ∧ x.2.2.1 = hcnt x.2.2.2.2 ∧ 0 ≤ x.2.2.2.1 ∧ x.2.2.2.1 < x.2.2.1
instance (x : Hd) : Decidable (HR x) := by unfold HR; infer_instance
theorem pieces_f {s : Int} (h1 : 0 ≤ s) (h2 : s ≤ 600) (h : H) : head_pieces s h = some (hcnt s, h) := by
  unfold head_pieces hcnt
  rw [w64 (n := s + 80) (by omega) (by omega), w64 (n := s + 80 - 1) (by omega) (by omega), letO_eq, Int.tdiv_eq_ediv_of_nonneg (by omega), w64 (by omega) (by omega)]
  rw [show s + 80 - 1 = s + 79 by omega]
theorem Right_f {h : H} (w : WF h) (x : Hd) : PO (head_Right x h) (fun (a, h1) => a = decide (HR x) ∧ EX h h1) := by
  obtain ⟨i, d, c, k, s⟩ := x
  unfold head_Right P.head_Right
  refine PO.newB w fun h1 x1 B z1 w1 => ?_
  simp only [B.ldI (i := 0) rfl, B.ldI (i := 1) rfl, B.ldI (i := 2) rfl, B.ldI (i := 3) rfl, B.ldI (i := 4) rfl, bindO_some, condK_eq, decide_eq_true_eq, joinO_ite, joinO_inl, ptrK_some, if_true, Bool.false_eq_true, if_false]
  have no : ∀ (P : Prop) [Decidable P], ¬ P → PO (some (false, h1)) (fun (a, h1) => a = decide P ∧ EX h h1) := fun P _ hp => .ret ⟨(decide_eq_false hp).symm, x1⟩
  (repeat' split)
  all_goals (try exact no _ (by unfold HR; simp only; omega))
  rw [pieces_f (by omega) (by omega), bind2_some, B.ldI (i := 2) rfl, bindO_some, if_pos (beq_self_eq_true _), joinO_inl]
  simp only [bne_iff_ne, ne_eq, ptrK_some, B.ldI (i := 3) rfl, B.ldI (i := 2) rfl, bindO_some]
  (repeat' split)
  all_goals (try exact no _ (by unfold HR; simp only; omega))
  exact .ret ⟨decide_eq_decide.2 (by unfold HR; simp only; omega), x1⟩
/-! bounds of a piece -/
def hfrom (x : Hd) : Int := x.2.2.2.1 * 80
def hto (x : Hd) : Int := min (x.2.2.2.1 * 80 + 80) x.2.2.2.2
theorem HR.b {x : Hd} (h : HR x) : 0 ≤ hfrom x ∧ hfrom x < hto x ∧ hto x ≤ x.2.2.2.2 ∧ x.2.2.2.2 ≤ 600 ∧ hto x - hfrom x ≤ 80 := by
  unfold HR hcnt at h; unfold hfrom hto; omega
theorem bounds_f {h : H} (w : WF h) {x : Hd} (hx : HR x) : PO (head_bounds x h) (fun (a, h1) => a = (hfrom x, hto x) ∧ EX h h1) := by
  obtain ⟨i, d, c, k, s⟩ := x
  unfold HR hcnt at hx; simp only at hx
  unfold head_bounds
  refine PO.newB w fun h1 x1 B z1 w1 => .ldI B rfl (.ldI B rfl (.letO (.ret ⟨?_, x1⟩)))
  rw [w64 (n := k * 80) (by omega) (by omega), w64 (n := k * 80 + 80) (by omega) (by omega)]
  unfold hfrom hto
  simp only [Prod.mk.injEq, true_and]
  split <;> omega
/-! a head of a message -/
def ofV (id dl sz : Int) : Hd := if HR (id, dl, hcnt sz, 0, sz) then (id, dl, hcnt sz, 0, sz) else (0, 0, 0, 0, 0)
theorem Of_f {h : H} (w : WF h) (id dl sz : Int) : PO (head_Of id dl sz h) (fun (a, h1) => a = ofV id dl sz ∧ EX h h1) := by
  unfold head_Of P.head_Of
  refine PO.newB w fun h1 x1 B1 z1 w1 => PO.newB w1 fun h2 x2 B2 z2 w2 => PO.stZ B2 w2 rfl rfl fun h3 B3 u3 z3 w3 => ?_
  have ne : ¬ h.size = h1.size := by omega
  have C1 := (B1.ex w1 x2).up w2 u3 ne
  have xx : EX h h3 := u3.ex0 (x1.trans x2) (fun A hA e => by omega)
  simp only [encL, Z.enc] at B3
  refine PO.join (fun s => s.1 = (some ⟨h.size, 0, some 0⟩, some ⟨h1.size, 0, some 0⟩) ∧ EX h s.2 ∧ s.2.size = h3.size ∧ WF s.2 ∧ Box s.2 h.size [.int .i64 0, .int .i64 0, .int .i64 0, .int .i64 0, .int .i64 0] ∧ Box s.2 h1.size [.int .i64 id, .int .i64 dl, .int .i64 (if 1 ≤ sz ∧ sz ≤ 600 then hcnt sz else 0), .int .i64 0, .int .i64 sz]) ?_ ?_
  · have key : ∀ b : Bool, (b = true ↔ 1 ≤ sz ∧ sz ≤ 600) → PO (condK b (bind2 (head_pieces sz h3) fun (x2 : Int) (h5 : H) => ptrK (some (⟨h1.size, 0, some 0⟩ : Addr)) fun (a0 : Addr) => bindO (st1 h5 (add a0 2) (.int .i64 x2)) fun (h6 : H) => some (Sum.inl ((some (⟨h.size, 0, some 0⟩ : Addr), some (⟨h1.size, 0, some 0⟩ : Addr)), h6))) (some (Sum.inl ((some (⟨h.size, 0, some 0⟩ : Addr), some (⟨h1.size, 0, some 0⟩ : Addr)), h3)))) (Sum.elim (fun s : (Option Addr × Option Addr) × H => s.1 = (some ⟨h.size, 0, some 0⟩, some ⟨h1.size, 0, some 0⟩) ∧ EX h s.2 ∧ s.2.size = h3.size ∧ WF s.2 ∧ Box s.2 h.size [.int .i64 0, .int .i64 0, .int .i64 0, .int .i64 0, .int .i64 0] ∧ Box s.2 h1.size [.int .i64 id, .int .i64 dl, .int .i64 (if 1 ≤ sz ∧ sz ≤ 600 then hcnt sz else 0), .int .i64 0, .int .i64 sz]) (fun (a, h1) => a = ofV id dl sz ∧ EX h h1)) := by
      intro b hb
      refine PO.cond (fun hc => ?_) (fun hc => ?_)
      · have hs := hb.1 hc
        rw [pieces_f (by omega) (by omega), bind2_some, ptrK_some]
        refine PO.st1 B3 w3 (by simp) rfl fun h4 B4 u4 z4 w4 => .retL ⟨rfl, u4.ex0 xx (fun A hA e => by have := xx.size; omega), z4, w4, C1.up w3 u4 ne, ?_⟩
        rw [if_pos hs]; exact B4
      · have hs : ¬ (1 ≤ sz ∧ sz ≤ 600) := fun h => by rw [hb.2 h] at hc; simp at hc
        refine .retL ⟨rfl, xx, rfl, w3, C1, ?_⟩
        rw [if_neg hs]; exact B3
    refine PO.joinD (PO.condD (fun h1 => .retL ?_) (fun h1 => .retL ?_))
    · exact key _ (by simp; omega)
    · exact key _ (by simp; omega)
  · rintro ⟨s, h4⟩ ⟨rfl, xx4, z4, w4, C4, B4⟩
    refine .ptr (.ldZ5 B4 ?_)
    refine PO.call (Right_f w4 _) fun a h5 ⟨e1, x5⟩ => ?_
    subst e1
    have C5 := C4.ex w4 x5
    have B5 := B4.ex w4 x5
    have hv : HR (id, dl, if 1 ≤ sz ∧ sz ≤ 600 then hcnt sz else 0, 0, sz) ↔ HR (id, dl, hcnt sz, 0, sz) := by
      unfold HR; simp only
      by_cases hs : 1 ≤ sz ∧ sz ≤ 600
      · rw [if_pos hs]; simp
      · rw [if_neg hs]; omega
    refine PO.condND (fun hn => ?_) (fun hp => ?_)
    · refine .ptr (PO.stZ C5 x5.wf rfl rfl fun h6 B6 u6 z6 w6 => ?_)
      simp only [encL, Z.enc] at B6
      refine .ptr (.ldZ5 B6 (.ret ⟨?_, u6.ex0 (xx4.trans x5) (fun A hA e => by omega)⟩))
      unfold ofV; rw [if_neg (fun h => hn (hv.2 h))]
    · have hs : 1 ≤ sz ∧ sz ≤ 600 := by unfold HR at hp; simp only at hp; omega
      refine .ptr (.ldZ5 B5 (.ptr (PO.stZ C5 x5.wf rfl rfl fun h6 B6 u6 z6 w6 => ?_)))
      simp only [encL, Z.enc] at B6
      refine .ptr (.ldZ5 B6 (.ret ⟨?_, u6.ex0 (xx4.trans x5) (fun A hA e => by omega)⟩))
      unfold ofV; rw [if_pos (hv.1 hp), if_pos hs]
end Go.Proofs.Ythiccnmplgdheaa.T
