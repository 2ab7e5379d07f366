/- Lemmas about the typed texts (joined: SRef1 SRef2 SHead1). -/
import Derived.Test.YthiccnmplgdheaaG7
import Derived.Test.YthiccnmplgdheaaG8
import Derived.Test.YthiccnmplgdheaaTxt
import Derived.Test.YthiccnmplgdheaaG3
import Derived.Test.YthiccnmplgdheaaG9
/- The reference's functions of chapter 1 over the typed texts. -/
set_option linter.unusedVariables false
set_option linter.unusedSimpArgs false
namespace Go.Proofs.Ythiccnmplgdheaa.T
open Go Go.Abs Go.Proofs
theorem rsize_f (n : Int) (h : H) : ref1_size n h = some (if okN n then sz n else -1, h) := by
  unfold ref1_size P.ref1_size
  rw [may_f, bind2_some]
  simp only [condK_eq]
  by_cases hk : okN n
  · simp only [hk, decide_true, Bool.not_true, Bool.false_eq_true, if_false, if_true, decide_eq_true_eq]
    unfold sz
    (repeat' split) <;> rfl
  · simp only [hk, decide_false, Bool.not_false, if_true, if_false]
theorem rsize_loop {h : H} {s : Sl} {zs : List Int} (hr : RdI .i64 h s zs) (hl : zs.length ≤ 2 ^ 46) : ∀ (k i : Nat) (sum : Int), i + k = zs.length → 0 ≤ sum → sum ≤ 8 * i →
    loopO ref1_Size_l1 ((s, (sum, (i : Int))), h) = some (match szs (zs.drop i) with | some t => Sum.inl (sum + t, h) | none => Sum.inr (-1, h))
  | 0, i, sum, hik, h0, h1 => by
    rw [loopO_eq]
    have : zs.drop i = [] := List.drop_eq_nil_of_le (by omega)
    rw [this]
    simp only [P.ref1_Size_l1, condK_eq, decide_eq_true_eq, hr.len, show ¬ ((i : Int) < (zs.length : Int)) by omega, if_false, szs, Int.add_zero]
  | k + 1, i, sum, hik, h0, h1 => by
    rw [loopO_eq]
    obtain ⟨a, ha, e1, e2⟩ := hr.at (i := (i : Int)) (by omega) (by omega)
    have hd := drop_getD (zs := zs) (i := i) (by omega)
    simp only [Int.toNat_natCast] at e1 e2
    simp only [P.ref1_Size_l1, condK_eq, decide_eq_true_eq, hr.len, show ((i : Int) < (zs.length : Int)) by omega, if_true]
    rw [e1, bindO_some, e2, bindO_some, may_f, bind2_some]
    simp only [hd, szs]
    by_cases hn : okN (zs.getD i 0)
    · simp only [hn, decide_true, Bool.not_true, Bool.false_eq_true, if_false, if_true]
      rw [bindO_some, e2, bindO_some, rsize_f, bind2_some]
      simp only [hn, if_true]
      have hs := sz_pos (zs.getD i 0)
      rw [w64 (n := sum + sz _) (by omega) (by omega), w64 (n := (i : Int) + 1) (by omega) (by omega)]
      have := rsize_loop hr hl k (i + 1) (sum + sz (zs.getD i 0)) (by omega) (by omega) (by omega)
      simp only [Int.natCast_add, Int.natCast_one] at this
      simp only [this]
      cases szs (zs.drop (i + 1)) with
      | none => rfl
      | some t => simp only [Option.map_some, Int.add_assoc]
    · simp only [hn, decide_false, Bool.not_false, if_true, if_false]
theorem RSize_f {h : H} {s : Sl} {zs : List Int} (hr : RdI .i64 h s zs) (hl : zs.length ≤ 2 ^ 46) : ref1_Size s h = some (szV zs, h) := by
  unfold ref1_Size P.ref1_Size szV
  have := rsize_loop hr hl zs.length 0 0 (by omega) (by omega) (by omega)
  simp only [Int.natCast_zero, List.drop_zero, Int.zero_add] at this
  rw [show loopO (P.ref1_Size_l1 ref1_May ref1_size) = loopO ref1_Size_l1 from rfl, this]
  cases szs zs <;> rfl
theorem szs_nonneg : ∀ (zs : List Int) (t : Int), szs zs = some t → 0 ≤ t
  | [], t, h => by simp [szs] at h; omega
  | n :: l, t, h => by
    unfold szs at h
    split at h
    · simp only [Option.map_eq_some_iff] at h
      obtain ⟨u, h1, h2⟩ := h
      have := szs_nonneg l u h1
      have := sz_pos n
      omega
    · simp at h
theorem szs_all : ∀ zs : List Int, (szs zs).isSome = true ↔ ∀ x ∈ zs, okN x
  | [] => by simp [szs]
  | n :: l => by
    have ih := szs_all l
    unfold szs
    by_cases hn : okN n
    · simp [hn, ih]
    · simp [hn]
theorem szV_neg (zs : List Int) : szV zs < 0 ↔ ¬ ∀ x ∈ zs, okN x := by
  rw [← szs_all]
  unfold szV
  cases hz : szs zs with
  | none => simp
  | some t => have := szs_nonneg zs t hz; simp; omega
/-! bytes put -/
theorem byte_atk (k' : IntKind) {x : Int} (h0 : 0 ≤ x) (m : Nat) (hm : m < 8) : ∃ y, shrT .i64 x k' (8 * (m : Int)) = some y ∧ IntKind.wrap .u8 y = ((UInt8.ofNat (x.toNat / 256 ^ m)).toNat : Int) := by
  obtain ⟨y, e1, e2⟩ := byte_at h0 m hm
  refine ⟨y, ?_, e2⟩
  rw [shrT_ok _ _ _ (by omega)] at e1 ⊢
  exact e1
theorem app_one {h0 h : H} {out : Sl} {l : List UInt8} (bv : UInt8) (hb : BufB h out l) (hx : EX h0 h) (hf : Fr h0.size out) (hl : l.length + 1 ≤ 2 ^ 47) :
    ∃ out1 h2, appT 5 1 1 (newAt (grow h 1) h.size (row 5 [.int .u8 (bv.toNat : Int)])) out ⟨some ⟨h.size, 0, some 0⟩, 1, 1⟩ = some (out1, h2) ∧ BufB h2 out1 (l ++ [bv]) ∧ EX h0 h2 ∧ Fr h0.size out1 := by
  rw [show row 5 [Value.int .u8 (bv.toNat : Int)] = row 5 (vB [bv]) from rfl]
  have x1 := wf_new hx.wf 5 (vB [bv])
  have b1 : BufB _ ⟨some ⟨h.size, 0, some 0⟩, 1, 1⟩ [bv] := bufB_new hx.wf 5 [bv] (by simp [B63])
  generalize newAt (grow h 1) h.size (row 5 (vB [bv])) = h1 at x1 b1 ⊢
  generalize (⟨some ⟨h.size, 0, some 0⟩, 1, 1⟩ : Sl) = s1 at b1 ⊢
  obtain ⟨out1, h2, e3, k3, x3, b3, _, f3⟩ := appB_ok (e := 5) x1.wf (hb.ex hx.wf x1) b1.rd (by simp; omega)
  exact ⟨out1, h2, e3, b3, x3 _ (hx.trans x1) hf, f3 _ (hx.trans x1).size hf⟩
theorem rput_low {h0 : H} {x k : Int} (hx : 0 ≤ x) : ∀ (m : Nat) (out : Sl) (l : List UInt8) (h : H), m ≤ 7 → (m : Int) < k → k ≤ 8 → BufB h out l → EX h0 h → Fr h0.size out → l.length + m ≤ 2 ^ 47 →
    ∃ out' h', loopO ref1_put_l1 ((out, (x, (k, (m : Int) - 1))), h) = some (Sum.inl (out', h')) ∧ BufB h' out' (l ++ be m x.toNat) ∧ EX h0 h' ∧ Fr h0.size out'
  | 0, out, l, h, hm, hmk, hk8, hb, hx0, hf, hl => by
    refine ⟨out, h, ?_, by simpa [be] using hb, hx0, hf⟩
    rw [loopO_eq]
    simp only [ref1_put_l1, P.ref1_put_l1, condK_eq, decide_eq_true_eq, show ¬ (((0 : Nat) : Int) - 1 ≥ 0) by omega, if_false]
  | m + 1, out, l, h, hm, hmk, hk8, hb, hx0, hf, hl => by
    obtain ⟨y, e1, e2⟩ := byte_atk .u64 hx m (by omega)
    rw [loopO_eq]
    simp only [ref1_put_l1, P.ref1_put_l1, condK_eq, decide_eq_true_eq, show (((m + 1 : Nat) : Int) - 1 ≥ 0) by omega, if_true]
    rw [show (((m + 1 : Nat) : Int) - 1) = (m : Int) by omega, w64 (n := 8 * (m : Int)) (by omega) (by omega), wu64 (by omega) (by omega), e1, bindO_some, e2]
    rw [w64 (n := k - 1) (by omega) (by omega), show ((m : Int) == k - 1) = false by simp; omega]
    simp only [Bool.false_eq_true, if_false, joinO_inl]
    rw [newO_eq]
    obtain ⟨out1, h2, e3, b3, x3, f3⟩ := app_one (UInt8.ofNat (x.toNat / 256 ^ m)) hb hx0 hf (by omega)
    rw [e3, bind2_some]
    simp only
    rw [w64 (by omega) (by omega)]
    obtain ⟨out', h', e4, b4, x4, f4⟩ := rput_low (k := k) hx m out1 _ h2 (by omega) (by omega) hk8 b3 x3 f3 (by simp; omega)
    refine ⟨out', h', e4, ?_, x4, f4⟩
    rw [List.append_assoc] at b4
    simpa [be] using b4
theorem add_kind (b : UInt8) (k : Nat) (hb : b.toNat < 64) (hk : k < 4) : IntKind.wrap .u8 ((b.toNat : Int) + (k * 64 : Nat)) = ((b ||| UInt8.ofNat (k * 64)).toNat : Int) := by
  rw [or_kind b k hb hk, wu8_mod]; omega
theorem kd_sz {x : Int} (h : okN x) : (kd x = 0 ∧ sz x = 1) ∨ (kd x = 1 ∧ sz x = 2) ∨ (kd x = 2 ∧ sz x = 4) ∨ (kd x = 3 ∧ sz x = 8) := by
  unfold okN at h
  unfold kd sz
  rw [if_neg (by omega), if_neg (by omega)]
  (repeat' split) <;> simp
theorem top_lt {x : Int} (h : okN x) : x.toNat / 256 ^ ((sz x).toNat - 1) < 64 := by
  have h' := h
  unfold okN at h'
  have h1 : (64 : Nat) * 256 ^ 0 = 64 ∧ 64 * 256 ^ 1 = 16384 ∧ 64 * 256 ^ 3 = 1073741824 ∧ 64 * 256 ^ 7 = 4611686018427387904 := by decide
  apply Nat.div_lt_of_lt_mul
  rw [Nat.mul_comm]
  rcases sz_cases x with hs | hs | hs | hs <;> rw [hs] <;> simp only [Int.toNat_one, Int.reduceToNat, Nat.reduceSub] <;> unfold sz at hs <;> (repeat' split at hs) <;> omega
theorem rput_f {h0 : H} {x : Int} {out : Sl} {l : List UInt8} {h : H} (hok : okN x) (hb : BufB h out l) (hx0 : EX h0 h) (hf : Fr h0.size out) (hl : l.length + 8 ≤ 2 ^ 47) :
    ∃ out' h', ref1_put out x h = some (out', h') ∧ BufB h' out' (l ++ enc x) ∧ EX h0 h' ∧ Fr h0.size out' := by
  unfold ref1_put P.ref1_put
  rw [rsize_f, bind2_some]
  simp only [hok, if_true]
  have hs := sz_pos x
  have hx := hok.1
  obtain ⟨m, hm⟩ : ∃ m : Nat, sz x = (m : Int) + 1 := ⟨(sz x).toNat - 1, by omega⟩
  have htop := top_lt hok
  have hks := kd_sz hok
  have henc : enc x = (UInt8.ofNat (x.toNat / 256 ^ m) ||| UInt8.ofNat ((kd x).toNat * 64)) :: be m x.toNat := by
    unfold enc
    rw [hm, show ((m : Int) + 1).toNat = m + 1 by omega]
    rfl
  rw [hm, show ((m : Int) + 1).toNat - 1 = m by omega] at htop
  rw [w64 (by omega) (by omega), loopO_eq]
  obtain ⟨y, e1, e2⟩ := byte_atk .u64 hx m (by omega)
  simp only [P.ref1_put_l1, condK_eq, decide_eq_true_eq, show (sz x - 1 ≥ 0) by omega, if_true]
  rw [show sz x - 1 = (m : Int) by omega, w64 (n := 8 * (m : Int)) (by omega) (by omega), wu64 (n := 8 * (m : Int)) (by omega) (by omega), e1, bindO_some, e2]
  have hof : (UInt8.ofNat (x.toNat / 256 ^ m)).toNat = x.toNat / 256 ^ m := by rw [UInt8.toNat_ofNat']; exact Nat.mod_eq_of_lt (Nat.lt_trans htop (by decide))
  have hadd := fun k hk => add_kind (UInt8.ofNat (x.toNat / 256 ^ m)) k (by omega) hk
  have hsw : (if (sz x == 2) = true then (some (Sum.inl ((out, (x, (sz x, ((m : Int), IntKind.wrap .u8 ((((UInt8.ofNat (x.toNat / 256 ^ m)).toNat : Nat) : Int) + 64))))), h)) : Option (((Sl × (Int × (Int × (Int × Int)))) × H) ⊕ (((Sl × (Int × (Int × Int))) × H) ⊕ ((Sl × H) ⊕ (Sl × H))))) else
      if (sz x == 4) = true then some (Sum.inl ((out, (x, (sz x, ((m : Int), IntKind.wrap .u8 ((((UInt8.ofNat (x.toNat / 256 ^ m)).toNat : Nat) : Int) + 128))))), h)) else
      if (sz x == 8) = true then some (Sum.inl ((out, (x, (sz x, ((m : Int), IntKind.wrap .u8 ((((UInt8.ofNat (x.toNat / 256 ^ m)).toNat : Nat) : Int) + 192))))), h)) else
      some (Sum.inl ((out, (x, (sz x, ((m : Int), (((UInt8.ofNat (x.toNat / 256 ^ m)).toNat : Nat) : Int))))), h)))
      = some (Sum.inl ((out, (x, (sz x, ((m : Int), ((UInt8.ofNat (x.toNat / 256 ^ m) ||| UInt8.ofNat ((kd x).toNat * 64)).toNat : Int))))), h)) := by
    rcases hks with ⟨a, b⟩ | ⟨a, b⟩ | ⟨a, b⟩ | ⟨a, b⟩
    · rw [a, b, show Int.toNat 0 = 0 from rfl, ← hadd 0 (by omega)]; simp; rw [wu8_mod]; omega
    · rw [a, b, show Int.toNat 1 = 1 from rfl, ← hadd 1 (by omega)]; rfl
    · rw [a, b, show Int.toNat 2 = 2 from rfl, ← hadd 2 (by omega)]; rfl
    · rw [a, b, show Int.toNat 3 = 3 from rfl, ← hadd 3 (by omega)]; rfl
  rw [hsw]
  rw [w64 (n := (m : Int)) (by omega) (by omega), if_pos (beq_self_eq_true _), joinO_inl]
  simp only
  rw [newO_eq]
  obtain ⟨out1, h2, e3, b3, x3, f3⟩ := app_one (UInt8.ofNat (x.toNat / 256 ^ m) ||| UInt8.ofNat ((kd x).toNat * 64)) hb hx0 hf (by omega)
  rw [e3, bind2_some]
  simp only
  rw [w64 (by omega) (by omega)]
  obtain ⟨out', h', e4, b4, x4, f4⟩ := rput_low (k := sz x) hx m out1 _ h2 (by omega) (by omega) (by omega) b3 x3 f3 (by simp; omega)
  simp only [ref1_put_l1] at e4
  rw [e4, joinO_inl]
  refine ⟨out', h', rfl, ?_, x4, f4⟩
  rw [List.append_assoc] at b4
  rw [henc]; simpa using b4
end Go.Proofs.Ythiccnmplgdheaa.T
/- The reference's functions of chapter 1 over the typed texts: numbers put, taken. -/
set_option linter.unusedVariables false
set_option linter.unusedSimpArgs false
namespace Go.Proofs.Ythiccnmplgdheaa.T
open Go Go.Abs Go.Proofs
theorem app_new {h : H} {x : Sl} {l : List UInt8} (w : WF h) (hr : RdB h x l) (hl : l.length ≤ 2 ^ 47) :
    ∃ s' h', appT 5 1 1 (newAt (grow h 1) h.size (row 5 [])) ⟨some ⟨h.size, 0, some 0⟩, 0, 0⟩ x = some (s', h') ∧ EX h h' ∧ BufB h' s' l ∧ Fr h.size s' := by
  have x1 := wf_new w 5 (vB [])
  have b1 := bufB_new w 5 [] (by decide)
  rw [show row 5 [] = row 5 (vB []) from rfl]
  have f1 := fr_new h 0 0
  simp only [List.length_nil] at b1
  generalize newAt (grow h 1) h.size (row 5 (vB [])) = h1 at x1 b1 ⊢
  generalize (⟨some ⟨h.size, 0, some 0⟩, 0, 0⟩ : Sl) = s1 at b1 f1 ⊢
  obtain ⟨s', h', e2, k2, x2, b2, _, f2⟩ := appB_ok (e := 5) x1.wf b1 (hr.ex x1) (by simpa using hl)
  exact ⟨s', h', e2, x2 _ x1 f1, by simpa using b2, f2 _ x1.size f1⟩
def putV (l : List UInt8) (zs : List Int) : List UInt8 := if szV zs < 0 then [] else l ++ encs zs
theorem rput_l1 {h0 : H} {n : Sl} {zs : List Int} (hr : RdI .i64 h0 n zs) (hz : zs.length ≤ 2 ^ 47) (hall : ∀ x ∈ zs, okN x) : ∀ (k i : Nat) (out : Sl) (l : List UInt8) (h : H), i + k = zs.length → BufB h out l → EX h0 h → Fr h0.size out → l.length + 8 * k ≤ 2 ^ 47 →
    ∃ out' h', loopO ref1_Put_l1 ((n, (out, (i : Int))), h) = some (Sum.inl (out', h')) ∧ BufB h' out' (l ++ encs (zs.drop i)) ∧ EX h0 h' ∧ Fr h0.size out'
  | 0, i, out, l, h, hik, hb, hx, hf, hl => by
    have : zs.drop i = [] := List.drop_eq_nil_of_le (by omega)
    rw [this]
    refine ⟨out, h, ?_, by simpa [encs] using hb, hx, hf⟩
    rw [loopO_eq]
    simp only [P.ref1_Put_l1, condK_eq, decide_eq_true_eq, hr.len, show ¬ ((i : Int) < (zs.length : Int)) by omega, if_false]
  | k + 1, i, out, l, h, hik, hb, hx, hf, hl => by
    have hd := drop_getD (zs := zs) (i := i) (by omega)
    obtain ⟨a, ha, e1, e2⟩ := (hr.ex hx).at (i := (i : Int)) (by omega) (by omega)
    simp only [Int.toNat_natCast] at e1 e2
    have hok : okN (zs.getD i 0) := hall _ (List.mem_of_mem_drop (by rw [hd]; exact List.mem_cons_self ..))
    have hs := sz_pos (zs.getD i 0)
    have hel := enc_length (zs.getD i 0)
    obtain ⟨out1, h1, e3, b1, x1, f1⟩ := rput_f hok hb hx hf (by omega)
    obtain ⟨out', h', e8, b5, x5, f5⟩ := rput_l1 hr hz hall k (i + 1) out1 _ h1 (by omega) b1 x1 f1 (by rw [List.length_append]; omega)
    refine ⟨out', h', ?_, ?_, x5, f5⟩
    · rw [loopO_eq]
      simp only [P.ref1_Put_l1, condK_eq, decide_eq_true_eq, hr.len, show ((i : Int) < (zs.length : Int)) by omega, if_true]
      rw [e1, bindO_some, e2, bindO_some, e3, bind2_some]
      simp only
      rw [w64 (by omega) (by omega)]
      exact e8
    · rw [hd]; simpa [encs] using b5
theorem RPut_f {h : H} {b n : Sl} {l : List UInt8} {zs : List Int} (w : WF h) (hb : RdB h b l) (hr : RdI .i64 h n zs) (hl : l.length + 8 * zs.length ≤ 2 ^ 47) :
    ∃ s' h', ref1_Put b n h = some (s', h') ∧ EX h h' ∧ BufB h' s' (putV l zs) ∧ Fr h.size s' := by
  unfold ref1_Put P.ref1_Put putV
  rw [RSize_f hr (by omega), bind2_some]
  simp only [condK_eq, decide_eq_true_eq]
  by_cases hs : szV zs < 0
  · simp only [hs, if_true]
    exact ⟨_, h, rfl, EX.refl w, buf_nil 1 h, fr_nil _⟩
  · simp only [hs, if_false]
    have hall : ∀ x ∈ zs, okN x := by
      have := szV_neg zs
      exact Decidable.not_not.1 fun hn => hs (this.2 hn)
    rw [newO_eq]
    obtain ⟨s1, h1, e1, x1, b1, f1⟩ := app_new w hb (by omega)
    rw [e1, bind2_some]
    simp only
    obtain ⟨out', h', e2, b2, x2, f2⟩ := rput_l1 hr (by omega) hall zs.length 0 s1 l h1 (by omega) b1 x1 f1 (by omega)
    simp only [ref1_Put_l1, Int.natCast_zero, List.drop_zero] at e2 b2
    rw [e2, joinO_inl]
    exact ⟨out', h', rfl, x2, b2, f2⟩
/-! a number taken -/
/-! numbers taken one behind the other -/
end Go.Proofs.Ythiccnmplgdheaa.T
/- Chapter 18's functions over the typed texts: what a right head is, its pieces' bounds. -/
set_option linter.unusedVariables false
set_option linter.unusedSimpArgs false
namespace Go.Proofs.Ythiccnmplgdheaa.T
open Go Go.Abs Go.Proofs
abbrev Hd := Int × Int × Int × Int × Int
def hcnt (s : Int) : Int := (s + 79) / 80
def HR (x : Hd) : Prop := 0 ≤ x.1 ∧ x.1 < 40 ∧ 0 ≤ x.2.1 ∧ x.2.1 ≤ 4611686018427387903 ∧ 1 ≤ x.2.2.2.2 ∧ x.2.2.2.2 ≤ 600 ∧ x.2.2.1 = hcnt x.2.2.2.2 ∧ 0 ≤ x.2.2.2.1 ∧ x.2.2.2.1 < x.2.2.1
instance (x : Hd) : Decidable (HR x) := by unfold HR; infer_instance
/-! bounds of a piece -/
def hfrom (x : Hd) : Int := x.2.2.2.1 * 80
def hto (x : Hd) : Int := min (x.2.2.2.1 * 80 + 80) x.2.2.2.2
theorem HR.b {x : Hd} (h : HR x) : 0 ≤ hfrom x ∧ hfrom x < hto x ∧ hto x ≤ x.2.2.2.2 ∧ x.2.2.2.2 ≤ 600 ∧ hto x - hfrom x ≤ 80 := by
  unfold HR hcnt at h; unfold hfrom hto; omega
/-! a head of a message -/
end Go.Proofs.Ythiccnmplgdheaa.T
