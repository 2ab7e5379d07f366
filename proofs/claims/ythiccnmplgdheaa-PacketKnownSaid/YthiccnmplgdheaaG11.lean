/- Lemmas about the typed texts (joined: LSealBack SRef1 SRef2). -/
import Derived.Test.YthiccnmplgdheaaG10
import Derived.Test.YthiccnmplgdheaaG4
import Derived.Test.YthiccnmplgdheaaG7
/- The law SealBack over the typed texts. -/
set_option linter.unusedVariables false
set_option linter.unusedSimpArgs false
namespace Go.Proofs.Ythiccnmplgdheaa.T
open Go Go.Abs Go.Proofs
/-! one byte that is another one -/
theorem xor_ne {a b : UInt8} (hb : b ≠ 0) : a ^^^ b ≠ a := by
  intro e
  apply hb
  have : a ^^^ (a ^^^ b) = a ^^^ a := by rw [e]
  rwa [← UInt8.xor_assoc, UInt8.xor_self, UInt8.zero_xor] at this
theorem u64_byte (a : UInt8) : U64 (a.toNat : Int) := by
  have := a.toNat_lt
  unfold U64; omega
theorem bytesTag_set : ∀ (l : List UInt8) (i : Nat) (key : Int) (v : UInt8), i < l.length → v ≠ l.getD i 0 → bytesTag key (l.set i v) ≠ bytesTag key l
  | [], i, key, v, hi, hv => by simp at hi
  | c :: l, 0, key, v, hi, hv => by
    intro e
    have e1 : bytesTag (stepV key (v.toNat : Int)) l = bytesTag (stepV key (c.toNat : Int)) l := e
    have e2 := bytesTag_inj l (stepV_rng _ _) (stepV_rng _ _) e1
    have e3 := stepV_inj_r (u64_byte v) (u64_byte c) e2
    apply hv
    rw [List.getD_cons_zero]
    apply UInt8.toNat_inj.1
    omega
  | c :: l, i + 1, key, v, hi, hv => by
    intro e
    have e1 : bytesTag (stepV key (c.toNat : Int)) (l.set i v) = bytesTag (stepV key (c.toNat : Int)) l := e
    exact bytesTag_set l i _ v (by simpa using hi) (by simpa using hv) e1
theorem partTag_set (l : List UInt8) (i : Nat) (key : Int) (hk : U64 key) (v : UInt8) (hi : i < l.length) (hv : v ≠ l.getD i 0) : partTag key (l.set i v) ≠ partTag key l := by
  intro e
  unfold partTag at e
  rw [List.length_set] at e
  exact bytesTag_set l i key v hi hv (stepV_inj_l (bytesTag_rng _ _ hk) (bytesTag_rng _ _ hk) e)
theorem partTag_rng (l : List UInt8) (key : Int) : U64 (partTag key l) := stepV_rng _ _
theorem open_sethead (key num : Int) (head body : List UInt8) (i : Nat) (v : UInt8) (hi : i < head.length) (hv : v ≠ head.getD i 0) : (openV key num (head.set i v) (closeV key num head body)).isSome = false := by
  unfold openV
  have hl := closeV_length key num head body
  rw [hl, if_neg (by omega), Nat.add_sub_cancel]
  unfold closeV
  have hm := mk_length (stepV key num) body 0
  rw [List.take_append_of_le_length (by omega), List.take_of_length_le (by omega), List.drop_append_of_le_length (by omega), List.drop_of_length_le (by omega), List.nil_append]
  rw [if_neg]
  · rfl
  · intro e
    have e1 := tagL_inj e
    have rs := stepV_rng key num
    exact partTag_set head i _ rs v hi hv (partTag_inj _ (partTag_rng _ _) (partTag_rng _ _) e1)
theorem open_setseal (key num : Int) (head body : List UInt8) (i : Nat) (v : UInt8) (hi : i < body.length + 8) (hv : v ≠ (closeV key num head body).getD i 0) : (openV key num head ((closeV key num head body).set i v)).isSome = false := by
  unfold openV
  have hl := closeV_length key num head body
  rw [List.length_set, hl, if_neg (by omega), Nat.add_sub_cancel]
  have hm := mk_length (stepV key num) body 0
  have ht := tagL_length key num head (mk (stepV key num) 0 body)
  rw [if_neg]
  · rfl
  unfold closeV at hv ⊢
  by_cases hb : i < body.length
  · rw [List.set_append_left _ _ (by omega)]
    have hs : ((mk (stepV key num) 0 body).set i v).length = body.length := by rw [List.length_set, hm]
    rw [List.take_append_of_le_length (by omega), List.take_of_length_le (by omega), List.drop_append_of_le_length (by omega), List.drop_of_length_le (by omega), List.nil_append]
    intro e
    have e1 := tagL_inj e
    have rs := stepV_rng key num
    have hv' : v ≠ (mk (stepV key num) 0 body).getD i 0 := by
      rwa [List.getD_eq_getElem?_getD, List.getElem?_append_left (by omega), ← List.getD_eq_getElem?_getD] at hv
    exact partTag_set _ i _ (partTag_rng _ _) v (by omega) hv' e1
  · rw [List.set_append_right _ _ (by omega), hm]
    rw [List.take_append_of_le_length (by omega), List.take_of_length_le (by omega), List.drop_append_of_le_length (by omega), List.drop_of_length_le (by omega), List.nil_append]
    intro e
    rw [List.getD_eq_getElem?_getD, List.getElem?_append_right (by omega), hm, ← List.getD_eq_getElem?_getD] at hv
    apply hv
    have := congrArg (fun l => l.getD (i - body.length) 0) e
    rw [this, List.getD_eq_getElem?_getD, List.getElem?_set_self (by omega)]
    rfl
/-- a write into one row leaves the rows in other blocks -/
theorem st1_bufB2 {h : H} {s : Sl} {l : List UInt8} {i : Nat} {v : UInt8} {a : Addr} (hs : BufB h s l) (ha : s.base = some a) (hi : i < l.length) (w : WF h) :
    ∃ h', st1 h (add a i) (.int .u8 (v.toNat : Int)) = some h' ∧ WF h' ∧ BufB h' s (l.set i v) ∧ (∀ h0, EX h0 h → Fr h0.size s → EX h0 h') ∧ (∀ s' l', RdB h s' l' → (∀ a', s'.base = some a' → a'.block ≠ a.block) → RdB h' s' l') := by
  obtain ⟨h', a1, a0, a2, a3, a4⟩ := st1_buf (h0 := h) (v := .int .u8 (v.toNat : Int)) hs ha (by simpa [vB] using hi) rfl w
  refine ⟨h', a1, a0, ?_, a3, fun s' l' r n => a4 s' _ r n⟩
  unfold BufB
  have : vB (l.set i v) = (vB l).set i (.int .u8 (v.toNat : Int)) := by simp [vB, List.map_set]
  rw [this]; exact a2
end Go.Proofs.Ythiccnmplgdheaa.T
/- The reference's functions of chapter 1 over the typed texts. -/
set_option linter.unusedVariables false
set_option linter.unusedSimpArgs false
namespace Go.Proofs.Ythiccnmplgdheaa.T
open Go Go.Abs Go.Proofs
theorem szs_nonneg : ∀ (zs : List Int) (t : Int), szs zs = some t → 0 ≤ t
  | [], t, h => by simp [szs] at h; omega
  | n :: l, t, h => by
    unfold szs at h
    split at h
    · simp only [Option.map_eq_some_iff] at h
      obtain ⟨u, h1, h2⟩ := h
      have := szs_nonneg l u h1
      have := sz_pos n
      omega
    · simp at h
theorem szs_all : ∀ zs : List Int, (szs zs).isSome = true ↔ ∀ x ∈ zs, okN x
  | [] => by simp [szs]
  | n :: l => by
    have ih := szs_all l
    unfold szs
    by_cases hn : okN n
    · simp [hn, ih]
    · simp [hn]
theorem szV_neg (zs : List Int) : szV zs < 0 ↔ ¬ ∀ x ∈ zs, okN x := by
  rw [← szs_all]
  unfold szV
  cases hz : szs zs with
  | none => simp
  | some t => have := szs_nonneg zs t hz; simp; omega
/-! bytes put -/
theorem byte_atk (k' : IntKind) {x : Int} (h0 : 0 ≤ x) (m : Nat) (hm : m < 8) : ∃ y, shrT .i64 x k' (8 * (m : Int)) = some y ∧ IntKind.wrap .u8 y = ((UInt8.ofNat (x.toNat / 256 ^ m)).toNat : Int) := by
  obtain ⟨y, e1, e2⟩ := byte_at h0 m hm
  refine ⟨y, ?_, e2⟩
  rw [shrT_ok _ _ _ (by omega)] at e1 ⊢
  exact e1
theorem app_one {h0 h : H} {out : Sl} {l : List UInt8} (bv : UInt8) (hb : BufB h out l) (hx : EX h0 h) (hf : Fr h0.size out) (hl : l.length + 1 ≤ 2 ^ 47) :
    ∃ out1 h2, appT 5 1 1 (newAt (grow h 1) h.size (row 5 [.int .u8 (bv.toNat : Int)])) out ⟨some ⟨h.size, 0, some 0⟩, 1, 1⟩ = some (out1, h2) ∧ BufB h2 out1 (l ++ [bv]) ∧ EX h0 h2 ∧ Fr h0.size out1 := by
  rw [show row 5 [Value.int .u8 (bv.toNat : Int)] = row 5 (vB [bv]) from rfl]
  have x1 := wf_new hx.wf 5 (vB [bv])
  have b1 : BufB _ ⟨some ⟨h.size, 0, some 0⟩, 1, 1⟩ [bv] := bufB_new hx.wf 5 [bv] (by simp [B63])
  generalize newAt (grow h 1) h.size (row 5 (vB [bv])) = h1 at x1 b1 ⊢
  generalize (⟨some ⟨h.size, 0, some 0⟩, 1, 1⟩ : Sl) = s1 at b1 ⊢
  obtain ⟨out1, h2, e3, k3, x3, b3, _, f3⟩ := appB_ok (e := 5) x1.wf (hb.ex hx.wf x1) b1.rd (by simp; omega)
  exact ⟨out1, h2, e3, b3, x3 _ (hx.trans x1) hf, f3 _ (hx.trans x1).size hf⟩
theorem add_kind (b : UInt8) (k : Nat) (hb : b.toNat < 64) (hk : k < 4) : IntKind.wrap .u8 ((b.toNat : Int) + (k * 64 : Nat)) = ((b ||| UInt8.ofNat (k * 64)).toNat : Int) := by
  rw [or_kind b k hb hk, wu8_mod]; omega
theorem kd_sz {x : Int} (h : okN x) : (kd x = 0 ∧ sz x = 1) ∨ (kd x = 1 ∧ sz x = 2) ∨ (kd x = 2 ∧ sz x = 4) ∨ (kd x = 3 ∧ sz x = 8) := by
  unfold okN at h
  unfold kd sz
  rw [if_neg (by omega), if_neg (by omega)]
  (repeat' split) <;> simp
theorem top_lt {x : Int} (h : okN x) : x.toNat / 256 ^ ((sz x).toNat - 1) < 64 := by
  have h' := h
  unfold okN at h'
  have h1 : (64 : Nat) * 256 ^ 0 = 64 ∧ 64 * 256 ^ 1 = 16384 ∧ 64 * 256 ^ 3 = 1073741824 ∧ 64 * 256 ^ 7 = 4611686018427387904 := by decide
  apply Nat.div_lt_of_lt_mul
  rw [Nat.mul_comm]
  rcases sz_cases x with hs | hs | hs | hs <;> rw [hs] <;> simp only [Int.toNat_one, Int.reduceToNat, Nat.reduceSub] <;> unfold sz at hs <;> (repeat' split at hs) <;> omega
end Go.Proofs.Ythiccnmplgdheaa.T
/- The reference's functions of chapter 1 over the typed texts: numbers put, taken. -/
set_option linter.unusedVariables false
set_option linter.unusedSimpArgs false
namespace Go.Proofs.Ythiccnmplgdheaa.T
open Go Go.Abs Go.Proofs
theorem app_new {h : H} {x : Sl} {l : List UInt8} (w : WF h) (hr : RdB h x l) (hl : l.length ≤ 2 ^ 47) :
    ∃ s' h', appT 5 1 1 (newAt (grow h 1) h.size (row 5 [])) ⟨some ⟨h.size, 0, some 0⟩, 0, 0⟩ x = some (s', h') ∧ EX h h' ∧ BufB h' s' l ∧ Fr h.size s' := by
  have x1 := wf_new w 5 (vB [])
  have b1 := bufB_new w 5 [] (by decide)
  rw [show row 5 [] = row 5 (vB []) from rfl]
  have f1 := fr_new h 0 0
  simp only [List.length_nil] at b1
  generalize newAt (grow h 1) h.size (row 5 (vB [])) = h1 at x1 b1 ⊢
  generalize (⟨some ⟨h.size, 0, some 0⟩, 0, 0⟩ : Sl) = s1 at b1 f1 ⊢
  obtain ⟨s', h', e2, k2, x2, b2, _, f2⟩ := appB_ok (e := 5) x1.wf b1 (hr.ex x1) (by simpa using hl)
  exact ⟨s', h', e2, x2 _ x1 f1, by simpa using b2, f2 _ x1.size f1⟩
def putV (l : List UInt8) (zs : List Int) : List UInt8 := if szV zs < 0 then [] else l ++ encs zs
theorem Put_all {h : H} {b n : Sl} {l : List UInt8} {zs : List Int} (w : WF h) (hb : RdB h b l) (hr : RdI .i64 h n zs) (hl : l.length + 8 * zs.length ≤ 2 ^ 47) :
    ∃ s' h', varint_Put b n h = some (s', h') ∧ EX h h' ∧ RdB h' s' (putV l zs) := by
  unfold putV
  by_cases hs : szV zs < 0
  · rw [if_pos hs]
    rw [szV_neg] at hs
    obtain ⟨h', e, x⟩ := Put_bad w hb hr hl (by
      have hd : ¬ ¬ ∃ x ∈ zs, ¬ okN x := fun hn => hs fun x hx => Decidable.not_not.1 fun hk => hn ⟨x, hx, hk⟩
      exact Classical.not_not.1 hd)
    exact ⟨_, h', e, x, rd_nil 1 h'⟩
  · rw [if_neg hs]
    have hall : ∀ x ∈ zs, okN x := Decidable.not_not.1 fun hn => hs ((szV_neg zs).2 hn)
    obtain ⟨s', h', e, x, r, _⟩ := Put_f w hb hr hl hall
    exact ⟨s', h', e, x, r⟩
/-! a number taken -/
/-! numbers taken one behind the other -/
end Go.Proofs.Ythiccnmplgdheaa.T
