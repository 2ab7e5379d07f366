/- Lemmas about the typed texts (joined: SVar4 LVarBack LVarNone). -/
import Derived.Test.YtaebjajbogedkaaG7
import Derived.Test.YtaebjajbogedkaaG2
/- Chapter 1's functions over the typed texts: numbers taken one behind the other; what is put is taken; parts of bytes. -/
set_option linter.unusedVariables false
set_option linter.unusedSimpArgs false
namespace Go.Proofs.Ytaebjajbogedkaa.T
open Go Go.Abs Go.Proofs
def tks : Nat → List UInt8 → Option (List Int × List UInt8)
  | 0, l => some ([], l)
  | n + 1, l => if (tk l).2.2 = 0 then (tks n (tk l).2.1).map (fun p => ((tk l).1 :: p.1, p.2)) else none
theorem tk_err (l : List UInt8) : (tk l).2.2 = 0 ∨ (tk l).2.2 = 3 := by
  cases l with
  | nil => exact .inr rfl
  | cons c t => simp only [tk]; split <;> simp
theorem tk_rest (l : List UInt8) : (tk l).2.1.length ≤ l.length := by
  cases l with
  | nil => simp [tk]
  | cons c t => simp only [tk]; split <;> simp; omega
theorem tks_length : ∀ (n : Nat) (l : List UInt8) (ns : List Int) (r : List UInt8), tks n l = some (ns, r) → ns.length = n
  | 0, l, ns, r, h => by simp [tks] at h; rw [h.1]; rfl
  | n + 1, l, ns, r, h => by
    unfold tks at h
    split at h
    · simp only [Option.map_eq_some_iff] at h
      obtain ⟨⟨p1, p2⟩, h1, h2⟩ := h
      simp only [Prod.mk.injEq] at h2
      have := tks_length n _ p1 p2 h1
      rw [← h2.1]; simp [this]
    · simp at h
def TksR (h0 : H) (acc : List Int) (res : Option ((Sl × Sl) × H ⊕ (Sl × Sl × Int) × H)) : Option (List Int × List UInt8) → Prop
  | some (ns, r) => ∃ out' rest' h', res = some (Sum.inl ((out', rest'), h')) ∧ Buf 1 h' out' ((acc ++ ns).map (.int .i64)) ∧ RdB h' rest' r ∧ EX h0 h' ∧ Fr h0.size out'
  | none => ∃ h', res = some (Sum.inr ((⟨none, 0, 0⟩, (⟨none, 0, 0⟩, 3)), h')) ∧ EX h0 h'
/-! what is put is taken -/
theorem or_kind (b : UInt8) (k : Nat) (hb : b.toNat < 64) (hk : k < 4) : (b ||| UInt8.ofNat (k * 64)).toNat = b.toNat + k * 64 := by
  rw [UInt8.toNat_or, UInt8.toNat_ofNat', Nat.mod_eq_of_lt (by omega)]
  have := Nat.shiftLeft_add_eq_or_of_lt (show b.toNat < 2 ^ 6 by omega) k
  rw [Nat.shiftLeft_eq] at this
  rw [Nat.or_comm, ← this]; omega
theorem enc_split {x : Int} (h : okN x) : ∃ c m, enc x = c :: be m x.toNat ∧ tsz c = m + 1 ∧ sz x = ((m + 1 : Nat) : Int) ∧ c.toNat % 64 = x.toNat / 256 ^ m := by
  have hkd : (kd x).toNat < 4 ∧ (sz x).toNat = 2 ^ (kd x).toNat ∧ sz x = (((sz x).toNat : Nat) : Int) := by
    have h' := h
    unfold okN at h'
    unfold kd sz
    rw [if_neg (by omega), if_neg (by omega)]
    (repeat' split) <;> decide
  have hlt : x.toNat < 64 * 256 ^ ((sz x).toNat - 1) := by
    have h' := h
    unfold okN at h'
    have h1 : (64 : Nat) * 256 ^ 0 = 64 ∧ 64 * 256 ^ 1 = 16384 ∧ 64 * 256 ^ 3 = 1073741824 ∧ 64 * 256 ^ 7 = 4611686018427387904 := by decide
    rcases sz_cases x with hs | hs | hs | hs <;> rw [hs] <;> simp only [Int.toNat_one, Int.reduceToNat, Nat.reduceSub] <;> unfold sz at hs <;> (repeat' split at hs) <;> omega
  obtain ⟨m, hm⟩ : ∃ m, (sz x).toNat = m + 1 := ⟨(sz x).toNat - 1, by have := sz_pos x; omega⟩
  rw [hm] at hkd hlt
  rw [Nat.add_sub_cancel] at hlt
  have hdv : x.toNat / 256 ^ m < 64 := Nat.div_lt_of_lt_mul (by rw [Nat.mul_comm]; exact hlt)
  have hof : (UInt8.ofNat (x.toNat / 256 ^ m)).toNat = x.toNat / 256 ^ m := by rw [UInt8.toNat_ofNat']; exact Nat.mod_eq_of_lt (Nat.lt_trans hdv (by decide))
  have hor := or_kind (UInt8.ofNat (x.toNat / 256 ^ m)) (kd x).toNat (by omega) hkd.1
  refine ⟨UInt8.ofNat (x.toNat / 256 ^ m) ||| UInt8.ofNat ((kd x).toNat * 64), m, ?_, ?_, hkd.2.2, ?_⟩
  · unfold enc; rw [hm]; rfl
  · unfold tsz; rw [hor, hof, hkd.2.1]; congr 1; omega
  · rw [hor, hof]; omega
theorem tk_enc {x : Int} (h : okN x) (l : List UInt8) : tk (enc x ++ l) = (x, l, 0) := by
  obtain ⟨c, m, e1, e2, e3, e4⟩ := enc_split h
  have hbl : (be m x.toNat).length = m := be_length _ _
  rw [e1, List.cons_append]
  simp only [tk]
  rw [if_neg (by rw [e2]; simp [hbl]), e2, Nat.add_sub_cancel, e4]
  have t1 : (be m x.toNat ++ l).take m = be m x.toNat := by
    rw [List.take_append_of_le_length (by omega), List.take_of_length_le (by omega)]
  have t2 : (be m x.toNat ++ l).drop m = l := by
    rw [List.drop_append_of_le_length (by omega), List.drop_of_length_le (by omega)]; rfl
  rw [t1, t2, val_be, Int.toNat_of_nonneg h.1]
theorem tks_encs : ∀ (ns : List Int) (l : List UInt8), (∀ x ∈ ns, okN x) → tks ns.length (encs ns ++ l) = some (ns, l)
  | [], l, _ => rfl
  | x :: ns, l, h => by
    have hx := tk_enc (h x (List.mem_cons_self ..)) (encs ns ++ l)
    have ih := tks_encs ns l (fun y hy => h y (List.mem_cons_of_mem _ hy))
    show (if _ then _ else _) = _
    rw [show encs (x :: ns) ++ l = enc x ++ (encs ns ++ l) by simp [encs], hx, if_pos rfl, ih]; rfl
/-! parts of bytes -/
theorem Few_f {h : H} {b : Sl} {l : List UInt8} (w : WF h) (hr : RdB h b l) (hl : l.length ≤ 2 ^ 47) {n : Int} (hn : 0 ≤ n) : ∃ s' h', hand_Few b n h = some (s', h') ∧ EX h h' ∧ BufB h' s' (l.take n.toNat) ∧ Fr h.size s' := by
  unfold hand_Few
  have first : ∃ b1, (condK (decide ((((b.len : Nat) : Int) > n))) (bindO (slT 1 h b none (some n) none) fun (x0 : Sl) => some (Sum.inl (x0, h))) (some (Sum.inl (b, h))) : Option ((Sl × H) ⊕ (Sl × H))) = some (Sum.inl (b1, h)) ∧ RdB h b1 (l.take n.toNat) := by
    have hlen := hr.len
    by_cases hc : ((b.len : Nat) : Int) > n
    · obtain ⟨s7, e9, r9, l9, _⟩ := sl_hi (hi := n) (by omega) (by unfold B63; omega) hr (by omega) (by omega)
      refine ⟨s7, by rw [condK_eq, if_pos (by simpa using hc), e9]; rfl, ?_⟩
      unfold RdB vB
      rw [List.map_take]
      simpa [vB] using r9
    · refine ⟨b, by rw [condK_eq, if_neg (by simpa using hc)], ?_⟩
      rw [List.take_of_length_le (by omega)]; exact hr
  obtain ⟨b1, e1, r1⟩ := first
  rw [e1, joinO_inl]
  simp only
  rw [newO_eq]
  have x1 := wf_new w 5 (vB [])
  have b0 := bufB_new w 5 [] (by decide)
  rw [show row 5 [] = row 5 (vB []) from rfl]
  have f1 := fr_new h 0 0
  simp only [List.length_nil] at b0
  generalize newAt (grow h 1) h.size (row 5 (vB [])) = h1 at x1 b0 ⊢
  generalize (⟨some ⟨h.size, 0, some 0⟩, 0, 0⟩ : Sl) = s1 at b0 f1 ⊢
  obtain ⟨s', h', e2, k2, x2, b2, _, f2⟩ := appB_ok (e := 5) x1.wf b0 (r1.ex x1) (by simp; omega)
  rw [e2, bind2_some]
  exact ⟨s', h', rfl, x2 _ x1 f1, by simpa using b2, f2 _ x1.size f1⟩
end Go.Proofs.Ytaebjajbogedkaa.T
/- The law VarintBack over the typed text. -/
set_option linter.unusedVariables false
set_option linter.unusedSimpArgs false
namespace Go.Proofs.Ytaebjajbogedkaa.T
open Go Go.Abs Go.Proofs
theorem szV_encs : ∀ (ns : List Int), (∀ x ∈ ns, okN x) → szs ns = some ((encs ns).length : Int)
  | [], _ => rfl
  | x :: ns, h => by
    have ih := szV_encs ns (fun y hy => h y (List.mem_cons_of_mem _ hy))
    have hx := h x (List.mem_cons_self ..)
    have hs := sz_pos x
    have he := enc_length x
    unfold szs
    rw [if_pos hx, ih]
    simp only [Option.map_some, encs, List.length_append, Option.some.injEq]
    omega
theorem encs_append : ∀ (a b : List Int), encs (a ++ b) = encs a ++ encs b
  | [], b => rfl
  | x :: a, b => by simp [encs, encs_append a b]
end Go.Proofs.Ytaebjajbogedkaa.T
/- The law VarintNone over the typed text. -/
set_option linter.unusedVariables false
set_option linter.unusedSimpArgs false
namespace Go.Proofs.Ytaebjajbogedkaa.T
open Go Go.Abs Go.Proofs
theorem tks_more : ∀ (ns : List Int) (j : Nat), (∀ x ∈ ns, okN x) → tks (ns.length + (j + 1)) (encs ns) = none
  | [], j, _ => by
    rw [show ([] : List Int).length + (j + 1) = j + 1 by simp]
    rfl
  | x :: ns, j, h => by
    have hx := tk_enc (h x (List.mem_cons_self ..)) (encs ns)
    have ih := tks_more ns j (fun y hy => h y (List.mem_cons_of_mem _ hy))
    rw [show (x :: ns).length + (j + 1) = (ns.length + (j + 1)) + 1 by simp; omega]
    show (if _ then _ else _) = _
    rw [show encs (x :: ns) = enc x ++ encs ns from rfl, hx, if_pos rfl, ih]; rfl
theorem szs_bad : ∀ (ns : List Int), (∃ x ∈ ns, ¬ okN x) → szs ns = none
  | [], ⟨x, hx, _⟩ => by simp at hx
  | y :: ns, ⟨x, hx, hn⟩ => by
    unfold szs
    by_cases hy : okN y
    · rw [if_pos hy]
      rw [List.mem_cons] at hx
      rcases hx with rfl | hx
      · exact absurd hy hn
      · rw [szs_bad ns ⟨x, hx, hn⟩]; rfl
    · rw [if_neg hy]
end Go.Proofs.Ytaebjajbogedkaa.T
