/- Lemmas about the typed texts (joined: LVarLong SVar4 LVarBack). -/
import Derived.Test.YtlikepnpamejmaaGreatG9
/- The law VarintLong over the typed text. -/
set_option linter.unusedVariables false
set_option linter.unusedSimpArgs false
namespace Go.Abs
open Go
theorem mkT_ok {e : Nat} {h : H} (w : WF h) {k : Nat} (hk : k ≤ 2 ^ 40) : ∃ h', mkT e 1 1 (.int .u8 0) h (k : Int) (k : Int) = some (⟨some ⟨h.size, 0, some 0⟩, k, k⟩, h') ∧ EX h h' ∧ BufB h' ⟨some ⟨h.size, 0, some 0⟩, k, k⟩ (List.replicate k 0) := by
  have hz : zeros (.int .u8 0) k = vB (List.replicate k 0) := by
    unfold zeros vB
    have : (Value.int .u8 0).cells.toList = [Value.int .u8 0] := rfl
    rw [this, List.map_replicate]
    induction k with
    | zero => rfl
    | succ k ih => rw [List.replicate_succ, List.flatten_cons, ih (by omega), List.replicate_succ]; rfl
  have key : mkSl (DSE e (tyS 1 1 (.int .u8 0))) (e + 1) (.int .i64 (k : Int)) (.int .i64 (k : Int)) = some (.new (row e (vB (List.replicate k 0))) fun A => .slice (some ⟨A, 0, some 0⟩) k k) := by
    unfold mkSl
    rw [elem_DSE]
    have : (decide ((0 : Int) ≤ (k : Int)) && decide ((k : Int) ≤ (k : Int)) && decide ((k : Int) * (((tyS 1 1 (.int .u8 0)).bytes : Nat) + 1) ≤ 2 ^ 46)) = true := by
      have e1 : ((k : Int) * (((tyS 1 1 (.int .u8 0)).bytes : Nat) + 1) ≤ 2 ^ 46) := by
        show (k : Int) * (((1 : Nat) : Int) + 1) ≤ 2 ^ 46
        omega
      rw [decide_eq_true (show (0 : Int) ≤ (k : Int) by omega), decide_eq_true (show (k : Int) ≤ (k : Int) by omega), decide_eq_true e1]; rfl
    simp only [this, cond_true, Int.toNat_natCast]
    rw [← hz]; rfl
  refine ⟨newAt (grow h 1) h.size (row e (vB (List.replicate k 0))), ?_, wf_new w e _, ?_⟩
  · unfold mkT; rw [key]; rfl
  · have := bufB_new w e (List.replicate k 0) (by simp [B63]; omega)
    simpa using this
end Go.Abs
namespace Go.Proofs.YtlikepnpamejmaaGreat.T
open Go Go.Abs Go.Proofs
theorem val_be : ∀ (m n : Nat), val (n / 256 ^ m) (be m n) = n
  | 0, n => by simp [val, be]
  | m + 1, n => by
    have ih := val_be m n
    have hb : (UInt8.ofNat (n / 256 ^ m)).toNat = n / 256 ^ m % 256 := UInt8.toNat_ofNat'
    have e : n / 256 ^ (m + 1) * 256 + n / 256 ^ m % 256 = n / 256 ^ m := by
      rw [Nat.pow_succ, ← Nat.div_div_eq_div_mul]; omega
    simp only [val, be, List.foldl_cons, hb, e] at ih ⊢
    exact ih
theorem add8 (a b : Nat) (h : a + b < 256) : IntKind.wrap .u8 (((UInt8.ofNat a).toNat : Int) + IntKind.wrap .u8 (IntKind.wrap .i64 (b : Int))) = ((UInt8.ofNat (a + b)).toNat : Int) := by
  rw [UInt8.toNat_ofNat', UInt8.toNat_ofNat', w64 (by omega) (by omega), wu8 (n := (b : Int)) (by omega) (by omega), wu8 (by omega) (by omega)]
  omega
end Go.Proofs.YtlikepnpamejmaaGreat.T
/- Chapter 1's functions over the typed texts: numbers taken one behind the other; what is put is taken; parts of bytes. -/
set_option linter.unusedVariables false
set_option linter.unusedSimpArgs false
namespace Go.Proofs.YtlikepnpamejmaaGreat.T
open Go Go.Abs Go.Proofs
def tks : Nat → List UInt8 → Option (List Int × List UInt8)
  | 0, l => some ([], l)
  | n + 1, l => if (tk l).2.2 = 0 then (tks n (tk l).2.1).map (fun p => ((tk l).1 :: p.1, p.2)) else none
theorem tk_err (l : List UInt8) : (tk l).2.2 = 0 ∨ (tk l).2.2 = 3 := by
  cases l with
  | nil => exact .inr rfl
  | cons c t => simp only [tk]; split <;> simp
theorem tk_rest (l : List UInt8) : (tk l).2.1.length ≤ l.length := by
  cases l with
  | nil => simp [tk]
  | cons c t => simp only [tk]; split <;> simp; omega
theorem tks_length : ∀ (n : Nat) (l : List UInt8) (ns : List Int) (r : List UInt8), tks n l = some (ns, r) → ns.length = n
  | 0, l, ns, r, h => by simp [tks] at h; rw [h.1]; rfl
  | n + 1, l, ns, r, h => by
    unfold tks at h
    split at h
    · simp only [Option.map_eq_some_iff] at h
      obtain ⟨⟨p1, p2⟩, h1, h2⟩ := h
      simp only [Prod.mk.injEq] at h2
      have := tks_length n _ p1 p2 h1
      rw [← h2.1]; simp [this]
    · simp at h
def TksR (h0 : H) (acc : List Int) (res : Option ((Sl × Sl) × H ⊕ (Sl × Sl × Int) × H)) : Option (List Int × List UInt8) → Prop
  | some (ns, r) => ∃ out' rest' h', res = some (Sum.inl ((out', rest'), h')) ∧ Buf 1 h' out' ((acc ++ ns).map (.int .i64)) ∧ RdB h' rest' r ∧ EX h0 h' ∧ Fr h0.size out'
  | none => ∃ h', res = some (Sum.inr ((⟨none, 0, 0⟩, (⟨none, 0, 0⟩, 3)), h')) ∧ EX h0 h'
/-! what is put is taken -/
theorem or_kind (b : UInt8) (k : Nat) (hb : b.toNat < 64) (hk : k < 4) : (b ||| UInt8.ofNat (k * 64)).toNat = b.toNat + k * 64 := by
  rw [UInt8.toNat_or, UInt8.toNat_ofNat', Nat.mod_eq_of_lt (by omega)]
  have := Nat.shiftLeft_add_eq_or_of_lt (show b.toNat < 2 ^ 6 by omega) k
  rw [Nat.shiftLeft_eq] at this
  rw [Nat.or_comm, ← this]; omega
theorem enc_split {x : Int} (h : okN x) : ∃ c m, enc x = c :: be m x.toNat ∧ tsz c = m + 1 ∧ sz x = ((m + 1 : Nat) : Int) ∧ c.toNat % 64 = x.toNat / 256 ^ m := by
  have hkd : (kd x).toNat < 4 ∧ (sz x).toNat = 2 ^ (kd x).toNat ∧ sz x = (((sz x).toNat : Nat) : Int) := by
    have h' := h
    unfold okN at h'
    unfold kd sz
    rw [if_neg (by omega), if_neg (by omega)]
    (repeat' split) <;> decide
  have hlt : x.toNat < 64 * 256 ^ ((sz x).toNat - 1) := by
    have h' := h
    unfold okN at h'
    have h1 : (64 : Nat) * 256 ^ 0 = 64 ∧ 64 * 256 ^ 1 = 16384 ∧ 64 * 256 ^ 3 = 1073741824 ∧ 64 * 256 ^ 7 = 4611686018427387904 := by decide
    rcases sz_cases x with hs | hs | hs | hs <;> rw [hs] <;> simp only [Int.toNat_one, Int.reduceToNat, Nat.reduceSub] <;> unfold sz at hs <;> (repeat' split at hs) <;> omega
  obtain ⟨m, hm⟩ : ∃ m, (sz x).toNat = m + 1 := ⟨(sz x).toNat - 1, by have := sz_pos x; omega⟩
  rw [hm] at hkd hlt
  rw [Nat.add_sub_cancel] at hlt
  have hdv : x.toNat / 256 ^ m < 64 := Nat.div_lt_of_lt_mul (by rw [Nat.mul_comm]; exact hlt)
  have hof : (UInt8.ofNat (x.toNat / 256 ^ m)).toNat = x.toNat / 256 ^ m := by rw [UInt8.toNat_ofNat']; exact Nat.mod_eq_of_lt (Nat.lt_trans hdv (by decide))
  have hor := or_kind (UInt8.ofNat (x.toNat / 256 ^ m)) (kd x).toNat (by omega) hkd.1
  refine ⟨UInt8.ofNat (x.toNat / 256 ^ m) ||| UInt8.ofNat ((kd x).toNat * 64), m, ?_, ?_, hkd.2.2, ?_⟩
  · unfold enc; rw [hm]; rfl
  · unfold tsz; rw [hor, hof, hkd.2.1]; congr 1; omega
  · rw [hor, hof]; omega
theorem tk_enc {x : Int} (h : okN x) (l : List UInt8) : tk (enc x ++ l) = (x, l, 0) := by
  obtain ⟨c, m, e1, e2, e3, e4⟩ := enc_split h
  have hbl : (be m x.toNat).length = m := be_length _ _
  rw [e1, List.cons_append]
  simp only [tk]
  rw [if_neg (by rw [e2]; simp [hbl]), e2, Nat.add_sub_cancel, e4]
  have t1 : (be m x.toNat ++ l).take m = be m x.toNat := by
    rw [List.take_append_of_le_length (by omega), List.take_of_length_le (by omega)]
  have t2 : (be m x.toNat ++ l).drop m = l := by
    rw [List.drop_append_of_le_length (by omega), List.drop_of_length_le (by omega)]; rfl
  rw [t1, t2, val_be, Int.toNat_of_nonneg h.1]
theorem tks_encs : ∀ (ns : List Int) (l : List UInt8), (∀ x ∈ ns, okN x) → tks ns.length (encs ns ++ l) = some (ns, l)
  | [], l, _ => rfl
  | x :: ns, l, h => by
    have hx := tk_enc (h x (List.mem_cons_self ..)) (encs ns ++ l)
    have ih := tks_encs ns l (fun y hy => h y (List.mem_cons_of_mem _ hy))
    show (if _ then _ else _) = _
    rw [show encs (x :: ns) ++ l = enc x ++ (encs ns ++ l) by simp [encs], hx, if_pos rfl, ih]; rfl
/-! parts of bytes -/
end Go.Proofs.YtlikepnpamejmaaGreat.T
/- The law VarintBack over the typed text. -/
set_option linter.unusedVariables false
set_option linter.unusedSimpArgs false
namespace Go.Proofs.YtlikepnpamejmaaGreat.T
open Go Go.Abs Go.Proofs
theorem szV_encs : ∀ (ns : List Int), (∀ x ∈ ns, okN x) → szs ns = some ((encs ns).length : Int)
  | [], _ => rfl
  | x :: ns, h => by
    have ih := szV_encs ns (fun y hy => h y (List.mem_cons_of_mem _ hy))
    have hx := h x (List.mem_cons_self ..)
    have hs := sz_pos x
    have he := enc_length x
    unfold szs
    rw [if_pos hx, ih]
    simp only [Option.map_some, encs, List.length_append, Option.some.injEq]
    omega
theorem encs_append : ∀ (a b : List Int), encs (a ++ b) = encs a ++ encs b
  | [], b => rfl
  | x :: a, b => by simp [encs, encs_append a b]
end Go.Proofs.YtlikepnpamejmaaGreat.T
