/- Lemmas about the typed texts (joined: LVarShort LVarLong SVar4). -/
import Derived.Test.YtaebjajbogedkaaG7
/- The law VarintShortest over the typed text. -/
set_option linter.unusedVariables false
set_option linter.unusedSimpArgs false
namespace Go.Proofs.Ytaebjajbogedkaa.T
open Go Go.Abs Go.Proofs
theorem sz_cases (x : Int) : sz x = 1 ∨ sz x = 2 ∨ sz x = 4 ∨ sz x = 8 := by unfold sz; (repeat' split) <;> omega
theorem sz_mono {x y : Int} (h : x ≤ y) : sz x ≤ sz y := by unfold sz; (repeat' split) <;> omega
theorem szV_one {x : Int} (h : okN x) : szV [x] = sz x := by
  unfold szV szs szs
  rw [if_pos h]; simp
/-- a row of one number -/
theorem one_new (x : Int) {h : H} (w : WF h) : EX h (newAt (grow h 1) h.size (row 3 [.int .i64 x])) ∧ Buf 1 (newAt (grow h 1) h.size (row 3 [.int .i64 x])) ⟨some ⟨h.size, 0, some 0⟩, 1, 1⟩ ([x].map (.int .i64)) :=
  ⟨wf_new w 3 ([x].map (Value.int .i64)), bufI_new w 3 .i64 [x] (by simp [B63])⟩
theorem tk_sz (l : List UInt8) (hl : (tk l).2.2 = 0) : okN (tk l).1 ∧ sz (tk l).1 ≤ (l.length : Int) - ((tk l).2.1.length : Int) := by
  cases l with
  | nil => simp [tk] at hl
  | cons c t =>
    obtain ⟨e3, s1, s2⟩ := tsz_shl c
    by_cases hsh : t.length + 1 < tsz c
    · simp [tk, hsh] at hl
    · simp only [tk, hsh, if_false]
      have hv := val_lt (t.take (tsz c - 1)) (c.toNat % 64) 64 (by omega)
      have hlt : (t.take (tsz c - 1)).length = tsz c - 1 := by simp; omega
      rw [hlt] at hv
      have hs : tsz c = 1 ∨ tsz c = 2 ∨ tsz c = 4 ∨ tsz c = 8 := by
        unfold tsz
        have hq : c.toNat / 64 < 4 := by have := c.toNat_lt; omega
        generalize c.toNat / 64 = q at hq
        rcases (by omega : q = 0 ∨ q = 1 ∨ q = 2 ∨ q = 3) with rfl | rfl | rfl | rfl <;> decide
      have hd : (t.drop (tsz c - 1)).length = t.length - (tsz c - 1) := by simp
      rw [hd]
      generalize val (c.toNat % 64) (t.take (tsz c - 1)) = v at hv
      have : (64 : Nat) * 256 ^ 0 = 64 ∧ 64 * 256 ^ 1 = 16384 ∧ 64 * 256 ^ 3 = 1073741824 ∧ 64 * 256 ^ 7 = 4611686018427387904 := by decide
      unfold okN sz
      simp only [List.length_cons]
      rcases hs with hs | hs | hs | hs <;> rw [hs] at hv ⊢ hsh <;> simp only [Nat.sub_self, Nat.add_one_sub_one, Nat.reduceSub] at hv ⊢ <;> (refine ⟨by omega, ?_⟩) <;> (repeat' split) <;> omega
end Go.Proofs.Ytaebjajbogedkaa.T
/- The law VarintLong over the typed text. -/
set_option linter.unusedVariables false
set_option linter.unusedSimpArgs false
namespace Go.Abs
open Go
theorem mkT_ok {e : Nat} {h : H} (w : WF h) {k : Nat} (hk : k ≤ 2 ^ 40) : ∃ h', mkT e 1 1 (.int .u8 0) h (k : Int) (k : Int) = some (⟨some ⟨h.size, 0, some 0⟩, k, k⟩, h') ∧ EX h h' ∧ BufB h' ⟨some ⟨h.size, 0, some 0⟩, k, k⟩ (List.replicate k 0) := by
  have hz : zeros (.int .u8 0) k = vB (List.replicate k 0) := by
    unfold zeros vB
    have : (Value.int .u8 0).cells.toList = [Value.int .u8 0] := rfl
    rw [this, List.map_replicate]
    induction k with
    | zero => rfl
    | succ k ih => rw [List.replicate_succ, List.flatten_cons, ih (by omega), List.replicate_succ]; rfl
  have key : mkSl (DSE e (tyS 1 1 (.int .u8 0))) (e + 1) (.int .i64 (k : Int)) (.int .i64 (k : Int)) = some (.new (row e (vB (List.replicate k 0))) fun A => .slice (some ⟨A, 0, some 0⟩) k k) := by
    unfold mkSl
    rw [elem_DSE]
    have : (decide ((0 : Int) ≤ (k : Int)) && decide ((k : Int) ≤ (k : Int)) && decide ((k : Int) * (((tyS 1 1 (.int .u8 0)).bytes : Nat) + 1) ≤ 2 ^ 46)) = true := by
      have e1 : ((k : Int) * (((tyS 1 1 (.int .u8 0)).bytes : Nat) + 1) ≤ 2 ^ 46) := by
        show (k : Int) * (((1 : Nat) : Int) + 1) ≤ 2 ^ 46
        omega
      rw [decide_eq_true (show (0 : Int) ≤ (k : Int) by omega), decide_eq_true (show (k : Int) ≤ (k : Int) by omega), decide_eq_true e1]; rfl
    simp only [this, cond_true, Int.toNat_natCast]
    rw [← hz]; rfl
  refine ⟨newAt (grow h 1) h.size (row e (vB (List.replicate k 0))), ?_, wf_new w e _, ?_⟩
  · unfold mkT; rw [key]; rfl
  · have := bufB_new w e (List.replicate k 0) (by simp [B63]; omega)
    simpa using this
end Go.Abs
namespace Go.Proofs.Ytaebjajbogedkaa.T
open Go Go.Abs Go.Proofs
theorem val_be : ∀ (m n : Nat), val (n / 256 ^ m) (be m n) = n
  | 0, n => by simp [val, be]
  | m + 1, n => by
    have ih := val_be m n
    have hb : (UInt8.ofNat (n / 256 ^ m)).toNat = n / 256 ^ m % 256 := UInt8.toNat_ofNat'
    have e : n / 256 ^ (m + 1) * 256 + n / 256 ^ m % 256 = n / 256 ^ m := by
      rw [Nat.pow_succ, ← Nat.div_div_eq_div_mul]; omega
    simp only [val, be, List.foldl_cons, hb, e] at ih ⊢
    exact ih
theorem add8 (a b : Nat) (h : a + b < 256) : IntKind.wrap .u8 (((UInt8.ofNat a).toNat : Int) + IntKind.wrap .u8 (IntKind.wrap .i64 (b : Int))) = ((UInt8.ofNat (a + b)).toNat : Int) := by
  rw [UInt8.toNat_ofNat', UInt8.toNat_ofNat', w64 (by omega) (by omega), wu8 (n := (b : Int)) (by omega) (by omega), wu8 (by omega) (by omega)]
  omega
end Go.Proofs.Ytaebjajbogedkaa.T
/- Chapter 1's functions over the typed texts: numbers taken one behind the other; what is put is taken; parts of bytes. -/
set_option linter.unusedVariables false
set_option linter.unusedSimpArgs false
namespace Go.Proofs.Ytaebjajbogedkaa.T
open Go Go.Abs Go.Proofs
def tks : Nat → List UInt8 → Option (List Int × List UInt8)
  | 0, l => some ([], l)
  | n + 1, l => if (tk l).2.2 = 0 then (tks n (tk l).2.1).map (fun p => ((tk l).1 :: p.1, p.2)) else none
theorem tk_err (l : List UInt8) : (tk l).2.2 = 0 ∨ (tk l).2.2 = 3 := by
  cases l with
  | nil => exact .inr rfl
  | cons c t => simp only [tk]; split <;> simp
theorem tk_rest (l : List UInt8) : (tk l).2.1.length ≤ l.length := by
  cases l with
  | nil => simp [tk]
  | cons c t => simp only [tk]; split <;> simp; omega
theorem tks_length : ∀ (n : Nat) (l : List UInt8) (ns : List Int) (r : List UInt8), tks n l = some (ns, r) → ns.length = n
  | 0, l, ns, r, h => by simp [tks] at h; rw [h.1]; rfl
  | n + 1, l, ns, r, h => by
    unfold tks at h
    split at h
    · simp only [Option.map_eq_some_iff] at h
      obtain ⟨⟨p1, p2⟩, h1, h2⟩ := h
      simp only [Prod.mk.injEq] at h2
      have := tks_length n _ p1 p2 h1
      rw [← h2.1]; simp [this]
    · simp at h
def TksR (h0 : H) (acc : List Int) (res : Option ((Sl × Sl) × H ⊕ (Sl × Sl × Int) × H)) : Option (List Int × List UInt8) → Prop
  | some (ns, r) => ∃ out' rest' h', res = some (Sum.inl ((out', rest'), h')) ∧ Buf 1 h' out' ((acc ++ ns).map (.int .i64)) ∧ RdB h' rest' r ∧ EX h0 h' ∧ Fr h0.size out'
  | none => ∃ h', res = some (Sum.inr ((⟨none, 0, 0⟩, (⟨none, 0, 0⟩, 3)), h')) ∧ EX h0 h'
theorem takes_loop {h0 : H} {cnt : Nat} (hc : cnt * 8 ≤ 2 ^ 47) : ∀ (k i : Nat) (out rest : Sl) (acc : List Int) (l : List UInt8) (h : H), i + k = cnt → acc.length = i → Buf 1 h out (acc.map (.int .i64)) → RdB h rest l → l.length ≤ 2 ^ 47 → EX h0 h → Fr h0.size out →
    TksR h0 acc (loopO varint_Takes_l1 ((out, (rest, ((cnt : Int), (i : Int)))), h)) (tks k l)
  | 0, i, out, rest, acc, l, h, hik, ha, hb, hr, hl, hx, hf => by
    refine ⟨out, rest, h, ?_, by simpa using hb, hr, hx, hf⟩
    rw [loopO_eq]
    simp only [P.varint_Takes_l1, condK_eq, decide_eq_true_eq, show ¬ ((i : Int) < (cnt : Int)) by omega, if_false]
  | k + 1, i, out, rest, acc, l, h, hik, ha, hb, hr, hl, hx, hf => by
    obtain ⟨r, h1, e1, x1, r1⟩ := Take_f hx.wf hr hl
    rw [loopO_eq]
    simp only [P.varint_Takes_l1, condK_eq, decide_eq_true_eq, show ((i : Int) < (cnt : Int)) by omega, if_true]
    rw [e1, bind2_some]
    simp only
    rcases tk_err l with hk | hk
    · have et : tks (k + 1) l = (tks k (tk l).2.1).map (fun p => ((tk l).1 :: p.1, p.2)) := by
        show (if _ then _ else _) = _
        rw [if_pos hk]
      rw [et, hk]
      simp only [show ((0 : Int) != 0) = false from rfl, Bool.false_eq_true, if_false]
      rw [newO_eq]
      obtain ⟨x2, b2⟩ := one_new (tk l).1 x1.wf
      generalize newAt (grow h1 1) h1.size (row 3 [.int .i64 (tk l).1]) = h2 at x2 b2 ⊢
      generalize (⟨some ⟨h1.size, 0, some 0⟩, 1, 1⟩ : Sl) = s1 at b2 ⊢
      have hbo : Buf 1 h2 out (acc.map (.int .i64)) := (hb.ex hx.wf x1).ex x1.wf x2
      have l1 : out.len = acc.length := by have := hb.rd.len; simpa using this.symm
      have l2 : s1.len = 1 := by have := b2.rd.len; simpa using this.symm
      obtain ⟨out', h3, e3, k3, x3, b3, _, f3⟩ := appT_ok (e := 3) (bytes := 8) (by omega) (by unfold B63; omega) x2.wf hbo b2.rd (oneC_ints .i64 _) (by rw [l1, l2]; omega) (by rw [l1, l2]; omega)
      rw [e3, bind2_some]
      simp only
      rw [w64 (by omega) (by omega)]
      have hx2 := (hx.trans x1).trans x2
      rw [← List.map_append] at b3
      have ih := takes_loop hc k (i + 1) out' r (acc ++ [(tk l).1]) (tk l).2.1 h3 (by omega) (by simp [ha]) b3 ((r1.ex x2).mono k3) (by have := tk_rest l; omega) (x3 _ hx2 hf) (f3 _ hx2.size hf)
      cases ht : tks k (tk l).2.1 with
      | none =>
        rw [ht] at ih
        obtain ⟨h', a1, a2⟩ := ih
        exact ⟨h', a1, a2⟩
      | some p =>
        obtain ⟨ns, rr⟩ := p
        rw [ht] at ih
        obtain ⟨o', r', h', a1, a2, a3, a4, a5⟩ := ih
        exact ⟨o', r', h', a1, by simpa using a2, a3, a4, a5⟩
    · have et : tks (k + 1) l = none := by
        show (if _ then _ else _) = _
        rw [if_neg (by rw [hk]; decide)]
      rw [et, hk]
      simp only [show ((3 : Int) != 0) = true from rfl, if_true]
      exact ⟨h1, rfl, hx.trans x1⟩
theorem Takes_f {h : H} {b : Sl} {l : List UInt8} {cnt : Nat} (w : WF h) (hr : RdB h b l) (hl : l.length ≤ 2 ^ 47) (hc : cnt * 8 ≤ 2 ^ 47) {c : Int} (hcc : (if c > 0 then c else 0) = (cnt : Int)) :
    match tks cnt l with
    | some (ns, r) => ∃ s t h', varint_Takes b c h = some ((s, t, 0), h') ∧ EX h h' ∧ RdI .i64 h' s ns ∧ RdB h' t r
    | none => ∃ h', varint_Takes b c h = some ((⟨none, 0, 0⟩, ⟨none, 0, 0⟩, 3), h') ∧ EX h h' := by
  obtain ⟨s1, h1, e1, x1, b1, f1, _⟩ := clone_f w hr hl
  have ih := takes_loop (h0 := h) hc cnt 0 ⟨none, 0, 0⟩ s1 [] l h1 (by omega) rfl (buf_nil 1 h1) b1.rd hl x1 (fr_nil _)
  have ht : varint_Takes b c h = joinO (loopO varint_Takes_l1 ((⟨none, 0, 0⟩, (s1, ((cnt : Int), 0))), h1)) fun (((l, rest), h1) : ((Sl × Sl) × H)) => bind2 (slices_Clip_int l h1) fun (x1 : Sl) (h2 : H) => some ((x1, (rest, 0)), h2) := by
    unfold varint_Takes P.varint_Takes
    rw [e1, bind2_some, hcc]
  rw [ht]
  cases hk : tks cnt l with
  | none =>
    rw [hk] at ih
    obtain ⟨h', a1, a2⟩ := ih
    simp only [Int.natCast_zero] at a1
    exact ⟨h', by rw [a1]; rfl, a2⟩
  | some p =>
    obtain ⟨ns, rr⟩ := p
    rw [hk] at ih
    obtain ⟨o', r', h', a1, a2, a3, a4, a5⟩ := ih
    simp only [Int.natCast_zero, List.nil_append] at a1 a2
    have hlen : o'.len = ns.length := by have := a2.rd.len; simpa using this.symm
    have hnl := tks_length cnt l ns rr hk
    obtain ⟨s3, e3, r3, _, _, f3⟩ := clip_ok (by omega) (by unfold B63; omega) a2.rd (by rw [hlen, hnl]; unfold B63; omega)
    refine ⟨s3, r', h', ?_, a4, r3, a3⟩
    rw [a1, joinO_inl]
    simp only
    unfold slices_Clip_int
    rw [e3, bindO_some, bind2_some]
/-! what is put is taken -/
theorem or_kind (b : UInt8) (k : Nat) (hb : b.toNat < 64) (hk : k < 4) : (b ||| UInt8.ofNat (k * 64)).toNat = b.toNat + k * 64 := by
  rw [UInt8.toNat_or, UInt8.toNat_ofNat', Nat.mod_eq_of_lt (by omega)]
  have := Nat.shiftLeft_add_eq_or_of_lt (show b.toNat < 2 ^ 6 by omega) k
  rw [Nat.shiftLeft_eq] at this
  rw [Nat.or_comm, ← this]; omega
theorem enc_split {x : Int} (h : okN x) : ∃ c m, enc x = c :: be m x.toNat ∧ tsz c = m + 1 ∧ sz x = ((m + 1 : Nat) : Int) ∧ c.toNat % 64 = x.toNat / 256 ^ m := by
  have hkd : (kd x).toNat < 4 ∧ (sz x).toNat = 2 ^ (kd x).toNat ∧ sz x = (((sz x).toNat : Nat) : Int) := by
    have h' := h
    unfold okN at h'
    unfold kd sz
    rw [if_neg (by omega), if_neg (by omega)]
    (repeat' split) <;> decide
  have hlt : x.toNat < 64 * 256 ^ ((sz x).toNat - 1) := by
    have h' := h
    unfold okN at h'
    have h1 : (64 : Nat) * 256 ^ 0 = 64 ∧ 64 * 256 ^ 1 = 16384 ∧ 64 * 256 ^ 3 = 1073741824 ∧ 64 * 256 ^ 7 = 4611686018427387904 := by decide
    rcases sz_cases x with hs | hs | hs | hs <;> rw [hs] <;> simp only [Int.toNat_one, Int.reduceToNat, Nat.reduceSub] <;> unfold sz at hs <;> (repeat' split at hs) <;> omega
  obtain ⟨m, hm⟩ : ∃ m, (sz x).toNat = m + 1 := ⟨(sz x).toNat - 1, by have := sz_pos x; omega⟩
  rw [hm] at hkd hlt
  rw [Nat.add_sub_cancel] at hlt
  have hdv : x.toNat / 256 ^ m < 64 := Nat.div_lt_of_lt_mul (by rw [Nat.mul_comm]; exact hlt)
  have hof : (UInt8.ofNat (x.toNat / 256 ^ m)).toNat = x.toNat / 256 ^ m := by rw [UInt8.toNat_ofNat']; exact Nat.mod_eq_of_lt (Nat.lt_trans hdv (by decide))
  have hor := or_kind (UInt8.ofNat (x.toNat / 256 ^ m)) (kd x).toNat (by omega) hkd.1
  refine ⟨UInt8.ofNat (x.toNat / 256 ^ m) ||| UInt8.ofNat ((kd x).toNat * 64), m, ?_, ?_, hkd.2.2, ?_⟩
  · unfold enc; rw [hm]; rfl
  · unfold tsz; rw [hor, hof, hkd.2.1]; congr 1; omega
  · rw [hor, hof]; omega
theorem tk_enc {x : Int} (h : okN x) (l : List UInt8) : tk (enc x ++ l) = (x, l, 0) := by
  obtain ⟨c, m, e1, e2, e3, e4⟩ := enc_split h
  have hbl : (be m x.toNat).length = m := be_length _ _
  rw [e1, List.cons_append]
  simp only [tk]
  rw [if_neg (by rw [e2]; simp [hbl]), e2, Nat.add_sub_cancel, e4]
  have t1 : (be m x.toNat ++ l).take m = be m x.toNat := by
    rw [List.take_append_of_le_length (by omega), List.take_of_length_le (by omega)]
  have t2 : (be m x.toNat ++ l).drop m = l := by
    rw [List.drop_append_of_le_length (by omega), List.drop_of_length_le (by omega)]; rfl
  rw [t1, t2, val_be, Int.toNat_of_nonneg h.1]
theorem tks_encs : ∀ (ns : List Int) (l : List UInt8), (∀ x ∈ ns, okN x) → tks ns.length (encs ns ++ l) = some (ns, l)
  | [], l, _ => rfl
  | x :: ns, l, h => by
    have hx := tk_enc (h x (List.mem_cons_self ..)) (encs ns ++ l)
    have ih := tks_encs ns l (fun y hy => h y (List.mem_cons_of_mem _ hy))
    show (if _ then _ else _) = _
    rw [show encs (x :: ns) ++ l = enc x ++ (encs ns ++ l) by simp [encs], hx, if_pos rfl, ih]; rfl
/-! parts of bytes -/
end Go.Proofs.Ytaebjajbogedkaa.T
