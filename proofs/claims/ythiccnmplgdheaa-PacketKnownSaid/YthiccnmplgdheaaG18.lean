/- Lemmas about the typed texts (joined: LFrame2 SPkt1 SRF1). -/
import Derived.Test.YthiccnmplgdheaaG17
import Derived.Test.YthiccnmplgdheaaG9
import Derived.Test.YthiccnmplgdheaaG11
/- The law FrameBack over typed texts: what is laid is read the same, however many; laid in parts it is the same bytes; sizes add up. -/
set_option linter.unusedVariables false
set_option linter.unusedSimpArgs false
namespace Go.Proofs.Ythiccnmplgdheaa.T
open Go Go.Abs Go.Proofs
theorem catT_ok (a b : List UInt8) (h : a.length + b.length ≤ 2 ^ 47) : catT (bsOf a) (bsOf b) = some (bsOf (a ++ b)) := by
  unfold catT
  have : bsOf a ++ bsOf b = bsOf (a ++ b) := by
    apply ByteArray.ext
    simp [bsOf]
  rw [← this]
  have hs : ∀ l : List UInt8, (bsOf l).size = l.length := fun l => by simp [bsOf, ByteArray.size]
  unfold strBin
  rw [hs, hs]
  have : decide (((a.length + b.length : Nat) : Int) ≤ IntKind.i64.max) = true := decide_eq_true (by show _ ≤ (9223372036854775807 : Int); omega)
  simp only [this]
  rfl
end Go.Proofs.Ythiccnmplgdheaa.T
/- Chapter 6's functions over the typed texts: a packet's head, packets laid, packets read, their room. -/
set_option linter.unusedVariables false
set_option linter.unusedSimpArgs false
set_option maxRecDepth 100000
namespace Go.Abs
open Go
theorem PO.appB1 {α : Type} {Q : α → Prop} {h0 h : H} {out : Sl} {l : List UInt8} {v : Int} {b : UInt8} {g : Sl → H → Option α} (hv : v = (b.toNat : Int)) (hb : BufB h out l) (hx : EX h0 h) (hf : Fr h0.size out) (hl : l.length + 1 ≤ 2 ^ 47)
    (k : ∀ out1 h2, BufB h2 out1 (l ++ [b]) → EX h0 h2 → Fr h0.size out1 → PO (g out1 h2) Q) : PO (newO (row 5 [.int .u8 v]) h fun b' h1 => bind2 (appT 5 1 1 h1 out ⟨some ⟨b', 0, some 0⟩, 1, 1⟩) g) Q := by
  subst hv
  rw [newO_eq, show row 5 [Value.int .u8 (b.toNat : Int)] = row 5 (vB [b]) from rfl]
  have x1 := wf_new hx.wf 5 (vB [b])
  have b1 : BufB _ ⟨some ⟨h.size, 0, some 0⟩, 1, 1⟩ [b] := bufB_new hx.wf 5 [b] (by simp [B63])
  generalize newAt (grow h 1) h.size (row 5 (vB [b])) = h1 at x1 b1 ⊢
  generalize (⟨some ⟨h.size, 0, some 0⟩, 1, 1⟩ : Sl) = s1 at b1 ⊢
  obtain ⟨out1, h2, e3, k3, x3, b3, _, f3⟩ := appB_ok (e := 5) x1.wf (hb.ex hx.wf x1) b1.rd (by simp; omega)
  exact .callE e3 (k out1 h2 b3 (x3 _ (hx.trans x1) hf) (f3 _ (hx.trans x1).size hf))
end Go.Abs
namespace Go.Proofs.Ythiccnmplgdheaa.T
open Go Go.Abs Go.Proofs
def headV (num k : Int) : List UInt8 := UInt8.ofNat (63 + k).toNat :: be k.toNat (num % sp k).toNat
theorem headV_length (num k : Int) : (headV num k).length = 1 + k.toNat := by unfold headV; rw [List.length_cons, be_length]; omega
theorem bytes_f2 (n a : Int) (h1 : a < n) (h2 : n - a < 9223372036854775808) (h : H) : pnum_Bytes n a h = some (nb (n - a), h) := by
  have hs1 : pnum_span 1 h = some (256, h) := span_f 1 (by omega) (by omega) h
  have hs2 : pnum_span 2 h = some (65536, h) := span_f 2 (by omega) (by omega) h
  have hs3 : pnum_span 3 h = some (16777216, h) := span_f 3 (by omega) (by omega) h
  have hd : IntKind.wrap .u64 (IntKind.wrap .u64 n - IntKind.wrap .u64 a) = n - a := by
    rw [wu64_mod, wu64_mod, wu64_mod]; omega
  have t1 : IntKind.wrap .u64 (IntKind.wrap .i64 (Int.tdiv 256 2)) = 128 := by decide +kernel
  have t2 : IntKind.wrap .u64 (IntKind.wrap .i64 (Int.tdiv 65536 2)) = 32768 := by decide +kernel
  have t3 : IntKind.wrap .u64 (IntKind.wrap .i64 (Int.tdiv 16777216 2)) = 8388608 := by decide +kernel
  have hle : ¬ n ≤ a := by omega
  unfold pnum_Bytes P.pnum_Bytes nb
  rw [loopO_eq]
  simp only [P.pnum_Bytes_l1, condK_eq, decide_eq_true_eq, hle, if_false, letO_eq, hd, hs1, bind2_some, t1, joinO_inl, show (1 : Int) < 4 by omega, if_true]
  by_cases c1 : n - a ≤ 128
  · simp [c1]
  simp only [c1, if_false]
  rw [w64 (by omega) (by omega), loopO_eq]
  simp only [P.pnum_Bytes_l1, condK_eq, decide_eq_true_eq, hle, if_false, letO_eq, hd, show (1 : Int) + 1 = 2 by omega, hs2, bind2_some, t2, joinO_inl, show (2 : Int) < 4 by omega, if_true]
  by_cases c2 : n - a ≤ 32768
  · simp [c2]
  simp only [c2, if_false]
  rw [w64 (by omega) (by omega), loopO_eq]
  simp only [P.pnum_Bytes_l1, condK_eq, decide_eq_true_eq, hle, if_false, letO_eq, hd, show (2 : Int) + 1 = 3 by omega, hs3, bind2_some, t3, joinO_inl, show (3 : Int) < 4 by omega, if_true]
  by_cases c3 : n - a ≤ 8388608
  · simp [c3]
  simp only [c3, if_false]
  rw [w64 (by omega) (by omega), loopO_eq]
  simp only [P.pnum_Bytes_l1, condK_eq, decide_eq_true_eq, show (3 : Int) + 1 = 4 by omega, show ¬ (4 : Int) < 4 by omega, if_false]
/-! laying -/
def pktOK (num acked : Int) : Prop := ¬ num < 0 ∧ ¬ num > 4611686018427387903 ∧ ¬ acked < -1 ∧ ¬ acked ≥ num
instance (num acked : Int) : Decidable (pktOK num acked) := by unfold pktOK; infer_instance
def pktB (key num acked : Int) (vs : List FV) : List UInt8 := headV num (nb (num - acked)) ++ closeV key num (headV num (nb (num - acked))) (layFs vs)
def pktLay (key num acked : Int) (vs : List FV) : Int ⊕ List UInt8 :=
  if ¬ pktOK num acked then .inl 1 else if ¬ ∀ v ∈ vs, FR v then .inl 1 else if (pktB key num acked vs).length > 240 then .inl 9 else .inr (pktB key num acked vs)
def BytesQ (h1 : H) (a : Sl × Int) : Int ⊕ List UInt8 → Prop
  | .inl e => a = (⟨none, 0, 0⟩, e)
  | .inr l => RdB h1 a.1 l ∧ a.2 = 0
theorem nb_rng (d : Int) : 1 ≤ nb d ∧ nb d ≤ 4 := by unfold nb; (repeat' split) <;> omega
theorem pktB_length (key num acked : Int) (vs : List FV) : ((pktB key num acked vs).length : Int) = 1 + nb (num - acked) + (layFs vs).length + 8 := by
  have := nb_rng (num - acked)
  unfold pktB
  rw [List.length_append, headV_length, closeV_length]; omega
theorem PRoom_f (num acked : Int) (h1 : acked < num) (h2 : num - acked < 9223372036854775808) (h : H) : packet_Room num acked h = some (231 - nb (num - acked), h) := by
  unfold packet_Room P.packet_Room
  have hnb := nb_rng (num - acked)
  rw [bytes_f2 num acked h1 h2, bind2_some]
  simp only
  rw [w64 (n := 239 - nb (num - acked)) (by omega) (by omega), w64 (by omega) (by omega)]
  simp only [Option.some.injEq, Prod.mk.injEq, and_true]; omega
/-! reading -/
def cutV (l : List UInt8) : Int := l.foldl (fun c b => c * 256 + (b.toNat : Int)) 0
theorem cutV_app (l : List UInt8) (b : UInt8) : cutV (l ++ [b]) = cutV l * 256 + (b.toNat : Int) := by simp [cutV]
theorem cutV_rng : ∀ (l : List UInt8) (n : Nat), l.length = n → 0 ≤ cutV l ∧ cutV l < 256 ^ n := by
  intro l n hn
  induction n generalizing l with
  | zero =>
    have : l = [] := List.eq_nil_of_length_eq_zero hn
    subst this; exact ⟨Int.le_refl _, by show (0 : Int) < 256 ^ 0; decide⟩
  | succ n ih =>
    have hne : l ≠ [] := by intro h; rw [h] at hn; simp at hn
    obtain ⟨l', b, rfl⟩ : ∃ l' b, l = l' ++ [b] := ⟨l.dropLast, l.getLast hne, (List.dropLast_concat_getLast hne).symm⟩
    have := ih l' (by rw [List.length_append, List.length_singleton] at hn; omega)
    have hb := b.toNat_lt
    rw [cutV_app, Int.pow_succ]; omega
theorem or_byte {c d : Int} (h : 0 ≤ c ∧ c < 4294967296) (hd : 0 ≤ d ∧ d < 256) : IntKind.wrap .i64 (((BitVec.toNat ((BitVec.ofInt 64 (IntKind.wrap .i64 (c * 256))) ||| (BitVec.ofInt 64 (IntKind.wrap .i64 d))) : Nat)) : Int) = c * 256 + d := by
  rw [w64 (n := c * 256) (by omega) (by omega), w64 (n := d) (by omega) (by omega)]
  obtain ⟨m, rfl⟩ : ∃ m : Nat, c = m := ⟨c.toNat, by omega⟩
  obtain ⟨e, rfl⟩ : ∃ e : Nat, d = e := ⟨d.toNat, by omega⟩
  have e1 : (m : Int) * 256 = ((m * 256 : Nat) : Int) := by omega
  rw [e1, BitVec.ofInt_natCast, BitVec.ofInt_natCast, BitVec.toNat_or, BitVec.toNat_ofNat, BitVec.toNat_ofNat, Nat.mod_eq_of_lt (by omega), Nat.mod_eq_of_lt (by omega)]
  have h2 : m * 256 ||| e = m * 256 + e := by
    have := Nat.shiftLeft_add_eq_or_of_lt (a := m) (b := e) (i := 8) (by omega)
    rw [Nat.shiftLeft_eq] at this
    exact this.symm
  rw [h2, w64 (by omega) (by omega)]; omega
def pktRead (key next : Int) (l : List UInt8) : Int × (Int ⊕ List FV) :=
  if l.length = 0 then (0, .inl 3)
  else if ((l.getD 0 0).toNat : Int) - 63 < 1 ∨ ((l.getD 0 0).toNat : Int) - 63 > 4 then (0, .inl 2)
  else if (l.length : Int) < 1 + (((l.getD 0 0).toNat : Int) - 63) + 8 then (0, .inl 3)
  else match openV key (bk (cutV ((l.drop 1).take ((l.getD 0 0).toNat - 63))) (sp (((l.getD 0 0).toNat : Int) - 63)) next) (l.take (1 + ((l.getD 0 0).toNat - 63))) (l.drop (1 + ((l.getD 0 0).toNat - 63))) with
    | none => (0, .inl 4)
    | some body => (bk (cutV ((l.drop 1).take ((l.getD 0 0).toNat - 63))) (sp (((l.getD 0 0).toNat : Int) - 63)) next, match pRead body.length body with
      | .inl _ => .inl 11
      | .inr [] => .inl 11
      | .inr (v :: vs) => .inr (v :: vs))
theorem slB_mid {h : H} {s : Sl} {l : List UInt8} (hr : RdB h s l) {lo hi : Int} (h0 : 0 ≤ lo) (h1 : lo ≤ hi) (h2 : hi ≤ l.length) : ∃ s', slT 1 h s (some lo) (some hi) none = some s' ∧ RdB h s' ((l.drop lo.toNat).take (hi.toNat - lo.toNat)) := by
  obtain ⟨s', e, r, _, _⟩ := sl_lohi (lo := lo) (hi := hi) (by omega) (by unfold B63; omega) hr h0 h1 (by rw [RdB.len hr]; exact h2)
  refine ⟨s', e, ?_⟩
  unfold RdB vB
  rw [List.map_take, List.map_drop]
  simpa [vB] using r
theorem openV_length {key num : Int} {hd l b : List UInt8} (h : openV key num hd l = some b) : b.length ≤ l.length := by
  unfold openV at h
  split at h
  · simp at h
  · split at h
    · cases h; rw [mk_length]; simp
    · simp at h
end Go.Proofs.Ythiccnmplgdheaa.T
/- The reference's frames over the typed texts: what a kind names, right runs, right frames. -/
set_option linter.unusedVariables false
set_option linter.unusedSimpArgs false
set_option maxRecDepth 100000
namespace Go.Abs
open Go
/-- a box of its own, behind an older heap -/
structure OB (h0 : H) (b : Nat) (h : H) (L : List Value) : Prop where
  ex : EX h0 h
  hb : h0.size ≤ b
  box : Box h b L
section
variable {α : Type} {Q : α → Prop} {h0 h : H} {b i : Nat} {L : List Value}
theorem OB.st1 {v : Value} {f : H → Option α} (t : OB h0 b h L) (hi : i < L.length) (ho : oneC v = true) (p : ∀ h', OB h0 b h' (L.set i v) → PO (f h') Q) : PO (bindO (Abs.st1 h (add ⟨b, 0, some 0⟩ i) v) f) Q :=
  PO.st1 t.box t.ex.wf hi ho fun h' B u z w => p h' ⟨u.ex0 t.ex (fun A hA e => by have := t.hb; omega), t.hb, B⟩
theorem OB.cast {L' : List Value} (t : OB h0 b h L) (e : L = L') : OB h0 b h L' := e ▸ t
end
end Go.Abs
namespace Go.Proofs.Ythiccnmplgdheaa.T
open Go Go.Abs Go.Proofs
abbrev B7 := Bool × Bool × Bool × Bool × Bool × Bool × Bool
def b7L (x : B7) : List Value := [.bool x.1, .bool x.2.1, .bool x.2.2.1, .bool x.2.2.2.1, .bool x.2.2.2.2.1, .bool x.2.2.2.2.2.1, .bool x.2.2.2.2.2.2]
def nmV (k : Int) : B7 :=
  if k = 2 then (false, false, false, false, false, false, true)
  else if k = 3 then (true, true, false, false, true, true, false)
  else if k = 4 then (true, true, true, true, false, false, false)
  else if k = 5 ∨ k = 7 then (true, false, true, false, false, false, false)
  else if k = 6 ∨ k = 12 then (false, false, true, false, false, false, false)
  else if k = 8 then (false, false, true, false, true, false, false)
  else if k = 9 then (false, false, false, false, false, true, false)
  else if k = 10 ∨ k = 11 then (true, false, false, false, false, false, false)
  else (false, false, false, false, false, false, false)
theorem PO.ldB7 {α : Type} {Q : α → Prop} {h : H} {b : Nat} {x : B7} {f : B7 → Option α} (B : Box h b (b7L x)) (p : PO (f x) Q) : PO (bindO (Abs.ldZ [.bool, .bool, .bool, .bool, .bool, .bool, .bool] h ⟨b, 0, some 0⟩) f) Q := .op (B.ldZ [.bool, .bool, .bool, .bool, .bool, .bool, .bool] x rfl) p
/-! right frames -/
def nmOK (v : FV) (n : B7) : Prop := (n.1 = true ∨ v.id = 0) ∧ (n.2.1 = true ∨ v.off = 0) ∧ (n.2.2.1 = true ∨ v.a = 0) ∧ (n.2.2.2.1 = true ∨ v.b = 0) ∧ (n.2.2.2.2.1 = true ∨ v.fin = false) ∧ (n.2.2.2.2.2.1 = true ∨ v.data = []) ∧ (n.2.2.2.2.2.2 = true ∨ v.spans = [])
instance (v : FV) (n : B7) : Decidable (nmOK v n) := by unfold nmOK; infer_instance
theorem nmOK_iff (v : FV) : nmOK v (nmV v.kind) ↔ sameV v (bareV v) := by
  unfold nmOK sameV bareV nmV
  (repeat' split) <;> simp
end Go.Proofs.Ythiccnmplgdheaa.T
