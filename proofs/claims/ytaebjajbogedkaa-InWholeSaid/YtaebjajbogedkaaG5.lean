/- Lemmas about the typed texts (joined: S13 S14 SPnum). -/
import Derived.Test.YtaebjajbogedkaaG4
import Derived.Test.YtaebjajbogedkaaG2
import Derived.Deep.Grids
import Derived.Test.YtaebjajbogedkaaTxt
import Derived.Test.YtaebjajbogedkaaAbsF
/- Slices that may be written in place. -/
set_option linter.unusedVariables false
set_option linter.unusedSimpArgs false
namespace Go.Abs
open Go
/-- a slice whose row is at its newest version: it may be written -/
structure OwnS (sz : Nat) (h : H) (s : Sl) (l : List Value) : Prop where
  rd : Rd sz h s l
  tip : ∀ a, s.base = some a → ∃ r e, h.objs.get a.block = some (.arr r) ∧ a.spot = some e ∧ r.ver = e ∧ h.nro ≤ a.block ∧ a.off + l.length ≤ r.size
theorem OwnS.ex {sz : Nat} {h h' : H} {s : Sl} {l : List Value} (w : WF h) (x : EX h h') (o : OwnS sz h s l) : OwnS sz h' s l := by
  refine ⟨o.rd.ex x, fun a ha => ?_⟩
  obtain ⟨r, e, h1, h2, h3, h4, h5⟩ := o.tip a ha
  exact ⟨r, e, (x.same _ (lt_of_get w h1)).trans h1, h2, h3, by rw [x.nro]; exact h4, h5⟩
theorem Buf.own {sz : Nat} {h : H} {s : Sl} {l : List Value} (b : Buf sz h s l) : OwnS sz h s l := by
  refine ⟨b.rd, fun a ha => ?_⟩
  rcases b.tip with ht | ⟨a', r, e, h1, h2, h3, h4, h5, h6, _⟩
  · rw [ht] at ha; simp at ha
  · rw [ha] at h1; cases h1
    have := b.rd.len
    exact ⟨r, e, h2, h3, h4, h5, by omega⟩
theorem OwnS.nil (sz : Nat) (h : H) : OwnS sz h ⟨none, 0, 0⟩ [] := ⟨rd_nil sz h, fun a ha => by simp at ha⟩
/-- another slice on the same place, no longer -/
theorem OwnS.sub {sz : Nat} {h : H} {s s' : Sl} {l l' : List Value} (o : OwnS sz h s l) (hb : s'.base = s.base) (r : Rd sz h s' l') (hl : l'.length ≤ l.length) : OwnS sz h s' l' := by
  refine ⟨r, fun a ha => ?_⟩
  obtain ⟨r', e, h1, h2, h3, h4, h5⟩ := o.tip a (hb ▸ ha)
  exact ⟨r', e, h1, h2, h3, h4, by omega⟩
theorem OwnS.stC {sz : Nat} {h : H} {s : Sl} {l : List Value} {a : Addr} (o : OwnS sz h s l) (w : WF h) (ha : s.base = some a) (k : Nat) (vs : List Value) (hk : k + vs.length ≤ l.length) (ho : vs.all oneC = true) :
    ∃ h', stCells h (add a k) vs = some h' ∧ OwnS sz h' s (l.take k ++ vs ++ l.drop (k + vs.length)) ∧ UP (· = a.block) h h' ∧ h'.size = h.size := by
  obtain ⟨r, e, h1, h2, h3, h4, h5⟩ := o.tip a ha
  obtain ⟨h', r', e1, g1, g2, g3, g4, g5, g6, g7, g8⟩ := stCells_ok vs h (add a k) r e w h1 h2 h3 h4 (by simp only [add]; omega) ho
  have hlen : (l.take k ++ vs ++ l.drop (k + vs.length)).length = l.length := by simp; omega
  refine ⟨h', e1, ⟨⟨by rw [hlen]; exact o.rd.len, o.rd.nil, fun p hp i v hi => ?_, o.rd.cap⟩, fun p hp => ?_⟩, ⟨Nat.le_of_eq g4.symm, g5, g6, fun A _ hA => g7 A hA, stCells_st _ e1⟩, g4⟩
  · rw [ha] at hp; cases hp
    have hil := (List.getElem?_eq_some_iff.1 hi).1
    rw [hlen] at hil
    refine ⟨by rw [g4]; exact lt_of_get w h1, ?_⟩
    rw [ldCell_eq]
    show ldO (h'.objs.get a.block) _ = some v
    rw [show h'.objs.get a.block = some (.arr r') from g1]
    have g8' : ∀ j, r'.cells.get j = if a.off + k ≤ j ∧ j < a.off + k + vs.length then (vs[j - (a.off + k)]?).map (⟨·, e⟩) else r.cells.get j := g8
    simp only [ldO, add, h2]
    rw [g8']
    by_cases hi1 : i < k
    · rw [if_neg (by omega)]
      rw [List.append_assoc, List.getElem?_append_left (by simp; omega), List.getElem?_take_of_lt hi1] at hi
      have := (o.rd.ld a ha i v hi).2
      rw [ldCell_eq] at this
      simp only [ldO, add, h1, h2] at this
      exact this
    · by_cases hi2 : i < k + vs.length
      · rw [if_pos (by omega)]
        rw [List.append_assoc, List.getElem?_append_right (by simp; omega), List.getElem?_append_left (by simp; omega)] at hi
        have : i - (List.take k l).length = a.off + i - (a.off + k) := by simp; omega
        rw [this] at hi
        rw [hi]
        simp only [Option.map_some]
        have : e.ble e = true := by simp
        rw [this]; rfl
      · rw [if_neg (by omega)]
        rw [List.getElem?_append_right (by simp; omega), List.getElem?_drop] at hi
        have : k + vs.length + (i - (List.take k l ++ vs).length) = i := by simp; omega
        rw [this] at hi
        have := (o.rd.ld a ha i v hi).2
        rw [ldCell_eq] at this
        simp only [ldO, add, h1, h2] at this
        exact this
  · rw [ha] at hp; cases hp
    exact ⟨r', e, g1, h2, g2, by rw [g5]; exact h4, by rw [hlen, g3]; exact h5⟩
theorem slV_base (sz : Nat) (s : Sl) (N : Nat) : (slV sz s 0 N).base = s.base := by
  unfold slV
  cases hb : s.base with
  | none => rfl
  | some a =>
    simp only
    cases capK s.cap with
    | exact k => cases h : k.beq 0 <;> simp [addA_zero]
    | unk z => rfl
    | unk0 z => rfl
    | any => simp [addA_zero]
theorem clip_base {sz : Nat} (hz : 0 < sz) (hz2 : sz < B63) {h : H} {s : Sl} {l : List Value} (r : Rd sz h s l) (hl : s.len < B63) :
    ∃ s', slT sz h s none (some (s.len : Int)) (some (s.len : Int)) = some s' ∧ Rd sz h s' l ∧ s'.len = s.len ∧ s'.base = s.base := by
  obtain ⟨s', e, r', h1, h2, h3⟩ := clip_ok hz hz2 r hl
  refine ⟨s', e, r', h1, ?_⟩
  obtain ⟨b, len, cap⟩ := s
  cases b with
  | none => exact h2 rfl
  | some a =>
    have hcap := r.cap (by simp)
    simp only at hcap hl
    have hcl := capLow_ge h a hcap
    have b1 : bnd (capLow h a len sz (capK cap)) (.int .i64 (len : Int)) = some len := by
      have := bnd_int (y := capLow h a len sz (capK cap)) (i := (len : Int)) (k := .i64) (by omega) (by omega)
      simpa using this
    have b2 : bnd len (.int .i64 (len : Int)) = some len := by
      have := bnd_int (y := len) (i := (len : Int)) (k := .i64) (by omega) (by omega)
      simpa using this
    have u0 : (isUnk0 (capK cap) && !Nat.beq 0 0 || !len.blt B63) = false := by
      simp only [show Nat.beq 0 0 = true from rfl, Bool.not_true, Bool.and_false, Bool.false_or, Bool.not_eq_false']
      simp only [Nat.blt_eq]; exact hl
    have : slA (DSE 0 (tyS sz 0 .nilFunc)) h 1 (encSl ⟨some a, len, cap⟩) none (some (.int .i64 (len : Int))) (some (.int .i64 (len : Int))) = some (.slice (some (bif len.beq 0 then a else add a (0 * sz))) (len - 0) (len - 0)) := by
      unfold slA encSl
      simp only [show (DSE 0 (tyS sz 0 .nilFunc)).ty.get 1 = some ⟨1, 24, .slice none 0 0, .slice 0, false⟩ from DSE_s 0 _, DSE_e]
      simp only [DSE_e, show (tyS sz 0 .nilFunc).size = sz from rfl, b1, b2, bndO_none, u0, cond_false]
    have e2 := slT_of (lo := none) (hi := some (len : Int)) (mx := some (len : Int)) this
    simp only at e
    rw [e] at e2
    have e3 := Option.some.inj e2
    rw [e3]
    simp only [Nat.zero_mul, addA_zero]
    cases len.beq 0 <;> rfl
end Go.Abs
/- A slice of bools as a parameter. -/
set_option linter.unusedVariables false
set_option linter.unusedSimpArgs false
namespace Go.Abs
open Go Go.ChangeShapes Go.WideShapes
def IsRowO (w : World) (a : Option Addr) (len cap : Nat) (bs : List Bool) : Prop :=
  (a = none ∧ len = 0 ∧ cap = 0 ∧ bs = []) ∨
  ∃ x, a = some x ∧ len ≤ cap ∧ cap ≤ maxLen ∧ bs.length = cap ∧ ∀ i, i < bs.length → w.cell? (x.add i) = some (.bool (bs.getD i false))
theorem isRowO_of {H : Type} {enc : TypeId × Value → H} {P : Program} {W : World} {t e : TypeId} {a : Option Addr} {len cap : Nat} {d : DataW H} {ps : List MemPlace} (hu : P.underlying t = some (.slice e)) (he : P.underlying e = some .bool) (hc : P.cellsOf e = 1)
    (h : DataW.Trod enc P W 0 (fun _ => true) true t (.slice a len cap) d ps) : ∃ bs, IsRowO W a len cap bs := by
  obtain ⟨fuel, hf⟩ := h
  rcases Go.Deep.open_bools hu he hc hf with ⟨hcs, _⟩ | ⟨x, l, c, B, hcs, _, hl, hm, _, hcell⟩
  · simp [Value.cells] at hcs
    obtain ⟨rfl, rfl, rfl⟩ := hcs
    exact ⟨[], .inl ⟨rfl, rfl, rfl, rfl⟩⟩
  · simp [Value.cells] at hcs
    obtain ⟨rfl, rfl, rfl⟩ := hcs
    refine ⟨(List.range cap).map B, .inr ⟨_, rfl, hl, hm, by simp, fun i hi => ?_⟩⟩
    have hi' : i < cap := by simpa using hi
    rw [hcell i hi', List.getD_eq_getElem?_getD, List.getElem?_map, List.getElem?_range hi']
    rfl
theorem isRowO_vr {W : World} {a : Option Addr} {len cap : Nat} {bs : List Bool} (h : IsRowO W a len cap bs) : VR (impR W) (encSl (argSl a len)) (.slice a len cap) := by
  rcases h with ⟨rfl, rfl, rfl, rfl⟩ | ⟨x, rfl, h1, h2, h3, h4⟩
  · exact .slice0
  · refine .slice _ _ _ _ _ ?_
    show SR _ _ len x cap (capK ANY)
    rw [capK_ANY]
    refine ⟨h1, ?_⟩
    rcases Nat.eq_zero_or_pos len with h0 | h0
    · exact .inl h0
    · right
      have := h4 0 (by omega)
      rw [show x.add 0 = x by simp [Addr.add]] at this
      exact okA_ar (okA_of_cell this)
theorem isRowO_rd {W : World} {a : Option Addr} {len cap : Nat} {bs : List Bool} (h : IsRowO W a len cap bs) : Rd 1 (impH W) (argSl a len) ((bs.take len).map .bool) := by
  rcases h with ⟨rfl, rfl, rfl, rfl⟩ | ⟨x, rfl, h1, h2, h3, h4⟩
  · exact rd_nil 1 _
  · refine ⟨by simp [argSl]; omega, fun hn => by simp [argSl] at hn, fun b hb i v hi => ?_, fun _ => by unfold CapOK argSl; simp only [capK_ANY]⟩
    simp only [argSl, Option.some.injEq] at hb
    subst hb
    have hlt := (List.getElem?_eq_some_iff.1 hi).1
    have hlt : i < len ∧ i < bs.length := by simp at hlt; omega
    have hv : v = .bool (bs.getD i false) := by
      rw [List.getElem?_map, List.getElem?_take_of_lt hlt.1] at hi
      simp [List.getD, hlt.2] at hi ⊢
      exact hi.symm
    subst hv
    have hc := h4 i hlt.2
    obtain ⟨g1, g2, g3⟩ := imp_ld hc (u := .bool (bs.getD i false)) rfl
    have hb : (x.add i).block = x.block := by unfold Addr.add; split <;> rfl
    have ho : (x.add i).off = x.off + i := by unfold Addr.add; split <;> simp_all
    rw [hb] at g1 g3
    rw [ho] at g3
    exact ⟨g1, by simpa [add] using g3⟩
theorem bools_len {W : World} {a : Option Addr} {len cap : Nat} {bs : List Bool} (h : IsRowO W a len cap bs) : (bs.take len).length ≤ maxLen := by
  rcases h with ⟨rfl, rfl, rfl, rfl⟩ | ⟨x, rfl, h1, h2, h3, h4⟩
  · simp
  · simp; omega
end Go.Abs
/- Chapter 2's functions, what they tell; the laws PnumMonotone and PnumBack over the typed texts. -/
set_option linter.unusedVariables false
set_option linter.unusedSimpArgs false
namespace Go.Proofs.Ytaebjajbogedkaa.T
open Go Go.Abs Go.Proofs
theorem pick_f (a m : Int) (hp : 0 < m) (h2 : m ≤ 4611686018427387904) (h : H) : hand_Pick a m h = some (a % m, h) := by
  have h3 := tmod_pos a m hp
  have h5 := Int.tmod_eq_emod (a := a) (b := m)
  have h6 := Int.emod_nonneg a (Int.ne_of_gt hp)
  have h7 := Int.emod_lt_of_pos a hp
  unfold hand_Pick
  rw [remT_ok _ _ (by omega)]
  simp only [bindO_some, condK_eq, decide_eq_true_eq]
  split at h3
  · rename_i hc; rw [if_pos hc]; simp only [joinO_inl]; rw [w64 (by omega) (by omega), h3]
  · rename_i hc; rw [if_neg hc]; simp only [joinO_inl]; rw [h3]
def sp (k : Int) : Int := if k = 1 then 256 else if k = 2 then 65536 else if k = 3 then 16777216 else 4294967296
theorem sp_pos (k : Int) : 0 < sp k ∧ sp k ≤ 4294967296 := by unfold sp; (repeat' split) <;> omega
def bk (cut by_ x : Int) : Int :=
  if x + (cut - x) % by_ - by_ < 0 then x + (cut - x) % by_
  else if x + (cut - x) % by_ ≤ 4611686018427387903 then
    (if (cut - x) % by_ ≤ by_ - (cut - x) % by_ then x + (cut - x) % by_ else x + (cut - x) % by_ - by_)
  else x + (cut - x) % by_ - by_
def nb (d : Int) : Int := if d ≤ 128 then 1 else if d ≤ 32768 then 2 else if d ≤ 8388608 then 3 else 4
theorem nb_mono (d e : Int) (h : d ≤ e) : nb d ≤ nb e := by
  unfold nb; (repeat' split) <;> omega
def mn (k j : Int) : Int := if j < k then j else k
theorem sp_min (k j : Int) (hk : 1 ≤ k) (hk2 : k ≤ 4) (hj : 1 ≤ j) (hj2 : j ≤ 4) (x : Int) : x % sp k % sp j = x % sp (mn k j) := by
  rcases (by omega : k = 1 ∨ k = 2 ∨ k = 3 ∨ k = 4) with rfl | rfl | rfl | rfl <;> rcases (by omega : j = 1 ∨ j = 2 ∨ j = 3 ∨ j = 4) with rfl | rfl | rfl | rfl <;> simp [sp, mn] <;> omega
theorem sp_shl (k : Int) (hk : 1 ≤ k) (hk2 : k ≤ 4) : shlT .i64 1 .u64 (IntKind.wrap .u64 (IntKind.wrap .i64 (8 * k))) = some (sp k) := by
  rcases (by omega : k = 1 ∨ k = 2 ∨ k = 3 ∨ k = 4) with rfl | rfl | rfl | rfl <;> decide +kernel
theorem bk_self (n x s : Int) (hs : 0 < s) (h1 : 0 ≤ x) (h2 : x ≤ n) (h3 : 2 * (n - x) ≤ s) (h4 : n ≤ 4611686018427387903) (h5 : n - x < s) : bk (n % s) s x = n := by
  have e : (n % s - x) % s = n - x := by
    rw [Int.emod_sub_emod]
    exact Int.emod_eq_of_lt (by omega) h5
  unfold bk
  rw [e]
  have e2 : x + (n - x) = n := by omega
  rw [e2]
  split
  · rfl
  · rw [if_pos (by omega)]
end Go.Proofs.Ytaebjajbogedkaa.T
