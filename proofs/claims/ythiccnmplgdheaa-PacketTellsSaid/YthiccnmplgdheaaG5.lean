/- Lemmas about the typed texts (joined: S13 SIx SPnum). -/
import Derived.Test.YthiccnmplgdheaaG4
import Derived.Test.YthiccnmplgdheaaAbsF
import Derived.Test.YthiccnmplgdheaaTxt
set_option linter.unusedVariables false
set_option linter.unusedSimpArgs false
namespace Go.Abs
open Go
/-- a slice whose row is at its newest version: it may be written -/
structure OwnS (sz : Nat) (h : H) (s : Sl) (l : List Value) : Prop where
  rd : Rd sz h s l
  tip : ∀ a, s.base = some a -> ∃ r e, h.objs.get a.block = some (.arr r) /\ a.spot = some e /\ r.ver = e /\ h.nro <= a.block /\ a.off + l.length <= r.size
theorem Buf.own {sz : Nat} {h : H} {s : Sl} {l : List Value} (b : Buf sz h s l) : OwnS sz h s l := by
  refine ⟨b.rd, fun a ha => ?_⟩
  rcases b.tip with ht | ⟨a', r, e, h1, h2, h3, h4, h5, h6, _⟩
  · rw [ht] at ha; simp at ha
  · rw [ha] at h1; cases h1
    have := b.rd.len
    exact ⟨r, e, h2, h3, h4, h5, by omega⟩
theorem OwnS.nil (sz : Nat) (h : H) : OwnS sz h ⟨none, 0, 0⟩ [] := ⟨rd_nil sz h, fun a ha => by simp at ha⟩
theorem OwnS.stC {sz : Nat} {h : H} {s : Sl} {l : List Value} {a : Addr} (o : OwnS sz h s l) (w : WF h) (ha : s.base = some a) (k : Nat) (vs : List Value) (hk : k + vs.length <= l.length) (ho : vs.all oneC = true) :
    ∃ h', stCells h (add a k) vs = some h' /\ OwnS sz h' s (l.take k ++ vs ++ l.drop (k + vs.length)) /\ UP (· = a.block) h h' /\ h'.size = h.size := by
  obtain ⟨r, e, h1, h2, h3, h4, h5⟩ := o.tip a ha
  obtain ⟨h', r', e1, g1, g2, g3, g4, g5, g6, g7, g8⟩ := stCells_ok vs h (add a k) r e w h1 h2 h3 h4 (by simp only [add]; omega) ho
  have hlen : (l.take k ++ vs ++ l.drop (k + vs.length)).length = l.length := by simp; omega
  refine ⟨h', e1, ⟨⟨by rw [hlen]; exact o.rd.len, o.rd.nil, fun p hp i v hi => ?_, o.rd.cap⟩, fun p hp => ?_⟩, ⟨Nat.le_of_eq g4.symm, g5, g6, fun A _ hA => g7 A hA, stCells_st _ e1⟩, g4⟩
  · rw [ha] at hp; cases hp
    have hil := (List.getElem?_eq_some_iff.1 hi).1
    rw [hlen] at hil
    refine ⟨by rw [g4]; exact lt_of_get w h1, ?_⟩
    rw [ldCell_eq]
    show ldO (h'.objs.get a.block) _ = some v
    rw [show h'.objs.get a.block = some (.arr r') from g1]
    have g8' : ∀ j, r'.cells.get j = if a.off + k <= j /\ j < a.off + k + vs.length then (vs[j - (a.off + k)]?).map (⟨·, e⟩) else r.cells.get j := g8
    simp only [ldO, add, h2]
    rw [g8']
    by_cases hi1 : i < k
    · rw [if_neg (by omega)]
      rw [List.append_assoc, List.getElem?_append_left (by simp; omega), List.getElem?_take_of_lt hi1] at hi
      have := (o.rd.ld a ha i v hi).2
      rw [ldCell_eq] at this
      simp only [ldO, add, h1, h2] at this
      exact this
    · by_cases hi2 : i < k + vs.length
      · rw [if_pos (by omega)]
        rw [List.append_assoc, List.getElem?_append_right (by simp; omega), List.getElem?_append_left (by simp; omega)] at hi
        have : i - (List.take k l).length = a.off + i - (a.off + k) := by simp; omega
        rw [this] at hi
        rw [hi]
        simp only [Option.map_some]
        have : e.ble e = true := by simp
        rw [this]; rfl
      · rw [if_neg (by omega)]
        rw [List.getElem?_append_right (by simp; omega), List.getElem?_drop] at hi
        have : k + vs.length + (i - (List.take k l ++ vs).length) = i := by simp; omega
        rw [this] at hi
        have := (o.rd.ld a ha i v hi).2
        rw [ldCell_eq] at this
        simp only [ldO, add, h1, h2] at this
        exact this
  · rw [ha] at hp; cases hp
    exact ⟨r', e, g1, h2, g2, by rw [g5]; exact h4, by rw [hlen, g3]; exact h5⟩
end Go.Abs
namespace Go.Proofs.Ythiccnmplgdheaa.T
open Go Go.Abs Go.Proofs
theorem pick_f (a m : Int) (hp : 0 < m) (h2 : m <= 4611686018427387904) (h : H) : hand_Pick a m h = some (a % m, h) := by
  have h3 := tmod_pos a m hp
  have h5 := Int.tmod_eq_emod (a := a) (b := m)
  have h6 := Int.emod_nonneg a (Int.ne_of_gt hp)
  have h7 := Int.emod_lt_of_pos a hp
  unfold hand_Pick
  rw [remT_ok _ _ (by omega)]
  simp only [bindO_some, condK_eq, decide_eq_true_eq]
  split at h3
  · rename_i hc; rw [if_pos hc]; simp only [joinO_inl]; rw [w64 (by omega) (by omega), h3]
  · rename_i hc; rw [if_neg hc]; simp only [joinO_inl]; rw [h3]
theorem rest_f (a m : Int) (hp : 0 < m) (h2 : m <= 4611686018427387904) (h : H) : pnum_rest a m h = some (a % m, h) := by
  have h3 := tmod_pos a m hp
  have h5 := Int.tmod_eq_emod (a := a) (b := m)
  have h6 := Int.emod_nonneg a (Int.ne_of_gt hp)
  have h7 := Int.emod_lt_of_pos a hp
  unfold pnum_rest
  rw [remT_ok _ _ (by omega)]
  simp only [bindO_some, condK_eq, decide_eq_true_eq]
  split at h3
  · rename_i hc; rw [if_pos hc]; simp only [joinO_inl]; rw [w64 (by omega) (by omega), h3]
  · rename_i hc; rw [if_neg hc]; simp only [joinO_inl]; rw [h3]
def sp (k : Int) : Int := if k = 1 then 256 else if k = 2 then 65536 else if k = 3 then 16777216 else 4294967296
theorem span_f (k : Int) (h1 : 1 <= k) (h2 : k <= 4) (h : H) : pnum_span k h = some (sp k, h) := by
  unfold pnum_span P.pnum_span pnum_within
  have e : (if (if (4 : Int) < k then 4 else k) > 1 then (if (4 : Int) < k then 4 else k) else 1) = k := by
    rw [if_neg (by omega : ¬ (4 : Int) < k)]; split <;> omega
  simp only [letO_eq, bind2_some, e]
  rw [w64 (by omega) (by omega), shlT_ok _ _ _ (by omega)]
  rcases (by omega : k = 1 \/ k = 2 \/ k = 3 \/ k = 4) with rfl | rfl | rfl | rfl <;> rfl
theorem sp_pos (k : Int) : 0 < sp k /\ sp k <= 4294967296 := by unfold sp; (repeat' split) <;> omega
theorem cut_f (n k : Int) (h1 : 1 <= k) (h2 : k <= 4) (h : H) : pnum_Cut n k h = some (n % sp k, h) := by
  have hp := sp_pos k
  unfold pnum_Cut P.pnum_Cut
  rw [span_f k h1 h2]; simp only [bind2_some]
  rw [rest_f _ _ hp.1 (by omega)]; rfl
def bk (cut by_ x : Int) : Int :=
  if x + (cut - x) % by_ - by_ < 0 then x + (cut - x) % by_
  else if x + (cut - x) % by_ <= 4611686018427387903 then
    (if (cut - x) % by_ <= by_ - (cut - x) % by_ then x + (cut - x) % by_ else x + (cut - x) % by_ - by_)
  else x + (cut - x) % by_ - by_
theorem back_f (cut k x : Int) (h1 : 1 <= k) (h2 : k <= 4) (hx : 0 <= x) (hx2 : x <= 4611686018427387903) (h : H) : pnum_Back cut k x h = some (bk cut (sp k) x, h) := by
  have hp := sp_pos k
  unfold pnum_Back P.pnum_Back
  rw [span_f k h1 h2]; simp only [bind2_some]
  have hw : pnum_within x 0 4611686018427387903 h = some (x, h) := by
    unfold pnum_within
    have e : (if (if (4611686018427387903 : Int) < x then 4611686018427387903 else x) > 0 then (if (4611686018427387903 : Int) < x then 4611686018427387903 else x) else 0) = x := by
      rw [if_neg (by omega : ¬ (4611686018427387903 : Int) < x)]; split <;> omega
    simp only [letO_eq, e]
  rw [hw]; simp only [bind2_some]
  rw [cut_f cut k h1 h2]; simp only [bind2_some]
  rw [rest_f x _ hp.1 (by omega)]; simp only [bind2_some]
  generalize sp k = b at hp ⊢
  have e1 := Int.emod_nonneg cut (Int.ne_of_gt hp.1)
  have e2 := Int.emod_lt_of_pos cut hp.1
  have e3 := Int.emod_nonneg x (Int.ne_of_gt hp.1)
  have e4 := Int.emod_lt_of_pos x hp.1
  rw [w64 (by omega) (by omega), rest_f _ _ hp.1 (by omega), <- Int.sub_emod]
  simp only [bind2_some, letO_eq]
  have e5 := Int.emod_nonneg (cut - x) (Int.ne_of_gt hp.1)
  have e6 := Int.emod_lt_of_pos (cut - x) hp.1
  unfold bk
  generalize (cut - x) % b = r at *
  rw [w64 (n := x + r) (by omega) (by omega), w64 (n := x + r - b) (by omega) (by omega), w64 (n := x + r - x) (by omega) (by omega), w64 (n := x - (x + r - b)) (by omega) (by omega)]
  have e7 : x + r - x = r := by omega
  have e8 : x - (x + r - b) = b - r := by omega
  simp only [e7, e8, condK_eq, decide_eq_true_eq]
  split
  · rfl
  · split
    · split <;> rfl
    · rfl
def nb (d : Int) : Int := if d <= 128 then 1 else if d <= 32768 then 2 else if d <= 8388608 then 3 else 4
theorem sp_shl (k : Int) (hk : 1 <= k) (hk2 : k <= 4) : shlT .i64 1 .u64 (IntKind.wrap .u64 (IntKind.wrap .i64 (8 * k))) = some (sp k) := by
  rcases (by omega : k = 1 \/ k = 2 \/ k = 3 \/ k = 4) with rfl | rfl | rfl | rfl <;> decide +kernel
end Go.Proofs.Ythiccnmplgdheaa.T
