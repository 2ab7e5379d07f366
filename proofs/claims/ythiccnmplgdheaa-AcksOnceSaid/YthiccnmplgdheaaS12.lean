/- Runs (pairs of whole numbers) in memory. -/
-- SEAT b
import Derived.Test.YthiccnmplgdheaaS11
import Derived.Test.YthiccnmplgdheaaSSpan1
set_option linter.unusedVariables false
set_option linter.unusedSimpArgs false
namespace Go.Abs
open Go
def runsV : List Run → List Value
  | [] => []
  | r :: l => .int .i64 r.1 :: .int .i64 r.2 :: runsV l
theorem runsV_app : ∀ (a b : List Run), runsV (a ++ b) = runsV a ++ runsV b
  | [], b => rfl
  | r :: a, b => by simp [runsV, runsV_app a b]
theorem runsV_length : ∀ l : List Run, (runsV l).length = l.length * 2
  | [] => rfl
  | r :: l => by simp [runsV, runsV_length l]; omega
theorem runsV_oneC : ∀ l : List Run, (runsV l).all oneC = true
  | [] => rfl
  | r :: l => by simp [runsV, oneC, runsV_oneC l]
theorem runsV_get : ∀ (l : List Run) (j : Nat), j < l.length → (runsV l)[j * 2]? = some (.int .i64 (l.getD j (0, 0)).1) ∧ (runsV l)[j * 2 + 1]? = some (.int .i64 (l.getD j (0, 0)).2)
  | r :: l, 0, _ => ⟨rfl, rfl⟩
  | r :: l, j + 1, h => by
    have := runsV_get l j (by simpa using h)
    rw [show (j + 1) * 2 = j * 2 + 1 + 1 by omega]
    simpa [runsV] using this
def RdR (h : H) (s : Sl) (l : List Run) : Prop := Rd 2 h s (runsV l)
def BufR (h : H) (s : Sl) (l : List Run) : Prop := Buf 2 h s (runsV l)
theorem RdR.len {h : H} {s : Sl} {l : List Run} (r : RdR h s l) : s.len = l.length := by
  have := Rd.len r; rw [runsV_length] at this; omega
theorem RdR.ex {h h' : H} {s : Sl} {l : List Run} (x : EX h h') (r : RdR h s l) : RdR h' s l := Rd.ex x r
theorem BufR.rd {h : H} {s : Sl} {l : List Run} (r : BufR h s l) : RdR h s l := Buf.rd r
theorem BufR.ex {h h' : H} {s : Sl} {l : List Run} (w : WF h) (x : EX h h') (r : BufR h s l) : BufR h' s l := Buf.ex w x r
theorem ldCells2 {h : H} {a : Addr} {u v : Value} (h1 : ldCell h (add a 0) = some u) (h2 : ldCell h (add a 1) = some v) : ldCells h a 2 = some [u, v] := by
  rw [addA_zero] at h1
  simp only [ldCells, h1, h2]
theorem PO.ixR {α : Type} {Q : α → Prop} {h : H} {s : Sl} {l : List Run} {j : Int} {g : Addr → Option α} (r : RdR h s l) (h0 : 0 ≤ j) (h1 : j < l.length)
    (p : ∀ a b, s.base = some b → a = add b (j.toNat * 2) → Abs.ldZ [.int .i64, .int .i64] h a = some (l.getD j.toNat (0, 0)) → Abs.ldI .i64 h (add a 0) = some (l.getD j.toNat (0, 0)).1 → Abs.ldI .i64 h (add a 1) = some (l.getD j.toNat (0, 0)).2 → PO (g a) Q) : PO (bindO (ixT 2 s j) g) Q := by
  obtain ⟨a, ha, e⟩ := ixT_ok r h0 (by rw [RdR.len r]; exact h1)
  obtain ⟨g1, g2⟩ := runsV_get l j.toNat (by omega)
  have l1 : ldCell h (add (add a (j.toNat * 2)) 0) = some (.int .i64 (l.getD j.toNat (0, 0)).1) := by rw [add_add]; exact (Rd.ld r a ha _ _ g1).2
  have l2 : ldCell h (add (add a (j.toNat * 2)) 1) = some (.int .i64 (l.getD j.toNat (0, 0)).2) := by rw [add_add]; exact (Rd.ld r a ha _ _ g2).2
  exact .op e (p _ a ha rfl (ldZ_of (zs := [.int .i64, .int .i64]) (x := l.getD j.toNat (0, 0)) (ldCells2 l1 l2)) (ldI_of l1) (ldI_of l2))
theorem PO.ixA {α : Type} {Q : α → Prop} {n sz : Nat} {a : Addr} {i : Int} {g : Addr → Option α} (h0 : 0 ≤ i) (h1 : i < n) (p : PO (g (add a (i.toNat * sz))) Q) : PO (bindO (ixAT n sz a i) g) Q := .op (ixAT_ok a h0 h1) p
theorem PO.appR1 {α : Type} {Q : α → Prop} {h0 h : H} {out : Sl} {l : List Run} {x y : Int} {g : Sl → H → Option α} (hb : BufR h out l) (hx : EX h0 h) (hf : Fr h0.size out) (hl : l.length + 1 ≤ 2 ^ 42)
    (k : ∀ out1 h2, BufR h2 out1 (l ++ [(x, y)]) → EX h0 h2 → Fr h0.size out1 → KP h h2 → PO (g out1 h2) Q) : PO (newO (row 36 [.int .i64 x, .int .i64 y]) h fun b h1 => bind2 (appT 36 2 16 h1 out ⟨some ⟨b, 0, some 0⟩, 1, 1⟩) g) Q := by
  refine PO.newB hx.wf fun h1 x1 B1 z1 w1 => ?_
  have r1 : RdR h1 ⟨some ⟨h.size, 0, some 0⟩, 1, 1⟩ [(x, y)] := B1.rd w1 rfl (by unfold CapOK; rw [capK_exact (by unfold B63; omega)]; exact Nat.le_refl _)
  have hb1 : BufR h1 out l := hb.ex hx.wf x1
  have hlen := RdR.len hb1.rd
  obtain ⟨s', h', e, k1, x2, b2, _, f2⟩ := appT_ok (e := 36) (bytes := 16) (by omega) (by unfold B63; omega) w1 hb1 r1 (runsV_oneC _) (by simp only; omega) (by simp only; omega)
  refine PO.callE e (k s' h' ?_ (x2 _ (hx.trans x1) hf) (f2 _ (hx.trans x1).size hf) ((x1.kp hx.wf).trans k1))
  unfold BufR; rw [runsV_app]; exact b2
theorem PO.ldR1 {α : Type} {Q : α → Prop} {h : H} {a : Addr} {c : Nat} {r : Run} {g : Int × Int → Option α} (hr : RdR h ⟨some a, 1, c⟩ [r]) (p : PO (g r) Q) : PO (bindO (Abs.ldZ [.int .i64, .int .i64] h a) g) Q :=
  .op (ldZ_of (zs := [.int .i64, .int .i64]) (x := r) (ldCells2 (Rd.ld hr a rfl 0 _ rfl).2 (Rd.ld hr a rfl 1 _ rfl).2)) p
theorem Box.r1 {h : H} {b : Nat} {r : Run} (B : Box h b [.int .i64 r.1, .int .i64 r.2]) (w : WF h) : RdR h ⟨some ⟨b, 0, some 0⟩, 1, 1⟩ [r] := B.rd w rfl (by unfold CapOK; rw [capK_exact (by unfold B63; omega)]; exact Nat.le_refl _)
theorem RdR.mono {h h' : H} {s : Sl} {l : List Run} (x : KP h h') (r : RdR h s l) : RdR h' s l := Rd.mono r x
end Go.Abs
