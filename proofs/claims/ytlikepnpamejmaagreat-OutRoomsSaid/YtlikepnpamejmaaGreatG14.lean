/- Lemmas about the typed texts (joined: SHead1 SHead2 SHead3). -/
import Derived.Test.YtlikepnpamejmaaGreatTxt
import Derived.Test.YtlikepnpamejmaaGreatG3
import Derived.Test.YtlikepnpamejmaaGreatG13
import Derived.Test.YtlikepnpamejmaaGreatG12
import Derived.Test.YtlikepnpamejmaaGreatG4
/- Chapter 18's functions over the typed texts: what a right head is, its pieces' bounds. -/
set_option linter.unusedVariables false
set_option linter.unusedSimpArgs false
namespace Go.Proofs.YtlikepnpamejmaaGreat.T
open Go Go.Abs Go.Proofs
abbrev Hd := Int × Int × Int × Int × Int
def hcnt (s : Int) : Int := (s + 79) / 80
def HR (x : Hd) : Prop := 0 ≤ x.1 ∧ x.1 < 40 ∧ 0 ≤ x.2.1 ∧ x.2.1 ≤ 4611686018427387903 ∧ 1 ≤ x.2.2.2.2 ∧ x.2.2.2.2 ≤ 600 ∧ x.2.2.1 = hcnt x.2.2.2.2 ∧ 0 ≤ x.2.2.2.1 ∧ x.2.2.2.1 < x.2.2.1
instance (x : Hd) : Decidable (HR x) := by unfold HR; infer_instance
theorem pieces_f {s : Int} (h1 : 0 ≤ s) (h2 : s ≤ 600) (h : H) : head_pieces s h = some (hcnt s, h) := by
  unfold head_pieces hcnt
  rw [w64 (n := s + 80) (by omega) (by omega), w64 (n := s + 80 - 1) (by omega) (by omega), letO_eq, Int.tdiv_eq_ediv_of_nonneg (by omega), w64 (by omega) (by omega)]
  rw [show s + 80 - 1 = s + 79 by omega]
theorem Right_f {h : H} (w : WF h) (x : Hd) : PO (head_Right x h) (fun (a, h1) => a = decide (HR x) ∧ EX h h1) := by
  obtain ⟨i, d, c, k, s⟩ := x
  unfold head_Right P.head_Right
  refine PO.newB w fun h1 x1 B z1 w1 => ?_
  simp only [B.ldI (i := 0) rfl, B.ldI (i := 1) rfl, B.ldI (i := 2) rfl, B.ldI (i := 3) rfl, B.ldI (i := 4) rfl, bindO_some, condK_eq, decide_eq_true_eq, joinO_ite, joinO_inl, ptrK_some, if_true, Bool.false_eq_true, if_false]
  have no : ∀ (P : Prop) [Decidable P], ¬ P → PO (some (false, h1)) (fun (a, h1) => a = decide P ∧ EX h h1) := fun P _ hp => .ret ⟨(decide_eq_false hp).symm, x1⟩
  (repeat' split)
  all_goals (try exact no _ (by unfold HR; simp only; omega))
  rw [pieces_f (by omega) (by omega), bind2_some, B.ldI (i := 2) rfl, bindO_some, if_pos (beq_self_eq_true _), joinO_inl]
  simp only [bne_iff_ne, ne_eq, ptrK_some, B.ldI (i := 3) rfl, B.ldI (i := 2) rfl, bindO_some]
  (repeat' split)
  all_goals (try exact no _ (by unfold HR; simp only; omega))
  exact .ret ⟨decide_eq_decide.2 (by unfold HR; simp only; omega), x1⟩
/-! bounds of a piece -/
def hfrom (x : Hd) : Int := x.2.2.2.1 * 80
def hto (x : Hd) : Int := min (x.2.2.2.1 * 80 + 80) x.2.2.2.2
theorem HR.b {x : Hd} (h : HR x) : 0 ≤ hfrom x ∧ hfrom x < hto x ∧ hto x ≤ x.2.2.2.2 ∧ x.2.2.2.2 ≤ 600 ∧ hto x - hfrom x ≤ 80 := by
  unfold HR hcnt at h; unfold hfrom hto; omega
/-! a head of a message -/
def ofV (id dl sz : Int) : Hd := if HR (id, dl, hcnt sz, 0, sz) then (id, dl, hcnt sz, 0, sz) else (0, 0, 0, 0, 0)
theorem Of_f {h : H} (w : WF h) (id dl sz : Int) : PO (head_Of id dl sz h) (fun (a, h1) => a = ofV id dl sz ∧ EX h h1) := by
  unfold head_Of P.head_Of
  refine PO.newB w fun h1 x1 B1 z1 w1 => PO.newB w1 fun h2 x2 B2 z2 w2 => PO.stZ B2 w2 rfl rfl fun h3 B3 u3 z3 w3 => ?_
  have ne : ¬ h.size = h1.size := by omega
  have C1 := (B1.ex w1 x2).up w2 u3 ne
  have xx : EX h h3 := u3.ex0 (x1.trans x2) (fun A hA e => by omega)
  simp only [encL, Z.enc] at B3
  refine PO.join (fun s => s.1 = (some ⟨h.size, 0, some 0⟩, some ⟨h1.size, 0, some 0⟩) ∧ EX h s.2 ∧ s.2.size = h3.size ∧ WF s.2 ∧ Box s.2 h.size [.int .i64 0, .int .i64 0, .int .i64 0, .int .i64 0, .int .i64 0] ∧ Box s.2 h1.size [.int .i64 id, .int .i64 dl, .int .i64 (if 1 ≤ sz ∧ sz ≤ 600 then hcnt sz else 0), .int .i64 0, .int .i64 sz]) ?_ ?_
  · have key : ∀ b : Bool, (b = true ↔ 1 ≤ sz ∧ sz ≤ 600) → PO (condK b (bind2 (head_pieces sz h3) fun (x2 : Int) (h5 : H) => ptrK (some (⟨h1.size, 0, some 0⟩ : Addr)) fun (a0 : Addr) => bindO (st1 h5 (add a0 2) (.int .i64 x2)) fun (h6 : H) => some (Sum.inl ((some (⟨h.size, 0, some 0⟩ : Addr), some (⟨h1.size, 0, some 0⟩ : Addr)), h6))) (some (Sum.inl ((some (⟨h.size, 0, some 0⟩ : Addr), some (⟨h1.size, 0, some 0⟩ : Addr)), h3)))) (Sum.elim (fun s : (Option Addr × Option Addr) × H => s.1 = (some ⟨h.size, 0, some 0⟩, some ⟨h1.size, 0, some 0⟩) ∧ EX h s.2 ∧ s.2.size = h3.size ∧ WF s.2 ∧ Box s.2 h.size [.int .i64 0, .int .i64 0, .int .i64 0, .int .i64 0, .int .i64 0] ∧ Box s.2 h1.size [.int .i64 id, .int .i64 dl, .int .i64 (if 1 ≤ sz ∧ sz ≤ 600 then hcnt sz else 0), .int .i64 0, .int .i64 sz]) (fun (a, h1) => a = ofV id dl sz ∧ EX h h1)) := by
      intro b hb
      refine PO.cond (fun hc => ?_) (fun hc => ?_)
      · have hs := hb.1 hc
        rw [pieces_f (by omega) (by omega), bind2_some, ptrK_some]
        refine PO.st1 B3 w3 (by simp) rfl fun h4 B4 u4 z4 w4 => .retL ⟨rfl, u4.ex0 xx (fun A hA e => by have := xx.size; omega), z4, w4, C1.up w3 u4 ne, ?_⟩
        rw [if_pos hs]; exact B4
      · have hs : ¬ (1 ≤ sz ∧ sz ≤ 600) := fun h => by rw [hb.2 h] at hc; simp at hc
        refine .retL ⟨rfl, xx, rfl, w3, C1, ?_⟩
        rw [if_neg hs]; exact B3
    refine PO.joinD (PO.condD (fun h1 => .retL ?_) (fun h1 => .retL ?_))
    · exact key _ (by simp; omega)
    · exact key _ (by simp; omega)
  · rintro ⟨s, h4⟩ ⟨rfl, xx4, z4, w4, C4, B4⟩
    refine .ptr (.ldZ5 B4 ?_)
    refine PO.call (Right_f w4 _) fun a h5 ⟨e1, x5⟩ => ?_
    subst e1
    have C5 := C4.ex w4 x5
    have B5 := B4.ex w4 x5
    have hv : HR (id, dl, if 1 ≤ sz ∧ sz ≤ 600 then hcnt sz else 0, 0, sz) ↔ HR (id, dl, hcnt sz, 0, sz) := by
      unfold HR; simp only
      by_cases hs : 1 ≤ sz ∧ sz ≤ 600
      · rw [if_pos hs]; simp
      · rw [if_neg hs]; omega
    refine PO.condND (fun hn => ?_) (fun hp => ?_)
    · refine .ptr (PO.stZ C5 x5.wf rfl rfl fun h6 B6 u6 z6 w6 => ?_)
      simp only [encL, Z.enc] at B6
      refine .ptr (.ldZ5 B6 (.ret ⟨?_, u6.ex0 (xx4.trans x5) (fun A hA e => by omega)⟩))
      unfold ofV; rw [if_neg (fun h => hn (hv.2 h))]
    · have hs : 1 ≤ sz ∧ sz ≤ 600 := by unfold HR at hp; simp only at hp; omega
      refine .ptr (.ldZ5 B5 (.ptr (PO.stZ C5 x5.wf rfl rfl fun h6 B6 u6 z6 w6 => ?_)))
      simp only [encL, Z.enc] at B6
      refine .ptr (.ldZ5 B6 (.ret ⟨?_, u6.ex0 (xx4.trans x5) (fun A hA e => by omega)⟩))
      unfold ofV; rw [if_pos (hv.1 hp), if_pos hs]
end Go.Proofs.YtlikepnpamejmaaGreat.T
/- Chapter 18's functions over the typed texts: parts, pieces laid and read, short heads. -/
set_option linter.unusedVariables false
set_option linter.unusedSimpArgs false
namespace Go.Proofs.YtlikepnpamejmaaGreat.T
open Go Go.Abs Go.Proofs
/-! a part of a message's bytes -/
def partV (x : Hd) (l : List UInt8) : List UInt8 := if HR x ∧ (l.length : Int) = x.2.2.2.2 then (l.drop (hfrom x).toNat).take ((hto x).toNat - (hfrom x).toNat) else []
theorem partV_len {x : Hd} {l : List UInt8} (h : HR x ∧ (l.length : Int) = x.2.2.2.2) : (partV x l).length = (hto x).toNat - (hfrom x).toNat := by
  have := h.1.b
  unfold partV; rw [if_pos h]; simp; omega
abbrev hdL (x : Hd) : List Value := [.int .i64 x.1, .int .i64 x.2.1, .int .i64 x.2.2.1, .int .i64 x.2.2.2.1, .int .i64 x.2.2.2.2]
/-! a piece laid -/
def hnums (x : Hd) : List Int := [x.1, x.2.1, x.2.2.1, x.2.2.2.1, x.2.2.2.2]
def layV (x : Hd) (l : List UInt8) : List UInt8 := if HR x ∧ (l.length : Int) = hto x - hfrom x then encs (hnums x) ++ l else []
theorem HR.ok {x : Hd} (h : HR x) : ∀ n ∈ hnums x, okN n := by
  unfold HR hcnt at h; unfold hnums okN; simp only [List.mem_cons, List.not_mem_nil, or_false, forall_eq_or_imp, forall_eq]; omega
end Go.Proofs.YtlikepnpamejmaaGreat.T
/- Chapter 18's functions over the typed texts: pieces read, short heads, texts, the chapter's example. -/
set_option linter.unusedVariables false
set_option linter.unusedSimpArgs false
namespace Go.Proofs.YtlikepnpamejmaaGreat.T
open Go Go.Abs Go.Proofs
def hd0 : Hd := (0, 0, 0, 0, 0)
def hdOf (ns : List Int) : Hd := (ns.getD 0 0, ns.getD 1 0, ns.getD 2 0, ns.getD 3 0, ns.getD 4 0)
def readV (l : List UInt8) : Hd × List UInt8 × Int := match tks 5 l with
  | some (ns, rest) => if HR (hdOf ns) ∧ (rest.length : Int) = hto (hdOf ns) - hfrom (hdOf ns) then (hdOf ns, rest, 0) else (hd0, [], 2)
  | none => (hd0, [], 3)
end Go.Proofs.YtlikepnpamejmaaGreat.T
