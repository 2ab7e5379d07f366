/- Lemmas about the typed texts (joined: SHead1 SHead2 SHead3). -/
import Derived.Test.YthiccnmplgdheaaTxt
import Derived.Test.YthiccnmplgdheaaG3
import Derived.Test.YthiccnmplgdheaaG11
import Derived.Test.YthiccnmplgdheaaG9
/- Chapter 18's functions over the typed texts: what a right head is, its pieces' bounds. -/
set_option linter.unusedVariables false
set_option linter.unusedSimpArgs false
namespace Go.Proofs.Ythiccnmplgdheaa.T
open Go Go.Abs Go.Proofs
abbrev Hd := Int × Int × Int × Int × Int
def hcnt (s : Int) : Int := (s + 79) / 80
def HR (x : Hd) : Prop := 0 ≤ x.1 ∧ x.1 < 40 ∧ 0 ≤ x.2.1 ∧ x.2.1 ≤ 4611686018427387903 ∧ 1 ≤ x.2.2.2.2 ∧ x.2.2.2.2 ≤ 600 ∧ x.2.2.1 = hcnt x.2.2.2.2 ∧ 0 ≤ x.2.2.2.1 ∧ x.2.2.2.1 < x.2.2.1
instance (x : Hd) : Decidable (HR x) := by unfold HR; infer_instance
/-! bounds of a piece -/
def hfrom (x : Hd) : Int := x.2.2.2.1 * 80
def hto (x : Hd) : Int := min (x.2.2.2.1 * 80 + 80) x.2.2.2.2
theorem HR.b {x : Hd} (h : HR x) : 0 ≤ hfrom x ∧ hfrom x < hto x ∧ hto x ≤ x.2.2.2.2 ∧ x.2.2.2.2 ≤ 600 ∧ hto x - hfrom x ≤ 80 := by
  unfold HR hcnt at h; unfold hfrom hto; omega
/-! a head of a message -/
def ofV (id dl sz : Int) : Hd := if HR (id, dl, hcnt sz, 0, sz) then (id, dl, hcnt sz, 0, sz) else (0, 0, 0, 0, 0)
end Go.Proofs.Ythiccnmplgdheaa.T
/- Chapter 18's functions over the typed texts: parts, pieces laid and read, short heads. -/
set_option linter.unusedVariables false
set_option linter.unusedSimpArgs false
namespace Go.Proofs.Ythiccnmplgdheaa.T
open Go Go.Abs Go.Proofs
theorem clipB_f {h : H} {s : Sl} {l : List UInt8} (hr : RdB h s l) (hl : l.length ≤ 2 ^ 47) : ∃ s', slices_Clip_byte s h = some (s', h) ∧ RdB h s' l ∧ ∀ n, Fr n s → Fr n s' := by
  obtain ⟨s3, e3, r3, _, _, f3⟩ := clip_ok (by omega) (by unfold B63; omega) hr (by rw [RdB.len hr]; unfold B63; omega)
  refine ⟨s3, ?_, r3, f3⟩
  unfold slices_Clip_byte
  rw [e3, bindO_some]
theorem cc_nil {h : H} {parts : Sl} {xs : List Sl} {ls : List (List UInt8)} (w : WF h) (hp : RdS h parts xs) (hx : RdBs h xs ls) (hn : xs.length ≤ 2 ^ 47) (hc : (cat ls).length = 0) : ∀ (k i : Nat), i + k = xs.length → (cat (ls.drop i)).length = 0 →
    loopO slices_Concat_byte_l2 (((⟨none, 0, 0⟩ : Sl), (parts, ((xs.length : Int), (i : Int)))), h) = some (Sum.inl ((⟨none, 0, 0⟩ : Sl), h))
  | 0, i, hik, hz => by
    rw [loopO_eq]
    simp only [P.slices_Concat_byte_l2, condK_eq, decide_eq_true_eq, show ¬ ((i : Int) < (xs.length : Int)) by omega, if_false]
  | k + 1, i, hik, hz => by
    obtain ⟨x, l, e1, e2, r, hl⟩ := RdBs.get i hx (by omega)
    obtain ⟨a, e3, e4⟩ := hp.at e1
    rw [e2] at hz
    simp only [cat, List.length_append] at hz
    have hl0 : l = [] := List.eq_nil_of_length_eq_zero (by omega)
    subst hl0
    have hx0 : x.len = 0 := by have := r.len; simpa using this
    rw [loopO_eq]
    simp only [P.slices_Concat_byte_l2, condK_eq, decide_eq_true_eq, show ((i : Int) < (xs.length : Int)) by omega, if_true, e3, bindO_some, e4]
    obtain ⟨s', h', e5, _, _, _, _, _⟩ := appB_ok (e := 5) w (show BufB h ⟨none, 0, 0⟩ [] from buf_nil 1 h) r (by simp)
    have e6 : appT 5 1 1 h ⟨none, 0, 0⟩ x = some (⟨none, 0, 0⟩, h) := by
      have hA : appA (DSE 5 (tyS 1 1 .nilFunc)) h #[5 + 1, 5 + 1] (encSl ⟨none, 0, 0⟩) (encSl x) = appR h 5 (tyS 1 1 .nilFunc) (encSl ⟨none, 0, 0⟩) [] x.len := by
        have hf := Rd.first r
        unfold appA
        rw [show (#[5 + 1, 5 + 1] : Array TypeId)[0]? = some (5 + 1) from rfl, show (#[5 + 1, 5 + 1] : Array TypeId)[1]? = some (5 + 1) from rfl]
        simp only [elem_DSE, DSE_s]
        unfold encSl at hf ⊢
        simp only [show (tyS 1 1 .nilFunc).size = 1 from rfl, hf]
        rfl
      unfold appT
      rw [hA, hx0]; rfl
    rw [e6, bind2_some, w64 (by omega) (by omega)]
    exact cc_nil w hp hx hn hc k (i + 1) (by omega) (by omega)
theorem Concat_all {h : H} {parts : Sl} {xs : List Sl} {ls : List (List UInt8)} (w : WF h) (hp : RdS h parts xs) (hx : RdBs h xs ls) (hn : xs.length ≤ 2 ^ 47) (hl : (cat ls).length ≤ 2 ^ 47) :
    PO (slices_Concat_byte parts h) (fun (a, h1) => EX h h1 ∧ RdB h1 a (cat ls) ∧ Fr h.size a) := by
  rcases Nat.eq_zero_or_pos (cat ls).length with hz | hz
  · have e1 := cc_l1 hp hx hn xs.length 0 0 (by omega) (by simpa using hl)
    simp only [slices_Concat_byte_l1, Int.natCast_zero, List.drop_zero, Nat.zero_add] at e1
    unfold slices_Concat_byte P.slices_Concat_byte
    rw [hp.len, e1, joinO_inl]
    obtain ⟨s, h', e2, x2, f2, hs⟩ := grow_f (n := 0) w (by omega)
    rw [hz]
    rcases hs with ⟨_, rfl⟩ | ⟨h0, _⟩
    · refine .callE e2 ?_
      have e3 := cc_nil x2.wf (hp.ex x2) (hx.ex x2) hn hz xs.length 0 (by omega) (by simpa using hz)
      simp only [slices_Concat_byte_l2, Int.natCast_zero] at e3
      simp only [hp.len]
      rw [e3]
      refine .ret ⟨x2, ?_, f2⟩
      have : cat ls = [] := List.eq_nil_of_length_eq_zero hz
      rw [this]; exact rd_nil 1 h'
    · omega
  · obtain ⟨s, h', room, e, x, b, f⟩ := Concat_f w hp hx hn hz hl
    exact ⟨_, e, x, b.rd, f⟩
/-! a part of a message's bytes -/
def partV (x : Hd) (l : List UInt8) : List UInt8 := if HR x ∧ (l.length : Int) = x.2.2.2.2 then (l.drop (hfrom x).toNat).take ((hto x).toNat - (hfrom x).toNat) else []
theorem partV_len {x : Hd} {l : List UInt8} (h : HR x ∧ (l.length : Int) = x.2.2.2.2) : (partV x l).length = (hto x).toNat - (hfrom x).toNat := by
  have := h.1.b
  unfold partV; rw [if_pos h]; simp; omega
abbrev hdL (x : Hd) : List Value := [.int .i64 x.1, .int .i64 x.2.1, .int .i64 x.2.2.1, .int .i64 x.2.2.2.1, .int .i64 x.2.2.2.2]
/-! a piece laid -/
def hnums (x : Hd) : List Int := [x.1, x.2.1, x.2.2.1, x.2.2.2.1, x.2.2.2.2]
def layV (x : Hd) (l : List UInt8) : List UInt8 := if HR x ∧ (l.length : Int) = hto x - hfrom x then encs (hnums x) ++ l else []
theorem HR.ok {x : Hd} (h : HR x) : ∀ n ∈ hnums x, okN n := by
  unfold HR hcnt at h; unfold hnums okN; simp only [List.mem_cons, List.not_mem_nil, or_false, forall_eq_or_imp, forall_eq]; omega
end Go.Proofs.Ythiccnmplgdheaa.T
/- Chapter 18's functions over the typed texts: pieces read, short heads, texts, the chapter's example. -/
set_option linter.unusedVariables false
set_option linter.unusedSimpArgs false
namespace Go.Proofs.Ythiccnmplgdheaa.T
open Go Go.Abs Go.Proofs
def hd0 : Hd := (0, 0, 0, 0, 0)
def hdOf (ns : List Int) : Hd := (ns.getD 0 0, ns.getD 1 0, ns.getD 2 0, ns.getD 3 0, ns.getD 4 0)
def readV (l : List UInt8) : Hd × List UInt8 × Int := match tks 5 l with
  | some (ns, rest) => if HR (hdOf ns) ∧ (rest.length : Int) = hto (hdOf ns) - hfrom (hdOf ns) then (hdOf ns, rest, 0) else (hd0, [], 2)
  | none => (hd0, [], 3)
end Go.Proofs.Ythiccnmplgdheaa.T
