/- Chapter 18's functions over the typed texts: pieces read, short heads, texts, the chapter's example. -/
-- SEAT b
import Derived.Test.YthiccnmplgdheaaSHead2
set_option linter.unusedVariables false
set_option linter.unusedSimpArgs false
namespace Go.Proofs.Ythiccnmplgdheaa.T
open Go Go.Abs Go.Proofs
def hd0 : Hd := (0, 0, 0, 0, 0)
def hdOf (ns : List Int) : Hd := (ns.getD 0 0, ns.getD 1 0, ns.getD 2 0, ns.getD 3 0, ns.getD 4 0)
def readV (l : List UInt8) : Hd × List UInt8 × Int := match tks 5 l with
  | some (ns, rest) => if HR (hdOf ns) ∧ (rest.length : Int) = hto (hdOf ns) - hfrom (hdOf ns) then (hdOf ns, rest, 0) else (hd0, [], 2)
  | none => (hd0, [], 3)
theorem Read_f {h : H} (w : WF h) {b : Sl} {l : List UInt8} (hr : RdB h b l) (hl : l.length ≤ 2 ^ 47) :
    PO (head_Read b h) (fun (a, h1) => a.1 = (readV l).1 ∧ a.2.2 = (readV l).2.2 ∧ RdB h1 a.2.1 (readV l).2.1 ∧ EX h h1) := by
  unfold head_Read P.head_Read
  refine PO.newB w fun h0 x0 B z0 w0 => ?_
  have ht := Takes_f (cnt := 5) (c := 5) w0 (hr.ex x0) hl (by omega) (by simp)
  cases hk : tks 5 l with
  | none =>
    rw [hk] at ht
    obtain ⟨h1, e1, x1⟩ := ht
    have hv : readV l = (hd0, [], 3) := by unfold readV; rw [hk]
    have B1 := Box.kx x1 B
    refine .callE e1 (.condNE (fun _ => ?_) (fun e => by simp at e))
    refine PO.stZ B1 x1.wf rfl rfl fun h2 B2 u2 z2 w2 => ?_
    simp only [encL, Z.enc] at B2
    refine .ldZ5 B2 (.ret ?_)
    show _ ∧ _ ∧ _ ∧ _
    rw [hv]
    exact ⟨rfl, rfl, rd_nil 1 h2, u2.ex0 (x0.trans x1) (fun A hA e => by omega)⟩
  | some p =>
    obtain ⟨ns, rest⟩ := p
    rw [hk] at ht
    obtain ⟨s, t, h1, e1, x1, rs, rt⟩ := ht
    have hnl := tks_length 5 l ns rest hk
    have B1 := Box.kx x1 B
    have hz1 := (x0.trans x1).size
    have hs1 := x1.size
    have hn1 := x1.wf.nro
    obtain ⟨i, d, c, k, z, rfl⟩ : ∃ i d c k z, ns = [i, d, c, k, z] := by
      match ns, hnl with
      | [i, d, c, k, z], _ => exact ⟨i, d, c, k, z, rfl⟩
    refine .callE e1 (.condNE (fun e => absurd rfl e) (fun _ => ?_))
    refine PO.letGrow x1.wf fun h3 x3 z3 w3 n3 => ?_
    have rs3 : RdI .i64 h3 s [i, d, c, k, z] := rs.ex x3
    refine .ixI rs3 (by omega) (by simp) fun a0 (e0 : _ = some i) => .op e0 (.ixI rs3 (by omega) (by simp) fun a1 (e1 : _ = some d) => .op e1 (.ixI rs3 (by omega) (by simp) fun a2 (e2 : _ = some c) => .op e2 (.ixI rs3 (by omega) (by simp) fun a3 (e3 : _ = some k) => .op e3 (.ixI rs3 (by omega) (by simp) fun a4 (e4 : _ = some z) => .op e4 ?_))))
    refine PO.addNew w3 (by decide) (n3 16 (by omega)) (by omega) (by rw [x3.nro]; omega) fun h4 N4 B4 => .addNil ?_
    refine PO.stZ B4 N4.wf rfl rfl fun h5 B5 u5 z5 w5 => ?_
    refine .addOld B5.ne (.addNil (PO.letTick w5 fun h7 x7 z7 w7 => ?_))
    simp only [encL, Z.enc] at B5
    have xx3 : EX h h3 := (x0.trans x1).trans x3
    have xx5 : EX h h5 := u5.ex0 (N4.ex0 xx3 (by omega)) (fun A hA e => by omega)
    have C5 : Box h5 h.size (hdL hd0) := Box.ku u5 (by omega) (NW.kb N4 (Box.kx x3 B1))
    have t5 : RdB h5 t rest := Rd.old u5 rt (by omega) (NW.kr N4 (Rd.kx x3 rt))
    have B7 := Box.kx x7 B5
    have C7 := Box.kx x7 C5
    have t7 := t5.ex x7
    refine .ldZ5 B7 (PO.call (Right_f w7 _) fun a h8 ⟨e, x8⟩ => ?_)
    subst e
    have B8 := Box.kx x8 B7
    have C8 := Box.kx x8 C7
    have hz8 := (x7.trans x8).size
    have hv : readV l = if HR (i, d, c, k, z) ∧ (rest.length : Int) = hto (i, d, c, k, z) - hfrom (i, d, c, k, z) then ((i, d, c, k, z), rest, 0) else (hd0, [], 2) := by unfold readV; rw [hk]; rfl
    have t8 := RdB.ex x8 t7
    have xx8 : EX h h8 := (xx5.trans x7).trans x8
    refine .condND (fun hn => ?_) (fun hR => ?_)
    · refine PO.stZ C8 x8.wf rfl rfl fun h9 B9 u9 z9 w9 => ?_
      simp only [encL, Z.enc] at B9
      refine .ldZ5 B9 (.ret ?_)
      show _ ∧ _ ∧ _ ∧ _
      rw [hv, if_neg (fun h => hn h.1)]
      exact ⟨rfl, rfl, rd_nil 1 h9, u9.ex0 xx8 (fun A hA e => by omega)⟩
    · have hR' : HR (i, d, c, k, z) := hR
      have hb := hR'.b
      refine .ldZ5 B8 (PO.call (bounds_f x8.wf hR') fun a h10 ⟨e, x10⟩ => ?_)
      subst e
      have C10 := Box.kx x10 C8
      have t10 := RdB.ex x10 t8
      have B10 := Box.kx x10 B8
      have xx10 := xx8.trans x10
      have hlen := RdB.len t10
      simp only at C10 t10 B10 xx10 ⊢
      rw [w64 (n := hto (i, d, c, k, z) - hfrom (i, d, c, k, z)) (by omega) (by omega)]
      refine .condNE (fun hne => ?_) (fun heq => ?_)
      · refine PO.stZ C10 x10.wf rfl rfl fun h9 B9 u9 z9 w9 => ?_
        simp only [encL, Z.enc] at B9
        refine .ldZ5 B9 (.ret ?_)
        show _ ∧ _ ∧ _ ∧ _
        rw [hv, if_neg (fun h => hne (by rw [hlen]; exact h.2))]
        exact ⟨rfl, rfl, rd_nil 1 h9, u9.ex0 xx10 (fun A hA e => by omega)⟩
      · refine .ldZ5 B10 (PO.stZ C10 x10.wf rfl rfl fun h9 B9 u9 z9 w9 => ?_)
        simp only [encL, Z.enc] at B9
        refine .ldZ5 B9 (.ret ?_)
        show _ ∧ _ ∧ _ ∧ _
        rw [hv, if_pos ⟨hR', by rw [← hlen]; exact heq⟩]
        refine ⟨rfl, rfl, ?_, u9.ex0 xx10 (fun A hA e => by omega)⟩
        exact RdB.kbox x10.wf C10 u9 (by simp [hd0]) t10
end Go.Proofs.Ythiccnmplgdheaa.T
