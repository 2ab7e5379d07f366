/- Lemmas about the typed texts (joined: LPktK). -/
import Derived.Test.YthiccnmplgdheaaTxt
import Derived.Test.YthiccnmplgdheaaG19
/- The closed sentence PacketKnown over typed texts: chapter 6's example, sizes, each refusal. -/
set_option linter.unusedVariables false
set_option linter.unusedSimpArgs false
set_option maxRecDepth 1000000
namespace Go.Proofs.Ythiccnmplgdheaa.T
open Go Go.Abs Go.Proofs
theorem mkT_ok8 {h : H} {n : Nat} (hn : n ≤ 2 ^ 40) : Abs.mkT 5 1 1 (.int .u8 0) h (n : Int) (n : Int) = some (⟨some ⟨h.size, 0, some 0⟩, n, n⟩, newAt (grow h 1) h.size (row 5 (vB (List.replicate n 0)))) := by
  have he : Abs.elemOf (DSE 5 (tyS 1 1 (.int .u8 0))) (5 + 1) = some (5, tyS 1 1 (.int .u8 0)) := by
    unfold Abs.elemOf
    rw [DSE_s 5 _]
    simp only [DSE_e]; rfl
  have hb : (decide ((0 : Int) ≤ (n : Int)) && decide ((n : Int) ≤ (n : Int)) && decide ((n : Int) * (((tyS 1 1 (.int .u8 0)).bytes : Nat) + 1 : Int) ≤ 2 ^ 46)) = true := by
    rw [show (((tyS 1 1 (.int .u8 0)).bytes : Nat) : Int) = 1 from rfl]
    simp; omega
  have hm : mkSl (DSE 5 (tyS 1 1 (.int .u8 0))) (5 + 1) (.int .i64 (n : Int)) (.int .i64 (n : Int)) = some (.new (row 5 (zeros (.int .u8 0) (n : Int).toNat)) fun A => .slice (some ⟨A, 0, some 0⟩) (n : Int).toNat (n : Int).toNat) := by
    unfold mkSl
    rw [he]
    show (bif _ then _ else _) = _
    rw [hb]; rfl
  unfold Abs.mkT
  rw [hm, zeros8, Int.toNat_natCast]
  rfl
def kvL : FV := ⟨9, 0, 0, 0, 0, 0, false, List.replicate 112 0, []⟩
def kvZ : FV := ⟨0, 0, 0, 0, 0, 0, false, [], []⟩
theorem rf1 {h : H} {b : Nat} {x : F9} {v : FV} (w : WF h) (B : Box h b (f9L x)) (f : FRd h x v) : RdF h ⟨some ⟨b, 0, some 0⟩, 1, 1⟩ [x] [v] := ⟨B.rd w rfl (capOk_self _ _ (by unfold B63; omega)), f, trivial⟩
theorem frd_z {h : H} (k : Int) : FRd h (k, 0, 0, 0, 0, 0, false, ⟨none, 0, 0⟩, ⟨none, 0, 0⟩) ⟨k, 0, 0, 0, 0, 0, false, [], []⟩ := ⟨⟨rfl, rfl, rfl, rfl, rfl, rfl, rfl⟩, rdB_nil _, rdR_nil _⟩
end Go.Proofs.Ythiccnmplgdheaa.T
