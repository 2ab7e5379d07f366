/- Chapter 4: what is closed is opened; steps are one to one; the chapter's example. -/
import Derived.Test.YtejdeibmhlcnbaaSSeal4
set_option linter.unusedVariables false
set_option linter.unusedSimpArgs false
namespace Go.Abs
open Go
theorem bbT_ok {h : H} {s : Sl} {l : List UInt8} (hs : BufB h s l) (w : WF h) (hl : 0 < l.length) (hc : s.cap = l.length) (hl2 : l.length < B63) : bbT h s = some (s, h) := by
  rcases hs.tip with ht | ⟨a, r, e, ha, hobj, hsp, hver, hnro, hoff, hcap⟩
  · have := (Rd.nil hs.rd ht).1; rw [hs.rd.len] at this; omega
  obtain ⟨b, n, c⟩ := s
  simp only at ha hc
  subst ha hc
  have key : convA (DSE 0 tyB) h 1 1 (encSl ⟨some a, n, l.length⟩) = some (.val (.slice (some a) n l.length) h) := by
    unfold convA encSl
    simp only [show (DSE 0 tyB).ty.get 1 = some ⟨1, 24, .slice none 0 0, .slice 0, false⟩ from DSE_s 0 _, DSE_e, show tyB.desc = .int .u8 from rfl, capK_exact hl2, hobj]
    have : (Nat.beq 1 1 && Nat.blt 0 l.length && h.nro.ble a.block) = true := by
      simp only [Bool.and_eq_true, Nat.ble_eq, Nat.blt_eq]; exact ⟨⟨rfl, hl⟩, hnro⟩
    rw [this]; rfl
  unfold bbT
  rw [key]; rfl
end Go.Abs
namespace Go.Proofs.Ytejdeibmhlcnbaa.T
open Go Go.Abs Go.Proofs
theorem mk_mk (h0 : Int) : ∀ (l : List UInt8) (i : Nat), mk h0 i (mk h0 i l) = l
  | [], _ => rfl
  | b :: t, i => by
    simp only [mk, mk_mk h0 t, UInt8.xor_assoc, UInt8.xor_self, UInt8.xor_zero]
theorem open_close (key num : Int) (head body : List UInt8) : openV key num head (closeV key num head body) = some body := by
  unfold openV
  have hl := closeV_length key num head body
  rw [hl, if_neg (by omega), Nat.add_sub_cancel]
  unfold closeV
  have hm := mk_length (stepV key num) body 0
  rw [List.take_append_of_le_length (by omega), List.take_of_length_le (by omega), List.drop_append_of_le_length (by omega), List.drop_of_length_le (by omega), List.nil_append, if_pos rfl, mk_mk]
/-! steps are one to one -/
theorem mul_inj {x y : BitVec 64} (h : x * 15485907386658061715#64 = y * 15485907386658061715#64) : x = y := by
  have e : 15485907386658061715#64 * 14982988110149298331#64 = 1#64 := by decide +kernel
  have : x * 15485907386658061715#64 * 14982988110149298331#64 = y * 15485907386658061715#64 * 14982988110149298331#64 := by rw [h]
  rwa [BitVec.mul_assoc, BitVec.mul_assoc, e, BitVec.mul_one, BitVec.mul_one] at this
theorem rot_nat (h : BitVec 64) : (h <<< 13 ||| h >>> 51).toNat = h.toNat % 2 ^ 51 * 2 ^ 13 + h.toNat / 2 ^ 51 := by
  have hl := h.isLt
  rw [BitVec.toNat_or, BitVec.toNat_shiftLeft, BitVec.toNat_ushiftRight, Nat.shiftRight_eq_div_pow, Nat.shiftLeft_eq]
  have e : h.toNat * 2 ^ 13 % 2 ^ 64 = (h.toNat % 2 ^ 51) * 2 ^ 13 := by omega
  rw [e]
  have := Nat.shiftLeft_add_eq_or_of_lt (show h.toNat / 2 ^ 51 < 2 ^ 13 by omega) (h.toNat % 2 ^ 51)
  rw [Nat.shiftLeft_eq] at this
  exact this.symm
theorem rot_inj {x y : BitVec 64} (h : (x <<< 13 ||| x >>> 51) = (y <<< 13 ||| y >>> 51)) : x = y := by
  have hx := rot_nat x
  have hy := rot_nat y
  rw [h, hy] at hx
  apply BitVec.eq_of_toNat_eq
  have lx := x.isLt
  have ly := y.isLt
  have dx := Nat.div_add_mod x.toNat (2 ^ 51)
  have dy := Nat.div_add_mod y.toNat (2 ^ 51)
  have ax : x.toNat / 2 ^ 51 < 8192 := by omega
  have ay : y.toNat / 2 ^ 51 < 8192 := by omega
  rw [← dx, ← dy]
  generalize x.toNat / 2 ^ 51 = a at *
  generalize y.toNat / 2 ^ 51 = b at *
  generalize x.toNat % 2 ^ 51 = c at *
  generalize y.toNat % 2 ^ 51 = d at *
  have : a = b ∧ c = d := by omega
  rw [this.1, this.2]
theorem xor_inj_l {a b c : BitVec 64} (h : a ^^^ c = b ^^^ c) : a = b := by
  have : a ^^^ c ^^^ c = b ^^^ c ^^^ c := by rw [h]
  rwa [BitVec.xor_assoc, BitVec.xor_assoc, BitVec.xor_self, BitVec.xor_zero, BitVec.xor_zero] at this
theorem xor_inj_r {a b c : BitVec 64} (h : c ^^^ a = c ^^^ b) : a = b := by
  rw [BitVec.xor_comm c a, BitVec.xor_comm c b] at h; exact xor_inj_l h
theorem ofInt_inj {x y : Int} (hx : U64 x) (hy : U64 y) (h : BitVec.ofInt 64 x = BitVec.ofInt 64 y) : x = y := by
  have := congrArg BitVec.toNat h
  simp only [BitVec.toNat_ofInt] at this
  unfold U64 at hx hy
  omega
theorem toNat_inj {x y : BitVec 64} (h : ((x.toNat : Nat) : Int) = (y.toNat : Int)) : x = y := BitVec.eq_of_toNat_eq (by omega)
theorem stepV_inj_l {g h c : Int} (hg : U64 g) (hh : U64 h) (e : stepV g c = stepV h c) : g = h := by
  have := toNat_inj e
  unfold stepB at this
  exact ofInt_inj hg hh (rot_inj (xor_inj_l (mul_inj this)))
theorem stepV_inj_b {g c d : Int} (e : stepV g c = stepV g d) : BitVec.ofInt 64 c = BitVec.ofInt 64 d := by
  have := toNat_inj e
  unfold stepB at this
  exact xor_inj_r (mul_inj this)
theorem stepV_inj_r {g c d : Int} (hc : U64 c) (hd : U64 d) (e : stepV g c = stepV g d) : c = d := ofInt_inj hc hd (stepV_inj_b e)
theorem bytesTag_inj : ∀ (l : List UInt8) {a b : Int}, U64 a → U64 b → bytesTag a l = bytesTag b l → a = b
  | [], a, b, _, _, e => e
  | c :: l, a, b, ha, hb, e => stepV_inj_l ha hb (bytesTag_inj l (stepV_rng a c.toNat) (stepV_rng b c.toNat) e)
theorem partTag_inj (l : List UInt8) {a b : Int} (ha : U64 a) (hb : U64 b) (e : partTag a l = partTag b l) : a = b :=
  bytesTag_inj l ha hb (stepV_inj_l (bytesTag_rng l a ha) (bytesTag_rng l b hb) e)
theorem tagV_inj : ∀ (ls : List (List UInt8)) {a b : Int}, U64 a → U64 b → tagV a ls = tagV b ls → a = b
  | [], a, b, _, _, e => e
  | l :: ls, a, b, ha, hb, e => partTag_inj l ha hb (tagV_inj ls (stepV_rng _ _) (stepV_rng _ _) e)
theorem be_inj : ∀ (m x y : Nat), x < 256 ^ m → y < 256 ^ m → be m x = be m y → x = y
  | 0, x, y, hx, hy, _ => by simp at hx hy; omega
  | m + 1, x, y, hx, hy, e => by
    have hbx := val_be (m + 1) x
    have hby := val_be (m + 1) y
    rw [Nat.div_eq_of_lt hx] at hbx
    rw [Nat.div_eq_of_lt hy] at hby
    rw [← hbx, ← hby, e]
theorem tagL_inj {k1 k2 n1 n2 : Int} {h1 h2 m1 m2 : List UInt8} (e : tagL k1 n1 h1 m1 = tagL k2 n2 h2 m2) : tagV (stepV k1 n1) [h1, m1] = tagV (stepV k2 n2) [h2, m2] := by
  have r1 := tagV_rng [h1, m1] _ (stepV_rng k1 n1)
  have r2 := tagV_rng [h2, m2] _ (stepV_rng k2 n2)
  have p : (256 : Nat) ^ 8 = 18446744073709551616 := by decide
  unfold U64 at r1 r2
  have := be_inj 8 _ _ (by rw [p]; omega) (by rw [p]; omega) e
  omega
/-! the chapter's example -/
theorem known4_f {h : H} (w : WF h) : ∃ h', law4_known h = some (true, h') ∧ EX h h' := by
  unfold law4_known P.law4_known
  rw [newO_eq]
  have x1 := wf_new w 5 (vB [9])
  have b1 : BufB _ ⟨some ⟨h.size, 0, some 0⟩, 1, 1⟩ [9] := bufB_new w 5 [9] (by simp [B63])
  rw [show row 5 [Value.int .u8 9] = row 5 (vB [9]) from rfl]
  generalize newAt (grow h 1) h.size (row 5 (vB [9])) = h1 at x1 b1 ⊢
  generalize (⟨some ⟨h.size, 0, some 0⟩, 1, 1⟩ : Sl) = s1 at b1 ⊢
  rw [newO_eq]
  have x2 := wf_new x1.wf 5 (vB [97, 98])
  have b2 : BufB _ ⟨some ⟨h1.size, 0, some 0⟩, 2, 2⟩ [97, 98] := bufB_new x1.wf 5 [97, 98] (by simp [B63])
  rw [show row 5 [Value.int .u8 97, .int .u8 98] = row 5 (vB [97, 98]) from rfl]
  generalize newAt (grow h1 1) h1.size (row 5 (vB [97, 98])) = h2 at x2 b2 ⊢
  rw [bbT_ok b2 x2.wf (by simp) (by simp) (by simp [B63]), bind2_some]
  simp only
  generalize (⟨some ⟨h1.size, 0, some 0⟩, 2, 2⟩ : Sl) = s2 at b2 ⊢
  have k5 : U64 5 := by unfold U64; omega
  obtain ⟨s3, h3, room, e3, x3, b3, _⟩ := Close_f (num := 1) x2.wf (b1.rd.ex x2) b2.rd (by simp) (by simp) k5
  rw [e3, bind2_some]
  simp only
  rw [newO_eq]
  have x4 := wf_new x3.wf 5 (vB [9])
  have b4 : BufB _ ⟨some ⟨h3.size, 0, some 0⟩, 1, 1⟩ [9] := bufB_new x3.wf 5 [9] (by simp [B63])
  generalize newAt (grow h3 1) h3.size (row 5 (vB [9])) = h4 at x4 b4 ⊢
  generalize (⟨some ⟨h3.size, 0, some 0⟩, 1, 1⟩ : Sl) = s4 at b4 ⊢
  have r3 : RdB h3 s3 (closeV 5 1 [9] [97, 98]) := b3.rd
  have hcl := closeV_length 5 1 [9] [97, 98]
  obtain ⟨s5, h5, e5, x5, r5⟩ := Open_f (num := 1) x4.wf b4.rd (r3.ex x4) (by simp) (by rw [hcl]; simp) k5
  rw [open_close] at e5 r5
  rw [e5, bind2_some]
  simp only
  rw [Step_f 0 1 (by omega) (by omega), bind2_some, r3.len, hcl]
  simp only
  rw [show (stepV 0 1 == 15485907386658061715) = true by decide +kernel]
  simp only [condK_eq, if_true, Option.isSome_some, List.length_cons, List.length_nil, show ((((0 + 1 + 1 + 8 : Nat) : Nat) : Int) == 10) = true from rfl]
  rw [strT_ok r5, bind2_some]
  simp only [Option.getD_some]
  rw [show (⟨#[97, 98]⟩ : ByteArray) = bsOf [97, 98] from rfl, bs_eq]
  exact ⟨h5, by simp, (((x1.trans x2).trans x3).trans x4).trans x5⟩
end Go.Proofs.Ytejdeibmhlcnbaa.T
