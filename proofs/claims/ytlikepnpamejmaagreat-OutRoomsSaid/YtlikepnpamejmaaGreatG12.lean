/- Lemmas about the typed texts (joined: SSeal3 SSeal4 SSeal5). -/
import Derived.Test.YtlikepnpamejmaaGreatG11
/- Chapter 4's functions over the typed texts: a tag's bytes; Grow, Concat, Equal; closing and opening. -/
set_option linter.unusedVariables false
set_option linter.unusedSimpArgs false
namespace Go.Abs
open Go
theorem DSI_e (e : TypeId) (j : TyI) : (DSI e j).ty.get e = some j := by
  unfold DSI; rw [Tr.get_set, if_neg (by omega), Tr.get_set, if_neg (by omega), Tr.get_set, if_pos rfl]
theorem DSI_s (e : TypeId) (j : TyI) : (DSI e j).ty.get (e + 1) = some ⟨1, 24, .slice none 0 0, .slice e, false⟩ := by
  unfold DSI; rw [Tr.get_set, if_neg (by omega), Tr.get_set, if_pos rfl]
theorem DSI_t (e : TypeId) (j : TyI) : (DSI e j).ty.get (e + 2) = some ⟨1, 8, .int .i64 0, .int .i64, false⟩ := by
  unfold DSI; rw [Tr.get_set, if_pos rfl]
theorem zeros8 (k : Nat) : zeros (.int .u8 0) k = vB (List.replicate k 0) := by
  unfold zeros vB
  have : (Value.int .u8 0).cells.toList = [Value.int .u8 0] := rfl
  rw [this, List.map_replicate]
  induction k with
  | zero => rfl
  | succ k ih => rw [List.replicate_succ, List.flatten_cons, ih, List.replicate_succ]; rfl
/-- so many zeros behind nothing -/
theorem appNT_nil {e : Nat} {h : H} {n : Nat} (hn : 0 < n) (hb : n ≤ 2 ^ 47) : appNT e 1 1 (.int .u8 0) h ⟨none, 0, 0⟩ (n : Int) = some (⟨some ⟨h.size, 0, some 0⟩, n, UNK 1⟩, newAt (grow h 1) h.size (row e (vB (List.replicate n 0)))) := by
  have key : appA (DSI e (tyS 1 1 (.int .u8 0))) h #[e + 1, e + 2] (encSl ⟨none, 0, 0⟩) (.int .i64 (n : Int)) = some (.new (row e (vB (List.replicate n 0))) fun A => .slice (some ⟨A, 0, some 0⟩) n (UNK 1)) := by
    unfold appA
    rw [show (#[e + 1, e + 2] : Array TypeId)[0]? = some (e + 1) from rfl, show (#[e + 1, e + 2] : Array TypeId)[1]? = some (e + 2) from rfl]
    have he : elemOf (DSI e (tyS 1 1 (.int .u8 0))) (e + 1) = some (e, tyS 1 1 (.int .u8 0)) := by
      unfold elemOf; rw [DSI_s]; simp [DSI_e]
    simp only [he, DSI_t]
    have c : (decide ((0 : Int) ≤ (n : Int)) && decide ((n : Int) < 2 ^ 62) && decide ((n : Int) * ((tyS 1 1 (.int .u8 0)).bytes : Nat) ≤ 2 ^ 47) && (tyS 1 1 (.int .u8 0)).zero.cells.toList.all oneC) = true := by
      have e1 : (n : Int) * ((tyS 1 1 (.int .u8 0)).bytes : Nat) ≤ 2 ^ 47 := by
        show (n : Int) * ((1 : Nat) : Int) ≤ 2 ^ 47
        omega
      rw [decide_eq_true (show (0 : Int) ≤ (n : Int) by omega), decide_eq_true (show (n : Int) < 2 ^ 62 by omega), decide_eq_true e1]; rfl
    simp only [c, cond_true, Int.toNat_natCast]
    unfold appR encSl
    have hbb : (((0 + n) * (tyS 1 1 (.int .u8 0)).bytes).ble (2 ^ 47) && (0 + n).ble (2 ^ 62)) = true := by
      simp only [Bool.and_eq_true, Nat.ble_eq, tyS]; omega
    simp only [nbeq_f (show ¬ n = 0 by omega), cond_false, hbb, Bool.not_true, show Nat.beq 0 0 = true from rfl, Bool.and_self, cond_true]
    rw [show (tyS 1 1 (.int .u8 0)).zero = .int .u8 0 from rfl, zeros8]
    rfl
  unfold appNT
  rw [key]; rfl
theorem capT_nil : capT ⟨none, 0, 0⟩ = some 0 := rfl
end Go.Abs
namespace Go.Proofs.YtlikepnpamejmaaGreat.T
open Go Go.Abs Go.Proofs
def cat : List (List UInt8) → List UInt8
  | [] => []
  | l :: ls => l ++ cat ls
end Go.Proofs.YtlikepnpamejmaaGreat.T
/- Chapter 4's functions over the typed texts: a tag's bytes, equality, closing and opening, the chapter's example. -/
set_option linter.unusedVariables false
set_option linter.unusedSimpArgs false
namespace Go.Proofs.YtlikepnpamejmaaGreat.T
open Go Go.Abs Go.Proofs
theorem byte_at64 {x : Int} (h0 : 0 ≤ x) (m : Nat) (hm : m < 8) : ∃ y, shrT .u64 x .i64 (8 * (m : Int)) = some y ∧ IntKind.wrap .u8 y = ((UInt8.ofNat (x.toNat / 256 ^ m)).toNat : Int) := by
  refine ⟨_, shrT_ok _ _ _ (by omega), ?_⟩
  have e1 : min (8 * (m : Int)).toNat IntKind.u64.bits = 8 * m := by
    have : IntKind.u64.bits = 64 := rfl
    omega
  rw [e1, wu8_mod]
  have e2 : (2 : Int) ^ (8 * m) = ((256 ^ m : Nat) : Int) := by
    rw [show (256 : Nat) = 2 ^ 8 from rfl, ← Nat.pow_mul, Int.natCast_pow]; rfl
  rw [e2, fdiv_pos _ (Int.natCast_nonneg _), UInt8.toNat_ofNat']
  obtain ⟨n, rfl⟩ : ∃ n : Nat, x = n := ⟨x.toNat, (Int.toNat_of_nonneg h0).symm⟩
  rw [Int.toNat_natCast, ← Int.natCast_ediv]
  exact (Int.natCast_emod _ 256).symm
def tagL (key num : Int) (head masked : List UInt8) : List UInt8 := be 8 (tagV (stepV key num) [head, masked]).toNat
theorem tagL_length (key num : Int) (head masked : List UInt8) : (tagL key num head masked).length = 8 := be_length _ _
/-- a new row of slices -/
theorem newS {h : H} (w : WF h) (xs : List Sl) (hx : xs.length < B63) : EX h (newAt (grow h 1) h.size (row 27 (xs.map encSl))) ∧ RdS (newAt (grow h 1) h.size (row 27 (xs.map encSl))) ⟨some ⟨h.size, 0, some 0⟩, xs.length, xs.length⟩ xs :=
  ⟨wf_new w 27 _, rd_new 27 1 _ _ _ (by simp) (by unfold CapOK; rw [capK_exact hx]; exact Nat.le_refl _)⟩
def closeV (key num : Int) (head body : List UInt8) : List UInt8 := mk (stepV key num) 0 body ++ tagL key num head (mk (stepV key num) 0 body)
theorem closeV_length (key num : Int) (head body : List UInt8) : (closeV key num head body).length = body.length + 8 := by
  unfold closeV; rw [List.length_append, mk_length, tagL_length]
def openV (key num : Int) (head l : List UInt8) : Option (List UInt8) :=
  if l.length < 8 then none else if tagL key num head (l.take (l.length - 8)) = l.drop (l.length - 8) then some (mk (stepV key num) 0 (l.take (l.length - 8))) else none
end Go.Proofs.YtlikepnpamejmaaGreat.T
/- Chapter 4: what is closed is opened; steps are one to one; the chapter's example. -/
set_option linter.unusedVariables false
set_option linter.unusedSimpArgs false
namespace Go.Abs
open Go
theorem bbT_ok {h : H} {s : Sl} {l : List UInt8} (hs : BufB h s l) (w : WF h) (hl : 0 < l.length) (hc : s.cap = l.length) (hl2 : l.length < B63) : bbT h s = some (s, h) := by
  rcases hs.tip with ht | ⟨a, r, e, ha, hobj, hsp, hver, hnro, hoff, hcap⟩
  · have := (Rd.nil hs.rd ht).1; rw [hs.rd.len] at this; omega
  obtain ⟨b, n, c⟩ := s
  simp only at ha hc
  subst ha hc
  have key : convA (DSE 0 tyB) h 1 1 (encSl ⟨some a, n, l.length⟩) = some (.val (.slice (some a) n l.length) h) := by
    unfold convA encSl
    simp only [show (DSE 0 tyB).ty.get 1 = some ⟨1, 24, .slice none 0 0, .slice 0, false⟩ from DSE_s 0 _, DSE_e, show tyB.desc = .int .u8 from rfl, capK_exact hl2, hobj]
    have : (Nat.beq 1 1 && Nat.blt 0 l.length && h.nro.ble a.block) = true := by
      simp only [Bool.and_eq_true, Nat.ble_eq, Nat.blt_eq]; exact ⟨⟨rfl, hl⟩, hnro⟩
    rw [this]; rfl
  unfold bbT
  rw [key]; rfl
end Go.Abs
namespace Go.Proofs.YtlikepnpamejmaaGreat.T
open Go Go.Abs Go.Proofs
theorem mk_mk (h0 : Int) : ∀ (l : List UInt8) (i : Nat), mk h0 i (mk h0 i l) = l
  | [], _ => rfl
  | b :: t, i => by
    simp only [mk, mk_mk h0 t, UInt8.xor_assoc, UInt8.xor_self, UInt8.xor_zero]
theorem open_close (key num : Int) (head body : List UInt8) : openV key num head (closeV key num head body) = some body := by
  unfold openV
  have hl := closeV_length key num head body
  rw [hl, if_neg (by omega), Nat.add_sub_cancel]
  unfold closeV
  have hm := mk_length (stepV key num) body 0
  rw [List.take_append_of_le_length (by omega), List.take_of_length_le (by omega), List.drop_append_of_le_length (by omega), List.drop_of_length_le (by omega), List.nil_append, if_pos rfl, mk_mk]
/-! steps are one to one -/
theorem mul_inj {x y : BitVec 64} (h : x * 15485907386658061715#64 = y * 15485907386658061715#64) : x = y := by
  have e : 15485907386658061715#64 * 14982988110149298331#64 = 1#64 := by decide +kernel
  have : x * 15485907386658061715#64 * 14982988110149298331#64 = y * 15485907386658061715#64 * 14982988110149298331#64 := by rw [h]
  rwa [BitVec.mul_assoc, BitVec.mul_assoc, e, BitVec.mul_one, BitVec.mul_one] at this
theorem rot_nat (h : BitVec 64) : (h <<< 13 ||| h >>> 51).toNat = h.toNat % 2 ^ 51 * 2 ^ 13 + h.toNat / 2 ^ 51 := by
  have hl := h.isLt
  rw [BitVec.toNat_or, BitVec.toNat_shiftLeft, BitVec.toNat_ushiftRight, Nat.shiftRight_eq_div_pow, Nat.shiftLeft_eq]
  have e : h.toNat * 2 ^ 13 % 2 ^ 64 = (h.toNat % 2 ^ 51) * 2 ^ 13 := by omega
  rw [e]
  have := Nat.shiftLeft_add_eq_or_of_lt (show h.toNat / 2 ^ 51 < 2 ^ 13 by omega) (h.toNat % 2 ^ 51)
  rw [Nat.shiftLeft_eq] at this
  exact this.symm
theorem rot_inj {x y : BitVec 64} (h : (x <<< 13 ||| x >>> 51) = (y <<< 13 ||| y >>> 51)) : x = y := by
  have hx := rot_nat x
  have hy := rot_nat y
  rw [h, hy] at hx
  apply BitVec.eq_of_toNat_eq
  have lx := x.isLt
  have ly := y.isLt
  have dx := Nat.div_add_mod x.toNat (2 ^ 51)
  have dy := Nat.div_add_mod y.toNat (2 ^ 51)
  have ax : x.toNat / 2 ^ 51 < 8192 := by omega
  have ay : y.toNat / 2 ^ 51 < 8192 := by omega
  rw [← dx, ← dy]
  generalize x.toNat / 2 ^ 51 = a at *
  generalize y.toNat / 2 ^ 51 = b at *
  generalize x.toNat % 2 ^ 51 = c at *
  generalize y.toNat % 2 ^ 51 = d at *
  have : a = b ∧ c = d := by omega
  rw [this.1, this.2]
theorem xor_inj_l {a b c : BitVec 64} (h : a ^^^ c = b ^^^ c) : a = b := by
  have : a ^^^ c ^^^ c = b ^^^ c ^^^ c := by rw [h]
  rwa [BitVec.xor_assoc, BitVec.xor_assoc, BitVec.xor_self, BitVec.xor_zero, BitVec.xor_zero] at this
theorem xor_inj_r {a b c : BitVec 64} (h : c ^^^ a = c ^^^ b) : a = b := by
  rw [BitVec.xor_comm c a, BitVec.xor_comm c b] at h; exact xor_inj_l h
theorem ofInt_inj {x y : Int} (hx : U64 x) (hy : U64 y) (h : BitVec.ofInt 64 x = BitVec.ofInt 64 y) : x = y := by
  have := congrArg BitVec.toNat h
  simp only [BitVec.toNat_ofInt] at this
  unfold U64 at hx hy
  omega
theorem toNat_inj {x y : BitVec 64} (h : ((x.toNat : Nat) : Int) = (y.toNat : Int)) : x = y := BitVec.eq_of_toNat_eq (by omega)
theorem stepV_inj_l {g h c : Int} (hg : U64 g) (hh : U64 h) (e : stepV g c = stepV h c) : g = h := by
  have := toNat_inj e
  unfold stepB at this
  exact ofInt_inj hg hh (rot_inj (xor_inj_l (mul_inj this)))
theorem stepV_inj_b {g c d : Int} (e : stepV g c = stepV g d) : BitVec.ofInt 64 c = BitVec.ofInt 64 d := by
  have := toNat_inj e
  unfold stepB at this
  exact xor_inj_r (mul_inj this)
theorem stepV_inj_r {g c d : Int} (hc : U64 c) (hd : U64 d) (e : stepV g c = stepV g d) : c = d := ofInt_inj hc hd (stepV_inj_b e)
theorem bytesTag_inj : ∀ (l : List UInt8) {a b : Int}, U64 a → U64 b → bytesTag a l = bytesTag b l → a = b
  | [], a, b, _, _, e => e
  | c :: l, a, b, ha, hb, e => stepV_inj_l ha hb (bytesTag_inj l (stepV_rng a c.toNat) (stepV_rng b c.toNat) e)
theorem partTag_inj (l : List UInt8) {a b : Int} (ha : U64 a) (hb : U64 b) (e : partTag a l = partTag b l) : a = b :=
  bytesTag_inj l ha hb (stepV_inj_l (bytesTag_rng l a ha) (bytesTag_rng l b hb) e)
theorem tagV_inj : ∀ (ls : List (List UInt8)) {a b : Int}, U64 a → U64 b → tagV a ls = tagV b ls → a = b
  | [], a, b, _, _, e => e
  | l :: ls, a, b, ha, hb, e => partTag_inj l ha hb (tagV_inj ls (stepV_rng _ _) (stepV_rng _ _) e)
theorem be_inj : ∀ (m x y : Nat), x < 256 ^ m → y < 256 ^ m → be m x = be m y → x = y
  | 0, x, y, hx, hy, _ => by simp at hx hy; omega
  | m + 1, x, y, hx, hy, e => by
    have hbx := val_be (m + 1) x
    have hby := val_be (m + 1) y
    rw [Nat.div_eq_of_lt hx] at hbx
    rw [Nat.div_eq_of_lt hy] at hby
    rw [← hbx, ← hby, e]
theorem tagL_inj {k1 k2 n1 n2 : Int} {h1 h2 m1 m2 : List UInt8} (e : tagL k1 n1 h1 m1 = tagL k2 n2 h2 m2) : tagV (stepV k1 n1) [h1, m1] = tagV (stepV k2 n2) [h2, m2] := by
  have r1 := tagV_rng [h1, m1] _ (stepV_rng k1 n1)
  have r2 := tagV_rng [h2, m2] _ (stepV_rng k2 n2)
  have p : (256 : Nat) ^ 8 = 18446744073709551616 := by decide
  unfold U64 at r1 r2
  have := be_inj 8 _ _ (by rw [p]; omega) (by rw [p]; omega) e
  omega
/-! the chapter's example -/
end Go.Proofs.YtlikepnpamejmaaGreat.T
