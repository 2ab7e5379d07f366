/- Laws of memory for the typed texts: append, indexing, slicing, stores, strings. -/
import Derived.Test.YthiccnmplgdheaaS1
set_option linter.unusedVariables false
set_option linter.unusedSimpArgs false
namespace Go.Abs
open Go
theorem DSE_e (e : TypeId) (j : TyI) : (DSE e j).ty.get e = some j := by
  unfold DSE; rw [Tr.get_set, if_neg (by omega), Tr.get_set, if_neg (by omega), Tr.get_set, if_pos rfl]
theorem DSE_s (e : TypeId) (j : TyI) : (DSE e j).ty.get (e + 1) = some ⟨1, 24, .slice none 0 0, .slice e, false⟩ := by
  unfold DSE; rw [Tr.get_set, if_neg (by omega), Tr.get_set, if_pos rfl]
theorem DSE_t (e : TypeId) (j : TyI) : (DSE e j).ty.get (e + 2) = some ⟨1, 16, .string .empty, .string, false⟩ := by
  unfold DSE; rw [Tr.get_set, if_pos rfl]
theorem elem_DSE (e : TypeId) (j : TyI) : elemOf (DSE e j) (e + 1) = some (e, j) := by
  unfold elemOf; rw [DSE_s]; simp [DSE_e]
theorem appT_ok {e sz bytes : Nat} (hz : 0 < sz) (hz2 : sz < B63) {h : H} {s x : Sl} {l m : List Value} (w : WF h) (hs : Buf sz h s l) (hx : Rd sz h x m) (ho : m.all oneC = true) (hb : (s.len + x.len) * bytes ≤ 2 ^ 47) (hb2 : s.len + x.len ≤ 2 ^ 62) :
    ∃ s' h', appT e sz bytes h s x = some (s', h') ∧ KP h h' ∧ (∀ h0, EX h0 h → Fr h0.size s → EX h0 h') ∧ Buf sz h' s' (l ++ m) ∧ s'.len = s.len + x.len ∧ ∀ n, n ≤ h.size → Fr n s → Fr n s' := by
  obtain ⟨s', h', h1, h2, h2', h3, h4, h5⟩ := appR_buf (e := e) hz hz2 w hs hx.len hb hb2 .nilFunc
  refine ⟨s', h', ?_, h2, h2', h3, h4, ?_⟩
  · have hA : appA (DSE e (tyS sz bytes .nilFunc)) h #[e + 1, e + 1] (encSl s) (encSl x) = appR h e (tyS sz bytes .nilFunc) (encSl s) m x.len := by
      have hf := hx.first
      unfold appA
      rw [show (#[e + 1, e + 1] : Array TypeId)[0]? = some (e + 1) from rfl, show (#[e + 1, e + 1] : Array TypeId)[1]? = some (e + 1) from rfl]
      simp only [elem_DSE, DSE_s]
      unfold encSl at hf ⊢
      simp only [show (tyS sz bytes .nilFunc).size = sz from rfl, hf, ho, cond_true]
    unfold appT
    rw [hA]
    exact h1
  · intro n hn hf a ha
    rcases h5 with ⟨_, rfl, _⟩ | ⟨a', ha', h6⟩
    · exact hf a ha
    · rw [ha'] at ha; cases ha
      rcases h6 with h6 | ⟨b, hb1, hb2⟩
      · omega
      · have := hf b hb1; omega
/-! indexing -/
theorem idx_in {n : Nat} {i : Int} (k : IntKind) (h0 : 0 ≤ i) (h1 : i < n) : idx n (.int k i) = some i.toNat := by
  unfold idx; simp [h0, h1]
theorem ixT_ok {sz : Nat} {h : H} {s : Sl} {l : List Value} (r : Rd sz h s l) {i : Int} (h0 : 0 ≤ i) (h1 : i < s.len) : ∃ a, s.base = some a ∧ ixT sz s i = some (add a (i.toNat * sz)) := by
  obtain ⟨b, n, c⟩ := s
  cases b with
  | none => have := (r.nil rfl).1; simp only at this h1; omega
  | some a =>
    refine ⟨a, rfl, ?_⟩
    have hi : idxAddr (DSE 0 (tyS sz 0 .nilFunc)) 1 (encSl ⟨some a, n, c⟩) (.int .i64 i) = some (.pointer (some (add a (i.toNat * sz)))) := by
      have hd := idx_in .i64 h0 h1
      unfold idxAddr encSl
      simp only [show (DSE 0 (tyS sz 0 .nilFunc)).ty.get 1 = some ⟨1, 24, .slice none 0 0, .slice 0, false⟩ from DSE_s 0 _, DSE_e] at hd ⊢
      rw [hd]; rfl
    unfold ixT
    rw [hi]; rfl
theorem ldI_of {k : IntKind} {h : H} {a : Addr} {n : Int} (e : ldCell h a = some (.int k n)) : ldI k h a = some n := by
  unfold ldI; rw [e]; simp [decO, decV, decL, Z.dec, asInt]; rfl
theorem ldL_of {h : H} {a : Addr} {s : Sl} (e : ldCell h a = some (encSl s)) : ldL h a = some s := by
  unfold ldL; rw [e]; rfl
/-- whole numbers -/
def RdI (k : IntKind) (h : H) (s : Sl) (zs : List Int) : Prop := Rd 1 h s (zs.map (.int k))
theorem RdI.len {k : IntKind} {h : H} {s : Sl} {zs : List Int} (r : RdI k h s zs) : s.len = zs.length := by
  have := Rd.len r; simpa using this.symm
theorem RdI.at {k : IntKind} {h : H} {s : Sl} {zs : List Int} (r : RdI k h s zs) {i : Int} (h0 : 0 ≤ i) (h1 : i < zs.length) : ∃ a, s.base = some a ∧ ixT 1 s i = some (add a i.toNat) ∧ ldI k h (add a i.toNat) = some (zs.getD i.toNat 0) := by
  obtain ⟨a, ha, hi⟩ := ixT_ok r h0 (by rw [r.len]; exact h1)
  refine ⟨a, ha, by simpa using hi, ldI_of (Rd.ld r a ha i.toNat _ ?_).2⟩
  have : i.toNat < zs.length := by omega
  simp [List.getD, this]
/-- bytes -/
def vB (l : List UInt8) : List Value := l.map fun b => .int .u8 (b.toNat : Int)
def RdB (h : H) (s : Sl) (l : List UInt8) : Prop := Rd 1 h s (vB l)
def BufB (h : H) (s : Sl) (l : List UInt8) : Prop := Buf 1 h s (vB l)
theorem RdB.len {h : H} {s : Sl} {l : List UInt8} (r : RdB h s l) : s.len = l.length := by
  have := Rd.len r; simpa [vB] using this.symm
theorem RdB.mono {h h' : H} {s : Sl} {l : List UInt8} (r : RdB h s l) (x : KP h h') : RdB h' s l := Rd.mono r x
theorem RdB.ex {h h' : H} {s : Sl} {l : List UInt8} (x : EX h h') (r : RdB h s l) : RdB h' s l := Rd.ex x r
theorem BufB.ex {h h' : H} {s : Sl} {l : List UInt8} (w : WF h) (x : EX h h') (r : BufB h s l) : BufB h' s l := Buf.ex w x r
theorem RdB.at {h : H} {s : Sl} {l : List UInt8} (r : RdB h s l) {i : Int} (h0 : 0 ≤ i) (h1 : i < l.length) : ∃ a, s.base = some a ∧ ixT 1 s i = some (add a i.toNat) ∧ ldI .u8 h (add a i.toNat) = some ((l.getD i.toNat 0).toNat : Int) := by
  obtain ⟨a, ha, hi⟩ := ixT_ok r h0 (by rw [r.len]; exact h1)
  refine ⟨a, ha, by simpa using hi, ldI_of (Rd.ld r a ha i.toNat _ ?_).2⟩
  have : i.toNat < l.length := by omega
  simp [vB, List.getD, this]
theorem oneC_vB (l : List UInt8) : (vB l).all oneC = true := by
  simp [vB, oneC]
theorem oneC_ints (k : IntKind) (l : List Int) : (l.map (Value.int k)).all oneC = true := by
  simp [oneC]
theorem BufB.rd {h : H} {s : Sl} {l : List UInt8} (r : BufB h s l) : RdB h s l := Buf.rd r
theorem vB_append (a b : List UInt8) : vB (a ++ b) = vB a ++ vB b := by simp [vB]
theorem appB_ok {e : Nat} {h : H} {s x : Sl} {l m : List UInt8} (w : WF h) (hs : BufB h s l) (hx : RdB h x m) (hb : l.length + m.length ≤ 2 ^ 47) :
    ∃ s' h', appT e 1 1 h s x = some (s', h') ∧ KP h h' ∧ (∀ h0, EX h0 h → Fr h0.size s → EX h0 h') ∧ BufB h' s' (l ++ m) ∧ s'.len = s.len + x.len ∧ ∀ n, n ≤ h.size → Fr n s → Fr n s' := by
  have h1 := hs.rd.len; have h2 := hx.len
  obtain ⟨s', h', a, b, b', c, d, f⟩ := appT_ok (e := e) (bytes := 1) (by omega) (by unfold B63; omega) w hs hx (oneC_vB m) (by omega) (by omega)
  exact ⟨s', h', a, b, b', by unfold BufB; rw [vB_append]; exact c, d, f⟩
/-! slicing -/
theorem bnd_int {y : Nat} {i : Int} {k : IntKind} (h0 : 0 ≤ i) (h1 : i ≤ y) : bnd y (.int k i) = some i.toNat := by
  unfold bnd; simp [h0, h1]
theorem bndO_none (y d : Nat) : bndO y d none = some d := rfl
theorem bndO_int {y d : Nat} {i : Int} {k : IntKind} (h0 : 0 ≤ i) (h1 : i ≤ y) : bndO y d (some (.int k i)) = some i.toNat := by
  unfold bndO bnd; simp [h0, h1]
theorem capLow_ge (h : H) (a : Addr) {sz len cap : Nat} (hc : CapOK sz len cap) : len ≤ capLow h a len sz (capK cap) := by
  unfold CapOK at hc
  cases hk : capK cap with
  | exact k => rw [hk] at hc; exact hc
  | unk z =>
    unfold capLow
    simp only
    split
    · rw [cond_eq_ite]; split
      · exact Nat.le_max_left _ _
      · exact Nat.le_refl _
    · exact Nat.le_refl _
  | unk0 z => exact Nat.le_refl _
  | any => exact Nat.le_refl _
theorem ld_shift {sz : Nat} {h : H} {s : Sl} {l : List Value} (r : Rd sz h s l) {a : Addr} (ha : s.base = some a) (lo n : Nat) : ∀ i v, ((l.drop (lo * sz)).take (n * sz))[i]? = some v → a.block < h.size ∧ ldCell h (add (add a (lo * sz)) i) = some v := by
  intro i v hi
  rw [add_add]
  have hlt := (List.getElem?_eq_some_iff.1 hi).1
  simp at hlt
  rw [List.getElem?_take_of_lt (by omega), List.getElem?_drop] at hi
  exact r.ld a ha _ v hi
theorem slT_of {sz : Nat} {h : H} {s : Sl} {lo hi mx : Option Int} {b : Option Addr} {l c : Nat} (e : slA (DSE 0 (tyS sz 0 .nilFunc)) h 1 (encSl s) (lo.map (.int .i64)) (hi.map (.int .i64)) (mx.map (.int .i64)) = some (.slice b l c)) : slT sz h s lo hi mx = some ⟨b, l, c⟩ := by
  unfold slT; rw [e]; rfl
/-- the part of a slice: it hangs on the slice alone -/
def slV (sz : Nat) (s : Sl) (L N : Nat) : Sl := match s.base with
  | none => ⟨none, 0, 0⟩
  | some a => match capK s.cap with
    | .exact k => ⟨some (bif k.beq L then a else add a (L * sz)), N - L, k - L⟩
    | .unk z => bif L.beq 0 then ⟨some a, N, s.cap⟩ else bif N.beq L then ⟨some (add a (L * sz)), 0, UNK0 z⟩ else ⟨some (add a (L * sz)), N - L, s.cap⟩
    | .unk0 _ => ⟨some a, N, s.cap⟩
    | .any => ⟨some (add a (L * sz)), N - L, s.cap⟩
theorem slT_ok {sz : Nat} (hz : 0 < sz) (hz2 : sz < B63) {h : H} {s : Sl} {l : List Value} (r : Rd sz h s l) {lo hi : Option Int} {L N : Nat} (h1 : ∀ d, bndO N d (lo.map (.int .i64)) = some (if lo.isNone then d else L)) (h1' : lo.isNone = true → L = 0) (h2 : ∀ y, s.len ≤ y → bndO y s.len (hi.map (.int .i64)) = some N) (hLN : L ≤ N) (hN : N ≤ s.len) :
    ∃ s', slT sz h s lo hi none = some s' ∧ Rd sz h s' ((l.drop (L * sz)).take ((N - L) * sz)) ∧ s'.len = N - L ∧ s' = slV sz s L N ∧ ∀ n, Fr n s → Fr n s' := by
  obtain ⟨b, len, cap⟩ := s
  have hlo : bndO N 0 (lo.map (.int .i64)) = some L := by
    rw [h1 0]; split
    · rename_i hh; rw [h1' hh]
    · rfl
  have hll := r.len
  simp only at hll h2 hN
  have hlen : ((l.drop (L * sz)).take ((N - L) * sz)).length = (N - L) * sz := by
    have : N * sz ≤ len * sz := Nat.mul_le_mul_right _ hN
    have e : (N - L) * sz = N * sz - L * sz := Nat.sub_mul _ _ _
    have : L * sz ≤ N * sz := Nat.mul_le_mul_right _ hLN
    simp; omega
  suffices key : ∃ b' l' c', slA (DSE 0 (tyS sz 0 .nilFunc)) h 1 (encSl ⟨b, len, cap⟩) (lo.map (.int .i64)) (hi.map (.int .i64)) none = some (.slice b' l' c') ∧ Rd sz h ⟨b', l', c'⟩ ((l.drop (L * sz)).take ((N - L) * sz)) ∧ l' = N - L ∧ (⟨b', l', c'⟩ : Sl) = slV sz ⟨b, len, cap⟩ L N ∧ ∀ n, Fr n ⟨b, len, cap⟩ → Fr n ⟨b', l', c'⟩ by
    obtain ⟨b', l', c', k1, k2, k3, k5, k4⟩ := key
    exact ⟨_, slT_of k1, k2, k3, k5, k4⟩
  unfold slA encSl
  simp only [show (DSE 0 (tyS sz 0 .nilFunc)).ty.get 1 = some ⟨1, 24, .slice none 0 0, .slice 0, false⟩ from DSE_s 0 _, DSE_e]
  cases b with
  | none =>
    obtain ⟨e1, e2⟩ := r.nilOf rfl
    simp only [Sl.mk.injEq] at e2
    obtain ⟨_, rfl, rfl⟩ := e2
    subst e1
    obtain rfl : N = 0 := by omega
    obtain rfl : L = 0 := by omega
    have := h2 0 (Nat.le_refl _)
    simp only [bndO_none, this, hlo]
    refine ⟨none, 0, 0, rfl, by simpa using rd_nil sz h, rfl, rfl, fun n hf => by intro a ha; simp at ha⟩
  | some a =>
    have hcap := r.cap (by simp)
    simp only at hcap
    have hcl := capLow_ge h a hcap
    have e2 := h2 _ hcl
    simp only [DSE_e, show (tyS sz 0 .nilFunc).size = sz from rfl, e2, hlo]
    cases hk : capK cap with
    | exact k =>
      simp only
      have hck : len ≤ k := by unfold CapOK at hcap; rw [hk] at hcap; exact hcap
      have hk63 := capK_exact_lt hk
      have hkk : k - L < B63 := by omega
      refine ⟨_, _, _, rfl, ⟨hlen, fun x => by simp at x, ?_, fun _ => ?_⟩, rfl, by simp [slV, hk, *], ?_⟩
      · intro p hp i v hi
        simp only [Option.some.injEq] at hp
        subst hp
        obtain ⟨g1, g2⟩ := ld_shift r (a := a) rfl L (N - L) i v hi
        cases hkl : k.beq L with
        | false => exact ⟨g1, g2⟩
        | true =>
          have : k = L := Nat.eq_of_beq_eq_true hkl
          have hlt := (List.getElem?_eq_some_iff.1 hi).1
          rw [hlen, show N - L = 0 by omega] at hlt
          simp at hlt
      · unfold CapOK; rw [capK_exact hkk]; simp only; omega
      · intro n hf p hp
        simp only [Option.some.injEq] at hp
        subst hp
        have := hf a rfl
        cases k.beq L <;> exact this
    | unk z =>
      have hzz : z = sz := by unfold CapOK at hcap; rw [hk] at hcap; exact hcap
      subst hzz
      simp only
      cases hl0 : L.beq 0 with
      | true =>
        have : L = 0 := Nat.eq_of_beq_eq_true hl0
        subst this
        refine ⟨_, _, _, rfl, ⟨hlen, fun x => by simp at x, ?_, fun _ => ?_⟩, rfl, by simp [slV, hk, *], ?_⟩
        · intro p hp i v hi
          simp only [Option.some.injEq] at hp
          subst hp
          have := ld_shift r (a := a) rfl 0 (N - 0) i v hi
          simpa [addA_zero] using this
        · unfold CapOK; rw [hk]
        · intro n hf p hp; simp only [Option.some.injEq] at hp; subst hp; exact hf a rfl
      | false =>
        simp only [nbeq_t rfl, Bool.not_true, cond_false]
        cases hnl : N.beq L with
        | true =>
          have : N = L := Nat.eq_of_beq_eq_true hnl
          subst this
          refine ⟨some (add a (N * z)), 0, UNK0 z, rfl, ⟨by simp, fun x => by simp at x, ?_, fun _ => ?_⟩, by simp, by simp [slV, hk, *], ?_⟩
          · intro p hp i v hi; simp at hi
          · unfold CapOK; rw [capK_UNK0 _ hz2]; exact ⟨rfl, rfl⟩
          · intro n hf p hp; simp only [Option.some.injEq] at hp; subst hp; exact hf a rfl
        | false =>
          refine ⟨_, _, _, rfl, ⟨hlen, fun x => by simp at x, ?_, fun _ => ?_⟩, rfl, by simp [slV, hk, *], ?_⟩
          · intro p hp i v hi
            simp only [Option.some.injEq] at hp
            subst hp
            exact ld_shift r (a := a) rfl L (N - L) i v hi
          · unfold CapOK; rw [hk]
          · intro n hf p hp; simp only [Option.some.injEq] at hp; subst hp; exact hf a rfl
    | unk0 z =>
      have hzz : z = sz ∧ len = 0 := by unfold CapOK at hcap; rw [hk] at hcap; exact hcap
      obtain ⟨rfl, rfl⟩ := hzz
      obtain rfl : N = 0 := by omega
      obtain rfl : L = 0 := by omega
      simp only [show Nat.beq 0 0 = true from rfl, cond_true]
      refine ⟨_, _, _, rfl, ⟨hlen, fun x => by simp at x, ?_, fun _ => ?_⟩, rfl, by simp [slV, hk, *], ?_⟩
      · intro p hp i v hi; simp at hi
      · unfold CapOK; rw [hk]; exact ⟨rfl, rfl⟩
      · intro n hf p hp; simp only [Option.some.injEq] at hp; subst hp; exact hf a rfl
    | any =>
      simp only
      refine ⟨_, _, _, rfl, ⟨hlen, fun x => by simp at x, ?_, fun _ => ?_⟩, rfl, by simp [slV, hk, *], ?_⟩
      · intro p hp i v hi
        simp only [Option.some.injEq] at hp
        subst hp
        exact ld_shift r (a := a) rfl L (N - L) i v hi
      · unfold CapOK; rw [hk]; trivial
      · intro n hf p hp; simp only [Option.some.injEq] at hp; subst hp; exact hf a rfl
theorem sl_lohi {sz : Nat} (hz : 0 < sz) (hz2 : sz < B63) {h : H} {s : Sl} {l : List Value} (r : Rd sz h s l) {lo hi : Int} (h0 : 0 ≤ lo) (h1 : lo ≤ hi) (h2 : hi ≤ s.len) :
    ∃ s', slT sz h s (some lo) (some hi) none = some s' ∧ Rd sz h s' ((l.drop (lo.toNat * sz)).take ((hi.toNat - lo.toNat) * sz)) ∧ s'.len = hi.toNat - lo.toNat ∧ s' = slV sz s lo.toNat hi.toNat ∧ ∀ n, Fr n s → Fr n s' :=
  slT_ok hz hz2 r (fun d => by rw [Option.map_some, bndO_int h0 (by omega)]; rfl) (by simp) (fun y hy => by rw [Option.map_some, bndO_int (by omega) (by omega)]) (by omega) (by omega)
theorem sl_hi {sz : Nat} (hz : 0 < sz) (hz2 : sz < B63) {h : H} {s : Sl} {l : List Value} (r : Rd sz h s l) {hi : Int} (h1 : 0 ≤ hi) (h2 : hi ≤ s.len) :
    ∃ s', slT sz h s none (some hi) none = some s' ∧ Rd sz h s' (l.take (hi.toNat * sz)) ∧ s'.len = hi.toNat ∧ s' = slV sz s 0 hi.toNat ∧ ∀ n, Fr n s → Fr n s' := by
  have := slT_ok (lo := none) (hi := some hi) (L := 0) (N := hi.toNat) hz hz2 r (fun d => rfl) (fun _ => rfl) (fun y hy => by rw [Option.map_some, bndO_int (by omega) (by omega)]) (by omega) (by omega)
  simpa using this
theorem sl_lo {sz : Nat} (hz : 0 < sz) (hz2 : sz < B63) {h : H} {s : Sl} {l : List Value} (r : Rd sz h s l) {lo : Int} (h0 : 0 ≤ lo) (h1 : lo ≤ s.len) :
    ∃ s', slT sz h s (some lo) none none = some s' ∧ Rd sz h s' (l.drop (lo.toNat * sz)) ∧ s'.len = s.len - lo.toNat ∧ s' = slV sz s lo.toNat s.len ∧ ∀ n, Fr n s → Fr n s' := by
  have := slT_ok (lo := some lo) (hi := none) (L := lo.toNat) (N := s.len) hz hz2 r (fun d => by rw [Option.map_some, bndO_int h0 (by omega)]; rfl) (by simp) (fun y hy => rfl) (by omega) (by omega)
  have e : (l.drop (lo.toNat * sz)).take ((s.len - lo.toNat) * sz) = l.drop (lo.toNat * sz) := by
    apply List.take_of_length_le
    have := r.len
    have : (s.len - lo.toNat) * sz = s.len * sz - lo.toNat * sz := Nat.sub_mul _ _ _
    simp; omega
  rwa [e] at this
/-- Clip -/
theorem clip_ok {sz : Nat} (hz : 0 < sz) (hz2 : sz < B63) {h : H} {s : Sl} {l : List Value} (r : Rd sz h s l) (hl : s.len < B63) :
    ∃ s', slT sz h s none (some (s.len : Int)) (some (s.len : Int)) = some s' ∧ Rd sz h s' l ∧ s'.len = s.len ∧ (s.base = none → s'.base = none) ∧ ∀ n, Fr n s → Fr n s' := by
  obtain ⟨b, len, cap⟩ := s
  suffices key : ∃ b' l' c', slA (DSE 0 (tyS sz 0 .nilFunc)) h 1 (encSl ⟨b, len, cap⟩) none (some (.int .i64 (len : Int))) (some (.int .i64 (len : Int))) = some (.slice b' l' c') ∧ Rd sz h ⟨b', l', c'⟩ l ∧ l' = len ∧ (b = none → b' = none) ∧ ∀ n, Fr n ⟨b, len, cap⟩ → Fr n ⟨b', l', c'⟩ by
    obtain ⟨b', l', c', k1, k2, k3, k4, k5⟩ := key
    exact ⟨_, slT_of k1, k2, k3, k4, k5⟩
  unfold slA encSl
  simp only [show (DSE 0 (tyS sz 0 .nilFunc)).ty.get 1 = some ⟨1, 24, .slice none 0 0, .slice 0, false⟩ from DSE_s 0 _, DSE_e]
  cases b with
  | none =>
    obtain ⟨e1, e2⟩ := r.nilOf rfl
    simp only [Sl.mk.injEq] at e2
    obtain ⟨_, rfl, rfl⟩ := e2
    subst e1
    exact ⟨none, 0, 0, rfl, rd_nil sz h, rfl, fun _ => rfl, fun n hf a ha => by simp at ha⟩
  | some a =>
    have hcap := r.cap (by simp)
    simp only at hcap hl
    have hcl := capLow_ge h a hcap
    have b1 : bnd (capLow h a len sz (capK cap)) (.int .i64 (len : Int)) = some len := by
      have := bnd_int (y := capLow h a len sz (capK cap)) (i := (len : Int)) (k := .i64) (by omega) (by omega)
      simpa using this
    have b2 : bnd len (.int .i64 (len : Int)) = some len := by
      have := bnd_int (y := len) (i := (len : Int)) (k := .i64) (by omega) (by omega)
      simpa using this
    have u0 : (isUnk0 (capK cap) && !Nat.beq 0 0 || !len.blt B63) = false := by
      simp only [show Nat.beq 0 0 = true from rfl, Bool.not_true, Bool.and_false, Bool.false_or, Bool.not_eq_false']
      simp only [Nat.blt_eq]; exact hl
    simp only [DSE_e, show (tyS sz 0 .nilFunc).size = sz from rfl, b1, b2, bndO_none, u0, cond_false]
    refine ⟨some (bif len.beq 0 then a else add a (0 * sz)), len - 0, len - 0, rfl, ⟨by simpa using r.len, fun x => by simp at x, ?_, fun _ => ?_⟩, rfl, fun x => by simp at x, ?_⟩
    · intro p hp i v hi
      simp only [Option.some.injEq] at hp
      subst hp
      have := r.ld a rfl i v hi
      cases len.beq 0 <;> simpa [addA_zero] using this
    · unfold CapOK; rw [Nat.sub_zero, capK_exact hl]; exact Nat.le_refl _
    · intro n hf p hp
      simp only [Option.some.injEq] at hp
      subst hp
      have := hf a rfl
      cases len.beq 0 <;> simpa [add] using this
/-! strings -/
def bsOf (l : List UInt8) : ByteArray := ⟨l.toArray⟩
theorem bytesOf_vB : ∀ (l : List UInt8) (s : ByteArray), bytesOf (vB l) s = some ⟨s.data ++ l.toArray⟩
  | [], s => by simp [vB, bytesOf]
  | b :: l, s => by
    have := bytesOf_vB l (s.push b)
    simp only [vB, List.map_cons, bytesOf] at this ⊢
    have e : UInt8.ofNat ((b.toNat : Int).toNat) = b := by simp
    rw [e, this]
    simp [ByteArray.push]
theorem strT_ok {h : H} {s : Sl} {l : List UInt8} (r : RdB h s l) : strT h s = some (bsOf l, h) := by
  obtain ⟨b, len, cap⟩ := s
  suffices key : convA (DSE 0 tyB) h 1 2 (encSl ⟨b, len, cap⟩) = some (.val (.string (bsOf l)) h) by
    unfold strT; rw [key]; rfl
  unfold convA encSl
  simp only [show (DSE 0 tyB).ty.get 1 = some ⟨1, 24, .slice none 0 0, .slice 0, false⟩ from DSE_s 0 _, show (DSE 0 tyB).ty.get 2 = some ⟨1, 16, .string .empty, .string, false⟩ from DSE_t 0 _, DSE_e]
  cases b with
  | none =>
    obtain ⟨e1, e2⟩ := Rd.nilOf r rfl
    simp only [Sl.mk.injEq] at e2
    obtain ⟨_, rfl, rfl⟩ := e2
    have : l = [] := by simpa [vB] using e1
    subst this
    rfl
  | some a =>
    have hc := Rd.cells r (a := a) rfl
    simp only [Nat.mul_one] at hc
    simp only [DSE_e, tyB, hc, bytesOf_vB]
    simp [bsOf]; try rfl
theorem bsOf_toList (l : List UInt8) : (bsOf l).data.toList = l := by simp [bsOf]
end Go.Abs
