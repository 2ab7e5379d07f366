/- The logic for the typed texts, further: heaps that are put together (regions of open order); rows as slices; checks. -/
import Derived.Test.YthiccnmplgdheaaS10
set_option linter.unusedVariables false
set_option linter.unusedSimpArgs false
namespace Go.Abs
open Go
section
variable {α : Type} {Q : α → Prop} {h : H} {f : H → Option α} {mask n0 i k : Nat} {ob : AObj} {cs : List (Nat × AObj)}
theorem PO.letGrow (w : WF h) (p : ∀ h1, EX h h1 → h1.size = h.size + k → WF h1 → (∀ i, i < k → h1.objs.get (h.size + i) = none) → PO (f h1) Q) : PO (letH (growIf h k) f) Q := by
  refine p _ (ex_growIf w k) (growIf_size h k) (ex_growIf w k).wf fun i hi => ?_
  rw [growIf_eq]
  exact w.top _ (Nat.le_add_right _ _)
theorem PO.letTick (w : WF h) (p : ∀ h1, EX h h1 → h1.size = h.size → WF h1 → PO (f h1) Q) : PO (letH (tickIf k h) f) Q := by
  refine p _ (ex_tick w k) ?_ (ex_tick w k).wf
  unfold tickIf; cases k.beq 0 <;> rfl
theorem PO.addNil (p : PO (f h) Q) : PO (letH (addP mask n0 [] h) f) Q := p
theorem PO.addOff (hm : mask.testBit i = false) (p : PO (letH (addP mask n0 cs h) f) Q) : PO (letH (addP mask n0 ((i, ob) :: cs) h) f) Q := by rw [addP_off hm]; exact p
theorem PO.addOld (hn : h.objs.get (n0 + i) ≠ none) (p : PO (letH (addP mask n0 cs h) f) Q) : PO (letH (addP mask n0 ((i, ob) :: cs) h) f) Q := by
  cases hm : mask.testBit i with
  | false => exact .addOff hm p
  | true => rw [addP_old hm hn]; exact p
end
/-- a heap with one row more, at a block that is reserved -/
structure NW (B : Nat) (h h' : H) : Prop where
  up : UP (· = B) h h'
  non : h.objs.get B = none
  size : h'.size = h.size
theorem NW.wf {B : Nat} {h h' : H} (n : NW B h h') : WF h' := n.up.wf
theorem NW.box {B b : Nat} {h h' : H} {l : List Value} (n : NW B h h') (w : WF h) (x : Box h b l) : Box h' b l := by
  refine x.up w n.up fun e => ?_
  obtain ⟨t, c, h1, _⟩ := x.get
  rw [e, n.non] at h1; simp at h1
theorem NW.kb {B b : Nat} {h h' : H} {l : List Value} (n : NW B h h') (x : Box h b l) : Box h' b l := by
  refine Box.ku n.up (fun e => ?_) x
  obtain ⟨t, c, h1, _⟩ := x.get
  rw [e, n.non] at h1; simp at h1
theorem NW.ldk {B : Nat} {h h' : H} (n : NW B h h') {a : Addr} {v : Value} (hlt : a.block < h.size) (e : ldCell h a = some v) : ldCell h' a = some v := by
  refine n.up.ld hlt (fun x => ?_) e
  rw [ldCell_eq, x, n.non] at e; simp [ldO] at e
theorem NW.kr {B sz : Nat} {h h' : H} {s : Sl} {l : List Value} (n : NW B h h') (r : Rd sz h s l) : Rd sz h' s l :=
  ⟨r.len, r.nil, fun a ha i v hi => let ⟨h1, h2⟩ := r.ld a ha i v hi; ⟨by rw [n.size]; exact h1, n.ldk (a := add a i) h1 h2⟩, r.cap⟩
/-- cells of other kinds lie elsewhere -/
theorem Rd.kbox {sz b : Nat} {h h' : H} {s : Sl} {l L : List Value} (w : WF h) (B : Box h b L) (u : UP (· = b) h h') (hd : ∀ v ∈ l, v ∉ L) (r : Rd sz h s l) : Rd sz h' s l :=
  ⟨r.len, r.nil, fun a ha i v hi => by
    obtain ⟨h1, h2⟩ := r.ld a ha i v hi
    refine ⟨Nat.lt_of_lt_of_le h1 u.size, u.ld (a := add a i) h1 (fun e => ?_) h2⟩
    have e' : a.block = b := e
    obtain ⟨t, c, g1, g2⟩ := B.get
    rw [ldCell_eq] at h2
    simp only [add, e', g1] at h2
    unfold ldO at h2
    simp only at h2
    split at h2
    · rename_i sp hsp
      split at h2
      · rename_i cl hcl
        have hlt := w.arr b _ g1 _ _ hcl
        simp only at hlt
        have hg := g2 (a.off + i) _ (List.getElem?_eq_getElem hlt)
        rw [hg] at hcl
        cases hcl
        simp only [Nat.zero_le, Nat.ble_eq, show Nat.ble 0 sp = true by simp, cond_true, Option.some.injEq] at h2
        exact hd v (List.mem_of_getElem? hi) (h2 ▸ List.getElem_mem hlt)
      · simp at h2
    · simp at h2, r.cap⟩
theorem RdB.kbox {b : Nat} {h h' : H} {s : Sl} {l : List UInt8} {L : List Value} (w : WF h) (B : Box h b L) (u : UP (· = b) h h') (hd : ∀ v ∈ L, ∀ n, v ≠ .int .u8 n) (r : RdB h s l) : RdB h' s l :=
  Rd.kbox w B u (fun v hv hL => by
    unfold vB at hv
    obtain ⟨n, _, e⟩ := List.mem_map.1 hv
    exact hd v hL _ e.symm) r
theorem NW.ld {B : Nat} {h h' : H} (n : NW B h h') (w : WF h) {a : Addr} {v : Value} (e : ldCell h a = some v) : ldCell h' a = some v := by
  refine n.up.ld (lt_of_ld w e) (fun x => ?_) e
  rw [ldCell_eq, x, n.non] at e; simp [ldO] at e
theorem NW.rd {B sz : Nat} {h h' : H} {s : Sl} {l : List Value} (n : NW B h h') (w : WF h) (r : Rd sz h s l) : Rd sz h' s l :=
  ⟨r.len, r.nil, fun a ha i v hi => let ⟨h1, h2⟩ := r.ld a ha i v hi; ⟨by rw [n.size]; exact h1, n.ld w h2⟩, r.cap⟩
theorem NW.buf {B sz : Nat} {h h' : H} {s : Sl} {l : List Value} (n : NW B h h') (w : WF h) (r : Buf sz h s l) : Buf sz h' s l := by
  refine ⟨n.rd w r.rd, ?_⟩
  rcases r.tip with ht | ⟨a, q, e, h1, h2, h3, h4, h5, h6, h7⟩
  · exact .inl ht
  · exact .inr ⟨a, q, e, h1, (n.up.same _ (lt_of_get w h2) (fun x => by rw [x, n.non] at h2; simp at h2)).trans h2, h3, h4, by rw [n.up.nro]; exact h5, h6, h7⟩
theorem NW.nn {B C : Nat} {h h' : H} (n : NW B h h') (hC : C < h.size) (hne : ¬ C = B) (e : h.objs.get C = none) : h'.objs.get C = none := (n.up.same C hC hne).trans e
theorem NW.ex0 {B : Nat} {h0 h h' : H} (n : NW B h h') (x : EX h0 h) (hB : h0.size ≤ B) : EX h0 h' := n.up.ex0 x (fun A hA e => by omega)
theorem EX.nn {C : Nat} {h h' : H} (x : EX h h') (hC : C < h.size) (e : h.objs.get C = none) : h'.objs.get C = none := (x.same C hC).trans e
theorem Box.ne {h : H} {b : Nat} {l : List Value} (B : Box h b l) : h.objs.get b ≠ none := by
  obtain ⟨e, c, h1, _⟩ := B.get; rw [h1]; simp
theorem Box.rd {h : H} {b sz n cap : Nat} {l : List Value} (B : Box h b l) (w : WF h) (hl : l.length = n * sz) (hc : CapOK sz n cap) : Rd sz h ⟨some ⟨b, 0, some 0⟩, n, cap⟩ l := by
  refine ⟨hl, fun h => by simp at h, fun a ha i v hi => ?_, fun _ => hc⟩
  simp only [Option.some.injEq] at ha
  subst ha
  exact ⟨B.lt w, B.ld hi⟩
theorem Box.buf {h : H} {b sz n : Nat} {l : List Value} (B : Box h b l) (w : WF h) (hl : l.length = n * sz) (hn : n < B63) : Buf sz h ⟨some ⟨b, 0, some 0⟩, n, n⟩ l := by
  refine ⟨B.rd w hl (by unfold CapOK; rw [capK_exact hn]; exact Nat.le_refl _), .inr ?_⟩
  obtain ⟨e, c, h1, h2⟩ := B.get
  exact ⟨_, _, 0, rfl, h1, rfl, rfl, B.nro, by simp only [Nat.zero_add]; exact hl.symm, by simp only [capK_exact hn]⟩
section
variable {α : Type} {Q : α → Prop} {h : H} {f : H → Option α} {mask n0 i k : Nat} {cs : List (Nat × AObj)}
theorem PO.addNew {e : TypeId} {vs : List Value} (w : WF h) (hm : mask.testBit i = true) (hn : h.objs.get (n0 + i) = none) (hB : n0 + i < h.size) (hr : h.nro ≤ n0 + i) (p : ∀ h1, NW (n0 + i) h h1 → Box h1 (n0 + i) vs → PO (letH (addP mask n0 cs h1) f) Q) : PO (letH (addP mask n0 ((i, row e vs) :: cs) h) f) Q := by
  rw [addP_new hm hn]
  refine p _ ⟨⟨Nat.le_refl _, rfl, wf_at w hB e vs, fun A hA hne => by rw [newAt_get, if_neg hne]⟩, hn, rfl⟩ (box_at hr hB e vs)
theorem PO.ixI {k : IntKind} {s : Sl} {zs : List Int} {j : Int} {g : Addr → Option α} (r : RdI k h s zs) (h0 : 0 ≤ j) (h1 : j < zs.length) (p : ∀ a, Abs.ldI k h a = some (zs.getD j.toNat 0) → PO (g a) Q) : PO (bindO (ixT 1 s j) g) Q := by
  obtain ⟨a, _, e, e2⟩ := r.at h0 h1
  exact .op e (p _ e2)
theorem PO.ixB {s : Sl} {zs : List UInt8} {j : Int} {g : Addr → Option α} (r : RdB h s zs) (h0 : 0 ≤ j) (h1 : j < zs.length) (p : ∀ a, Abs.ldI .u8 h a = some ((zs.getD j.toNat 0).toNat : Int) → PO (g a) Q) : PO (bindO (ixT 1 s j) g) Q := by
  obtain ⟨a, _, e, e2⟩ := r.at h0 h1
  exact .op e (p _ e2)
theorem PO.chk' {b : Bool} {x y : Option α} (h : b = true) (k : PO x Q) : PO (condK b x y) Q := by subst h; exact k
theorem PO.chkV {v : Value} {x : Option α} (hp : plain v = true) (p : PO x Q) : PO (condK (veq v v) x none) Q := .chk (plain_veq hp) p
end
end Go.Abs
