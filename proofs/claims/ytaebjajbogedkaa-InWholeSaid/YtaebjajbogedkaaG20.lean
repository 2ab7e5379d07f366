/- Lemmas about the typed texts (joined: SIn5 SIn6 SIn7). -/
import Derived.Test.YtaebjajbogedkaaG19
-- SEAT c
/- Chapter 22's box with however many wholes: where they lie. -/
set_option linter.unusedVariables false
set_option linter.unusedSimpArgs false
namespace Go.Abs
open Go
theorem lookG_map {K V W : Type} [DecidableEq K] (f : V → W) (k : K) : ∀ es : List (K × V), lookG k (es.map fun e => (e.1, f e.2)) = (lookG k es).map f
  | [] => rfl
  | (k', v) :: es => by
    have := lookG_map f k es
    simp only [List.map_cons, lookG]
    split <;> simp_all
theorem putG_map {K V W : Type} [DecidableEq K] (f : V → W) (k : K) (v : V) : ∀ es : List (K × V), putG k (f v) (es.map fun e => (e.1, f e.2)) = (putG k v es).map fun e => (e.1, f e.2)
  | [] => rfl
  | (k', v') :: es => by
    have := putG_map f k v es
    simp only [List.map_cons, putG]
    split <;> simp_all
theorem dropG_map {K V W : Type} [DecidableEq K] (f : V → W) (k : K) : ∀ es : List (K × V), dropG k (es.map fun e => (e.1, f e.2)) = (dropG k es).map fun e => (e.1, f e.2)
  | [] => rfl
  | (k', v') :: es => by
    have := dropG_map f k es
    simp only [List.map_cons, dropG]
    split <;> simp_all
theorem mem_putG {K V : Type} [DecidableEq K] {k : K} {v : V} {e : K × V} : ∀ {es : List (K × V)}, e ∈ putG k v es → e = (k, v) ∨ (e ∈ es ∧ e.1 ≠ k) ∨ (e ∈ es ∧ ¬ (es.map (·.1)).Nodup)
  | [], h => by simp [putG] at h; exact .inl h
  | (k', v') :: es, h => by
    unfold putG at h
    split at h
    · rename_i hk
      subst hk
      rcases List.mem_cons.1 h with h | h
      · exact .inl h
      · by_cases hn : e.1 = k
        · refine .inr (.inr ⟨.tail _ h, fun hh => ?_⟩)
          rw [List.map_cons, List.nodup_cons] at hh
          exact hh.1 (List.mem_map.2 ⟨e, h, hn⟩)
        · exact .inr (.inl ⟨.tail _ h, hn⟩)
    · rename_i hk
      rcases List.mem_cons.1 h with h | h
      · subst h; exact .inr (.inl ⟨.head _, fun e => hk e.symm⟩)
      · rcases mem_putG h with h | ⟨h, h2⟩ | ⟨h, h2⟩
        · exact .inl h
        · exact .inr (.inl ⟨.tail _ h, h2⟩)
        · refine .inr (.inr ⟨.tail _ h, fun hh => h2 ?_⟩)
          rw [List.map_cons, List.nodup_cons] at hh
          exact hh.2
theorem mem_dropG {K V : Type} [DecidableEq K] {k : K} {e : K × V} {es : List (K × V)} (h : e ∈ dropG k es) : e ∈ es := (dropG_sub k es).subset h
theorem RdB.pmg {K V : Type} [DecidableEq K] {E : Enc K V} {h h1 : H} {b m : Nat} {L : List Value} {es : List (K × V)} (w : WF h) (B : Box h b L) (hd : ∀ v ∈ L, ∀ n, v ≠ .int .u8 n) (M : MapG E h m es) (u : UP (fun A => A = b ∨ A = m) h h1) {s : Sl} {l : List UInt8} (r : RdB h s l) : RdB h1 s l :=
  ⟨Rd.len r, Rd.nil r, fun a ha i v hi => by
    obtain ⟨g1, g2⟩ := Rd.ld r a ha i v hi
    refine ⟨Nat.lt_of_lt_of_le g1 u.size, u.ld (a := add a i) g1 (fun e => ?_) g2⟩
    rcases e with e | e
    · have hv := ld_box w B e g2
      have hi' := List.mem_of_getElem? hi
      unfold vB at hi'
      obtain ⟨n, _, en⟩ := List.mem_map.1 hi'
      exact hd v hv _ en.symm
    · exact M.neq g2 e, Rd.cap r⟩
theorem Rd.pmg {K V : Type} [DecidableEq K] {E : Enc K V} {sz b m : Nat} {h h1 : H} {L : List Value} {es : List (K × V)} (w : WF h) (B : Box h b L) (M : MapG E h m es) (u : UP (fun A => A = b ∨ A = m) h h1) {s : Sl} {l : List Value} (hd : ∀ v ∈ l, v ∉ L) (r : Rd sz h s l) : Rd sz h1 s l :=
  ⟨r.len, r.nil, fun a ha i v hi => by
    obtain ⟨g1, g2⟩ := r.ld a ha i v hi
    refine ⟨Nat.lt_of_lt_of_le g1 u.size, u.ld (a := add a i) g1 (fun e => ?_) g2⟩
    rcases e with e | e
    · exact hd v (List.mem_of_getElem? hi) (ld_box w B e g2)
    · exact M.neq g2 e, r.cap⟩
end Go.Abs
namespace Go.Proofs.Ytaebjajbogedkaa.T
open Go Go.Abs Go.Proofs
structure Wn where
  q : Nat
  bb : Nat
  s : Sl
  x : Hd
  l : List Run
  bl : List UInt8
def Wn.At (h : H) (e : Wn) : Prop := WhA h e.q e.bb e.s e.x e.l e.bl
def Wn.ptr (e : Wn) : Option Addr := some ⟨e.q, 0, some 0⟩
/-- a block apart from the box, its map and its wholes -/
def off (p m : Nat) (ws : List (Int × Wn)) (b : Nat) : Prop := b ≠ p ∧ b ≠ m ∧ ∀ f ∈ ws, b ≠ f.2.q ∧ b ≠ f.2.bb
theorem off.sub {p m b : Nat} {ws ws' : List (Int × Wn)} (h : off p m ws b) (hs : ∀ e ∈ ws', e ∈ ws) : off p m ws' b := ⟨h.1, h.2.1, fun f hf => h.2.2 f (hs f hf)⟩
/-- where a box of messages that come lies -/
structure InB (h : H) (p m : Nat) (l : List Run) (ws : List (Int × Wn)) : Prop where
  set : ∃ s m2, Box h p [encSl s, .map (some m), .map (some m2)] ∧ RdR h s l ∧ MapV h m2 [] ∧ m2 = m + 1 ∧ ∀ a, s.base = some a → a.block < h.size ∧ off p m ws a.block
  map : MapG EIP h m (ws.map fun e => (e.1, e.2.ptr))
  at_ : ∀ e ∈ ws, e.2.At h
  np : ∀ e ∈ ws, e.2.q ≠ p ∧ e.2.bb ≠ p
  nw : ∀ e ∈ ws, ∀ f ∈ ws, e.1 ≠ f.1 → e.2.q ≠ f.2.q ∧ e.2.q ≠ f.2.bb ∧ e.2.bb ≠ f.2.q ∧ e.2.bb ≠ f.2.bb
  row : ∀ e ∈ ws, ∀ a, e.2.s.base = some a → a.block < h.size ∧ off p m ws a.block
  kn : (ws.map (·.1)).Nodup
section
variable {h h1 : H} {p m : Nat} {l : List Run} {ws : List (Int × Wn)}
theorem InB.blt (I : InB h p m l ws) : p < h.size := let ⟨s, m2, B, _⟩ := I.set; B.blt
theorem InB.som (I : InB h p m l ws) : h.objs.get p ≠ none := let ⟨s, m2, B, _⟩ := I.set; B.ne
theorem InB.ne (I : InB h p m l ws) : p ≠ m := let ⟨s, m2, B, _⟩ := I.set; I.map.neb B
theorem InB.at1 (I : InB h p m l ws) {e : Int × Wn} (he : e ∈ ws) : e.2.q < h.size ∧ e.2.bb < h.size ∧ e.2.q ≠ m ∧ e.2.bb ≠ m :=
  ⟨(I.at_ e he).box.blt, (I.at_ e he).data.blt, I.map.neb (I.at_ e he).box, I.map.neb (I.at_ e he).data⟩
theorem InB.ex (I : InB h p m l ws) (x : EX h h1) : InB h1 p m l ws := by
  obtain ⟨s, m2, B, r, M2, hm, n⟩ := I.set
  exact ⟨⟨s, m2, Box.kx x B, r.ex x, M2.ex x, hm, fun a ha => ⟨Nat.lt_of_lt_of_le (n a ha).1 x.size, (n a ha).2⟩⟩, I.map.ex x, fun e he => (I.at_ e he).ex x, I.np, I.nw, fun e he a ha => ⟨Nat.lt_of_lt_of_le (I.row e he a ha).1 x.size, (I.row e he a ha).2⟩, I.kn⟩
theorem WhA.nw {b : Nat} {q bb : Nat} {s : Sl} {x : Hd} {l : List Run} {bl : List UInt8} (W : WhA h q bb s x l bl) (N : NW b h h1) : WhA h1 q bb s x l bl :=
  ⟨NW.kb N W.box, NW.kr N W.set, W.row, NW.kb N W.data, W.ne⟩
theorem InB.nw' {b : Nat} (I : InB h p m l ws) (N : NW b h h1) : InB h1 p m l ws := by
  obtain ⟨s, m2, B, r, M2, hm, n⟩ := I.set
  exact ⟨⟨s, m2, NW.kb N B, NW.kr N r, M2.nw N, hm, fun a ha => ⟨by rw [N.size]; exact (n a ha).1, (n a ha).2⟩⟩, I.map.nw N, fun e he => (I.at_ e he).nw N, I.np, I.nw, fun e he a ha => ⟨by rw [N.size]; exact (I.row e he a ha).1, (I.row e he a ha).2⟩, I.kn⟩
theorem InB.rdB (w : WF h) (I : InB h p m l ws) (u : UP (fun A => A = p ∨ A = m) h h1) {s : Sl} {bs : List UInt8} (r : RdB h s bs) : RdB h1 s bs := by
  obtain ⟨s0, m2, B, _⟩ := I.set
  exact RdB.pmg w B (by intro v hv k; simp only [List.mem_cons, List.not_mem_nil, or_false, encSl] at hv; rcases hv with rfl | rfl | rfl <;> simp) I.map u r
theorem InB.rdI {k : IntKind} (w : WF h) (I : InB h p m l ws) (u : UP (fun A => A = p ∨ A = m) h h1) {s : Sl} {ns : List Int} (r : RdI k h s ns) : RdI k h1 s ns := by
  obtain ⟨s0, m2, B, _⟩ := I.set
  refine Rd.pmg w B I.map u (fun v hv hL => ?_) r
  obtain ⟨z, _, rfl⟩ := List.mem_map.1 hv
  simp only [List.mem_cons, List.not_mem_nil, or_false, encSl] at hL
  simp at hL
theorem IHas_g (w : WF h) (I : InB h p m l ws) (hl : l.length ≤ 2 ^ 42) (n : Int) :
    PO (spans_Set_Has (some ⟨p, 0, some 0⟩) n h) (fun (a, h1) => a = decide (mem l n) ∧ EX h h1) := by
  obtain ⟨s, m2, B, r, _, _, hn⟩ := I.set
  exact Has_f (k := 0) w ⟨⟨s, rfl, r, fun a ha => (hn a ha).2.1⟩, B⟩ hl n
theorem ICount_g (w : WF h) (I : InB h p m l ws) (hl : l.length ≤ 2 ^ 40) {e : Int} (hn : Nrm (-1) e l) (he : 0 ≤ e ∧ e ≤ 4611686018427387904) :
    PO (spans_Set_Count (some ⟨p, 0, some 0⟩) h) (fun (a, h1) => a = cntR l ∧ EX h h1) := by
  obtain ⟨s, m2, B, r, _, _, hnb⟩ := I.set
  exact Count_f (k := 0) w ⟨⟨s, rfl, r, fun a ha => (hnb a ha).2.1⟩, B⟩ hl hn he
/-- the box's own set turned, and the map -/
theorem InB.turn (I : InB h p m l ws) {ws' : List (Int × Wn)} {l' : List Run} {s' : Sl} {m2 : Nat} (u : UP (fun A => A = p ∨ A = m) h h1) (B : Box h1 p [encSl s', .map (some m), .map (some m2)]) (r : RdR h1 s' l') (M2 : MapV h m2 []) (hm : m2 = m + 1)
    (n : ∀ a, s'.base = some a → a.block < h1.size ∧ off p m ws a.block) (M : MapG EIP h1 m (ws'.map fun e => (e.1, e.2.ptr))) (hs : ∀ e ∈ ws', e ∈ ws) (hk : (ws'.map (·.1)).Nodup) : InB h1 p m l' ws' := by
  have hp : p ≠ m2 := by obtain ⟨s, m3, B0, _⟩ := I.set; exact M2.neb B0
  refine ⟨⟨s', m2, B, r, M2.up u (fun e => by rcases e with e | e; exact hp e.symm; omega), hm, fun a ha => ⟨(n a ha).1, (n a ha).2.sub hs⟩⟩, M, fun e he => ?_, fun e he => I.np e (hs e he), fun e he f hf => I.nw e (hs e he) f (hs f hf), fun e he a ha => ?_, hk⟩
  · have he' := hs e he
    obtain ⟨a1, a2, a3, a4⟩ := I.at1 he'
    refine WhA.up (I.at_ e he') u (fun x => ?_) (fun x => ?_) (fun a ha x => ?_)
    · rcases x with x | x; exact (I.np e he').1 x; exact a3 x
    · rcases x with x | x; exact (I.np e he').2 x; exact a4 x
    · have := (I.row e he' a ha).2
      rcases x with x | x; exact this.1 x; exact this.2.1 x
  · obtain ⟨b1, b2⟩ := I.row e (hs e he) a ha
    exact ⟨Nat.lt_of_lt_of_le b1 u.size, b2.sub hs⟩
/-- a whole put in, or another one in its place -/
theorem InB.put (I : InB h p m l ws) {id : Int} {W : Wn} (u : UP (fun A => A = W.q ∨ A = W.bb ∨ A = m) h h1) (M : MapG EIP h1 m ((putG id W ws).map fun e => (e.1, e.2.ptr))) (A : W.At h1)
    (hold : (∃ W0, lookG id ws = some W0 ∧ W0.q = W.q ∧ W0.bb = W.bb) ∨ (lookG id ws = none ∧ h.size ≤ W.q ∧ h.size ≤ W.bb))
    (hrow : ∀ a, W.s.base = some a → (∃ W0, lookG id ws = some W0 ∧ W.s = W0.s) ∨ (h.size ≤ a.block ∧ a.block < h1.size)) : InB h1 p m l (putG id W ws) := by
  obtain ⟨s, m2, B, r, M2, hm, n⟩ := I.set
  have hmlt := I.map.lt
  have hplt := I.blt
  -- the new whole is not the box, nor the maps
  have hW : W.q ≠ p ∧ W.bb ≠ p ∧ W.q ≠ m2 ∧ W.bb ≠ m2 ∧ W.q ≠ m ∧ W.bb ≠ m := by
    rcases hold with ⟨W0, e0, e1, e2⟩ | ⟨_, e1, e2⟩
    · have he := lookG_mem e0
      rw [← e1, ← e2]
      obtain ⟨a1, a2, a3, a4⟩ := I.at1 he
      exact ⟨(I.np _ he).1, (I.np _ he).2, M2.neb (I.at_ _ he).box, M2.neb (I.at_ _ he).data, a3, a4⟩
    · have := M2.lt
      omega
  -- other wholes lie elsewhere
  have hoth : ∀ e ∈ ws, e.1 ≠ id → e.2.q ≠ W.q ∧ e.2.q ≠ W.bb ∧ e.2.bb ≠ W.q ∧ e.2.bb ≠ W.bb := by
    intro e he hne
    rcases hold with ⟨W0, e0, e1, e2⟩ | ⟨_, e1, e2⟩
    · rw [← e1, ← e2]
      exact I.nw e he _ (lookG_mem e0) hne
    · obtain ⟨a1, a2, _, _⟩ := I.at1 he
      omega
  -- rows that were there
  have hoff : ∀ b, b < h.size → off p m ws b → b ≠ W.q ∧ b ≠ W.bb := by
    intro b hb ho
    rcases hold with ⟨W0, e0, e1, e2⟩ | ⟨_, e1, e2⟩
    · rw [← e1, ← e2]; exact ho.2.2 _ (lookG_mem e0)
    · omega
  have hmem : ∀ e ∈ putG id W ws, e = (id, W) ∨ (e ∈ ws ∧ e.1 ≠ id) := by
    intro e he
    rcases mem_putG he with h1 | h1 | ⟨_, h1⟩
    · exact .inl h1
    · exact .inr h1
    · exact absurd I.kn h1
  have hoff' : ∀ b, b < h.size → off p m ws b → off p m (putG id W ws) b := by
    intro b hb ho
    refine ⟨ho.1, ho.2.1, fun f hf => ?_⟩
    rcases hmem f hf with rfl | ⟨hf, _⟩
    · exact hoff b hb ho
    · exact ho.2.2 f hf
  refine ⟨⟨s, m2, Box.ku u (fun x => ?_) B, Rd.up r u (fun a ha x => ?_), M2.up u (fun x => ?_), hm, fun a ha => ⟨Nat.lt_of_lt_of_le (n a ha).1 u.size, hoff' _ (n a ha).1 (n a ha).2⟩⟩, M, fun e he => ?_, fun e he => ?_, fun e he f hf hne => ?_, fun e he a ha => ?_, nodup_put id W I.kn⟩
  · have := I.ne
    rcases x with x | x | x <;> omega
  · have h1 := hoff a.block (n a ha).1 (n a ha).2
    have h2 := (n a ha).2.2.1
    rcases x with x | x | x
    · exact h1.1 x
    · exact h1.2 x
    · exact h2 x
  · rcases x with x | x | x <;> omega
  · rcases hmem e he with rfl | ⟨he, hne⟩
    · exact A
    · obtain ⟨b1, b2, b3, b4⟩ := hoth e he hne
      obtain ⟨a1, a2, a3, a4⟩ := I.at1 he
      refine WhA.up (I.at_ e he) u (fun x => ?_) (fun x => ?_) (fun a ha x => ?_)
      · rcases x with x | x | x
        · exact b1 x
        · exact b2 x
        · exact a3 x
      · rcases x with x | x | x
        · exact b3 x
        · exact b4 x
        · exact a4 x
      · obtain ⟨c1, c2⟩ := I.row e he a ha
        have := hoff a.block c1 c2
        rcases x with x | x | x
        · exact this.1 x
        · exact this.2 x
        · exact c2.2.1 x
  · rcases hmem e he with rfl | ⟨he, _⟩
    · exact ⟨hW.1, hW.2.1⟩
    · exact I.np e he
  · rcases hmem e he with rfl | ⟨he, he1⟩ <;> rcases hmem f hf with rfl | ⟨hf, hf1⟩
    · exact absurd rfl hne
    · obtain ⟨b1, b2, b3, b4⟩ := hoth f hf hf1
      exact ⟨fun x => b1 x.symm, fun x => b3 x.symm, fun x => b2 x.symm, fun x => b4 x.symm⟩
    · exact hoth e he he1
    · exact I.nw e he f hf hne
  · rcases hmem e he with rfl | ⟨he, he1⟩
    · rcases hrow a ha with ⟨W0, e0, e1⟩ | ⟨c1, c2⟩
      · have he0 := lookG_mem e0
        rw [e1] at ha
        obtain ⟨c1, c2⟩ := I.row _ he0 a ha
        exact ⟨Nat.lt_of_lt_of_le c1 u.size, hoff' _ c1 c2⟩
      · refine ⟨c2, by omega, by omega, fun f hf => ?_⟩
        rcases hmem f hf with rfl | ⟨hf, _⟩
        · exact A.row a ha
        · obtain ⟨d1, d2, _, _⟩ := I.at1 hf
          omega
    · obtain ⟨c1, c2⟩ := I.row e he a ha
      exact ⟨Nat.lt_of_lt_of_le c1 u.size, hoff' _ c1 c2⟩
/-- another map is turned -/
theorem InB.upg {K V : Type} [DecidableEq K] {E : Enc K V} {es : List (K × V)} {b : Nat} (I : InB h p m l ws) (M' : MapG E h b es) (u : UP (· = b) h h1) (h1m : b ≠ m) (h2m : b ≠ m + 1) : InB h1 p m l ws := by
  obtain ⟨s, m2, B, r, M2, hm, n⟩ := I.set
  refine ⟨⟨s, m2, Box.ku u (M'.neb B) B, Rd.upg M' u r, M2.up u (fun e => by omega), hm, fun a ha => ⟨Nat.lt_of_lt_of_le (n a ha).1 u.size, (n a ha).2⟩⟩, I.map.up u (fun e => h1m e.symm), fun e he => ?_, I.np, I.nw, fun e he a ha => ⟨Nat.lt_of_lt_of_le (I.row e he a ha).1 u.size, (I.row e he a ha).2⟩, I.kn⟩
  have W := I.at_ e he
  exact ⟨Box.ku u (M'.neb W.box) W.box, Rd.upg M' u W.set, W.row, Box.ku u (M'.neb W.data) W.data, W.ne⟩
end
theorem INew_g {h : H} (w : WF h) : PO (inbox_New h) (fun (a, h') => ∃ p m, a = some ⟨p, 0, some 0⟩ ∧ InB h' p m [] [] ∧ EX h h' ∧ h.size ≤ p ∧ h.size ≤ m ∧ m + 1 < p) := by
  unfold inbox_New
  refine PO.newG EIP w fun h1 x1 M1 z1 => PO.newV x1.wf fun h2 x2 M2 z2 => PO.newB x2.wf fun h3 x3 B3 z3 w3 => .ret ⟨_, _, rfl, ⟨⟨⟨none, 0, 0⟩, _, B3, rd_nil 2 h3, M2.ex x3, by omega, fun a ha => by cases ha⟩, (M1.ex x2).ex x3, (fun e he => nomatch he), (fun e he => nomatch he), (fun e he => nomatch he), (fun e he => nomatch he), List.nodup_nil⟩, (x1.trans x2).trans x3, by omega, by omega, by omega⟩
theorem settle_g {h : H} (w : WF h) {p m : Nat} {l : List Run} {ws : List (Int × Wn)} (I : InB h p m l ws) (hl : l.length ≤ 2 ^ 40) (hn : Nrm (-1) 40 l) {now kind id : Int} (hid : 0 ≤ id ∧ id < 40) {bs : Sl} {x : List UInt8} (r : RdB h bs x) :
    PO (inbox_Box_settle (some ⟨p, 0, some 0⟩) now kind id bs h) (fun (a, h') => a = (kind, id, now, bsOf x) ∧ InB h' p m (addS id (id + 1) l) (dropG id ws) ∧ UP (fun A => A = p ∨ A = m) h h') := by
  unfold inbox_Box_settle P.inbox_Box_settle
  have hpl := I.blt
  have hml := I.map.lt
  have hpm := I.ne
  refine PO.newB w fun h0 x0 B0 z0 w0 => .ptr ?_
  have I0 := I.ex x0
  obtain ⟨s, m2, B, rs, M2, hm2, hn2⟩ := I0.set
  rw [addA_zero, w64 (n := id + 1) (by omega) (by omega)]
  refine PO.call (Add_f3 w0 B rs (fun a ha => (hn2 a ha).2.1) hl id (id + 1)) fun _ h1 ⟨s', B1, r1, n1, hs', u1⟩ => .ptr (.op (ldM_of (B1.ld (i := 1) rfl)) ?_)
  have M1 : MapG EIP h1 m _ := I0.map.up u1 fun e => hpm e.symm
  have E1 : Box h1 h.size _ := Box.ku u1 (by omega) B0
  obtain ⟨h2, e2, M2', u2, z2⟩ := delP u1.wf M1 id
  refine .op e2 ?_
  have r2 : RdR h2 s' (addS id (id + 1) l) := Rd.upg M1 u2 r1
  have B2 := Box.ku u2 hpm B1
  have E2 := Box.ku u2 (by omega) E1
  have u02 : UP (fun A => A = p ∨ A = m) h0 h2 := (u1.mono fun A _ e => .inl e).trans (u2.mono fun A _ e => .inr e) fun A _ e => e
  rw [dropG_map] at M2'
  have hne : addS id (id + 1) l ≠ [] := by
    intro e
    have := (m_addS_mem hn (show 0 ≤ id by omega) (show id ≤ id + 1 by omega) (by omega) id).2 (.inr ⟨by omega, by omega⟩)
    rw [e] at this
    exact (mem_nil id).1 this
  have rb := RdB.ex x0 r
  refine .callE (strT_ok (I0.rdB w0 u02 rb)) (PO.stZ E2 u2.wf rfl rfl fun h3 E3 u3 z3 w3 => .ldZ E3 rfl (.ret ⟨rfl, ?_, (x0.trans_up u02).trans u3 fun A hA e => by omega⟩))
  obtain ⟨s9, m9, B9, rs9, M9, hm9, hn9⟩ := I.set
  have es9 : encSl s9 = encSl s ∧ m9 = m2 := by
    have h1 := (Box.kx x0 B9).ld (i := 0) rfl
    have h2 := B.ld (i := 0) rfl
    rw [h1] at h2
    have h3 := (Box.kx x0 B9).ld (i := 2) rfl
    have h4 := B.ld (i := 2) rfl
    rw [h3] at h4
    exact ⟨Option.some.inj h2, by cases h4; rfl⟩
  obtain ⟨es9, rfl⟩ := es9
  obtain rfl : s9 = s := by
    unfold encSl at es9
    cases s9; cases s; simp at es9 ⊢; exact es9
  have u03 : UP (fun A => A = p ∨ A = m) h h3 := (x0.trans_up u02).trans u3 fun A hA e => by omega
  have hcase : ∀ a, s'.base = some a → (a.block < h.size ∧ off p m ws a.block) ∨ h.size < a.block := by
    intro a ha
    rcases hs' with ⟨rfl, e⟩ | f
    · exact .inl (hn9 a ha)
    · have h1 := f a ha
      exact .inr (by omega)
  have r3 : RdR h3 s' (addS id (id + 1) l) := Rd.up r2 u3 fun a ha e => by
    have e : a.block = h.size := e
    rcases hcase a ha with hh | hh <;> omega
  refine I.turn u03 (Box.ku u3 (by omega) B2) r3 M9 hm9 (fun a ha => ?_) (M2'.up u3 (by omega)) (fun e he => mem_dropG he) (nodup_drop id I.kn)
  rcases hcase a ha with ⟨h1, h2⟩ | h1
  · exact ⟨Nat.lt_of_lt_of_le h1 u03.size, h2⟩
  · have hb := Rd.blt r3 (by cases hh : addS id (id + 1) l with | nil => exact absurd hh hne | cons _ _ => simp [runsV]) ha
    exact ⟨hb, by omega, by omega, fun e he => by obtain ⟨a1, a2, _, _⟩ := I.at1 he; omega⟩
end Go.Proofs.Ytaebjajbogedkaa.T
-- SEAT c
/- Chapter 22's box: a piece of a message comes, whichever. -/
set_option linter.unusedVariables false
set_option linter.unusedSimpArgs false
namespace Go.Abs
open Go
theorem dropG_putG {K V : Type} [DecidableEq K] (k : K) (v : V) : ∀ es : List (K × V), dropG k (putG k v es) = dropG k es
  | [] => by simp [putG, dropG]
  | (k', v') :: es => by
    have := dropG_putG k v es
    unfold putG
    by_cases h : k = k'
    · subst h; rw [if_pos rfl]; simp [dropG]
    · rw [if_neg h]; simp [dropG, h, this]
end Go.Abs
namespace Go.Proofs.Ytaebjajbogedkaa.T
open Go Go.Abs Go.Proofs
theorem nrm_len : ∀ (l : List Run) (lo e : Int), Nrm lo e l → lo ≤ e → (l.length : Int) ≤ e - lo
  | [], lo, e, _, h => by simp; omega
  | r :: l, lo, e, h, hle => by
    obtain ⟨h1, h2, h3, h4⟩ := h
    have := nrm_len l r.2 e h4 h3
    simp only [List.length_cons]; omega
/-- what a piece makes of a whole -/
def stepW (x : Hd) (dt : List UInt8) (l : List Run) (bl : List UInt8) : List Run × List UInt8 := (if mem l x.2.2.2.1 then l else addS x.2.2.2.1 (x.2.2.2.1 + 1) l, if mem l x.2.2.2.1 then bl else putP x.2.2.2.1 dt bl)
def whL0 (x : Hd) (o : Option Wn) : List Run × List UInt8 := match o with
  | some e => (e.l, e.bl)
  | none => ([], List.replicate x.2.2.2.2.toNat 0)
def keep (p m : Nat) (ws : List (Int × Wn)) (A : Nat) : Prop := A = p ∨ A = m ∨ ∃ e ∈ ws, A = e.2.q ∨ A = e.2.bb
theorem Piece_g {h : H} (w : WF h) {p m : Nat} {l : List Run} {ws : List (Int × Wn)} (I : InB h p m l ws) (hn : Nrm (-1) 40 l) {now : Int} {s : Sl} {bs : List UInt8} (r : RdB h s bs) (hb : bs.length ≤ 2 ^ 47) {x : Hd} {dt : List UInt8} (hv : readV bs = (x, dt, 0)) (hx : HR x) (hd : (dt.length : Int) = hto x - hfrom x) (hnow : now ≤ x.2.1)
    (hps : ∀ e ∈ ws, e.1 = x.1 → e.2.x = hd0' x ∧ Nrm (-1) 10 e.2.l ∧ (e.2.bl.length : Int) = x.2.2.2.2) :
    PO (inbox_Box_Piece (some ⟨p, 0, some 0⟩) now s h) (fun (a, h') => if mem l x.1 then a = ⟨none, 0, 0⟩ ∧ EX h h' else
      ∃ W : Wn, W.x = hd0' x ∧ (W.l, W.bl) = stepW x dt (whL0 x (lookG x.1 ws)).1 (whL0 x (lookG x.1 ws)).2 ∧ UP (keep p m ws) h h' ∧ (∀ A, A = W.q ∨ A = W.bb → keep p m ws A ∨ h.size ≤ A) ∧
      (if gapS 0 x.2.2.1 W.l = [] then RdE h' a [(1, x.1, now, bsOf W.bl)] ∧ InB h' p m (addS x.1 (x.1 + 1) l) (dropG x.1 ws) else a = ⟨none, 0, 0⟩ ∧ InB h' p m l (putG x.1 W ws))) := by
  have hl : l.length ≤ 41 := by have := nrm_len l (-1) 40 hn (by omega); omega
  unfold inbox_Box_Piece P.inbox_Box_Piece
  refine PO.call (Read_f w r hb) fun a h1 ⟨e1, e2, r1, x1⟩ => ?_
  rw [hv] at e1 e2 r1
  obtain ⟨i, d, c, k, z⟩ := x
  simp only at hnow hps
  obtain ⟨a1, a2, a3⟩ := a
  simp only at e1 e2 r1 x1
  subst e1 e2
  have hx2 := hx
  unfold HR hcnt at hx2
  simp only at hx2
  have hid : 0 ≤ i ∧ i < 40 := by omega
  have hc8 : c ≤ 8 := by omega
  refine PO.newB x1.wf fun h2 x2 B2 z2 w2 => PO.stZ B2 w2 rfl rfl fun h3 B3 u3 z3 w3 => ?_
  have B3' : Box h3 h1.size [.int .i64 i, .int .i64 d, .int .i64 c, .int .i64 k, .int .i64 z] := B3
  have xx3 : EX h h3 := u3.ex0 (x1.trans x2) (fun A hA e => by have := x1.size; omega)
  have xx13 : EX h1 h3 := u3.ex0 x2 (fun A hA e => by omega)
  have I3 := I.ex xx3
  refine PO.join (fun st => ∃ h4, st = ((some ⟨p, 0, some 0⟩, (now, (some ⟨h1.size, 0, some 0⟩, (a2, decide (mem l i))))), h4) ∧ EX h3 h4) ?_ ?_
  · refine .condNE (fun hh => absurd rfl hh) (fun _ => .ptr (.ldI B3' rfl ?_))
    rw [addA_zero]
    exact PO.call (IHas_g w3 I3 (by omega) i) fun a h4 ⟨e, x4⟩ => .retL ⟨h4, by rw [e], x4⟩
  · rintro _ ⟨h4, rfl, x4⟩
    simp only
    refine .condD (fun hm => .ret ?_) (fun hm => ?_)
    · show if mem l i then _ else _
      rw [if_pos hm]; exact ⟨rfl, xx3.trans x4⟩
    suffices key : PO _ (fun (q : Sl × H) => ∃ W : Wn, W.x = (i, d, c, 0, z) ∧ (W.l, W.bl) = stepW (i, d, c, k, z) dt (whL0 (i, d, c, k, z) (lookG i ws)).1 (whL0 (i, d, c, k, z) (lookG i ws)).2 ∧ UP (keep p m ws) h q.2 ∧ (∀ A, A = W.q ∨ A = W.bb → keep p m ws A ∨ h.size ≤ A) ∧
      (if gapS 0 c W.l = [] then RdE q.2 q.1 [(1, i, now, bsOf W.bl)] ∧ InB q.2 p m (addS i (i + 1) l) (dropG i ws) else q.1 = ⟨none, 0, 0⟩ ∧ InB q.2 p m l (putG i W ws))) by
      refine PO.mono key ?_
      rintro ⟨a, h'⟩ hq
      show if mem l i then _ else _
      rw [if_neg hm]; exact hq
    have B4 := Box.kx x4 B3'
    have I4 := I3.ex x4
    obtain ⟨s4, m24, P4, _⟩ := I4.set
    have r4 : RdB h4 a2 dt := RdB.ex (xx13.trans x4) r1
    have xx4 := xx3.trans x4
    have hz4 := xx4.size
    have hlk := lookP I4.map i
    rw [lookG_map] at hlk
    refine .ptr (.ldI B4 rfl (.condD (fun hh => absurd hh (by omega)) (fun _ => .ptr (.op (ldM_of (P4.ld (i := 1) rfl)) (.ptr (.ldI B4 rfl (.op hlk ?_)))))))
    -- the whole that is there, or a new one
    refine PO.join (fun st => ∃ (h5 : H) (W0 : Wn), st = ((some ⟨p, 0, some 0⟩, (now, (some ⟨h1.size, 0, some 0⟩, (a2, some ⟨W0.q, 0, some 0⟩)))), h5) ∧ EX h4 h5 ∧ WhA h5 W0.q W0.bb W0.s (i, d, c, 0, z) W0.l W0.bl ∧ (W0.l, W0.bl) = whL0 (i, d, c, k, z) (lookG i ws) ∧ (W0.bl.length : Int) = z ∧ Nrm (-1) 10 W0.l ∧
      (lookG i ws = some W0 ∨ (lookG i ws = none ∧ h4.size ≤ W0.q ∧ h4.size ≤ W0.bb ∧ W0.s = ⟨none, 0, 0⟩))) ?_ ?_
    · cases hlo : lookG i ws with
      | none =>
        refine .condT (.ptr (.ldZ5 B4 (PO.call (FNew_g x4.wf hx) fun a h5 ⟨q, bb, e, Wq, x5, g1, g2⟩ => .retL ⟨h5, ⟨q, bb, ⟨none, 0, 0⟩, (i, d, c, 0, z), [], List.replicate z.toNat 0⟩, by rw [e], x5, Wq, rfl, by simp; omega, trivial, .inr ⟨rfl, g1, g2, rfl⟩⟩)))
      | some W0 =>
        have he := lookG_mem hlo
        obtain ⟨q1, q2, q3⟩ := hps _ he rfl
        refine .condF (.retL ⟨h4, W0, rfl, EX.refl x4.wf, ?_, rfl, q3, q2, .inl rfl⟩)
        have := I4.at_ _ he
        unfold Wn.At at this
        rw [q1] at this
        exact this
    · rintro _ ⟨h5, W0, rfl, x5, A5, hwl, hbl0, hnr, hold⟩
      simp only
      have hl0 : W0.l.length ≤ 11 := by have := nrm_len W0.l (-1) 10 hnr (by omega); omega
      refine .ptr (.ldZ5 (Box.kx x5 B4) ?_)
      refine PO.call (FPut_g x5.wf hx A5 hbl0 (by omega) (RdB.ex x5 r4) hd) fun a h6 ⟨e, s', A6, hs', u6⟩ => ?_
      subst e
      simp only at A6
      have hsz5 := x5.size
      have hsz6 := u6.size
      -- what is turned is the whole's own
      have hkeep : ∀ A, A = W0.q ∨ A = W0.bb → keep p m ws A ∨ h.size ≤ A := by
        intro A hA
        rcases hold with e | ⟨_, g1, g2, _⟩
        · exact .inl (.inr (.inr ⟨_, lookG_mem e, hA⟩))
        · right; rcases hA with hA | hA <;> omega
      have I5 := I4.ex x5
      obtain ⟨s5, m25, P5, _⟩ := I5.set
      have hqp : W0.q ≠ p ∧ W0.bb ≠ p := by
        rcases hold with e | ⟨_, g1, g2, _⟩
        · exact I.np _ (lookG_mem e)
        · have := I4.blt; exact ⟨by omega, by omega⟩
      have hloc : h1.size ≠ W0.q ∧ h1.size ≠ W0.bb := by
        rcases hold with e | ⟨_, g1, g2, _⟩
        · obtain ⟨c1, c2, _, _⟩ := I.at1 (lookG_mem e)
          simp only at c1 c2
          have := x1.size; exact ⟨by omega, by omega⟩
        · have := B4.blt; exact ⟨by omega, by omega⟩
      have P6 := Box.ku u6 (fun e => by rcases e with e | e; exact hqp.1 e.symm; exact hqp.2 e.symm) P5
      have B6 := Box.ku u6 (fun e => by rcases e with e | e; exact hloc.1 e; exact hloc.2 e) (Box.kx x5 B4)
      have hqm : W0.q ≠ m ∧ W0.bb ≠ m := ⟨I5.map.neb A5.box, I5.map.neb A5.data⟩
      have M6 := I5.map.up u6 (fun e => by rcases e with e | e; exact hqm.1 e.symm; exact hqm.2 e.symm)
      refine .condF (.ptr (.op (ldM_of (P6.ld (i := 1) rfl)) (.ptr (.ldI B6 rfl ?_))))
      obtain ⟨h7, e7, M7, u7, z7⟩ := updP u6.wf M6 i (some ⟨W0.q, 0, some 0⟩)
      refine .op e7 ?_
      have hwl1 : W0.l = (whL0 (i, d, c, k, z) (lookG i ws)).1 := by rw [← hwl]
      have hwl2 : W0.bl = (whL0 (i, d, c, k, z) (lookG i ws)).2 := by rw [← hwl]
      rw [← hwl1, ← hwl2]
      generalize hl1 : (if mem W0.l k then W0.l else addS k (k + 1) W0.l) = l1 at A6
      generalize hb1 : (if mem W0.l k then W0.bl else putP k dt W0.bl) = b1 at A6
      have hstep : stepW (i, d, c, k, z) dt W0.l W0.bl = (l1, b1) := by unfold stepW; simp only; rw [hl1, hb1]
      have hn1 : Nrm (-1) 10 l1 := by
        rw [← hl1]; split
        · exact hnr
        · exact m_addS_nrm hnr (by omega) (by omega) (by omega)
      have hbl1 : (b1.length : Int) = z := by
        rw [← hb1]; split
        · exact hbl0
        · have hbd := hx.b
          unfold hfrom hto at hbd hd
          simp only at hbd hd
          rw [putP_len (by omega)]; exact hbl0
      have hne1 : l1 ≠ [] ∨ s' = W0.s := by
        by_cases hmk : mem W0.l k
        · rw [if_pos hmk] at hl1
          left
          rintro rfl
          rw [hl1] at hmk
          exact (mem_nil k).1 hmk
        · rw [if_neg hmk] at hl1
          left
          rintro rfl
          have := (m_addS_mem hnr (show 0 ≤ k by omega) (show k ≤ k + 1 by omega) (by omega) k).2 (.inr ⟨by omega, by omega⟩)
          rw [hl1] at this
          exact (mem_nil k).1 this
      have A7 : WhA h7 W0.q W0.bb s' (i, d, c, 0, z) l1 b1 := ⟨Box.ku u7 (fun e => hqm.1 e) A6.box, Rd.upg M6 u7 A6.set, A6.row, Box.ku u7 (fun e => hqm.2 e) A6.data, A6.ne⟩
      have I7 : InB h7 p m l (putG i ⟨W0.q, W0.bb, s', (i, d, c, 0, z), l1, b1⟩ ws) := by
        refine I4.put (W := ⟨W0.q, W0.bb, s', (i, d, c, 0, z), l1, b1⟩) ((x5.trans_up (u6.mono fun A _ e => by rcases e with e | e; exact .inl e; exact .inr (.inl e))).trans (u7.mono fun A _ e => .inr (.inr e)) fun A _ e => e) ?_ A7 ?_ fun a ha => ?_
        · have := putG_map Wn.ptr i ⟨W0.q, W0.bb, s', (i, d, c, 0, z), l1, b1⟩ ws
          rw [← this]
          exact M7
        · rcases hold with e | ⟨e, g1, g2, _⟩
          · exact .inl ⟨W0, e, rfl, rfl⟩
          · exact .inr ⟨e, g1, g2⟩
        · rcases hs' with e | f
          · rcases hold with e2 | ⟨_, _, _, e2⟩
            · exact .inl ⟨W0, e2, e⟩
            · simp only at ha
              rw [e, e2] at ha; cases ha
          · rcases hne1 with e | e
            · refine .inr ⟨by have := f a ha; omega, ?_⟩
              exact Rd.blt A7.set (by cases hh : l1 with | nil => exact absurd hh e | cons _ _ => simp [runsV]) ha
            · rcases hold with e2 | ⟨_, _, _, e2⟩
              · exact .inl ⟨W0, e2, e⟩
              · simp only at ha
                rw [e, e2] at ha; cases ha
      have ua : UP (keep p m ws) h h7 := (((xx4.trans x5).up (S := keep p m ws)).trans u6 fun A hA e => (hkeep A e).resolve_right (by omega)).trans u7 fun A _ e => .inr (.inl e)
      have hl1b : l1.length ≤ 11 := by have := nrm_len l1 (-1) 10 hn1 (by omega); omega
      refine PO.call (Full_g u7.wf A7 (by omega)) fun a h8 ⟨e, x8⟩ => ?_
      subst e
      refine .condND (fun hnf => .ret ⟨⟨W0.q, W0.bb, s', (i, d, c, 0, z), l1, b1⟩, rfl, hstep.symm, ua.ex x8, hkeep, ?_⟩) (fun hf => ?_)
      · simp only at hnf ⊢
        rw [if_neg hnf]
        exact ⟨trivial, I7.ex x8⟩
      refine .ptr (PO.letGrow x8.wf fun h9 x9 z9 w9 n9 => ?_)
      have x79 := x8.trans x9
      have B7 := Box.ku u7 (M6.neb B6) B6
      have B9 := Box.kx x79 B7
      have hn8 := x8.wf.nro
      refine .ldI B9 rfl (PO.call (Bytes_g w9 (A7.ex x79) (by omega) hbl1 (by omega) hf) fun s10 h10 ⟨r10, x10⟩ => ?_)
      have x710 := x79.trans x10
      have I10 := I7.ex x710
      have B10 := Box.kx x710 B7
      have hpl := I10.blt
      refine PO.call (settle_g x10.wf I10 (by omega) hn hid r10) fun a h11 ⟨e, I11, u11⟩ => ?_
      subst e
      refine .addOff (by decide) (.addNil (.ldI B10 rfl (.chk (by simp) ?_)))
      have hn10 : h10.objs.get (h8.size + 7) = none := x10.nn (by omega) (n9 7 (by omega))
      have hs10 := x10.size
      have hpo := I10.som
      have n11 : h11.objs.get (h8.size + 7) = none := by
        rw [u11.same _ (by omega) ?_]; exact hn10
        rintro (e | e)
        · exact hpo (e ▸ hn10)
        · have := I10.map.at_; rw [← e, hn10] at this; cases this
      have hz11 := u11.size
      have hz8 := x8.size
      refine PO.addNew u11.wf (by decide) n11 (by omega) (by rw [u11.nro, x10.nro, x9.nro]; omega) fun h12 N12 B12 => .addNil (PO.letTick N12.wf fun h13 x13 z13 w13 => .ret ?_)
      refine ⟨⟨W0.q, W0.bb, s', (i, d, c, 0, z), l1, b1⟩, rfl, hstep.symm, ?_, hkeep, ?_⟩
      · have hsz : h.size ≤ h8.size + 7 := by have := ua.size; omega
        exact (((ua.ex x710).trans u11 fun A _ e => e.elim .inl (fun e => .inr (.inl e))).trans (T := fun A => A = h8.size + 7) N12.up fun A hA e => by omega).ex x13
      · simp only
        rw [if_pos hf]
        have I13 := (I11.nw' N12).ex x13
        rw [dropG_putG] at I13
        exact ⟨(Box.kx x13 B12).rd w13 rfl (capOk_self _ _ (by unfold B63; omega)), I13⟩
end Go.Proofs.Ytaebjajbogedkaa.T
-- SEAT c
/- Chapter 22: pieces of several messages: what came of each. -/
set_option linter.unusedVariables false
set_option linter.unusedSimpArgs false
namespace Go.Abs
open Go
/-- all of the first n -/
def allP (f : Int → Bool) : Nat → Bool
  | 0 => true
  | n + 1 => allP f n && f n
theorem allP_iff {f : Int → Bool} : ∀ {n : Nat}, allP f n = true ↔ ∀ k : Int, 0 ≤ k → k < n → f k = true
  | 0 => by simp [allP]; intro k h1 h2; omega
  | n + 1 => by
    unfold allP
    rw [Bool.and_eq_true, allP_iff (n := n)]
    constructor
    · rintro ⟨h1, h2⟩ k h3 h4
      by_cases h : k = n
      · rw [h]; exact h2
      · exact h1 k h3 (by omega)
    · intro h
      exact ⟨fun k h1 h2 => h k h1 (by omega), h n (by omega) (by omega)⟩
/-- bytes of which some pieces came -/
def mskT (f : Int → Bool) (t : List UInt8) : List UInt8 := t.mapIdx fun j b => if f ((j / 80 : Nat) : Int) then b else 0
theorem mskT_len (f : Int → Bool) (t : List UInt8) : (mskT f t).length = t.length := by simp [mskT]
theorem mskT_at (f : Int → Bool) (t : List UInt8) (j : Nat) : (mskT f t)[j]? = (t[j]?).map fun b => if f ((j / 80 : Nat) : Int) then b else 0 := by
  simp [mskT, List.getElem?_mapIdx]
theorem mskT_none {f : Int → Bool} (t : List UInt8) (h : ∀ k, f k = false) : mskT f t = List.replicate t.length 0 := by
  apply List.ext_getElem?
  intro j
  rw [mskT_at]
  by_cases hj : j < t.length
  · rw [List.getElem?_eq_getElem hj, List.getElem?_replicate]; simp [h, hj]
  · rw [List.getElem?_eq_none (by omega), List.getElem?_eq_none (by simp; omega)]; rfl
theorem mskT_all {f : Int → Bool} (t : List UInt8) (h : ∀ j : Nat, j < t.length → f ((j / 80 : Nat) : Int) = true) : mskT f t = t := by
  apply List.ext_getElem?
  intro j
  rw [mskT_at]
  by_cases hj : j < t.length
  · rw [List.getElem?_eq_getElem hj, Option.map_some, h j hj, if_pos rfl]
  · rw [List.getElem?_eq_none (by omega)]; rfl
theorem mskT_congr {f g : Int → Bool} (t : List UInt8) (h : ∀ j : Nat, j < t.length → f ((j / 80 : Nat) : Int) = g ((j / 80 : Nat) : Int)) : mskT f t = mskT g t := by
  apply List.ext_getElem?
  intro j
  rw [mskT_at, mskT_at]
  by_cases hj : j < t.length
  · rw [List.getElem?_eq_getElem hj, Option.map_some, Option.map_some, h j hj]
  · rw [List.getElem?_eq_none (by omega)]; rfl
end Go.Abs
namespace Go.Proofs.Ytaebjajbogedkaa.T
open Go Go.Abs Go.Proofs
/-- one piece more -/
theorem mskT_put {f g : Int → Bool} {t : List UInt8} {k : Nat} {e : Nat} (hk : k * 80 < t.length) (he : e = min (k * 80 + 80) t.length) (hg : g k = true) (hne : ∀ j : Int, j ≠ k → g j = f j) :
    putP (k : Int) ((t.drop (k * 80)).take (e - k * 80)) (mskT f t) = mskT g t := by
  have hk2 : ((k : Int) * 80).toNat = k * 80 := by omega
  have hlt : ((t.drop (k * 80)).take (e - k * 80)).length = e - k * 80 := by simp; omega
  unfold putP
  rw [hk2, hlt]
  apply List.ext_getElem?
  intro j
  rw [mskT_at]
  by_cases h1 : j < k * 80
  · rw [List.append_assoc, List.getElem?_append_left (by simp [mskT_len]; omega), List.getElem?_take_of_lt h1, mskT_at]
    have : ((j / 80 : Nat) : Int) ≠ k := by omega
    rw [hne _ this]
  · by_cases h2 : j < e
    · rw [List.append_assoc, List.getElem?_append_right (by simp [mskT_len]; omega), List.getElem?_append_left (by simp [mskT_len]; omega)]
      have e1 : j - (List.take (k * 80) (mskT f t)).length = j - k * 80 := by simp [mskT_len]; omega
      rw [e1, List.getElem?_take_of_lt (by omega), List.getElem?_drop]
      have e2 : k * 80 + (j - k * 80) = j := by omega
      rw [e2]
      have e3 : ((j / 80 : Nat) : Int) = k := by omega
      rw [e3, hg]
      cases t[j]? <;> simp
    · rw [List.append_assoc, List.getElem?_append_right (by simp [mskT_len]; omega), List.getElem?_append_right (by simp [mskT_len]; omega), List.getElem?_drop]
      have e1 : k * 80 + (e - k * 80) + (j - (List.take (k * 80) (mskT f t)).length - ((t.drop (k * 80)).take (e - k * 80)).length) = j := by simp [mskT_len]; omega
      rw [e1, mskT_at]
      by_cases h3 : j < t.length
      · have : ((j / 80 : Nat) : Int) ≠ k := by omega
        rw [hne _ this]
      · rw [List.getElem?_eq_none (by omega)]; rfl
/-- which pieces came, one more -/
def prA (Pr : Int → Int → Bool) (i k : Int) : Int → Int → Bool := fun a b => Pr a b || (decide (a = i) && decide (b = k))
theorem prA_self (Pr : Int → Int → Bool) (i k : Int) : prA Pr i k i k = true := by simp [prA]
theorem prA_ne (Pr : Int → Int → Bool) {i k a b : Int} (h : ¬ (a = i ∧ b = k)) : prA Pr i k a b = Pr a b := by
  unfold prA
  by_cases h1 : a = i <;> by_cases h2 : b = k <;> simp [h1, h2] <;> simp_all
theorem prA_mono (Pr : Int → Int → Bool) (i k a b : Int) (h : Pr a b = true) : prA Pr i k a b = true := by simp [prA, h]
def idText (i : Int) (z : Int) : List UInt8 := textL [UInt8.ofNat (i.toNat)] z.toNat
/-- what the box holds of each message -/
structure CI (sz : Int → Int) (Pr : Int → Int → Bool) (l : List Run) (ws : List (Int × Wn)) : Prop where
  nrm : Nrm (-1) 40 l
  done : ∀ i, 0 ≤ i → i < 8 → 1 ≤ sz i → (mem l i ↔ allP (Pr i) (hcnt (sz i)).toNat = true)
  keys : ∀ e ∈ ws, 0 ≤ e.1 ∧ e.1 < 8 ∧ 1 ≤ sz e.1
  some_ : ∀ e ∈ ws, allP (Pr e.1) (hcnt (sz e.1)).toNat = false ∧ e.2.x = (e.1, 9, hcnt (sz e.1), 0, sz e.1) ∧ Nrm (-1) 10 e.2.l ∧ (∀ k, 0 ≤ k → k < hcnt (sz e.1) → (mem e.2.l k ↔ Pr e.1 k = true)) ∧ e.2.bl = mskT (Pr e.1) (idText e.1 (sz e.1))
  none_ : ∀ i, 0 ≤ i → i < 8 → 1 ≤ sz i → lookG i ws = none → allP (Pr i) (hcnt (sz i)).toNat = true ∨ ∀ k, Pr i k = false
section
variable {sz : Int → Int} {Pr : Int → Int → Bool} {l : List Run} {ws : List (Int × Wn)}
theorem idText_len (i z : Int) : (idText i z).length = z.toNat := textL_length _ _
/-- how it stood -/
theorem CI.old (C : CI sz Pr l ws) (kn : (ws.map (·.1)).Nodup) {i : Int} (hi : 0 ≤ i ∧ i < 8) (hs : 1 ≤ sz i) (hm : ¬ mem l i) (x : Hd) (hx : x.2.2.2.2 = sz i) :
    Nrm (-1) 10 (whL0 x (lookG i ws)).1 ∧ (∀ j, 0 ≤ j → j < hcnt (sz i) → (mem (whL0 x (lookG i ws)).1 j ↔ Pr i j = true)) ∧ (whL0 x (lookG i ws)).2 = mskT (Pr i) (idText i (sz i)) := by
  cases h : lookG i ws with
  | some W =>
    obtain ⟨_, _, h3, h4, h5⟩ := C.some_ _ (lookG_mem h)
    exact ⟨h3, h4, h5⟩
  | none =>
    rcases C.none_ i hi.1 hi.2 hs h with h1 | h1
    · exact absurd ((C.done i hi.1 hi.2 hs).2 h1) hm
    · refine ⟨trivial, fun j _ _ => ?_, ?_⟩
      · rw [h1 j]; exact ⟨fun q => ((mem_nil j).1 q).elim, fun q => by cases q⟩
      · show List.replicate x.2.2.2.2.toNat 0 = _
        rw [mskT_none _ h1, idText_len, hx]
theorem CI.step (C : CI sz Pr l ws) (kn : (ws.map (·.1)).Nodup) {i k : Int} (hi : 0 ≤ i ∧ i < 8) (hs : 1 ≤ sz i ∧ sz i ≤ 600) (hk : 0 ≤ k ∧ k < hcnt (sz i)) (hm : ¬ mem l i) {W : Wn} (hx : W.x = (i, 9, hcnt (sz i), 0, sz i))
    (hW : (W.l, W.bl) = stepW (i, 9, hcnt (sz i), k, sz i) (partV (i, 9, hcnt (sz i), k, sz i) (idText i (sz i))) (whL0 (i, 9, hcnt (sz i), k, sz i) (lookG i ws)).1 (whL0 (i, 9, hcnt (sz i), k, sz i) (lookG i ws)).2) :
    (gapS 0 (hcnt (sz i)) W.l = [] ↔ allP (prA Pr i k i) (hcnt (sz i)).toNat = true) ∧ W.bl = mskT (prA Pr i k i) (idText i (sz i)) ∧
    (if gapS 0 (hcnt (sz i)) W.l = [] then CI sz (prA Pr i k) (addS i (i + 1) l) (dropG i ws) else CI sz (prA Pr i k) l (putG i W ws)) := by
  obtain ⟨o1, o2, o3⟩ := C.old kn hi hs.1 hm (i, 9, hcnt (sz i), k, sz i) rfl
  generalize whL0 (i, 9, hcnt (sz i), k, sz i) (lookG i ws) = o at o1 o2 o3 hW
  have hc8 : hcnt (sz i) ≤ 8 ∧ (hcnt (sz i) - 1) * 80 < sz i ∧ sz i ≤ hcnt (sz i) * 80 := by unfold hcnt; omega
  have hlen := idText_len i (sz i)
  have hHR : HR (i, 9, hcnt (sz i), k, sz i) := by
    show 0 ≤ i ∧ i < 40 ∧ (0 : Int) ≤ 9 ∧ (9 : Int) ≤ 4611686018427387903 ∧ 1 ≤ sz i ∧ sz i ≤ 600 ∧ hcnt (sz i) = hcnt (sz i) ∧ 0 ≤ k ∧ k < hcnt (sz i)
    refine ⟨by omega, by omega, by omega, by omega, by omega, by omega, rfl, by omega, by omega⟩
  unfold stepW at hW
  simp only [Prod.mk.injEq] at hW
  obtain ⟨w1, w2⟩ := hW
  have hpk : mem o.1 k ↔ Pr i k = true := o2 k hk.1 hk.2
  have hnW : Nrm (-1) 10 W.l := by
    rw [w1]; split
    · exact o1
    · exact m_addS_nrm o1 (by omega) (by omega) (by omega)
  have hmW : ∀ j, 0 ≤ j → j < hcnt (sz i) → (mem W.l j ↔ prA Pr i k i j = true) := by
    intro j h1 h2
    rw [w1]
    by_cases hj : j = k
    · subst hj
      rw [prA_self]
      split
      · rename_i h; exact ⟨fun _ => rfl, fun _ => h⟩
      · exact ⟨fun _ => rfl, fun _ => (m_addS_mem o1 h1 (by omega) (by omega) j).2 (.inr ⟨by omega, by omega⟩)⟩
    · rw [prA_ne Pr (by omega), ← o2 j h1 h2]
      split
      · exact Iff.rfl
      · rw [m_addS_mem o1 hk.1 (by omega) (by omega) j]
        exact ⟨fun h => h.elim id (by omega), .inl⟩
  have hbW : W.bl = mskT (prA Pr i k i) (idText i (sz i)) := by
    rw [w2, o3]
    split
    · rename_i h
      refine mskT_congr _ fun j _ => ?_
      by_cases hj : ((j / 80 : Nat) : Int) = k
      · rw [hj, prA_self, hpk.1 h]
      · rw [prA_ne Pr (by omega)]
    · rename_i h
      have hp : partV (i, 9, hcnt (sz i), k, sz i) (idText i (sz i)) = ((idText i (sz i)).drop (k.toNat * 80)).take (min (k.toNat * 80 + 80) (idText i (sz i)).length - k.toNat * 80) := by
        unfold partV
        rw [if_pos ⟨hHR, by simp only; omega⟩]
        unfold hfrom hto
        simp only
        have e1 : (k * 80).toNat = k.toNat * 80 := by omega
        have e2 : (min (k * 80 + 80) (sz i)).toNat = min (k.toNat * 80 + 80) (idText i (sz i)).length := by omega
        rw [e1, e2]
      have := mskT_put (f := Pr i) (g := prA Pr i k i) (t := idText i (sz i)) (k := k.toNat) (by omega) rfl (by rw [show ((k.toNat : Nat) : Int) = k by omega]; exact prA_self _ _ _) (fun j hj => prA_ne Pr (by omega))
      rw [show ((k.toNat : Nat) : Int) = k by omega] at this
      rw [hp]
      exact this
  have hgap : gapS 0 (hcnt (sz i)) W.l = [] ↔ allP (prA Pr i k i) (hcnt (sz i)).toNat = true := by
    rw [m_gapS_nil hnW (Int.le_refl 0) (by omega) (by omega), allP_iff]
    constructor
    · intro h j h1 h2
      exact (hmW j h1 (by omega)).1 (h j h1 (by omega))
    · intro h j h1 h2
      exact (hmW j h1 h2).2 (h j h1 (by omega))
  have hoth : ∀ a, a ≠ i → prA Pr i k a = Pr a := fun a ha => funext fun b => prA_ne Pr (by omega)
  refine ⟨hgap, hbW, ?_⟩
  split
  · rename_i hg
    have hall := hgap.1 hg
    refine ⟨m_addS_nrm C.nrm (by omega) (by omega) (by omega), fun a h1 h2 h3 => ?_, fun e he => C.keys e (mem_dropG he), fun e he => ?_, fun a h1 h2 h3 h4 => ?_⟩
    · rw [m_addS_mem C.nrm hi.1 (by omega) (by omega) a]
      by_cases ha : a = i
      · subst ha
        rw [hall]
        exact ⟨fun _ => rfl, fun _ => .inr ⟨by omega, by omega⟩⟩
      · rw [hoth a ha, ← C.done a h1 h2 h3]
        exact ⟨fun h => h.elim id (by omega), .inl⟩
    · have hne : e.1 ≠ i := by
        intro h
        have h5 : lookG i (dropG i ws) = none := by rw [lookG_drop i i kn, if_pos rfl]
        exact (lookG_none.1 h5) (List.mem_map.2 ⟨e, he, h⟩)
      rw [hoth _ hne]
      exact C.some_ e (mem_dropG he)
    · by_cases ha : a = i
      · subst ha; exact .inl hall
      · rw [lookG_drop i a kn, if_neg ha] at h4
        rw [hoth a ha]
        exact C.none_ a h1 h2 h3 h4
  · rename_i hg
    have hall : allP (prA Pr i k i) (hcnt (sz i)).toNat = false := by
      cases h : allP (prA Pr i k i) (hcnt (sz i)).toNat with
      | false => rfl
      | true => exact absurd (hgap.2 h) hg
    have hmem : ∀ e ∈ putG i W ws, e = (i, W) ∨ (e ∈ ws ∧ e.1 ≠ i) := by
      intro e he
      rcases mem_putG he with h1 | h1 | ⟨_, h1⟩
      · exact .inl h1
      · exact .inr h1
      · exact absurd kn h1
    refine ⟨C.nrm, fun a h1 h2 h3 => ?_, fun e he => ?_, fun e he => ?_, fun a h1 h2 h3 h4 => ?_⟩
    · by_cases ha : a = i
      · subst ha
        rw [hall]
        exact ⟨fun h => absurd h hm, fun h => by cases h⟩
      · rw [hoth a ha]; exact C.done a h1 h2 h3
    · rcases hmem e he with rfl | ⟨he, _⟩
      · exact ⟨hi.1, hi.2, hs.1⟩
      · exact C.keys e he
    · rcases hmem e he with rfl | ⟨he, hne⟩
      · exact ⟨hall, hx, hnW, hmW, hbW⟩
      · rw [hoth _ hne]; exact C.some_ e he
    · rw [lookG_put] at h4
      split at h4
      · cases h4
      · rename_i ha
        rw [hoth a ha]
        exact C.none_ a h1 h2 h3 h4
/-- a piece of what is done -/
theorem CI.same (C : CI sz Pr l ws) {i k : Int} (hi : 0 ≤ i ∧ i < 8) (hs : 1 ≤ sz i) (hk : 0 ≤ k ∧ k < hcnt (sz i)) (hm : mem l i) : prA Pr i k = Pr ∧ allP (Pr i) (hcnt (sz i)).toNat = true := by
  have h := (C.done i hi.1 hi.2 hs).1 hm
  refine ⟨?_, h⟩
  funext a b
  by_cases hab : a = i ∧ b = k
  · rw [hab.1, hab.2, prA_self]
    exact (allP_iff.1 h k hk.1 (by omega)).symm
  · exact prA_ne Pr hab
end
end Go.Proofs.Ytaebjajbogedkaa.T
