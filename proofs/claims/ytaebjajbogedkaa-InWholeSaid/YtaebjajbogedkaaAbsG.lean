/- A machine without capacities, orders and tapes runs the program's code; what it answers, every run of the model answers (keys of maps put in order by the library). -/
import Derived.Test.YtaebjajbogedkaaAbsF
import Derived.Deep.Draws
import Derived.Sort.Grow
import Derived.Lib.SlKeysI
import Derived.Maps.Own
import Derived.Shelf.SlIterI.Collect
import Derived.Laws.IdiomRangeMap
import Derived.Shelf.SlSortCmp.Kit1
set_option linter.unusedVariables false
set_option linter.unusedSimpArgs false
/- A function that only reads, run in worlds that have grown; a row that the library has made, whatever else it has made beside. -/
namespace Go.Abs
open Go
section
variable {P : Program} {ρ : Ren} {h : H} {w : World}
/-- all that there is may only be read -/
def roH (h : H) : H := { h with nro := h.size, st := true }
theorem WR.ro (hw : WR ρ h w) : WR ρ (roH h) w := by
  refine ⟨hw.dom, fun A e L A' e' L' x y _ _ => ⟨(hw.dom _ _ _ x).1, (hw.dom _ _ _ y).1⟩, ?_, hw.lt, Nat.le_refl _⟩
  intro A ob x
  have hA := hw.lt A ob x
  have ho := hw.obj A ob x
  cases ob with
  | map es => exact ho
  | arr r =>
    refine ⟨fun e L y => ?_, fun o => ?_, ho.all, ho.in_⟩
    · obtain ⟨h1, h2, cs, el, f, h3, h4, _, h6⟩ := ho.loc e L y
      exact ⟨h1, h2, cs, el, f, h3, h4, fun o => absurd o (by show ¬ h.size ≤ A; omega), h6⟩
    · exact absurd o (by show ¬ h.size ≤ A; omega)
/-- the same in a world that has grown -/
theorem WR.base (hw : WR ρ h w) {w2 : World} (hs : w.heap.size ≤ w2.heap.size) (hb : ∀ b, b < w.heap.size → w2.heap[b]? = w.heap[b]?) : WR ρ h w2 :=
  ⟨fun A e L x => ⟨(hw.dom A e L x).1, Nat.lt_of_lt_of_le (hw.dom A e L x).2 hs⟩, hw.dis, fun A ob x => (hw.obj A ob x).keep (Ren.le_refl _) (fun _ _ y => y) (fun e L y => hb _ (hw.dom _ _ _ y).2), hw.lt, hw.nro⟩
theorem grown_of {w w' : World} (hs : w.heap.size ≤ w'.heap.size) (hb : ∀ b, b < w.heap.size → w'.heap[b]? = w.heap[b]?) (os : w'.os = w.os) (tp : w'.tape = w.tape) (out1 : w'.output = w.output) (out2 : w.drawn ≤ w'.drawn) :
    ∃ q os', w' = Sort.grow (w.drewN q) os' := by
  refine ⟨w'.drawn - w.drawn, (w'.heap.toList.drop w.heap.size).toArray, ?_⟩
  obtain ⟨hp, tp', dr, o', ou⟩ := w'
  obtain ⟨hp0, tp0, dr0, o0, ou0⟩ := w
  simp only at hs hb os tp out1 out2
  subst os; subst tp; subst out1
  simp only [Sort.grow, World.drewN]
  congr 1
  · apply Array.ext_getElem?
    intro i
    by_cases hi : i < hp0.size
    · rw [hb i hi, Array.getElem?_append_left hi]
    · rw [Array.getElem?_append_right (by omega)]
      simp only [List.getElem?_toArray, List.getElem?_drop, Array.getElem?_toList]
      rw [show hp0.size + (i - hp0.size) = i by omega]
  · omega
/-- a call that only reads what there is: the world grows -/
theorem CallPost.grown (hw : WR ρ h w) {v : Value} {h' : H} {e : Ending} {w' : World} (hp : CallPost ρ (roH h) w v h' e w') : ∃ v' ρ', e = .returned v' ∧ VR ρ' v v' ∧ ∃ q os', w' = Sort.grow (w.drewN q) os' := by
  obtain ⟨v', ρ', rfl, hv, _, hx⟩ := hp
  refine ⟨v', ρ', rfl, hv, grown_of hx.grow (fun b hb => hx.frame b hb ?_) hx.os hx.tape hx.output (hx.drawn rfl)⟩
  intro A e L x _ y
  have := (hw.dom _ _ _ x).1
  exact absurd y (by show ¬ h.size ≤ A; omega)
/-- a row in a block that was not there, whatever else has come -/
theorem WR.row_at (hw : WR ρ h w) {w' : World} (hs : w.heap.size ≤ w'.heap.size) (hb : ∀ b, b < w.heap.size → w'.heap[b]? = w.heap[b]?) (os : w'.os = w.os) (tp : w'.tape = w.tape) (out : w'.output = w.output) (hst : h.st = false)
    {blk : Nat} (hblk : w.heap.size ≤ blk) {cs : Array Value} {el : TypeId} {f : Nat × Nat} (hc : w'.heap[blk]? = some (.cells cs el f)) (hf : FrzOK f cs.size) {l l' : List Value} (hl : VRs ρ l l')
    (hcs : ∀ (i : Nat) (v : Value), l'[i]? = some v → cs[i]? = some v) (e : TypeId) :
    WR (updR ρ h.size 0 ⟨blk, 0, 0, l.length, cs.size⟩) (newAt (Abs.grow h 1) h.size (row e l)) w' ∧
    Ext ρ h w (updR ρ h.size 0 ⟨blk, 0, 0, l.length, cs.size⟩) (newAt (Abs.grow h 1) h.size (row e l)) w' := by
  have hun : ∀ e, ρ h.size e = none := by
    intro e
    cases x : ρ h.size e with
    | none => rfl
    | some L => have := (hw.dom _ _ _ x).1; omega
  have hle : ρ.le (updR ρ h.size 0 ⟨blk, 0, 0, l.length, cs.size⟩) := updR_le (hun 0)
  have hblt : blk < w'.heap.size := (Array.getElem?_eq_some_iff.1 hc).1
  have hw1 := hw.base hs hb
  refine ⟨⟨?_, ?_, ?_, ?_, Nat.le_trans hw.nro (Nat.le_add_right _ _)⟩, ⟨hle, rfl, by simp [newAt, Abs.grow], ?_, ?_, ?_, hs, fun b hlt _ => hb b hlt, os, tp, out, rfl, fun x => by rw [hst] at x; cases x⟩⟩
  · intro A e L x
    rcases updR_inv x with ⟨rfl, rfl, rfl⟩ | x
    · exact ⟨by simp [newAt, Abs.grow], hblt⟩
    · have := hw1.dom _ _ _ x; exact ⟨Nat.lt_of_lt_of_le this.1 (Nat.le_add_right _ _), this.2⟩
  · intro A1 e1 L1 A2 e2 L2 x y hne hc
    rcases updR_inv x with ⟨x1, x2, x3⟩ | x1 <;> rcases updR_inv y with ⟨y1, y2, y3⟩ | y1
    · exact absurd (x1.trans y1.symm) hne
    · have h1 := (hw.dom _ _ _ y1).2; subst x3; simp only at hc; omega
    · have h1 := (hw.dom _ _ _ x1).2; subst y3; simp only at hc; omega
    · exact hw.dis _ _ _ _ _ _ x1 y1 hne hc
  · intro A ob x
    simp only [newAt, Abs.grow, Tr.get_set] at x
    by_cases hA : A = h.size
    · rw [if_pos hA] at x
      obtain rfl := Option.some.inj x
      subst hA
      refine row_R (L := ⟨blk, 0, 0, l.length, cs.size⟩) (VRs.mono hle hl) hc hf hcs ⟨rfl, rfl, rfl, rfl⟩ ?_
      intro e L y
      rcases updR_inv y with ⟨_, rfl, rfl⟩ | y
      · exact ⟨rfl, rfl⟩
      · rw [hun] at y; simp at y
    · rw [if_neg hA] at x
      refine (hw1.obj A ob x).keep hle ?_ (fun _ _ _ => rfl)
      intro e L y
      rcases updR_inv y with ⟨y1, _, _⟩ | y
      · exact absurd y1 hA
      · exact y
  · intro A ob x
    simp only [newAt, Abs.grow, Tr.get_set] at x ⊢
    by_cases hA : A = h.size
    · omega
    · rw [if_neg hA] at x; have := hw.lt _ _ x; omega
  · intro A hA
    simp only [newAt, Abs.grow, Tr.get_set]
    rw [if_neg (by omega)]
  · intro A e L x y
    rcases updR_inv x with ⟨_, rfl, rfl⟩ | x
    · exact .inl hblk
    · rw [x] at y; simp at y
  · intro A e L x y
    rcases updR_inv x with ⟨rfl, rfl, rfl⟩ | x
    · exact .inl (Nat.le_refl _)
    · rw [x] at y; simp at y
end
end Go.Abs

/- The keys of a map that is whole numbers': the model's map is owned, and reads as the machine's. -/
namespace Go.Abs
open Go Go.Maps
/-- the keys of entries, all whole numbers -/
def keyInts : List (Value × Value) → Option (List Int)
  | [] => some []
  | (.int .i64 n, _) :: l => match keyInts l with
    | some ks => some (n :: ks)
    | none => none
  | _ => none
theorem keyInts_map : ∀ {es : List (Value × Value)} {ks : List Int}, keyInts es = some ks → es.map (·.1) = ks.map (Value.int .i64)
  | [], ks, h => by cases h; rfl
  | (v, u) :: l, ks, h => by
    cases v <;> try (simp [keyInts] at h; done)
    rename_i k n
    cases k <;> try (simp [keyInts] at h; done)
    simp only [keyInts] at h
    cases hk : keyInts l with
    | none => rw [hk] at h; simp at h
    | some ks' => rw [hk] at h; cases h; simp [keyInts_map hk]
theorem keyInts_enc : ∀ (l : List (Int × Value)), keyInts (l.map fun p => (.int .i64 p.1, p.2)) = some (l.map (·.1))
  | [] => rfl
  | p :: l => by simp [keyInts, keyInts_enc l]
def kI : Value → Int
  | .int _ n => n
  | _ => 0
section
variable {P : Program} {ρ : Ren} {h : H} {w : World}
theorem ESR.keys : ∀ {es : List (Value × Value)} {es' : List MapEntry}, ESR ρ es es' → es'.map (·.key) = es.map (·.1)
  | [], [], _ => rfl
  | (k, v) :: l, e :: l', x => by simp [x.1, ESR.keys x.2.2.2]
  | [], _ :: _, x => x.elim
  | _ :: _, [], x => x.elim
/-- how a map's values are read here: not at all -/
def noV : Value → Option (DataW Unit × List MemPlace) := fun _ => some (.nil, [])
theorem nodup_map_inj {α β : Type} (f : α → β) (hf : ∀ x y, f x = f y → x = y) : ∀ {l : List α}, l.Nodup → (l.map f).Nodup := fun {l} h => by
  unfold List.Nodup at h ⊢
  rw [List.pairwise_map]
  exact h.imp fun hne e => hne (hf _ _ e)
theorem map_owned (hw : WR ρ h w) {r : Nat} {es : List (Value × Value)} (ho : h.objs.get r = some (.map es)) {L : Loc} (hL : ρ r 0 = some L) {ks : List Int} (hk : keyInts es = some ks)
    (hr : ∀ k ∈ ks, (Lit.int .i64 k).wf = true) (hnd : ks.Nodup) (hs : ks.length ≤ maxLen) {kt : TypeId} (hkt : P.underlying kt = some (.int .i64)) :
    ∃ D0 : DataW Unit, w.ownsMap P kt noV L.cb es.length D0 ∧ (intKeys D0).Perm ks ∧ Maps.size D0 = ks.length := by
  obtain ⟨_, es', clk, h1, h2, h3⟩ := hw.obj _ _ ho 0 L hL
  have hkeys : es'.toList.map (·.key) = ks.map (Value.int .i64) := (ESR.keys h2).trans (keyInts_map hk)
  have hlen : es'.toList.length = ks.length := by simpa using congrArg List.length hkeys
  have hsz : es'.size = ks.length := by simpa using hlen
  have hel : es.length = ks.length := by simpa using congrArg List.length (keyInts_map hk)
  have hko : ∀ k : Int, (Lit.int .i64 k).wf = true → keyOf P kt (.int .i64 k) = some (.int .i64 k) := by
    intro k hwf
    simp [keyOf, hkt, mapKey, hwf]
  have hrd : ∀ x ∈ es'.toList, ∃ k : Int, k ∈ ks ∧ x.key = .int .i64 k ∧ Go.WideElems.rd P kt noV x = some (.int .i64 k, .nil) := by
    intro x hx
    have : x.key ∈ es'.toList.map (·.key) := List.mem_map.2 ⟨x, hx, rfl⟩
    rw [hkeys] at this
    obtain ⟨k, hk1, hk2⟩ := List.mem_map.1 this
    refine ⟨k, hk1, hk2.symm, ?_⟩
    unfold Go.WideElems.rd
    rw [← hk2, hko k (hr k hk1)]; rfl
  refine ⟨_, ⟨es', clk, h1, ⟨by rw [hsz]; exact hs, ⟨h3.1, h3.2, by rw [hkeys]; exact nodup_map_inj _ (fun x y e => by simpa using e) hnd⟩, fun x hx => ?_⟩, by rw [hsz, hel]; exact Nat.le_refl _, rfl⟩, ?_, ?_⟩
  · obtain ⟨k, _, _, hx3⟩ := hrd x hx
    exact ⟨_, hx3⟩
  · have hrg : ∀ x ∈ es'.toList, (Go.WideElems.rg P kt noV x) = (.int .i64 (Go.Abs.kI x.key), .nil) := by
      intro x hx
      obtain ⟨k, _, hx2, hx3⟩ := hrd x hx
      unfold Go.WideElems.rg
      rw [hx3, hx2]; rfl
    show (List.map (fun p => intOf p.1) ((es'.toList.map (Go.WideElems.rg P kt noV)).foldr DataW.insert [])).Perm ks
    refine ((Go.WideShapes.sorted_perm _).map _).trans ?_
    rw [List.map_map]
    have e1 : es'.toList.map ((fun p => intOf p.1) ∘ Go.WideElems.rg P kt noV) = es'.toList.map (fun x => kI x.key) := by
      refine List.map_congr_left fun x hx => ?_
      simp only [Function.comp, hrg x hx, intOf]
    rw [e1, show (fun x : MapEntry => kI x.key) = kI ∘ (fun x => x.key) from rfl, ← List.map_map, hkeys, List.map_map]
    have : (kI ∘ Value.int .i64) = id := by funext k; rfl
    rw [this, List.map_id]
  · show ((es'.toList.map (Go.WideElems.rg P kt noV)).foldr DataW.insert []).length = ks.length
    rw [(Go.WideShapes.sorted_perm _).length_eq, List.length_map, hlen]
end
end Go.Abs

/- maps.Keys: its iterator, the map's box lying wherever it lies; the keys come, each once, in some order. -/
namespace Go.Proofs
open Go.RowKit Go.Maps Go.Sort Go.Shelf
variable {P : Program} {ρ : Go.Shelf.Ren}
set_option maxRecDepth 100000 in
set_option maxHeartbeats 1000000 in
theorem keysO_in (L : SlLaysZI.n10 P ρ) {H : Type} (F : Fence) (n : Nat) (h10 : F.fn (ρ.f 10)) (hro : F.round = none) (hn : 1 ≤ n) (l Bm Om b nn : Nat) (D0 : DataW H) {R : Value → Option (DataW H × List MemPlace)} (J : List Int → World → Prop)
    (hY : ∀ pre x W, J pre W → pre.length < Maps.size D0 → YieldAt F (n - 1) P l #[encZ x] W fun e W' => e = .returned (.bool true) ∧ J (pre ++ [x]) W' ∧ KeepsWalks W W')
    (W : World) (hJ : AbidesFrom W.heap.size J) (hm : W.cell? ⟨Bm, Om, none⟩ = some (.map (some b))) (hown : W.ownsMap P (ρ.t 26) R b nn D0) (h0 : J [] W) :
    CallsIn F n P (ρ.f 10) #[.func (.yield l) #[] #[], .pointer (some ⟨Bm, Om, none⟩)] W fun e W' => (∃ v, e = .returned v) ∧ ∃ ss : List Int, ss.Perm (intKeys D0) ∧ J ss W' := by
  have mixed := L.mixed; have t0 := L.t0; have a0 := L.a0; have z0 := L.z0; have v0 := L.v0; have t4 := L.t4; have a4 := L.a4; have z4 := L.z4; have v4 := L.v4; have t23 := L.t23; have a23 := L.a23; have z23 := L.z23; have v23 := L.v23; have t26 := L.t26; have a26 := L.a26; have z26 := L.z26; have v26 := L.v26; have t33 := L.t33; have a33 := L.a33; have z33 := L.z33; have v33 := L.v33
  have u0 := run_underlying L.t0; have u4 := run_underlying L.t4; have u23 := run_underlying L.t23; have u26 := run_underlying L.t26; have u33 := run_underlying L.t33
  obtain ⟨_, _, FG⟩ := L.f10
  refine callsIn_of_wp FG rfl h10 ?_ hro
  simp only [SlBodyZ.n10_ntmps ρ, List.size_toArray, List.length_cons, List.length_nil, Nat.reduceAdd, Nat.reduceSub, Array.replicate_succ, Array.replicate_zero, List.push_toArray, List.append_toArray, List.nil_append, List.cons_append]
  gi_wp2_with (first
    | (gi_at_range; refine wpListIn_range_own _ rfl _ (ρ.t 23) rfl (ρ.t 26) (ρ.t 3) (int_keyed L.t26) L.t23 _ b nn _ rfl hown ?_; intro w0 hrg0 hg0 hs0)
    | gi_in)
  go_frame
  gi_loopw [3] (fun _ wr => ∃ (left : Lit → Bool) (cnt : Nat) (ss : List Int), wr.ranges P (ρ.t 26) R b W.heap.size nn D0 left cnt ∧ ss.length + cnt ≤ Maps.size D0 ∧ CollectedI D0 left ss ∧ J ss wr)
    (fun _ wr => wr.rangeLeft b W.heap.size)
  case atStart =>
    exact ⟨_, _, [], hrg0, by simp, CollectedI.start D0, hJ [] W w0 none h0 hg0 (fun r e => by cases e)⟩
  case round =>
    obtain ⟨left, cnt, ss, hrg, hcs, hC, hJs⟩ := hrel
    gi_wp2_with (first
      | (gi_at_next; refine wpListIn_next_ranges _ rfl _ rfl (ρ.t 26) (int_keyed L.t26) R encZ id (fun key kl hk => by obtain ⟨x, hx, _⟩ := Maps.keyOf_i64 L.t26 hk; exact ⟨x, hx⟩) (fun v _ _ => ⟨v, rfl⟩) b W.heap.size nn _ _ _ rfl hrg ?_ ?_)
      | gi_in)
    · intro hc0 hl0
      gi_wp2
      go_end0
      exact ⟨⟨_, rfl⟩, ss, hC.perm hown (int_keyed L.t26) L.t26 hl0, hJs⟩
    · intro x c kl yd yp w2 cnt2 hkey hlk hv hat hrg2 hlt hg2 hs2 hen
      obtain ⟨x', ex, rfl, _⟩ := Maps.keyOf_i64 L.t26 hkey
      obtain rfl : x = x' := encZ_inj ex
      have hJ2 : J ss w2 := hJ ss wr w2 (some W.heap.size) hJs hg2 (fun r e => by cases e; exact ⟨Nat.le_refl _, hrg.iter_walk⟩)
      obtain ⟨fn, tmps, assign, body, hy, hR⟩ := hY ss x w2 hJ2 (by omega)
      clear hs2
      gi_wp2
      refine hR.mono ?_
      rintro e W3 ⟨rfl, hJ3, hk3⟩
      gi_wp2
      have hrg3 := hrg2.of_walks hk3
      go_roundw
      case rel => exact ⟨_, cnt2, ss ++ [x], hrg3, by simp; omega, hC.step hlk hat, hJ3⟩
      case measure => rw [hrg3.left_eq, hrg.left_eq]; exact hlt
theorem keysO_gives (L : SlLaysZI.n10 P ρ) {H : Type} (F : Fence) (n : Nat) (h10 : F.fn (ρ.f 10)) (hro : F.round = none) (hn : 1 ≤ n) (Bm Om b nn : Nat) (D0 : DataW H) {R : Value → Option (DataW H × List MemPlace)} (w : World) (hBm : Bm < w.heap.size)
    (hm : w.cell? ⟨Bm, Om, none⟩ = some (.map (some b))) (hown : w.ownsMap P (ρ.t 26) R b nn D0) :
    SeqGives F n P (ρ.f 10) #[.pointer (some ⟨Bm, Om, none⟩)] encZ (fun ss => ss.Perm (intKeys D0)) (Maps.size D0) w := fun l J W hW hJ hY h0 => by
  have hown' : W.ownsMap P (ρ.t 26) R b nn D0 := by
    have hbl := hown.lt
    obtain ⟨es, clock, hb, Ft, hs, hD⟩ := hown
    exact ⟨es, clock, (hW.block b hbl).trans hb, Ft, hs, hD⟩
  exact keysO_in { L with } F n h10 hro hn l Bm Om b nn D0 J hY W hJ ((hW.cell (p := ⟨Bm, Om, none⟩) hBm).trans hm) hown' h0
set_option maxRecDepth 100000 in
set_option maxHeartbeats 1000000 in
theorem keysO_nil_in (L : SlLaysZI.n10 P ρ) (F : Fence) (n : Nat) (h10 : F.fn (ρ.f 10)) (hro : F.round = none) (l Bm Om : Nat) (J : List Int → World → Prop) (W : World) (hJ : AbidesFrom W.heap.size J)
    (hm : W.cell? ⟨Bm, Om, none⟩ = some (.map none)) (h0 : J [] W) :
    CallsIn F n P (ρ.f 10) #[.func (.yield l) #[] #[], .pointer (some ⟨Bm, Om, none⟩)] W fun e W' => (∃ v, e = .returned v) ∧ ∃ ss : List Int, ss = [] ∧ J ss W' := by
  have mixed := L.mixed; have t0 := L.t0; have a0 := L.a0; have z0 := L.z0; have v0 := L.v0; have t4 := L.t4; have a4 := L.a4; have z4 := L.z4; have v4 := L.v4; have t23 := L.t23; have a23 := L.a23; have z23 := L.z23; have v23 := L.v23; have t26 := L.t26; have a26 := L.a26; have z26 := L.z26; have v26 := L.v26; have t33 := L.t33; have a33 := L.a33; have z33 := L.z33; have v33 := L.v33
  have u0 := run_underlying L.t0; have u4 := run_underlying L.t4; have u23 := run_underlying L.t23; have u26 := run_underlying L.t26; have u33 := run_underlying L.t33
  obtain ⟨_, _, FG⟩ := L.f10
  refine callsIn_of_wp FG rfl h10 ?_ hro
  simp only [SlBodyZ.n10_ntmps ρ, List.size_toArray, List.length_cons, List.length_nil, Nat.reduceAdd, Nat.reduceSub, Array.replicate_succ, Array.replicate_zero, List.push_toArray, List.append_toArray, List.nil_append, List.cons_append]
  have hrg := run_range_nilMap (P := P) W (ρ.t 23) (ρ.t 26) (ρ.t 3) L.t23
  have hnx : ∀ ty, (Instr.next (.pointer (some ⟨W.heap.size, 0, none⟩)) false ty).run P (W.alloc (.mapIter none 0 #[] 0)) = _ := fun ty => run_next_nilMap _ ty 0 0 #[]
  gi_wp2
  refine wpIn_loop_rounds 1 ?_
  rw [roundsIn_succ]
  gi_wp2
  go_end0
  exact ⟨⟨_, rfl⟩, [], rfl, hJ [] W _ none h0 (World.grownBy_alloc W _ none) (fun r e => by cases e)⟩
theorem keysO_gives_nil (L : SlLaysZI.n10 P ρ) (F : Fence) (n : Nat) (h10 : F.fn (ρ.f 10)) (hro : F.round = none) (Bm Om : Nat) (w : World) (hBm : Bm < w.heap.size) (hm : w.cell? ⟨Bm, Om, none⟩ = some (.map none)) :
    SeqGives F n P (ρ.f 10) #[.pointer (some ⟨Bm, Om, none⟩)] encZ (fun ss : List Int => ss = []) 0 w := fun l J W hW hJ _ h0 =>
  keysO_nil_in { L with } F n h10 hro l Bm Om J W hJ ((hW.cell (p := ⟨Bm, Om, none⟩) hBm).trans hm) h0
end Go.Proofs

/- Keys put in order by a function that only reads: slices.SortFunc's contract, met by the machine's run of the comparing function. -/
namespace Go.Abs
open Go Go.Proofs Go.Sort
/-- l is the keys ks in the order that the comparing run tells -/
def SortsTo (run : Int → Int → Option Int) (ks l : List Int) : Prop :=
  l.Perm ks ∧ ∃ cf : Int → Int → Int, (∀ x ∈ ks, ∀ y ∈ ks, run x y = some (cf x y)) ∧ l.Pairwise (fun x y => cf x y < 0 ∧ ¬ cf y x < 0) ∧ ∀ x ∈ ks, ¬ cf x x < 0
section
variable {cf : Int → Int → Int} {ks l : List Int}
theorem ord_at (hp : l.Pairwise (fun x y => cf x y < 0 ∧ ¬ cf y x < 0)) (hi : ∀ x ∈ l, ¬ cf x x < 0) {i j : Nat} {x y : Int} (h1 : l[i]? = some x) (h2 : l[j]? = some y) : cf x y < 0 ↔ i < j := by
  obtain ⟨i1, e1⟩ := List.getElem?_eq_some_iff.1 h1
  obtain ⟨i2, e2⟩ := List.getElem?_eq_some_iff.1 h2
  rw [List.pairwise_iff_getElem] at hp
  constructor
  · intro hc
    rcases Nat.lt_trichotomy i j with h | h | h
    · exact h
    · subst h
      rw [e1] at e2; subst e2
      exact absurd hc (hi x (e1 ▸ List.getElem_mem i1))
    · have := (hp j i i2 i1 h).2
      rw [e1, e2] at this
      exact absurd hc this
  · intro h
    have := (hp i j i1 i2 h).1
    rw [e1, e2] at this; exact this
theorem sortsTo_swo (hl : l.Perm ks) (hp : l.Pairwise (fun x y => cf x y < 0 ∧ ¬ cf y x < 0)) (hi : ∀ x ∈ ks, ¬ cf x x < 0) :
    SWO (ltOf fun x y : {x : Int // x ∈ ks} => cf x.1 y.1) ∧ ∀ x y : {x : Int // x ∈ ks}, (ltOf fun x y : {x : Int // x ∈ ks} => cf x.1 y.1) x y = false → (ltOf fun x y : {x : Int // x ∈ ks} => cf x.1 y.1) y x = false → x = y := by
  have hi' : ∀ x ∈ l, ¬ cf x x < 0 := fun x hx => hi x (hl.mem_iff.1 hx)
  have pos : ∀ x : {x : Int // x ∈ ks}, ∃ i, l[i]? = some x.1 := fun x => List.mem_iff_getElem?.1 (hl.mem_iff.2 x.2)
  have lt_iff : ∀ (x y : {x : Int // x ∈ ks}), (ltOf fun x y : {x : Int // x ∈ ks} => cf x.1 y.1) x y = true ↔ (pos x).choose < (pos y).choose := by
    intro x y
    unfold ltOf
    rw [decide_eq_true_eq]
    exact ord_at hp hi' (pos x).choose_spec (pos y).choose_spec
  have lt_f : ∀ (x y : {x : Int // x ∈ ks}), (ltOf fun x y : {x : Int // x ∈ ks} => cf x.1 y.1) x y = false ↔ (pos y).choose ≤ (pos x).choose := by
    intro x y
    rw [← Bool.not_eq_true, lt_iff]; omega
  refine ⟨⟨fun x => (lt_f x x).2 (Nat.le_refl _), fun x y z a b => (lt_iff x z).2 (Nat.lt_trans ((lt_iff x y).1 a) ((lt_iff y z).1 b)), fun x y z a b => (lt_f x z).2 (Nat.le_trans ((lt_f y z).1 b) ((lt_f x y).1 a))⟩, ?_⟩
  intro x y a b
  have e : (pos x).choose = (pos y).choose := Nat.le_antisymm ((lt_f y x).1 b) ((lt_f x y).1 a)
  have h1 := (pos x).choose_spec
  have h2 := (pos y).choose_spec
  rw [e, h2] at h1
  exact Subtype.ext (Option.some.inj h1.symm)
theorem sortsTo_one (hl : l.Perm ks) (hp : l.Pairwise (fun x y => cf x y < 0 ∧ ¬ cf y x < 0)) (hi : ∀ x ∈ ks, ¬ cf x x < 0) {m : List Int} (hm : m.Perm ks) (hs : m.Pairwise (fun x y => ¬ cf y x < 0)) : m = l := by
  refine List.Perm.eq_of_pairwise (le := fun a b => ¬ cf b a < 0) ?_ hs (hp.imp fun h => h.2) (hm.trans hl.symm)
  intro a b ha hb h1 h2
  have := (sortsTo_swo hl hp hi).2 ⟨a, hm.mem_iff.1 ha⟩ ⟨b, hl.mem_iff.1 hb⟩ (by unfold ltOf; simpa using h2) (by unfold ltOf; simpa using h1)
  exact congrArg Subtype.val this
end
/-! the world behind the sort -/
section
variable {P : Program} {ρ : Abs.Ren} {h : H} {w W : World} {α : Type} [Inhabited α] {enc : α → Value}
theorem heap_putRow (enc : α → Value) (w : World) (blk off : Nat) (d : Array α) (b : Nat) (hb : b ≠ blk) : (putRow enc w blk off d).heap[b]? = w.heap[b]? := by
  unfold putRow mapBlock
  simp only [Array.getElem?_modify]
  rw [if_neg (Ne.symm hb)]
theorem heap_putRow_at (enc : α → Value) (w : World) (blk off : Nat) (d : Array α) {cs : Array Value} {el : TypeId} {f : Nat × Nat} (hc : w.heap[blk]? = some (.cells cs el f)) :
    (putRow enc w blk off d).heap[blk]? = some (.cells (putCells enc off d cs) el f) := by
  unfold putRow mapBlock
  simp only [Array.getElem?_modify, hc]
  rfl
theorem putCells_at (enc : α → Value) (d : Array α) (cs : Array Value) (hs : d.size ≤ cs.size) : (putCells enc 0 d cs).size = cs.size ∧ ∀ (i : Nat) (v : Value), (d.toList.map enc)[i]? = some v → (putCells enc 0 d cs)[i]? = some v := by
  refine ⟨by simp [putCells], fun i v hv => ?_⟩
  rw [List.getElem?_map, Option.map_eq_some_iff] at hv
  obtain ⟨x, hx, rfl⟩ := hv
  rw [Array.getElem?_toList] at hx
  obtain ⟨hi, e⟩ := Array.getElem?_eq_some_iff.1 hx
  unfold putCells
  rw [Array.getElem?_mapIdx, Array.getElem?_eq_getElem (by omega)]
  simp only [Option.map_some]
  rw [if_pos (by omega), Nat.sub_zero, getElem!_pos d i hi, e]
theorem sortWorld_heap (hb : Go.RowKit.Below w.heap.size w W) {blk : Nat} (hblk : w.heap.size ≤ blk) (m : Nat) (d : Array α) (os : Array Obj) :
    w.heap.size ≤ (sortWorld enc W blk 0 m d os).heap.size ∧ (∀ b, b < w.heap.size → (sortWorld enc W blk 0 m d os).heap[b]? = w.heap[b]?) ∧ (sortWorld enc W blk 0 m d os).os = w.os ∧ (sortWorld enc W blk 0 m d os).tape = w.tape ∧ (sortWorld enc W blk 0 m d os).output = w.output := by
  have e : (sortWorld enc W blk 0 m d os).heap = (putRow enc (Sort.ahead W m) blk 0 d).heap ++ os := rfl
  have hs : (putRow enc (Sort.ahead W m) blk 0 d).heap.size = W.heap.size := Sort.size_putRow enc _ blk 0 d
  refine ⟨?_, fun b hlt => ?_, hb.os, hb.tape, hb.output⟩
  · rw [e, Array.size_append, hs]; have := hb.size; omega
  · rw [e, Array.getElem?_append_left (by rw [hs]; have := hb.size; omega), heap_putRow enc _ blk 0 d b (by omega)]
    exact hb.block b hlt
/-- a comparing run, asked of slices.SortFunc's contract -/
theorem cmp_lays {ks : List Int} [Inhabited {x : Int // x ∈ ks}] (hw : WR ρ h w) (hb : Go.RowKit.Below w.heap.size w W) {blk : Nat} (hblk : w.heap.size ≤ blk) {g : Nat} {cb : List Value} {cb' : Array Value} (hcb : VRs ρ cb cb'.toList) {cf : Int → Int → Int}
    (hg : ∀ x ∈ ks, ∀ y ∈ ks, ∃ h', ∀ (ρ : Abs.Ren) (w : World) (args' : Array Value), WR ρ (roH h) w → VRs ρ (.int .i64 x :: .int .i64 y :: cb) args'.toList → Calls P g args' w (CallPost ρ (roH h) w (.int .i64 (cf x y)) h')) (size : Nat) :
    CmpLays1 P g cb' (fun x : {x : Int // x ∈ ks} => Value.int .i64 x.1) (fun x y => cf x.1 y.1) blk 0 size W := by
  intro m os dk _ x y
  have hf := sortWorld_heap (enc := fun x : {x : Int // x ∈ ks} => Value.int .i64 x.1) hb hblk m dk os
  generalize sortWorld (fun x : {x : Int // x ∈ ks} => Value.int .i64 x.1) W blk 0 m dk os = Wx at hf ⊢
  have hx : WR ρ h Wx := hw.base hf.1 hf.2.1
  obtain ⟨h', hc⟩ := hg x.1 x.2 y.1 y.2
  have ha : VRs ρ (.int .i64 x.1 :: .int .i64 y.1 :: cb) (#[Value.int .i64 x.1, Value.int .i64 y.1] ++ cb').toList := by
    rw [Array.toList_append]
    exact .cons (.int _ _) (.cons (.int _ _) hcb)
  have hc1 := hc ρ Wx (#[Value.int .i64 x.1, Value.int .i64 y.1] ++ cb') hx.ro ha
  refine hc1.mono ?_
  intro e w' hp
  obtain ⟨v', ρ', rfl, hv, q, os', hw'⟩ := CallPost.grown hx hp
  cases hv
  exact ⟨rfl, q, os', hw'⟩
theorem vrs_ints {ρ : Abs.Ren} : ∀ l : List Int, VRs ρ (l.map (Value.int .i64)) (l.map (Value.int .i64))
  | [] => .nil
  | a :: l => .cons (.int _ _) (vrs_ints l)
/-- the slice that is handed back -/
theorem sorted_post (hw : WR ρ h w) (hst : h.st = false) (hb : Go.RowKit.Below w.heap.size w W) {blk cap : Nat} (hblk : w.heap.size ≤ blk) {cur : Array Value} {et : TypeId} (hc : W.heap[blk]? = some (.cells cur et (0, 0))) (m : Nat) (d : Array α) (os : Array Obj)
    (hn : d.size ≤ cap) (hcs : cur.size = cap) {l : List Int} (hd : d.toList.map enc = l.map (Value.int .i64)) (e : TypeId) :
    CallPost ρ h w (.slice (some ⟨h.size, 0, some 0⟩) l.length (UNK 1)) (newAt (Abs.grow h 1) h.size (row e (l.map (.int .i64)))) (.returned (.slice (some ⟨blk, 0, none⟩) d.size cap)) (sortWorld enc W blk 0 m d os) := by
  obtain ⟨h1, h2, h3, h4, h5⟩ := sortWorld_heap (enc := enc) hb hblk m d os
  have hlen : d.size = l.length := by have := congrArg List.length hd; simpa using this
  have hbl : blk < W.heap.size := (Array.getElem?_eq_some_iff.1 hc).1
  have hc' : (sortWorld enc W blk 0 m d os).heap[blk]? = some (.cells (putCells enc 0 d cur) et (0, 0)) := by
    show ((putRow enc (Sort.ahead W m) blk 0 d).heap ++ os)[blk]? = _
    rw [Array.getElem?_append_left (by rw [Sort.size_putRow]; exact hbl)]
    exact heap_putRow_at enc _ blk 0 d hc
  obtain ⟨p1, p2⟩ := putCells_at enc d cur (by omega)
  have hl : VRs ρ (l.map (Value.int .i64)) (d.toList.map enc) := by
    rw [hd]
    exact vrs_ints l
  obtain ⟨g1, g2⟩ := hw.row_at h1 h2 h3 h4 h5 hst hblk hc' (.inl rfl) hl p2 e
  refine ⟨_, _, rfl, ?_, g1, g2⟩
  rw [hlen]
  refine VR_slice_unk (by unfold B63; omega) (updR_self ρ h.size 0 _) (by omega) (by rw [p1, hcs]; omega) (by simp; omega)
end
end Go.Abs
namespace Go.Abs
open Go Go.Proofs Go.Sort
/-- the keys that came, with their proofs -/
def withK {ks ss : List Int} (hS : ss.Perm ks) : Array {x : Int // x ∈ ks} := (ss.pmap Subtype.mk fun _ hx => hS.mem_iff.1 hx).toArray
theorem withK_size {ks ss : List Int} (hS : ss.Perm ks) : (withK hS).size = ss.length := by simp [withK]
theorem withK_val {ks ss : List Int} (hS : ss.Perm ks) : (withK hS).toList.map (fun x : {x : Int // x ∈ ks} => x.1) = ss := by
  simp only [withK, List.map_pmap]
  exact List.pmap_eq_self.2 fun _ _ => rfl
theorem withK_holds {ks ss : List Int} [Inhabited {x : Int // x ∈ ks}] (hS : ss.Perm ks) {W : World} {blk : Nat} (h : Holds encZ W blk 0 ss.toArray) : Holds (fun x : {x : Int // x ∈ ks} => Value.int .i64 x.1) W blk 0 (withK hS) := by
  intro j hj
  have hj' : j < ss.toArray.size := by rw [withK_size] at hj; simpa using hj
  have := h j hj'
  rw [getElem!_pos (withK hS) j hj]
  rw [getElem!_pos ss.toArray j hj'] at this
  simpa [withK, encZ] using this
theorem withK_sorted {ks ss l : List Int} [Inhabited {x : Int // x ∈ ks}] (hS : ss.Perm ks) {cf : Int → Int → Int} (hl : l.Perm ks)
    (hp : l.Pairwise (fun x y => cf x y < 0 ∧ ¬ cf y x < 0)) (hi : ∀ x ∈ ks, ¬ cf x x < 0) {d' : Array {x : Int // x ∈ ks}} (h1 : PermIn 0 (withK hS).size (withK hS) d') (h2 : SortedIn (ltOf fun x y : {x : Int // x ∈ ks} => cf x.1 y.1) 0 (withK hS).size d') :
    d'.toList.map (fun x : {x : Int // x ∈ ks} => Value.int .i64 x.1) = l.map (Value.int .i64) ∧ d'.size = ss.length := by
  obtain ⟨p1, _, p3⟩ := h1
  have e1 : d'.extract 0 (withK hS).size = d' := by rw [← p1]; simp
  have e2 : (withK hS).extract 0 (withK hS).size = withK hS := by simp
  rw [e1, e2] at p3
  have hm : (d'.toList.map (fun x : {x : Int // x ∈ ks} => x.1)).Perm ks := ((p3.map _).trans (by rw [withK_val])).trans hS
  have hs : (d'.toList.map (fun x : {x : Int // x ∈ ks} => x.1)).Pairwise (fun x y => ¬ cf y x < 0) := by
    rw [List.pairwise_map, List.pairwise_iff_getElem]
    intro i j hi hj hij
    have hi' : i < d'.size := by simpa using hi
    have hj' : j < d'.size := by simpa using hj
    have := h2 i j (Nat.zero_le _) hij (by rw [← p1]; exact hj')
    rw [getElem!_pos d' i hi', getElem!_pos d' j hj'] at this
    unfold ltOf at this
    simpa using this
  have e := sortsTo_one hl hp hi hm hs
  refine ⟨?_, by rw [p1, withK_size]⟩
  rw [← e, List.map_map]; rfl
/-- the order's facts, in one word -/
structure Srt (cf : Int → Int → Int) (ks l : List Int) : Prop where
  perm : l.Perm ks
  pw : l.Pairwise (fun x y => cf x y < 0 ∧ ¬ cf y x < 0)
  irr : ∀ x ∈ ks, ¬ cf x x < 0
end Go.Abs

/- slices.SortedFunc over maps.Keys, as one step of the machine: what it hands back hangs on no order. -/
namespace Go.Abs
open Go Go.Proofs Go.Sort Go.Maps
open Go.RowKit (Below)
/-- the entries of the map whose keys an iterator's value gives -/
def keysA (kf : FuncId) (v : Value) (h : H) : Option (List (Value × Value)) := match v with
  | .func (.func f) first cap => bif f.beq kf then (match first.toList, cap.toList with
    | [], [.pointer (some a)] => match ldCell h a with
      | some (.map none) => some []
      | some (.map (some r)) => match h.objs.get r with
        | some (.map es) => some es
        | _ => none
      | _ => none
    | _, _ => none) else none
  | _ => none
theorem keysA_ok {ρ : Abs.Ren} {h : H} {w : World} (hw : WR ρ h w) {kf : FuncId} {v v' : Value} (hv : VR ρ v v') {es : List (Value × Value)} (hk : keysA kf v h = some es) :
    ∃ B O, v' = .func (.func kf) #[] #[.pointer (some ⟨B, O, none⟩)] ∧ B < w.heap.size ∧ ((w.cell? ⟨B, O, none⟩ = some (.map none) ∧ es = []) ∨ ∃ r L, w.cell? ⟨B, O, none⟩ = some (.map (some L.cb)) ∧ h.objs.get r = some (.map es) ∧ ρ r 0 = some L) := by
  unfold keysA at hk
  split at hk
  case h_2 => simp at hk
  rename_i f first cap
  cases hf : f.beq kf <;> rw [hf] at hk
  · simp at hk
  have hf := Nat.eq_of_beq_eq_true hf
  subst hf
  simp only [cond_true] at hk
  cases hv with
  | func _ _ x' _ y' p q =>
  split at hk
  case h_2 => simp at hk
  rename_i a h1 h2
  rw [h1] at p
  rw [h2] at q
  have hx : x' = #[] := by
    obtain ⟨l⟩ := x'
    cases p; rfl
  subst hx
  obtain ⟨yl⟩ := y'
  cases q with
  | cons q1 q2 =>
  cases q2
  cases q1 with
  | ptr _ c hc =>
  obtain ⟨L0, e0, b1, b2, b3, b4, b5⟩ := hc
  have hlt : c.block < w.heap.size := by rw [b3]; exact (hw.dom _ _ _ b2).2
  obtain ⟨B, O, sp⟩ := c
  simp only at b4 hlt
  subst b4
  refine ⟨B, O, rfl, hlt, ?_⟩
  cases hl : ldCell h a with
  | none => rw [hl] at hk; simp at hk
  | some u =>
    obtain ⟨u', g1, g2⟩ := ld_cell hw ⟨L0, e0, b1, b2, b3, rfl, b5⟩ hl
    rw [hl] at hk
    split at hk
    · rename_i e; cases e
      cases g2
      exact .inl ⟨g1, (Option.some.inj hk).symm⟩
    · rename_i r e; cases e
      split at hk
      · rename_i es' ho
        cases hk
        cases g2 with
        | map _ L hL => exact .inr ⟨r, L, g1, ho, hL⟩
      · simp at hk
    · simp at hk
open Classical in
noncomputable def sortK (e : TypeId) (cmp : Int → Int → Option Int) (ks : List Int) (h : H) : Option (Value × H) :=
  if hc : (∀ k ∈ ks, (Lit.int .i64 k).wf = true) ∧ ks.Nodup ∧ ks.length * 8 ≤ 140737488355328 ∧ ∃ l, SortsTo cmp ks l then
    (match ks with
    | [] => some (.slice none 0 0, h)
    | _ :: _ => some (.slice (some ⟨h.size, 0, some 0⟩) ks.length (UNK 1), newAt (Abs.grow h 1) h.size (row e (hc.2.2.2.choose.map (.int .i64)))))
  else none
theorem SortsTo.one {cmp : Int → Int → Option Int} {ks l m : List Int} (a : SortsTo cmp ks l) (b : SortsTo cmp ks m) : m = l := by
  obtain ⟨a1, cf, a2, a3, a4⟩ := a
  obtain ⟨b1, cg, b2, b3, b4⟩ := b
  refine sortsTo_one a1 a3 a4 b1 ?_
  refine (List.Pairwise.and_mem.1 b3).imp ?_
  rintro x y ⟨hx, hy, _, h2⟩
  have hx' := b1.mem_iff.1 hx
  have hy' := b1.mem_iff.1 hy
  have e1 := a2 y hy' x hx'
  rw [b2 y hy' x hx'] at e1
  rw [← Option.some.inj e1]; exact h2
theorem sortK_eq {e : TypeId} {cmp : Int → Int → Option Int} {ks l : List Int} {h : H} (h1 : ∀ k ∈ ks, (Lit.int .i64 k).wf = true) (h2 : ks.Nodup) (h3 : ks.length * 8 ≤ 140737488355328) (h4 : SortsTo cmp ks l) (hne : ks ≠ []) :
    sortK e cmp ks h = some (.slice (some ⟨h.size, 0, some 0⟩) l.length (UNK 1), newAt (Abs.grow h 1) h.size (row e (l.map (.int .i64)))) := by
  have hc : (∀ k ∈ ks, (Lit.int .i64 k).wf = true) ∧ ks.Nodup ∧ ks.length * 8 ≤ 140737488355328 ∧ ∃ l, SortsTo cmp ks l := ⟨h1, h2, h3, l, h4⟩
  have e1 : hc.2.2.2.choose = l := h4.one hc.2.2.2.choose_spec
  have e2 : l.length = ks.length := h4.1.length_eq
  unfold sortK
  rw [dif_pos hc]
  cases ks with
  | nil => exact absurd rfl hne
  | cons a ks => simp only [e1, e2]
theorem sortK_nil {e : TypeId} {cmp : Int → Int → Option Int} {h : H} : sortK e cmp [] h = some (.slice none 0 0, h) := by
  unfold sortK
  rw [dif_pos ⟨fun _ h => (nomatch h), List.nodup_nil, by simp, [], .refl _, fun _ _ => 0, fun _ h => (nomatch h), List.Pairwise.nil, fun _ h => (nomatch h)⟩]
theorem sortK_inv {e : TypeId} {cmp : Int → Int → Option Int} {ks : List Int} {h : H} {v : Value} {h' : H} (hs : sortK e cmp ks h = some (v, h')) :
    (ks = [] ∧ v = .slice none 0 0 ∧ h' = h) ∨ (ks ≠ [] ∧ (∀ k ∈ ks, (Lit.int .i64 k).wf = true) ∧ ks.Nodup ∧ ks.length * 8 ≤ 140737488355328 ∧ ∃ l, SortsTo cmp ks l ∧ v = .slice (some ⟨h.size, 0, some 0⟩) l.length (UNK 1) ∧ h' = newAt (Abs.grow h 1) h.size (row e (l.map (.int .i64)))) := by
  cases ks with
  | nil => rw [sortK_nil] at hs; cases hs; exact .inl ⟨rfl, rfl, rfl⟩
  | cons a ks =>
    have hs0 := hs
    unfold sortK at hs0
    split at hs0
    · rename_i hc
      obtain ⟨c1, c2, c3, l, c4⟩ := hc
      rw [sortK_eq c1 c2 c3 c4 (by simp)] at hs
      cases hs
      exact .inr ⟨by simp, c1, c2, c3, l, c4, rfl, rfl⟩
    · simp at hs0
/-- the step -/
noncomputable def ovSorted (kf : FuncId) (e : TypeId) (run : FuncId → List Value → Int → Int → H → Option Int) (args : List Value) (h : H) : Option (Value × H) := match args with
  | [s, .func (.func g) first cap] => bif h.st then none else match keysA kf s h, first.toList with
    | some es, [] => match keyInts es with
      | some ks => sortK e (fun x y => run g cap.toList x y (roH h)) ks h
      | none => none
    | _, _ => none
  | _ => none
section
variable {P : Program}
/-- what is asked of the comparing functions -/
def RunsOK (P : Program) (run : FuncId → List Value → Int → Int → H → Option Int) : Prop := ∀ g cb x y h c, run g cb x y h = some c →
  (∀ args w, (callFunc g args).run P w = .ok (.enter g args) w) ∧ ∃ h', ∀ (ρ : Abs.Ren) (w : World) (args' : Array Value), WR ρ h w → VRs ρ (.int .i64 x :: .int .i64 y :: cb) args'.toList → Calls P g args' w (CallPost ρ h w (.int .i64 c) h')
def Walk1 (P : Program) (f kf : FuncId) (et : TypeId) : Prop := ∀ (ks : List Int), ks.length ≤ maxLen → ks.length * 8 ≤ 140737488355328 → ∀ (w : World) (c : Addr),
    SeqGives Fence.wide 3 P kf #[.pointer (some c)] encZ (fun ss : List Int => ss.Perm ks) ks.length w →
    ∀ (g : Nat) (cb : Array Value), (∀ args w, (callFunc g args).run P w = .ok (.enter g args) w) → ∀ [Inhabited {x : Int // x ∈ ks}] {cf : Int → Int → Int} {l : List Int}, Srt cf ks l →
    (∀ (W : World) (blk : Nat), Below w.heap.size w W → w.heap.size ≤ blk → CmpLays1 P g cb (fun x : {x : Int // x ∈ ks} => Value.int .i64 x.1) (fun x y => cf x.1 y.1) blk 0 ks.length W) →
    Calls P f #[.func (.func kf) #[] #[.pointer (some c)], .func (.func g) #[] cb] w fun e w' =>
      ∃ (W : World) (blk cap : Nat) (cur : Array Value) (m : Nat) (d : Array {x : Int // x ∈ ks}) (os : Array Obj), Below w.heap.size w W ∧ w.heap.size ≤ blk ∧ W.heap[blk]? = some (.cells cur et (0, 0)) ∧ d.size ≤ cap ∧ cur.size = cap ∧
        d.toList.map (fun x : {x : Int // x ∈ ks} => Value.int .i64 x.1) = l.map (Value.int .i64) ∧ e = .returned (.slice (some ⟨blk, 0, none⟩) d.size cap) ∧ w' = sortWorld (fun x : {x : Int // x ∈ ks} => Value.int .i64 x.1) W blk 0 m d os
def Walk0 (P : Program) (f kf : FuncId) : Prop := ∀ (w : World) (c : Addr), SeqGives Fence.wide 3 P kf #[.pointer (some c)] encZ (fun ss : List Int => ss = []) 0 w → ∀ (g : Nat) (cb : Array Value),
    Calls P f #[.func (.func kf) #[] #[.pointer (some c)], .func (.func g) #[] cb] w fun e w' => e = .returned (.slice none 0 0) ∧ Below w.heap.size w w'
theorem ovSorted_ok {f kf : FuncId} {et : TypeId} {σ : Go.Shelf.Ren} (L : SlLaysZI.n10 P σ) (hσ : σ.f 10 = kf) (w1 : Walk1 P f kf et) (w0 : Walk0 P f kf) {e : TypeId} {run : FuncId → List Value → Int → Int → H → Option Int} (hr : RunsOK P run) :
    ∀ args h v h', ovSorted kf e run args h = some (v, h') → (h' = h ∨ h.tick < h'.tick) ∧ ∀ (ρ : Abs.Ren) w (args' : Array Value), WR ρ h w → VRs ρ args args'.toList → Calls P f args' w (CallPost ρ h w v h') := by
  intro args h v h' ho
  unfold ovSorted at ho
  split at ho
  case h_2 => simp at ho
  rename_i s g first cap
  cases hst : h.st <;> rw [hst] at ho
  case true => simp at ho
  simp only [cond_false] at ho
  split at ho
  case h_2 => simp at ho
  rename_i es hk hfst
  split at ho
  case h_2 => simp at ho
  rename_i ks hki
  have hinv := sortK_inv ho
  refine ⟨?_, ?_⟩
  · rcases hinv with ⟨_, _, rfl⟩ | ⟨_, _, _, _, l, _, _, rfl⟩
    · exact .inl rfl
    · exact .inr (by simp [newAt, Abs.grow])
  intro ρ w args' hw hargs
  obtain ⟨al⟩ := args'
  cases hargs with
  | cons q1 q2 =>
  rename_i s' al1
  cases q2 with
  | cons q2 q3 =>
  cases q3
  obtain ⟨B, O, rfl, hB, hcell⟩ := keysA_ok hw q1 hk
  cases q2 with
  | func _ _ x' _ cb p q =>
  rw [hfst] at p
  have hx : x' = #[] := by
    obtain ⟨l⟩ := x'
    cases p; rfl
  subst hx
  have gives : ks ≠ [] → (∀ k ∈ ks, (Lit.int .i64 k).wf = true) → ks.Nodup → ks.length * 8 ≤ 140737488355328 → SeqGives Fence.wide 3 P kf #[.pointer (some ⟨B, O, none⟩)] encZ (fun ss : List Int => ss.Perm ks) ks.length w := by
    intro hne k1 k2 k3
    rcases hcell with ⟨_, rfl⟩ | ⟨r, L0, c1, c2, c3⟩
    · cases hki; exact absurd rfl hne
    · obtain ⟨D0, d1, d2, d3⟩ := map_owned (P := P) hw c2 c3 hki k1 k2 (by unfold maxLen; omega) (kt := σ.t 26) L.t26
      have := keysO_gives L Fence.wide 3 trivial rfl (by omega) B O L0.cb es.length D0 w hB c1 d1
      rw [hσ, d3] at this
      intro l J W hW hJ hY h0
      exact (this l J W hW hJ hY h0).mono fun e W' ⟨a, xs, b, c⟩ => ⟨a, xs, b.trans d2, c⟩
  have gives0 : ks = [] → SeqGives Fence.wide 3 P kf #[.pointer (some ⟨B, O, none⟩)] encZ (fun ss : List Int => ss = []) 0 w := by
    intro hnil
    subst hnil
    rcases hcell with ⟨c1, _⟩ | ⟨r, L0, c1, c2, c3⟩
    · have := keysO_gives_nil L Fence.wide 3 trivial rfl B O w hB c1
      rw [hσ] at this
      exact this
    · obtain ⟨D0, d1, d2, d3⟩ := map_owned (P := P) hw c2 c3 hki (fun _ h => nomatch h) List.nodup_nil (Nat.zero_le _) (kt := σ.t 26) L.t26
      have := keysO_gives L Fence.wide 3 trivial rfl (by omega) B O L0.cb es.length D0 w hB c1 d1
      rw [hσ, d3] at this
      intro l J W hW hJ hY h0
      exact (this l J W hW hJ hY h0).mono fun e W' ⟨a, xs, b, c⟩ => ⟨a, xs, List.perm_nil.1 (b.trans d2), c⟩
  rcases hinv with ⟨hnil, rfl, rfl⟩ | ⟨hne, k1, k2, k3, l, hS, rfl, rfl⟩
  · refine (w0 w ⟨B, O, none⟩ (gives0 hnil) g cb).mono ?_
    rintro e w' ⟨rfl, hb⟩
    exact ⟨_, ρ, rfl, .slice0, hw.base hb.size hb.block, ⟨Abs.Ren.le_refl _, rfl, Nat.le_refl _, fun _ _ => Iff.rfl, fun _ _ _ a b => by rw [a] at b; simp at b, fun _ _ _ a b => by rw [a] at b; simp at b, hb.size, fun b hlt _ => hb.block b hlt, hb.os, hb.tape, hb.output, rfl, fun x => by rw [hst] at x; cases x⟩⟩
  · obtain ⟨s1, cf, s2, s3, s4⟩ := hS
    obtain ⟨k0, hk0⟩ := List.exists_mem_of_ne_nil ks hne
    haveI : Inhabited {x : Int // x ∈ ks} := ⟨⟨k0, hk0⟩⟩
    have eg := (hr _ _ _ _ _ _ (s2 k0 hk0 k0 hk0)).1
    refine (w1 ks (by unfold maxLen; omega) k3 w ⟨B, O, none⟩ (gives hne k1 k2 k3) g cb eg ⟨s1, s3, s4⟩ ?_).mono ?_
    · intro W blk hb hblk
      exact cmp_lays hw hb hblk q (fun x hx y hy => (hr _ _ _ _ _ _ (s2 x hx y hy)).2) _
    · rintro e' w' ⟨W, blk, cap', cur, m, d, os, hb, hblk, hgb, r1, r2, r3, rfl, rfl⟩
      exact sorted_post hw hst hb hblk hgb m d os r1 r2 r3 e
end
end Go.Abs
namespace Go.Abs
open Go
/-- an override's answer that is a slice -/
def slO (r : Option (Value × H)) : Option (Sl × H) := match r with
  | some (.slice b l c, h') => some (⟨b, l, c⟩, h')
  | _ => none
theorem slO_some {r : Option (Value × H)} {s : Sl} {h' : H} (e : slO r = some (s, h')) : r = some (encSl s, h') := by
  unfold slO at e
  split at e
  · cases e; rfl
  · simp at e
theorem ov_ok {D : Data} {f : FuncId} {g : List Value → H → Option (Value × H)} (hov : D.ov f = some g) {args : List Value} {h : H} {s : Sl} {h' : H} (e : slO (g args h) = some (s, h')) : Ev D f args h (encSl s) h' := by
  refine ⟨0, fun m _ => ?_⟩
  unfold callA callW
  rw [hov]
  exact slO_some e
end Go.Abs
