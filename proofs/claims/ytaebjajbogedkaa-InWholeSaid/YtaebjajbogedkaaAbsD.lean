/- A machine without capacities, orders and tapes runs the program's code; what it answers, every run of the model answers (code, regions of open order and calls stand for the model's). -/
import Derived.Test.YtaebjajbogedkaaAbsC
import Derived.LoopN
set_option linter.unusedVariables false
set_option linter.unusedSimpArgs false
/- Steps, regions in the text's order, results. -/
namespace Go.Abs
open Go

structure Rel (ρ : Ren) (s : St) (a : Act) (w : World) : Prop where
  wr : WR ρ s.h w
  t : TRel ρ s.t a
  n : a.tmps.size = s.n
  d : a.defers = []
def CallPost (ρ : Ren) (h : H) (w : World) (v : Value) (h' : H) : Ending → World → Prop := fun e w' => ∃ v' ρ', e = .returned v' ∧ VR ρ' v v' ∧ WR ρ' h' w' ∧ Ext ρ h w ρ' h' w'
def CallOK (P : Program) (call : CallF) : Prop := ∀ f args h v h', call f args h = some (v, h') → ∀ ρ w (args' : Array Value), WR ρ h w → VRs ρ args args'.toList → Calls P f args' w (CallPost ρ h w v h')

section
variable {P : Program} {D : Data} {ρ : Ren} {h : H} {w : World} {a : Act}

theorem TRel.mono {ρ' : Ren} {t : Tr Value} (hle : ρ.le ρ') (ht : TRel ρ t a) : TRel ρ' t a := fun i v h => let ⟨v', h1, h2⟩ := ht i v h; ⟨v', h1, h2.mono hle⟩
theorem putT_ok {t t' : Tr Value} {n : Nat} {dst : Option Tmp} {v v' : Value} (hp : putT t n dst v = some t') (ht : TRel ρ t a) (hn : a.tmps.size = n) (hv : VR ρ v v') : TRel ρ t' (a.put dst v') ∧ (a.put dst v').tmps.size = n ∧ (a.put dst v').defers = a.defers := by
  cases dst with
  | none => obtain rfl := Option.some.inj hp; exact ⟨ht, hn, rfl⟩
  | some d =>
    simp only [putT] at hp
    cases hd : d.blt n <;> rw [hd] at hp
    · simp at hp
    simp only [cond_true, Option.some.injEq] at hp
    subst hp
    have hd : d < n := Nat.le_of_ble_eq_true hd
    refine ⟨?_, by simpa [Act.put] using hn, rfl⟩
    intro i u hu
    rw [Tr.get_set] at hu
    simp only [Act.put]
    by_cases hi : i = d
    · rw [if_pos hi] at hu
      obtain rfl := Option.some.inj hu
      subst hi
      have hd' : i < a.tmps.size := by rw [hn]; exact hd
      exact ⟨v', Array.getElem?_setIfInBounds_self_of_lt hd', hv⟩
    · rw [if_neg hi] at hu
      rw [Array.getElem?_setIfInBounds_ne (Ne.symm hi)]
      exact ht i u hu
theorem undef_VR : VR ρ undefV undef := .tuple _ _ .nil
theorem wantA_ok {ops : Array Oper} {o : Oper} {t : Tr Value} (ht : TRel ρ t a) {b : Bool} (hb : wantA ops o.guard t = some b) : Region.wanted o (yielded ops a.tmps) = b := by
  unfold Region.wanted
  unfold wantA at hb
  split at hb
  · rename_i hg; rw [hg]; exact Option.some.inj hb
  · rename_i j want hg
    rw [hg]
    simp only
    split at hb
    case h_2 => simp at hb
    case h_1 oj hoj =>
    split at hb
    case h_2 => simp at hb
    case h_1 d hd =>
    split at hb
    · rename_i b' hb'
      obtain ⟨v', h1, h2⟩ := ht _ _ hb'
      cases h2
      obtain rfl := Option.some.inj hb
      have hy : yielded ops a.tmps j = some b' := by simp [yielded, hoj, hd, h1]
      rw [hy]
      cases b' <;> cases want <;> rfl
    · rename_i vs hb'
      obtain ⟨v', h1, h2⟩ := ht _ _ hb'
      cases h2
      obtain rfl := Option.some.inj hb
      have hy : yielded ops a.tmps j = none := by simp [yielded, hoj, hd, h1]
      rw [hy]; rfl
    · simp at hb

theorem stepA_ok (hD : DOk P D) {call : CallF} (hcall : CallOK P call) {ops : Array Oper} {i : Nat} {o : Oper} (ho : ops[i]? = some o) {s s' : St} (hs : stepA D call ops o s = some s') {Q : Exit → Act → World → Prop} {K : Act → World → Prop} (hr : Rel ρ s a w)
    (hK : ∀ ρ' a' w', Rel ρ' s' a' w' → Ext ρ s.h w ρ' s'.h w' → K a' w') : wpOp P ops Q i K a w := by
  unfold wpOp
  simp only [ho]
  unfold stepA at hs
  split at hs
  · simp at hs
  · rename_i hw
    rw [if_neg (by rw [wantA_ok hr.t hw]; simp)]
    simp only [put, Option.map_eq_some_iff] at hs
    obtain ⟨t, ht, rfl⟩ := hs
    obtain ⟨g1, g2, g3⟩ := putT_ok ht hr.t hr.n undef_VR
    exact hK ρ _ _ ⟨hr.wr, g1, g2, g3.trans hr.d⟩ (.refl _ _ _)
  · rename_i hw
    rw [if_pos (wantA_ok hr.t hw)]
    left
    unfold Oper.wp
    split at hs
    · simp at hs
    · rename_i v h' hop
      obtain ⟨v', w', e, ρ', k1, k2, k3⟩ := opA_ok (o := o) hD hr.wr hr.t hop
      rw [e, Oper.upon_value]
      simp only [put, Option.map_eq_some_iff] at hs
      obtain ⟨t, ht, rfl⟩ := hs
      obtain ⟨g1, g2, g3⟩ := putT_ok ht (hr.t.mono k3.mono) hr.n k1
      exact hK ρ' _ _ ⟨k2, g1, g2, g3.trans hr.d⟩ k3
    · rename_i h' hop
      obtain ⟨w', ρ', e, k2, k3⟩ := opA_ok (o := o) hD hr.wr hr.t hop
      rw [e, Oper.upon_skip]
      simp only [put, Option.map_eq_some_iff] at hs
      obtain ⟨t, ht, rfl⟩ := hs
      obtain ⟨g1, g2, g3⟩ := putT_ok ht (hr.t.mono k3.mono) hr.n undef_VR
      exact hK ρ' _ _ ⟨k2, g1, g2, g3.trans hr.d⟩ k3
    · rename_i ob mk hop
      obtain ⟨v', w', L, e, hN⟩ := opA_ok (o := o) hD hr.wr hr.t hop
      rw [e, Oper.upon_value]
      obtain ⟨k1, k2, k3⟩ := hN.step hr.wr
      simp only [put, Option.map_eq_some_iff] at hs
      obtain ⟨t, ht, rfl⟩ := hs
      obtain ⟨g1, g2, g3⟩ := putT_ok ht (hr.t.mono k3.mono) hr.n k1
      exact hK _ _ _ ⟨k2, g1, g2, g3.trans hr.d⟩ k3
    · rename_i f args hop
      obtain ⟨args', e, hargs⟩ := opA_ok (o := o) hD hr.wr hr.t hop
      rw [e, Oper.upon_enter]
      split at hs
      case h_2 => simp at hs
      case h_1 v h' hc =>
      refine (hcall _ _ _ _ _ hc ρ w args' hr.wr hargs).mono ?_
      rintro e w' ⟨v', ρ', rfl, k1, k2, k3⟩
      simp only [put, Option.map_eq_some_iff] at hs
      obtain ⟨t, ht, rfl⟩ := hs
      obtain ⟨g1, g2, g3⟩ := putT_ok ht (hr.t.mono k3.mono) hr.n k1
      exact hK ρ' _ _ ⟨k2, g1, g2, g3.trans hr.d⟩ k3

theorem runA_ok (hD : DOk P D) {call : CallF} (hcall : CallOK P call) {ops : Array Oper} {Q : Exit → Act → World → Prop} : ∀ (l : List Oper) (k : Nat) (ρ : Ren) (s s' : St) (a : Act) (w : World), (∀ j, l[j]? = ops[k + j]?) → runA D call ops l s = some s' → Rel ρ s a w →
    (∀ ρ' a' w', Rel ρ' s' a' w' → Ext ρ s.h w ρ' s'.h w' → Q .normal a' w') → wpOps P ops Q (List.range' k l.length) a w
  | [], k, ρ, s, s', a, w, _, hrun, hr, hQ => by
    obtain rfl := Option.some.inj hrun
    exact hQ ρ a w hr (.refl _ _ _)
  | o :: l, k, ρ, s, s', a, w, hl, hrun, hr, hQ => by
    unfold runA at hrun
    split at hrun
    case h_2 => simp at hrun
    case h_1 s1 hs1 =>
    rw [List.length_cons, List.range'_succ, wpOps_cons]
    refine stepA_ok hD hcall (by have := hl 0; simpa using this.symm) hs1 hr ?_
    intro ρ1 a1 w1 hr1 hx1
    refine runA_ok hD hcall l (k + 1) ρ1 s1 s' a1 w1 (fun j => ?_) hrun hr1 ?_
    · have := hl (j + 1)
      simp only [List.getElem?_cons_succ] at this
      rw [this]; congr 1; omega
    · intro ρ' a' w' hr' hx'
      exact hQ ρ' a' w' hr' (hx1.trans (fun A e L x => (hr.wr.dom A e L x).1) hx')
theorem region_ok (hD : DOk P D) {call : CallF} (hcall : CallOK P call) {id : Nat} {ops : Array Oper} {Q : Exit → Act → World → Prop} {s s' : St} (hrun : runA D call ops ops.toList s = some s') (hr : Rel ρ s a w)
    (hQ : ∀ ρ' a' w', Rel ρ' s' a' w' → Ext ρ s.h w ρ' s'.h w' → Q .normal a' w') : (Code.region id ops false).wp P Q a w := by
  refine wp_region ?_
  have := runA_ok (Q := Q) hD hcall ops.toList 0 ρ s s' a w (fun j => by simp) hrun hr hQ
  rw [List.range_eq_range']
  simpa using this

def resS (tmps : Array Value) : ResultVar → Sem Value
  | .tmp t => pure (tmps.getD t undef)
  | .cell x t => do loadVar t (← asAddr (tmps.getD x undef))
theorem results_eq (fn : Func) (tmps : Array Value) : results fn tmps = (do let vs ← fn.results.mapM (resS tmps); pure (if h : vs.size = 1 then vs[0] else .tuple vs)) := by
  unfold results
  congr 1
theorem resA_ok (hD : DOk P D) (hw : WR ρ h w) {t : Tr Value} (ht : TRel ρ t a) : ∀ (rs : List ResultVar) (l : List Value), resA D t h rs = some l →
    ∃ l', (rs.mapM (resS a.tmps)).run P w = .ok l' w ∧ VRs ρ l l'
  | [], l, hl => by obtain rfl := Option.some.inj hl; exact ⟨[], rfl, .nil⟩
  | r :: rs, l, hl => by
    unfold resA at hl
    split at hl
    case h_2 => simp at hl
    case h_1 v hv =>
    split at hl
    case h_2 => simp at hl
    case h_1 l2 hl2 =>
    obtain rfl := Option.some.inj hl
    obtain ⟨l', g1, g2⟩ := resA_ok hD hw ht rs l2 hl2
    cases r with
    | tmp i =>
      simp only at hv
      obtain ⟨v', h1, h2⟩ := ht i v hv
      refine ⟨v' :: l', ?_, .cons h2 g2⟩
      have e : (resS a.tmps (.tmp i)).run P w = .ok v' w := by simp [resS, h1]
      simp only [List.mapM_cons, Sem.run_bind, e, Sem.run_pure, Result.andThen_ok, g1]
    | cell x ty =>
      simp only at hv
      split at hv
      case h_2 => simp at hv
      case h_1 p j hp hje =>
      obtain ⟨enf, hte⟩ := hD.tyOk hje
      obtain ⟨pv, h1, h2⟩ := ht _ _ hp
      cases h2 with
      | ptr _ c hc =>
      obtain ⟨v', k1, k2⟩ := ldVar_ok (P := P) hw hte hc hv
      refine ⟨v' :: l', ?_, .cons k2 g2⟩
      have e : (resS a.tmps (.cell x ty)).run P w = .ok v' w := by simp [resS, h1, asAddr, k1]
      simp only [List.mapM_cons, Sem.run_bind, e, Sem.run_pure, Result.andThen_ok, g1]
theorem results_ok (hD : DOk P D) (hw : WR ρ h w) {t : Tr Value} (ht : TRel ρ t a) {fn : Func} {l : List Value} (hl : resA D t h fn.results.toList = some l) : ∃ v', (results fn a.tmps).run P w = .ok v' w ∧ VR ρ (tupled l) v' := by
  obtain ⟨l', g1, g2⟩ := resA_ok (P := P) hD hw ht _ _ hl
  have hm : (fn.results.mapM (resS a.tmps)).run P w = .ok l'.toArray w := by
    rw [Array.mapM_eq_mapM_toList]
    simp only [Sem.run_map, g1, Result.andThen_ok]
  refine ⟨if h : l'.toArray.size = 1 then l'.toArray[0] else .tuple l'.toArray, ?_, ?_⟩
  · rw [results_eq]
    simp only [Sem.run_bind, hm, Result.andThen_ok, Sem.run_pure]
  · cases g2 with
    | nil => exact .tuple _ _ .nil
    | cons p q => cases q with
      | nil => exact p
      | cons p2 q2 =>
        rw [dif_neg (by simp)]
        exact .tuple _ _ (.cons p (.cons p2 q2))
end
end Go.Abs

/- What turns the heap moves its clock. -/
namespace Go.Abs
open Go
def CallTick (call : CallF) : Prop := ∀ f args h v h', call f args h = some (v, h') → h' = h ∨ h.tick < h'.tick
def TickR (h : H) : OpR → Prop
  | .val _ h' => h' = h ∨ h.tick < h'.tick
  | .skip h' => h' = h ∨ h.tick < h'.tick
  | _ => True
theorem tick_trans {h1 h2 h3 : H} (a : h2 = h1 ∨ h1.tick < h2.tick) (b : h3 = h2 ∨ h2.tick < h3.tick) : h3 = h1 ∨ h1.tick < h3.tick := by
  rcases a with rfl | a
  · exact b
  · rcases b with rfl | b
    · exact .inr a
    · exact .inr (by omega)
theorem stCell_tick {h h' : H} {a : Addr} {v : Value} (hs : stCell h a v = some h') : h.tick < h'.tick := by
  unfold stCell at hs
  split at hs
  · rw [cond_eq_ite] at hs
    split at hs
    · obtain rfl := Option.some.inj hs; simp
    · simp at hs
  · simp at hs
theorem stCells_tick : ∀ (l : List Value) (h h' : H) (a : Addr), stCells h a l = some h' → h' = h ∨ h.tick < h'.tick
  | [], h, h', a, hs => by obtain rfl := Option.some.inj hs; exact .inl rfl
  | v :: l, h, h', a, hs => by
    unfold stCells at hs
    split at hs
    · rename_i h1 h1s
      exact tick_trans (.inr (stCell_tick h1s)) (stCells_tick l h1 h' _ hs)
    · simp at hs
theorem appR_tick {h : H} {e : TypeId} {j : TyI} {s : Value} {new : List Value} {m : Nat} {r : OpR} (hr : appR h e j s new m = some r) : TickR h r := by
  unfold appR at hr
  split at hr
  · rw [cond_eq_ite] at hr
    split at hr
    · obtain rfl := Option.some.inj hr; exact .inl rfl
    · rw [cond_eq_ite] at hr
      split at hr
      · simp at hr
      · split at hr
        · rw [cond_eq_ite] at hr
          split at hr
          · obtain rfl := Option.some.inj hr; trivial
          · simp at hr
        · split at hr
          · rw [cond_eq_ite] at hr
            split at hr
            · simp only [Option.map_eq_some_iff] at hr
              obtain ⟨h', hs, rfl⟩ := hr
              exact stCells_tick _ _ _ _ hs
            · split at hr
              · obtain rfl := Option.some.inj hr; trivial
              · simp at hr
          · simp at hr
          · rw [cond_eq_ite] at hr
            split at hr
            · split at hr
              · rw [cond_eq_ite] at hr
                split at hr
                · rw [cond_eq_ite] at hr
                  split at hr
                  · simp only [Option.map_eq_some_iff] at hr
                    obtain ⟨h', hs, rfl⟩ := hr
                    exact stCells_tick _ _ _ _ hs
                  · obtain rfl := Option.some.inj hr; exact .inr (by simp)
                · simp at hr
              · simp at hr
            · simp at hr
          · rw [cond_eq_ite] at hr
            split at hr
            · split at hr
              · rw [cond_eq_ite] at hr
                split at hr
                · obtain rfl := Option.some.inj hr; exact .inr (by simp)
                · simp at hr
              · simp at hr
            · simp at hr
  · simp at hr
theorem appA_tick {D : Data} {h : H} {ts : Array TypeId} {s x : Value} {r : OpR} (hr : appA D h ts s x = some r) : TickR h r := by
  unfold appA at hr
  (repeat' split at hr) <;> first
    | (simp at hr; done)
    | exact appR_tick hr
    | (rw [cond_eq_ite] at hr; (repeat' split at hr) <;> first | (simp at hr; done) | exact appR_tick hr)
theorem updA_tick {D : Data} {h h' : H} {t : TypeId} {x k v : Value} (hr : updA D h t x k v = some h') : h.tick < h'.tick := by
  unfold updA at hr
  split at hr
  · rw [cond_eq_ite] at hr
    (repeat' split at hr) <;> first
      | (simp at hr; done)
      | (obtain rfl := Option.some.inj hr; simp)
  · simp at hr
theorem delA_tick {D : Data} {h h' : H} {t : TypeId} {x k : Value} (hr : delA D h t x k = some h') : h' = h ∨ h.tick < h'.tick := by
  unfold delA at hr
  split at hr
  · rw [cond_eq_ite] at hr
    split at hr
    · obtain rfl := Option.some.inj hr; exact .inl rfl
    · simp at hr
  · rw [cond_eq_ite] at hr
    (repeat' split at hr) <;> first
      | (simp at hr; done)
      | (obtain rfl := Option.some.inj hr; exact .inr (by simp))
  · simp at hr
theorem clearA_tick {D : Data} {h h' : H} {t : TypeId} {x : Value} (hr : clearA D h t x = some h') : h' = h ∨ h.tick < h'.tick := by
  unfold clearA at hr
  split at hr
  · rw [cond_eq_ite] at hr
    split at hr
    · obtain rfl := Option.some.inj hr; exact .inl rfl
    · simp at hr
  · exact stCells_tick _ _ _ _ hr
  · simp at hr
theorem copyA_tick {D : Data} {h : H} {t : TypeId} {x y : Value} {r : OpR} (hr : copyA D h t x y = some r) : TickR h r := by
  unfold copyA at hr
  split at hr
  · simp only [cond_eq_ite] at hr
    (repeat' split at hr) <;> first
      | (simp at hr; done)
      | (obtain rfl := Option.some.inj hr; exact .inl rfl)
      | (simp only [Option.map_eq_some_iff] at hr
         obtain ⟨h', hs, rfl⟩ := hr
         exact stCells_tick _ _ _ _ hs)
  · simp at hr
theorem convA_tick {D : Data} {h : H} {s d : TypeId} {x : Value} {r : OpR} (hr : convA D h s d x = some r) : TickR h r := by
  unfold convA at hr
  simp only [cond_eq_ite] at hr
  (repeat' split at hr) <;> first
    | (simp at hr; done)
    | (obtain rfl := Option.some.inj hr; first | exact .inl rfl | trivial)
    | (simp only [Option.map_eq_some_iff] at hr
       obtain ⟨h', hs, rfl⟩ := hr
       exact .inl rfl)
theorem builtA_tick {D : Data} {h : H} {b : Builtin} {ts : Array TypeId} {args : List Value} {r : OpR} (hr : builtA D h b ts args = some r) : TickR h r := by
  unfold builtA at hr
  (repeat' split at hr) <;> first
    | (simp at hr; done)
    | exact appA_tick hr
    | exact copyA_tick hr
    | (simp only [Option.map_eq_some_iff] at hr
       obtain ⟨h', hs, rfl⟩ := hr
       first | exact delA_tick hs | exact clearA_tick hs | exact .inl rfl)
theorem buildSl_tick {D : Data} {h : H} {t : TypeId} {n : Nat} {l : List (Nat × Value)} {r : OpR} (hr : buildSl D t n l = some r) : TickR h r := by
  unfold buildSl at hr
  simp only [cond_eq_ite] at hr
  (repeat' split at hr) <;> first
    | (simp at hr; done)
    | (obtain rfl := Option.some.inj hr; trivial)
theorem mkSl_tick {D : Data} {h : H} {t : TypeId} {x y : Value} {r : OpR} (hr : mkSl D t x y = some r) : TickR h r := by
  unfold mkSl at hr
  simp only [cond_eq_ite] at hr
  (repeat' split at hr) <;> first
    | (simp at hr; done)
    | (obtain rfl := Option.some.inj hr; trivial)
theorem opA_tick {D : Data} {o : Op} {t : Tr Value} {h : H} {r : OpR} (hr : opA D o t h = some r) : TickR h r := by
  unfold opA at hr
  split at hr
  all_goals
    (repeat' split at hr) <;> first
      | (simp at hr; done)
      | exact convA_tick hr
      | exact builtA_tick hr
      | (obtain rfl := Option.some.inj hr; first | exact .inl rfl | trivial)
      | (simp only [Option.map_eq_some_iff] at hr
         obtain ⟨h', hs, rfl⟩ := hr
         first
          | exact .inr (updA_tick hs)
          | exact .inl rfl
          | trivial
          | (unfold stVar at hs
             rw [cond_eq_ite] at hs
             split at hs
             · exact stCells_tick _ _ _ _ hs
             · simp at hs))
      | exact buildSl_tick hr
      | exact mkSl_tick hr
theorem stepA_tick {D : Data} {call : CallF} (hc : CallTick call) {ops : Array Oper} {o : Oper} {s s' : St} (hs : stepA D call ops o s = some s') : s'.h = s.h ∨ s.h.tick < s'.h.tick := by
  unfold stepA at hs
  have hput : ∀ {dst : Option Tmp} {v : Value} {h : H}, put s dst v h = some s' → s'.h = h := by
    intro dst v h hp
    simp only [put, Option.map_eq_some_iff] at hp
    obtain ⟨t, _, rfl⟩ := hp
    rfl
  split at hs
  · simp at hs
  · exact .inl (hput hs)
  · split at hs
    · simp at hs
    · rename_i hop; rw [hput hs]; exact opA_tick hop
    · rename_i hop; rw [hput hs]; exact opA_tick hop
    · rw [hput hs]; exact .inr (by simp [newAt, grow])
    · split at hs
      · rename_i hcall; rw [hput hs]; exact hc _ _ _ _ _ hcall
      · simp at hs
theorem runA_tick {D : Data} {call : CallF} (hc : CallTick call) {ops : Array Oper} : ∀ (l : List Oper) (s s' : St), runA D call ops l s = some s' → s'.h = s.h ∨ s.h.tick < s'.h.tick
  | [], s, s', hs => by obtain rfl := Option.some.inj hs; exact .inl rfl
  | o :: l, s, s', hs => by
    unfold runA at hs
    split at hs
    · rename_i s1 hs1
      exact tick_trans (stepA_tick hc hs1) (runA_tick hc l s1 s' hs)
    · simp at hs
end Go.Abs

/- Regions whose order is open: what the edges tell; the steps' record. -/
namespace Go.Abs
open Go

theorem bits_fold (acc : Array Nat) : ∀ (l : List Edge) (s e : Nat), (l.foldl (fun s (d : Edge) => if Region.binds .any d then s ||| 2 ^ d.on ||| acc.getD d.on 0 else s) s).testBit e = true →
    s.testBit e = true ∨ ∃ d ∈ l, Region.binds .any d = true ∧ (e = d.on ∨ (acc.getD d.on 0).testBit e = true)
  | [], s, e, h => .inl h
  | d :: l, s, e, h => by
    rw [List.foldl_cons] at h
    rcases bits_fold acc l _ e h with h1 | ⟨d', h2, h3⟩
    · by_cases hb : Region.binds .any d = true
      · rw [if_pos hb] at h1
        simp only [Nat.testBit_or, Bool.or_eq_true] at h1
        rcases h1 with (h1 | h1) | h1
        · exact .inl h1
        · right; refine ⟨d, List.mem_cons_self .., hb, .inl ?_⟩
          rw [Nat.testBit_two_pow] at h1; exact (by simpa using h1 : d.on = e).symm
        · right; exact ⟨d, List.mem_cons_self .., hb, .inr h1⟩
      · rw [if_neg hb] at h1; exact .inl h1
    · right; exact ⟨d', List.mem_cons_of_mem _ h2, h3⟩
theorem before_spec (ops : Array Oper) (i e : Nat) (h : ((Region.before ops).getD i 0).testBit e = true) :
    ∃ o, ops[i]? = some o ∧ ∃ d ∈ o.after.toList, Region.binds .any d = true ∧ (e = d.on ∨ (d.on < i ∧ ((Region.before ops).getD d.on 0).testBit e = true)) := by
  have key : ∀ (rest done : List Oper) (acc : Array Nat), acc.size = done.length →
      (∀ i e, (acc.getD i 0).testBit e = true → ∃ o, (done ++ rest)[i]? = some o ∧ ∃ d ∈ o.after.toList, Region.binds .any d = true ∧ (e = d.on ∨ (d.on < i ∧ (acc.getD d.on 0).testBit e = true))) →
      ∀ i e, (((rest.foldl (fun acc o => acc.push (o.after.foldl (fun s (d : Edge) => if Region.binds .any d then s ||| 2 ^ d.on ||| acc.getD d.on 0 else s) 0)) acc)).getD i 0).testBit e = true →
        ∃ o, (done ++ rest)[i]? = some o ∧ ∃ d ∈ o.after.toList, Region.binds .any d = true ∧ (e = d.on ∨ (d.on < i ∧ ((rest.foldl (fun acc o => acc.push (o.after.foldl (fun s (d : Edge) => if Region.binds .any d then s ||| 2 ^ d.on ||| acc.getD d.on 0 else s) 0)) acc).getD d.on 0).testBit e = true)) := by
    intro rest
    induction rest with
    | nil => intro done acc hs hi i e h; exact hi i e h
    | cons o rest ih =>
      intro done acc hs hi i e h
      rw [List.foldl_cons] at h ⊢
      have := ih (done ++ [o]) (acc.push (o.after.foldl (fun s (d : Edge) => if Region.binds .any d then s ||| 2 ^ d.on ||| acc.getD d.on 0 else s) 0)) (by simp [hs]) ?_ i e h
      · simpa using this
      · intro i e h
        have hget : ∀ j, j < acc.size → (acc.push (o.after.foldl (fun s (d : Edge) => if Region.binds .any d then s ||| 2 ^ d.on ||| acc.getD d.on 0 else s) 0)).getD j 0 = acc.getD j 0 := by
          intro j hj
          simp only [Array.getD_eq_getD_getElem?, Array.getElem?_push]
          rw [if_neg (by omega)]
        by_cases hlt : i < acc.size
        · rw [hget i hlt] at h
          obtain ⟨o', h1, d, h2, h3, h4⟩ := hi i e h
          refine ⟨o', by simpa using h1, d, h2, h3, ?_⟩
          rcases h4 with h4 | ⟨h4, h5⟩
          · exact .inl h4
          · exact .inr ⟨h4, by rw [hget _ (by omega)]; exact h5⟩
        · by_cases heq : i = acc.size
          · subst heq
            have hv : (acc.push (o.after.foldl (fun s (d : Edge) => if Region.binds .any d then s ||| 2 ^ d.on ||| acc.getD d.on 0 else s) 0)).getD acc.size 0 = o.after.foldl (fun s (d : Edge) => if Region.binds .any d then s ||| 2 ^ d.on ||| acc.getD d.on 0 else s) 0 := by
              simp [Array.getD_eq_getD_getElem?]
            rw [hv, ← Array.foldl_toList] at h
            rcases bits_fold acc _ _ _ h with h1 | ⟨d, h2, h3, h4⟩
            · simp at h1
            · refine ⟨o, by rw [hs]; simp, d, h2, h3, ?_⟩
              rcases h4 with h4 | h4
              · exact .inl h4
              · have hd : d.on < acc.size := by
                  by_cases hd : d.on < acc.size
                  · exact hd
                  · rw [Array.getD_eq_getD_getElem?, Array.getElem?_eq_none (by omega)] at h4; simp at h4
                exact .inr ⟨hd, by rw [hget _ hd]; exact h4⟩
          · rw [Array.getD_eq_getD_getElem?, Array.getElem?_eq_none (by simp; omega)] at h; simp at h
  have := key ops.toList [] #[] rfl (fun i e h => by simp at h) i e (by
    unfold Region.before at h
    rw [← Array.foldl_toList] at h; exact h)
  obtain ⟨o, h1, d, h2, h3, h4⟩ := this
  refine ⟨o, by simpa using h1, d, h2, h3, ?_⟩
  unfold Region.before
  rw [← Array.foldl_toList]
  exact h4
def Closed (ops : Array Oper) (S : Nat → Prop) : Prop := ∀ j o, S j → ops[j]? = some o → ∀ d ∈ o.after.toList, Region.binds .any d = true → S d.on
theorem anc_in {ops : Array Oper} {S : Nat → Prop} (hcl : Closed ops S) : ∀ (i e : Nat), (∀ o, ops[i]? = some o → ∀ d ∈ o.after.toList, Region.binds .any d = true → S d.on) → ((Region.before ops).getD i 0).testBit e = true → S e := by
  intro i
  induction i using Nat.strongRecOn with
  | _ i ih =>
    intro e hd h
    obtain ⟨o, h1, d, h2, h3, h4⟩ := before_spec ops i e h
    rcases h4 with rfl | ⟨h4, h5⟩
    · exact hd o h1 d h2 h3
    · exact ih d.on h4 e (fun o' ho' d' hd' hb' => hcl d.on o' (hd o h1 d h2 h3) ho' d' hd' hb') h5
structure TextOk (ops : Array Oper) : Prop where
  lt : ∀ (j : Nat) (o : Oper), ops[j]? = some o → ∀ d ∈ o.after.toList, Region.binds .any d = true → d.on < j
  ord : ∀ (i j : Nat) (o p : Oper) (d : Tmp), ops[j]? = some o → ops[i]? = some p → p.dst = some d → d ∈ namesOf ops o → i ≠ j → (i < j ∧ ((Region.before ops).getD j 0).testBit i = true) ∨ (j < i ∧ ((Region.before ops).getD i 0).testBit j = true)
theorem textOk_ok {ops : Array Oper} (h : textOk ops (Region.before ops) = true) : TextOk ops := by
  unfold textOk at h
  simp only [List.all_eq_true, List.mem_range] at h
  refine ⟨?_, ?_⟩
  · intro j o ho d hd hb
    have hj := (Array.getElem?_eq_some_iff.1 ho).1
    have := h j hj
    rw [ho] at this
    simp only [Bool.and_eq_true, Array.all_eq_true_iff_forall_mem] at this
    have := this.1 d (by simpa using hd)
    rw [hb] at this
    simp only [Bool.not_true, Bool.false_or] at this
    exact Nat.le_of_ble_eq_true this
  · intro i j o p d ho hp hd hm hne
    have hj := (Array.getElem?_eq_some_iff.1 ho).1
    have hi := (Array.getElem?_eq_some_iff.1 hp).1
    have := h j hj
    rw [ho] at this
    simp only [Bool.and_eq_true, List.all_eq_true, List.mem_range] at this
    have := this.2 i hi
    rw [hp] at this
    simp only [hd] at this
    have hc : (namesOf ops o).contains d = true := by simpa using hm
    rw [hc, nbeq_f hne] at this
    simp only [Bool.not_false, Bool.and_true, cond_true] at this
    by_cases hlt : i < j
    · have e : i.blt j = true := Nat.ble_eq_true_of_le hlt
      rw [e] at this
      exact .inl ⟨hlt, this⟩
    · have e : i.blt j = false := by
        cases hh : i.blt j with
        | false => rfl
        | true => exact absurd (Nat.le_of_ble_eq_true hh) hlt
      rw [e] at this
      exact .inr ⟨by omega, this⟩
theorem anc_lt {ops : Array Oper} (ht : TextOk ops) : ∀ (i e : Nat), ((Region.before ops).getD i 0).testBit e = true → e < i := by
  intro i
  induction i using Nat.strongRecOn with
  | _ i ih =>
    intro e h
    obtain ⟨o, h1, d, h2, h3, h4⟩ := before_spec ops i e h
    have := ht.lt i o h1 d h2 h3
    rcases h4 with rfl | ⟨h4, h5⟩
    · exact this
    · have := ih d.on h4 e h5; omega

/-! ### the record -/
section
variable {D : Data} {call : CallF} {ops : Array Oper} {n n0 : Nat}
theorem drun_states : ∀ (l : List Oper) (k : Nat) (s z : DS) (bm : Array Nat), drun D call ops bm n n0 l k s = some z →
    ∃ σ : Nat → DS, σ 0 = s ∧ σ l.length = z ∧ ∀ (j : Nat) (o : Oper), l[j]? = some o → dstep D call ops bm n n0 (k + j) o (σ j) = some (σ (j + 1))
  | [], k, s, z, bm, h => ⟨fun _ => s, rfl, Option.some.inj h, fun j o ho => by simp at ho⟩
  | o :: l, k, s, z, bm, h => by
    unfold drun at h
    split at h
    · rename_i s1 h1
      obtain ⟨σ, g1, g2, g3⟩ := drun_states l (k + 1) s1 z bm h
      refine ⟨fun i => match i with | 0 => s | i + 1 => σ i, rfl, g2, ?_⟩
      intro j o' ho'
      cases j with
      | zero =>
        simp at ho'
        subst ho'
        simpa [g1] using h1
      | succ j =>
        have := g3 j o' (by simpa using ho')
        rw [show k + (j + 1) = k + 1 + j by omega]
        exact this
    · simp at h
inductive Kind (D : Data) (call : CallF) (ops : Array Oper) (n n0 i : Nat) (o : Oper) (s s' : DS) (v : Value) : Prop where
  | skip (hw : wantA ops o.guard s.t = some false) (hv : v = undefV) (h1 : s'.m = s.m) (h2 : s'.cs = s.cs) (h3 : s'.effs = s.effs) (h4 : s'.reads = s.reads)
  | pure (hw : wantA ops o.guard s.t = some true) (hp : pureOp o.op = true) (hq : quietA D call o.op s.t s.m = some v) (h1 : s'.m = s.m) (h2 : s'.cs = s.cs) (h3 : s'.effs = s.effs) (h4 : s'.reads = s.reads)
  | alloc (hw : wantA ops o.guard s.t = some true) (hp : allocOp o.op = true) (ob : AObj) (mk : Nat → Value) (hq : opA D o.op s.t s.m = some (.new ob mk)) (hv : v = mk (n0 + i)) (h1 : s'.m = s.m) (h2 : s'.cs = s.cs ++ [(i, ob)]) (h3 : s'.effs = s.effs) (h4 : s'.reads = s.reads)
  | read (hw : wantA ops o.guard s.t = some true) (hq : quietA D call o.op s.t (addP ((Region.before ops).getD i 0) n0 s.cs s.m) = some v) (h1 : s'.m = s.m) (h2 : s'.cs = s.cs) (h3 : s'.effs = s.effs) (h4 : s'.reads = (i, o.op, s.t, v) :: s.reads)
  | eff (hw : wantA ops o.guard s.t = some true) (ha : ∀ x ∈ s.effs, ((Region.before ops).getD i 0).testBit x.1 = true) (hq : effA D call o.op s.t (addP ((Region.before ops).getD i 0) n0 s.cs s.m) = some (v, s'.m)) (h2 : s'.cs = s.cs) (h3 : s'.effs = (i, s.m) :: s.effs) (h4 : s'.reads = s.reads)
theorem dstep_kind {i : Nat} {o : Oper} {s s' : DS} (h : dstep D call ops (Region.before ops) n n0 i o s = some s') : ∃ v, putT s.t n o.dst v = some s'.t ∧ Kind D call ops n n0 i o s s' v := by
  unfold dstep at h
  split at h
  · simp at h
  · rename_i hw
    simp only [Option.map_eq_some_iff] at h
    obtain ⟨t, ht, rfl⟩ := h
    exact ⟨undefV, ht, .skip hw rfl rfl rfl rfl rfl⟩
  · rename_i hw
    simp only at h
    rw [cond_eq_ite] at h
    split at h
    · rename_i hp
      split at h
      case h_2 => simp at h
      case h_1 v hv =>
      simp only [Option.map_eq_some_iff] at h
      obtain ⟨t, ht, rfl⟩ := h
      exact ⟨v, ht, .pure hw hp hv rfl rfl rfl rfl⟩
    · rw [cond_eq_ite] at h
      split at h
      · rename_i hp
        split at h
        · rename_i ob mk hq
          simp only [Option.map_eq_some_iff] at h
          obtain ⟨t, ht, rfl⟩ := h
          exact ⟨_, ht, .alloc hw hp ob mk hq rfl rfl rfl rfl rfl⟩
        · simp at h
      · rw [cond_eq_ite] at h
        split at h
        · split at h
          · rename_i v hq
            simp only [Option.map_eq_some_iff] at h
            obtain ⟨t, ht, rfl⟩ := h
            exact ⟨v, ht, .read hw hq rfl rfl rfl rfl⟩
          · simp at h
        · rw [cond_eq_ite] at h
          split at h
          · rename_i ha
            split at h
            · rename_i v h' hq
              simp only [Option.map_eq_some_iff] at h
              obtain ⟨t, ht, rfl⟩ := h
              exact ⟨v, ht, .eff hw (fun x hx => List.all_eq_true.1 ha x hx) hq rfl rfl rfl⟩
            · simp at h
          · simp at h
end
end Go.Abs

/- Regions whose order is open: an operation asks for what it names alone. -/
namespace Go.Abs
open Go
section
variable {P : Program} {D : Data} {ρ : Ren} {h : H} {w : World} {a : Act}

theorem evalL_congr {t t' : Tr Value} : ∀ (l : List Operand), (∀ x ∈ l, evalO t x = evalO t' x) → evalL t l = evalL t' l
  | [], _ => rfl
  | x :: l, h => by
    unfold evalL
    rw [h x (List.mem_cons_self ..), evalL_congr l fun y hy => h y (List.mem_cons_of_mem _ hy)]
theorem evalP_congr {t t' : Tr Value} : ∀ (l : List (Nat × Operand)), (∀ x ∈ l, evalO t x.2 = evalO t' x.2) → evalP t l = evalP t' l
  | [], _ => rfl
  | (i, x) :: l, h => by
    unfold evalP
    rw [h (i, x) (List.mem_cons_self ..), evalP_congr l fun y hy => h y (List.mem_cons_of_mem _ hy)]
theorem evalOO_congr {t t' : Tr Value} (x : Option Operand) (h : ∀ y, x = some y → evalO t y = evalO t' y) : evalOO t x = evalOO t' x := by
  cases x with
  | none => rfl
  | some x => simp [evalOO, h x rfl]
theorem opA_congr {t t' : Tr Value} (o : Op) (h : H) (hx : ∀ x ∈ o.operands, evalO t x = evalO t' x) : opA D o t h = opA D o t' h := by
  cases o <;> simp only [Op.operands] at hx <;> unfold opA <;> try rfl
  case move x => simp only [hx x (by simp)]
  case assign x => simp only [hx x (by simp)]
  case pick c x y => simp only [hx c (by simp), hx x (by simp), hx y (by simp)]
  case box e x => simp only [hx x (by simp)]
  case build ty ps => simp only; rw [evalP_congr ps.toList (fun y hy => hx y.2 (by simp; exact ⟨y.1, by simpa using hy⟩))]
  case buildSlice ty n ps => simp only; rw [evalP_congr ps.toList (fun y hy => hx y.2 (by simp; exact ⟨y.1, by simpa using hy⟩))]
  case load ty x => simp only [hx x (by simp)]
  case store ty x y => simp only [hx x (by simp), hx y (by simp)]
  case nilCheck x => simp only [hx x (by simp)]
  case binOp op ty x y yt => simp only [hx x (by simp), hx y (by simp)]
  case unOp op ty x => simp only [hx x (by simp)]
  case convert s d x => simp only [hx x (by simp)]
  case makeFunc fn xs ys => simp only; rw [evalL_congr xs.toList (fun y hy => hx y (by simp; exact .inl (by simpa using hy))), evalL_congr ys.toList (fun y hy => hx y (by simp; exact .inr (by simpa using hy)))]
  case makeMap ty r => cases r <;> rfl
  case makeSlice ty x y => simp only [hx x (by simp), hx y (by simp)]
  case slice ty x lo hi mx =>
    simp only [hx x (by simp)]
    rw [evalOO_congr lo (fun y hy => hx y (by subst hy; simp)), evalOO_congr hi (fun y hy => hx y (by subst hy; simp)), evalOO_congr mx (fun y hy => hx y (by subst hy; simp))]
  case fieldAddr ty x f => simp only [hx x (by simp)]
  case field ty x f => simp only [hx x (by simp)]
  case indexAddr ty x y => simp only [hx x (by simp), hx y (by simp)]
  case index ty x y => simp only [hx x (by simp), hx y (by simp)]
  case lookup ty x y ok => simp only [hx x (by simp), hx y (by simp)]
  case mapUpdate ty m k x => simp only [hx m (by simp), hx k (by simp), hx x (by simp)]
  case insert ty m k x => simp only [hx m (by simp), hx k (by simp), hx x (by simp)]
  case extract x i => simp only [hx x (by simp)]
  case call c =>
    simp only
    rw [evalL_congr c.args.toList (fun y hy => hx y (by simp only [Call.operands]; simp; exact .inr (by simpa using hy)))]
    cases hc : c.callee with
    | builtin b => rfl
    | invoke r m => rfl
    | value f => simp only [hx f (by simp [Call.operands, hc])]
def pickT (t : Tr Value) : List Tmp → Tr Value
  | [] => .leaf
  | d :: l => match t.get d with
    | some v => (pickT t l).set d v
    | none => pickT t l
theorem pickT_get (t : Tr Value) : ∀ (l : List Tmp) (i : Nat), (i ∈ l → (pickT t l).get i = t.get i) ∧ (∀ v, (pickT t l).get i = some v → i ∈ l ∧ t.get i = some v)
  | [], i => ⟨fun h => by simp at h, fun v h => by simp [pickT, Tr.get_leaf] at h⟩
  | d :: l, i => by
    obtain ⟨ih1, ih2⟩ := pickT_get t l i
    unfold pickT
    split
    · rename_i v hv
      rw [Tr.get_set]
      by_cases hi : i = d
      · subst hi
        rw [if_pos rfl]
        exact ⟨fun _ => hv.symm, fun u hu => ⟨List.mem_cons_self .., by rw [hv]; exact hu⟩⟩
      · rw [if_neg hi]
        refine ⟨fun hm => ih1 ((List.mem_cons.1 hm).resolve_left hi), fun u hu => ?_⟩
        obtain ⟨h1, h2⟩ := ih2 u hu
        exact ⟨List.mem_cons_of_mem _ h1, h2⟩
    · rename_i hv
      refine ⟨fun hm => ?_, fun u hu => ?_⟩
      · by_cases hi : i ∈ l
        · exact ih1 hi
        · obtain rfl := (List.mem_cons.1 hm).resolve_right hi
          rw [hv]
          cases hg : (pickT t l).get i with
          | none => rfl
          | some u => exact absurd (ih2 u hg).1 hi
      · obtain ⟨h1, h2⟩ := ih2 u hu
        exact ⟨List.mem_cons_of_mem _ h1, h2⟩

theorem quiet_eff {call : CallF} (hc : CallTick call) {o : Op} {t : Tr Value} {v : Value} (hq : quietA D call o t h = some v) : effA D call o t h = some (v, h) := by
  unfold quietA at hq
  unfold effA
  split at hq
  · rename_i u h' hop
    have := opA_tick hop
    rw [cond_eq_ite] at hq
    split at hq
    · rename_i ht
      obtain rfl := Option.some.inj hq
      have ht := Nat.eq_of_beq_eq_true ht
      rcases this with rfl | this
      · simp only [hop]
      · omega
    · simp at hq
  · rename_i h' hop
    have := opA_tick hop
    rw [cond_eq_ite] at hq
    split at hq
    · rename_i ht
      obtain rfl := Option.some.inj hq
      have ht := Nat.eq_of_beq_eq_true ht
      rcases this with rfl | this
      · simp only [hop]
      · omega
    · simp at hq
  · rename_i f args hop
    split at hq
    · rename_i u h' hcall
      have := hc _ _ _ _ _ hcall
      rw [cond_eq_ite] at hq
      split at hq
      · rename_i ht
        obtain rfl := Option.some.inj hq
        have ht := Nat.eq_of_beq_eq_true ht
        rcases this with rfl | this
        · simp only [hop]; rw [hcall]
        · omega
      · simp at hq
    · simp at hq
  · simp at hq
theorem eff_wp (hD : DOk P D) {call : CallF} (hcall : CallOK P call) {o : Oper} {t : Tr Value} {v : Value} {h' : H} (he : effA D call o.op t h = some (v, h')) (hw : WR ρ h w) (ht : TRel ρ t a) {Q : Exit → Act → World → Prop} {K : Act → World → Prop}
    (hK : ∀ ρ' v' w', VR ρ' v v' → WR ρ' h' w' → Ext ρ h w ρ' h' w' → K (a.put o.dst v') w') : o.wp P a w K Q := by
  unfold Oper.wp
  unfold effA at he
  split at he
  · rename_i u h1 hop
    obtain ⟨rfl, rfl⟩ := Prod.mk.inj (Option.some.inj he)
    obtain ⟨v', w', e, ρ', k1, k2, k3⟩ := opA_ok (o := o) hD hw ht hop
    rw [e, Oper.upon_value]; exact hK ρ' v' w' k1 k2 k3
  · rename_i h1 hop
    obtain ⟨rfl, rfl⟩ := Prod.mk.inj (Option.some.inj he)
    obtain ⟨w', ρ', e, k2, k3⟩ := opA_ok (o := o) hD hw ht hop
    rw [e, Oper.upon_skip]; exact hK ρ' undef w' undef_VR k2 k3
  · rename_i ob mk hop
    obtain ⟨rfl, rfl⟩ := Prod.mk.inj (Option.some.inj he)
    obtain ⟨v', w', L, e, hN⟩ := opA_ok (o := o) hD hw ht hop
    rw [e, Oper.upon_value]
    obtain ⟨k1, k2, k3⟩ := hN.step hw
    exact hK _ v' w' k1 k2 k3
  · rename_i f args hop
    obtain ⟨args', e, hargs⟩ := opA_ok (o := o) hD hw ht hop
    rw [e, Oper.upon_enter]
    refine (hcall _ _ _ _ _ he ρ w args' hw hargs).mono ?_
    rintro e w' ⟨v', ρ', rfl, k1, k2, k3⟩
    exact hK ρ' v' w' k1 k2 k3
  · simp at he
def valOf : OpR → Option Value
  | .val v _ => some v
  | _ => none
theorem pure_form {o : Op} (hp : pureOp o = true) (t : Tr Value) (h0 h : H) : opA D o t h = ((opA D o t h0).bind valOf).map (fun v => .val v h) := by
  have key : ∀ x : Option Value, x.map (fun v => OpR.val v h) = ((x.map (fun v => OpR.val v h0)).bind valOf).map (fun v => .val v h) := by
    intro x; cases x <;> rfl
  cases o
  case call c =>
    obtain ⟨callee, args, ats⟩ := c
    cases callee with
    | value f => simp [pureOp] at hp
    | invoke r m => simp [pureOp] at hp
    | builtin b =>
      cases b <;> simp [pureOp] at hp <;> unfold opA <;> simp only
      all_goals
        cases evalL t args.toList with
        | none => rfl
        | some l =>
          simp only
          unfold builtA
          cases l with
          | nil => rfl
          | cons x xs => exact key _
  all_goals first
    | (simp [pureOp] at hp; done)
    | (unfold opA; simp only; exact key _)
    | (unfold opA; simp only; (repeat' split) <;> first
        | exact key _
        | rfl)
theorem pure_any {call : CallF} {o : Op} (hp : pureOp o = true) (t : Tr Value) (h1 h2 : H) : quietA D call o t h1 = quietA D call o t h2 := by
  unfold quietA
  rw [pure_form hp t h1 h1, pure_form hp t h1 h2]
  cases (opA D o t h1).bind valOf with
  | none => rfl
  | some v => simp only [Option.map_some, nbeq_t]
theorem alloc_any {o : Op} (hp : allocOp o = true) (t : Tr Value) (h1 h2 : H) : opA D o t h1 = opA D o t h2 := by
  cases o <;> simp [allocOp] at hp <;> first | rfl | (rename_i r; cases r <;> rfl)
end
end Go.Abs

/- Regions whose order is open: heaps with what is pending. -/
namespace Go.Abs
open Go
section
variable {P : Program} {D : Data} {call : CallF} {ops : Array Oper} {n n0 : Nat}

theorem allB_eq {f : Value → Value → Bool} (hf : ∀ a b, f a b = true → a = b) : ∀ (x y : List Value), allB f x y = true → x = y
  | [], [], _ => rfl
  | [], _ :: _, h => by simp [allB] at h
  | _ :: _, [], h => by simp [allB] at h
  | a :: x, b :: y, h => by
    simp only [allB, Bool.and_eq_true] at h
    rw [hf a b h.1, allB_eq hf x y h.2]
theorem veqN_eq : ∀ (n : Nat) (a b : Value), veqN n a b = true → a = b := by
  intro n
  induction n with
  | zero =>
    intro a b h
    cases a <;> cases b <;> simp [veqN] at h <;> simp_all
    all_goals first
      | exact ByteArray.ext h
      | exact ByteArray.ext (Array.ext' h)
      | (obtain ⟨⟨h1, h2⟩, h3⟩ := h; exact ⟨Nat.eq_of_beq_eq_true h2, Nat.eq_of_beq_eq_true h3⟩)
      | skip
  | succ n ih =>
    intro a b h
    cases a <;> cases b <;> simp [veqN] at h <;> simp_all
    all_goals first
      | exact ByteArray.ext h
      | exact ByteArray.ext (Array.ext' h)
      | (exact ih _ _ (by assumption))
      | (exact ih _ _ h.2)
      | (exact ih _ _ h)
      | (obtain ⟨⟨h1, h2⟩, h3⟩ := h; exact ⟨Nat.eq_of_beq_eq_true h2, Nat.eq_of_beq_eq_true h3⟩)
      | exact Array.ext' (allB_eq ih _ _ h)
      | (obtain ⟨⟨h1, h2⟩, h3⟩ := h; exact ⟨Array.ext' (allB_eq ih _ _ h2), Array.ext' (allB_eq ih _ _ h3)⟩)
      | (obtain ⟨h1, h2⟩ := h; exact ⟨Nat.eq_of_beq_eq_true h1, ih _ _ h2⟩)
      | skip
theorem quietA_congr {t t' : Tr Value} {o : Op} (hx : ∀ x ∈ o.operands, evalO t x = evalO t' x) (h : H) : quietA D call o t h = quietA D call o t' h := by
  unfold quietA; rw [opA_congr o h hx]
theorem effA_congr {t t' : Tr Value} {o : Op} (hx : ∀ x ∈ o.operands, evalO t x = evalO t' x) (h : H) : effA D call o t h = effA D call o t' h := by
  unfold effA; rw [opA_congr o h hx]

def cur : List (Nat × H) → H → H
  | [], m => m
  | (_, m') :: rest, _ => cur rest m'
theorem reread_ok {bm : Array Nat} {cs : List (Nat × AObj)} {i : Nat} {o : Op} {t : Tr Value} {v : Value} : ∀ (todo done : List (Nat × H)) (m : H), rereadA D call bm n0 cs i o t v (todo ++ done) m = true →
    (∀ x ∈ todo, (bm.getD i 0).testBit x.1 = false) → (∀ x ∈ done, (bm.getD x.1 0).testBit i = false) → ∃ u, quietA D call o t (addP (bm.getD i 0) n0 cs (cur todo m)) = some u ∧ v = u
  | [], [], m, h, _, _ => by
    simp only [List.nil_append, rereadA] at h
    split at h
    · rename_i u hu; exact ⟨u, hu, veqN_eq _ _ _ h⟩
    · simp at h
  | [], (e, m') :: done, m, h, _, hd => by
    simp only [List.nil_append, rereadA, Bool.and_eq_true] at h
    have hall : ((e, m') :: done).all (fun e => !(bm.getD e.1 0).testBit i) = true := by
      simp only [List.all_eq_true]
      intro x hx
      show (!(bm.getD x.1 0).testBit i) = true
      rw [hd x hx]; rfl
    rw [hall] at h
    simp only [cond_true] at h
    have h := h.1
    split at h
    · rename_i u hu; exact ⟨u, hu, veqN_eq _ _ _ h⟩
    · simp at h
  | (e, m') :: todo, done, m, h, ht, hd => by
    simp only [List.cons_append, rereadA, Bool.and_eq_true] at h
    have h := h.2
    rw [ht (e, m') (List.mem_cons_self ..)] at h
    simp only [cond_false] at h
    exact reread_ok todo done m' h (fun x hx => ht x (List.mem_cons_of_mem _ hx)) hd

theorem addP_get (mask : Nat) : ∀ (l : List (Nat × AObj)) (h : H) (A : Nat), (addP mask n0 l h).objs.get A = h.objs.get A ∨ (h.objs.get A = none ∧ ∃ j ob, (j, ob) ∈ l ∧ A = n0 + j ∧ mask.testBit j = true ∧ (addP mask n0 l h).objs.get A = some ob)
  | [], h, A => .inl rfl
  | (i, ob) :: l, h, A => by
    unfold addP
    rw [cond_eq_ite]
    split
    · rename_i hm
      split
      · rename_i hn
        rcases addP_get mask l (newAt h (n0 + i) ob) A with h1 | ⟨h1, j, ob', h2, h3, h4, h5⟩
        · by_cases hA : A = n0 + i
          · right
            subst hA
            exact ⟨hn, i, ob, List.mem_cons_self .., rfl, hm, by rw [h1]; simp [newAt, Tr.get_set]⟩
          · left; rw [h1]; simp [newAt, Tr.get_set, hA]
        · right
          have hA : A ≠ n0 + i := by
            intro hA; subst hA; simp [newAt, Tr.get_set] at h1
          exact ⟨by simpa [newAt, Tr.get_set, hA] using h1, j, ob', List.mem_cons_of_mem _ h2, h3, h4, h5⟩
      · rcases addP_get mask l h A with h1 | ⟨h1, j, ob', h2, h3, h4, h5⟩
        · exact .inl h1
        · exact .inr ⟨h1, j, ob', List.mem_cons_of_mem _ h2, h3, h4, h5⟩
    · rcases addP_get mask l h A with h1 | ⟨h1, j, ob', h2, h3, h4, h5⟩
      · exact .inl h1
      · exact .inr ⟨h1, j, ob', List.mem_cons_of_mem _ h2, h3, h4, h5⟩
theorem addP_st (mask : Nat) : ∀ (l : List (Nat × AObj)) (h : H), (addP mask n0 l h).st = h.st
  | [], h => rfl
  | (i, ob) :: l, h => by
    unfold addP
    rw [cond_eq_ite]
    split
    · split
      · exact (addP_st mask l _)
      · exact addP_st mask l h
    · exact addP_st mask l h
theorem addP_size (mask : Nat) : ∀ (l : List (Nat × AObj)) (h : H), (addP mask n0 l h).size = h.size ∧ (addP mask n0 l h).nro = h.nro
  | [], h => ⟨rfl, rfl⟩
  | (i, ob) :: l, h => by
    unfold addP
    rw [cond_eq_ite]
    split
    · split
      · exact ⟨(addP_size mask l _).1, (addP_size mask l _).2⟩
      · exact addP_size mask l h
    · exact addP_size mask l h
/-- what is pending is present, where the mask has it -/
theorem addP_has (mask : Nat) : ∀ (l : List (Nat × AObj)) (h : H) (j : Nat) (ob : AObj), (j, ob) ∈ l → mask.testBit j = true → (addP mask n0 l h).objs.get (n0 + j) ≠ none
  | (i, ob') :: l, h, j, ob, hm, hb => by
    have keep : ∀ (l : List (Nat × AObj)) (h : H), h.objs.get (n0 + j) ≠ none → (addP mask n0 l h).objs.get (n0 + j) ≠ none := by
      intro l h hh
      rcases addP_get (n0 := n0) mask l h (n0 + j) with h1 | ⟨h1, _⟩
      · rw [h1]; exact hh
      · exact absurd h1 hh
    unfold addP
    rw [cond_eq_ite]
    rcases List.mem_cons.1 hm with heq | hm
    · obtain ⟨rfl, rfl⟩ := Prod.mk.inj heq
      rw [if_pos hb]
      split
      · exact keep l _ (by simp [newAt, Tr.get_set])
      · rename_i hs; exact keep l h (by rw [hs]; simp)
    · split
      · split
        · exact addP_has mask l _ j ob hm hb
        · exact addP_has mask l h j ob hm hb
      · exact addP_has mask l h j ob hm hb
theorem addP_WR {ρ : Ren} {w : World} (mask : Nat) (l : List (Nat × AObj)) (h : H) (hw : WR ρ h w) (hp : ∀ j ob, (j, ob) ∈ l → mask.testBit j = true → n0 + j < h.size ∧ (h.objs.get (n0 + j) = none → ObjR ρ w h.nro (n0 + j) ob)) : WR ρ (addP mask n0 l h) w := by
  obtain ⟨s1, s2⟩ := addP_size (n0 := n0) mask l h
  refine ⟨by rw [s1]; exact hw.dom, by rw [s2]; exact hw.dis, ?_, ?_, by rw [s1, s2]; exact hw.nro⟩
  · intro A ob hA
    rw [s2]
    rcases addP_get (n0 := n0) mask l h A with h1 | ⟨h1, j, ob', h2, h3, h4, h5⟩
    · rw [h1] at hA; exact hw.obj A ob hA
    · rw [h5] at hA
      obtain rfl := Option.some.inj hA
      subst h3
      exact (hp j ob' h2 h4).2 h1
  · intro A ob hA
    rw [s1]
    rcases addP_get (n0 := n0) mask l h A with h1 | ⟨h1, j, ob', h2, h3, h4, h5⟩
    · rw [h1] at hA; exact hw.lt A ob hA
    · subst h3; exact (hp j ob' h2 h4).1
theorem WR.sub {ρ : Ren} {w : World} {h h2 : H} (hw : WR ρ h w) (s1 : h2.size = h.size) (s2 : h2.nro = h.nro) (hs : ∀ A ob, h2.objs.get A = some ob → h.objs.get A = some ob) : WR ρ h2 w :=
  ⟨by rw [s1]; exact hw.dom, by rw [s2]; exact hw.dis, fun A ob x => by rw [s2]; exact hw.obj A ob (hs A ob x), fun A ob x => by rw [s1]; exact hw.lt A ob (hs A ob x), by rw [s1, s2]; exact hw.nro⟩
theorem keepP {ρ ρ' : Ren} {w w' : World} {hh h' : H} (hx : Ext ρ hh w ρ' h' w') (hw : WR ρ hh w) {id : Nat} (hid : id < hh.size) (habs : hh.objs.get id = none) (hn : hh.nro ≤ id) {ob : AObj} (ho : ObjR ρ w hh.nro id ob) : ObjR ρ' w' hh.nro id ob := by
  refine ho.keep hx.mono ?_ ?_
  · intro e L hL
    cases h1 : ρ id e with
    | none =>
      rcases hx.newA id e L hL h1 with h2 | h2
      · omega
      · exact absurd habs h2
    | some L1 =>
      have := hx.mono _ _ _ h1
      rw [hL] at this; exact this.symm
  · intro e L hL
    refine hx.frame L.cb (hw.dom _ _ _ hL).2 ?_
    intro A e' L' h1 h2 h3 h4
    have hne : A ≠ id := by intro h; subst h; exact h2 habs
    have := (hw.dis _ _ _ _ _ _ h1 hL hne h4).1
    omega
theorem Ext.post {ρ ρ' : Ren} {w w' : World} {h h1 h2 : H} (hx : Ext ρ h w ρ' h1 w') (s2 : h2.nro = h1.nro) (s3 : h2.st = h1.st) (s1 : h.size ≤ h2.size) (hp : ∀ A, A < h.size → (h2.objs.get A = none ↔ h1.objs.get A = none)) : Ext ρ h w ρ' h2 w' :=
  ⟨hx.mono, s2.trans hx.nro, s1, fun A hA => (hp A hA).trans (hx.pres A hA), hx.new, hx.newA, hx.grow, hx.frame, hx.os, hx.tape, hx.output, s3.trans hx.st, hx.drawn⟩
theorem Ext.allocAt {ρ ρ' : Ren} {w w' w2 : World} {h h1 : H} (hx : Ext ρ h w ρ' h1 w') {id : Nat} (hid : h.size ≤ id) {L : Loc} (hun : ρ' id 0 = none) {o : Obj} (hh : w2.heap = w'.heap.push o) (hL : L.cb = w'.heap.size) (o1 : w2.os = w'.os) (o2 : w2.tape = w'.tape) (o3 : OutR w' w2) : Ext ρ h w (updR ρ' id 0 L) h1 w2 :=
  ⟨Ren.le_trans hx.mono (updR_le hun), hx.nro, hx.size, hx.pres, fun A e L' x y => by
      rcases updR_inv x with ⟨rfl, rfl, rfl⟩ | x
      · left; rw [hL]; exact hx.grow
      · exact hx.new A e L' x y,
    fun A e L' x y => by
      rcases updR_inv x with ⟨rfl, rfl, rfl⟩ | x
      · exact .inl hid
      · exact hx.newA A e L' x y,
    by rw [hh]; have := hx.grow; simp; omega,
    fun b hb hno => by rw [heap_push w' w2 o hh b (Nat.lt_of_lt_of_le hb hx.grow)]; exact hx.frame b hb hno,
    o1.trans hx.os, o2.trans hx.tape, o3.1.trans hx.output, hx.st, fun s => Nat.le_trans (hx.drawn s) o3.2⟩
end
end Go.Abs

/- Regions whose order is open stand for the model's, whatever order is drawn. -/
namespace Go.Abs
open Go
section
variable {P : Program} {D : Data} {call : CallF} {ops : Array Oper} {n n0 : Nat}

/-- the record of a run in the text's order -/
structure Rec (D : Data) (call : CallF) (ops : Array Oper) (n n0 : Nat) (σ : Nat → DS) (val : Nat → Value) : Prop where
  step : ∀ (j : Nat) (o : Oper), ops[j]? = some o → putT (σ j).t n o.dst (val j) = some (σ (j + 1)).t ∧ Kind D call ops n n0 j o (σ j) (σ (j + 1)) (val j)
  e0 : (σ 0).effs = []
  c0 : (σ 0).cs = []
variable {σ : Nat → DS} {val : Nat → Value}
theorem Rec.btw (R : Rec D call ops n n0 σ val) (i : Nat) : ∀ d, i + d ≤ ops.size → ∃ lat rc rr, (σ (i + d)).effs = lat ++ (σ i).effs ∧ (∀ x ∈ lat, i ≤ x.1 ∧ x.1 < i + d ∧ ∀ y ∈ (σ x.1).effs, ((Region.before ops).getD x.1 0).testBit y.1 = true) ∧
    cur lat (σ (i + d)).m = (σ i).m ∧ (σ (i + d)).cs = (σ i).cs ++ rc ∧ (∀ x ∈ rc, i ≤ x.1 ∧ x.1 < i + d) ∧ (σ (i + d)).reads = rr ++ (σ i).reads
  | 0, _ => ⟨[], [], [], rfl, fun x hx => by simp at hx, rfl, by simp, fun x hx => by simp at hx, rfl⟩
  | d + 1, hd => by
    obtain ⟨lat, rc, rr, h1, h2, h3, h4, h5, h6⟩ := R.btw i d (by omega)
    have hj : i + d < ops.size := by omega
    obtain ⟨_, hk⟩ := R.step (i + d) ops[i + d] (Array.getElem?_eq_getElem hj)
    have e : i + (d + 1) = i + d + 1 := rfl
    have weak : ∀ x ∈ lat, i ≤ x.1 ∧ x.1 < i + (d + 1) ∧ ∀ y ∈ (σ x.1).effs, ((Region.before ops).getD x.1 0).testBit y.1 = true := fun x hx => ⟨(h2 x hx).1, by have := (h2 x hx).2.1; omega, (h2 x hx).2.2⟩
    have weakc : ∀ x ∈ rc, i ≤ x.1 ∧ x.1 < i + (d + 1) := fun x hx => ⟨(h5 x hx).1, by have := (h5 x hx).2; omega⟩
    rw [e]
    cases hk with
    | skip hw hv k1 k2 k3 k4 => exact ⟨lat, rc, rr, by rw [k3, h1], weak, by rw [k1]; exact h3, by rw [k2, h4], weakc, by rw [k4, h6]⟩
    | pure hw hp hq k1 k2 k3 k4 => exact ⟨lat, rc, rr, by rw [k3, h1], weak, by rw [k1]; exact h3, by rw [k2, h4], weakc, by rw [k4, h6]⟩
    | alloc hw hp ob mk hq hv k1 k2 k3 k4 =>
      refine ⟨lat, rc ++ [(i + d, ob)], rr, by rw [k3, h1], weak, by rw [k1]; exact h3, by rw [k2, h4]; simp, ?_, by rw [k4, h6]⟩
      intro x hx
      rcases List.mem_append.1 hx with hx | hx
      · exact weakc x hx
      · simp at hx; subst hx; exact ⟨by simp, by simp⟩
    | read hw hq k1 k2 k3 k4 => exact ⟨lat, rc, _ :: rr, by rw [k3, h1], weak, by rw [k1]; exact h3, by rw [k2, h4], weakc, by rw [k4, h6]; rfl⟩
    | eff hw ha hq k2 k3 k4 =>
      refine ⟨(i + d, (σ (i + d)).m) :: lat, rc, rr, by rw [k3, h1]; rfl, ?_, ?_, by rw [k2, h4], weakc, by rw [k4, h6]⟩
      · intro x hx
        rcases List.mem_cons.1 hx with rfl | hx
        · exact ⟨by simp, by simp, ha⟩
        · exact weak x hx
      · exact h3
theorem Rec.low (R : Rec D call ops n n0 σ val) {i : Nat} (hi : i ≤ ops.size) : (∀ x ∈ (σ i).effs, x.1 < i) ∧ (∀ x ∈ (σ i).cs, x.1 < i) := by
  obtain ⟨lat, rc, rr, h1, h2, h3, h4, h5, h6⟩ := R.btw 0 i (by omega)
  rw [Nat.zero_add] at h1 h4
  rw [h1, R.e0, h4, R.c0]
  exact ⟨fun x hx => by have := (h2 x (by simpa using hx)).2.1; omega, fun x hx => by have := (h5 x (by simpa using hx)).2; omega⟩
/-- the effects of all, and those behind a place -/
theorem Rec.split (R : Rec D call ops n n0 σ val) {i : Nat} (hi : i ≤ ops.size) : ∃ lat, (σ ops.size).effs = lat ++ (σ i).effs ∧ (∀ x ∈ lat, i ≤ x.1 ∧ ∀ y ∈ (σ x.1).effs, ((Region.before ops).getD x.1 0).testBit y.1 = true) ∧ cur lat (σ ops.size).m = (σ i).m := by
  obtain ⟨lat, rc, rr, h1, h2, h3, h4, h5, h6⟩ := R.btw i (ops.size - i) (by omega)
  rw [show i + (ops.size - i) = ops.size by omega] at h1 h3
  exact ⟨lat, h1, fun x hx => ⟨(h2 x hx).1, (h2 x hx).2.2⟩, h3⟩
theorem Rec.temps (R : Rec D call ops n n0 σ val) : ∀ i, i ≤ ops.size → ∀ d v, (σ i).t.get d = some v →
    (∃ j o, j < i ∧ ops[j]? = some o ∧ o.dst = some d ∧ v = val j ∧ ∀ j2 o2, j2 < i → ops[j2]? = some o2 → o2.dst = some d → j2 ≤ j) ∨ ((∀ j o, j < i → ops[j]? = some o → o.dst ≠ some d) ∧ (σ 0).t.get d = some v)
  | 0, _, d, v, h => .inr ⟨fun j o hj => by omega, h⟩
  | i + 1, hi, d, v, h => by
    have hi' : i < ops.size := by omega
    obtain ⟨hp, _⟩ := R.step i ops[i] (Array.getElem?_eq_getElem hi')
    have ih := R.temps i (by omega) d
    by_cases hd : ops[i].dst = some d
    · left
      rw [hd] at hp
      simp only [putT] at hp
      rw [cond_eq_ite] at hp
      split at hp
      · have hp := Option.some.inj hp
        rw [← hp, Tr.get_set, if_pos rfl] at h
        exact ⟨i, ops[i], by omega, Array.getElem?_eq_getElem hi', hd, (Option.some.inj h).symm, fun j2 o2 hj2 _ _ => by omega⟩
      · simp at hp
    · have hsame : (σ (i + 1)).t.get d = (σ i).t.get d := by
        cases hdst : ops[i].dst with
        | none => rw [hdst] at hp; rw [← Option.some.inj hp]
        | some d' =>
          rw [hdst] at hp
          simp only [putT] at hp
          rw [cond_eq_ite] at hp
          split at hp
          · rw [← Option.some.inj hp, Tr.get_set, if_neg]
            intro hh; subst hh; exact hd hdst
          · simp at hp
      rw [hsame] at h
      rcases ih v h with ⟨j, o, h1, h2, h3, h4, h5⟩ | ⟨h1, h2⟩
      · left
        refine ⟨j, o, by omega, h2, h3, h4, fun j2 o2 hj2 ho2 hd2 => ?_⟩
        by_cases he : j2 = i
        · subst he
          rw [Array.getElem?_eq_getElem hi'] at ho2
          obtain rfl := Option.some.inj ho2
          exact absurd hd2 hd
        · exact h5 j2 o2 (by omega) ho2 hd2
      · right
        refine ⟨fun j o hj ho => ?_, h2⟩
        by_cases he : j = i
        · subst he
          rw [Array.getElem?_eq_getElem hi'] at ho
          obtain rfl := Option.some.inj ho
          exact hd
        · exact h1 j o (by omega) ho

structure Inv (ops : Array Oper) (n n0 k : Nat) (σ : Nat → DS) (val : Nat → Value) (ρ0 : Ren) (h0 : H) (w0 : World) (S : Nat → Prop) (c : Nat) (ρ : Ren) (a : Act) (w : World) : Prop where
  cN : c ≤ ops.size
  done : ∀ x ∈ (σ ops.size).effs, x.1 < c → S x.1
  todo : ∀ x ∈ (σ ops.size).effs, c ≤ x.1 → ¬ S x.1
  wr : WR ρ (σ c).m w
  ext : Ext ρ0 h0 w0 ρ (σ c).m w
  sz : n0 + k ≤ (σ c).m.size
  tmp : ∀ d, (∀ j o, S j → ops[j]? = some o → o.dst = some d → (∀ j2 o2, S j2 → ops[j2]? = some o2 → o2.dst = some d → j2 ≤ j) → ∃ v', a.tmps[d]? = some v' ∧ VR ρ (val j) v') ∧
    ((∀ j o, S j → ops[j]? = some o → o.dst ≠ some d) → ∀ v, (σ 0).t.get d = some v → ∃ v', a.tmps[d]? = some v' ∧ VR ρ v v')
  tn : a.tmps.size = n
  td : a.defers = []
  pend : ∀ j ob, (j, ob) ∈ (σ ops.size).cs → S j → (σ c).m.objs.get (n0 + j) = none → ObjR ρ w h0.nro (n0 + j) ob
  unm : k = ops.size → ∀ j, j < ops.size → ¬ S j → ∀ e, ρ (n0 + j) e = none
  prs : k = ops.size → ∀ j, j < ops.size → (σ c).m.objs.get (n0 + j) ≠ none → S j

/-- what an operation that is ready names is as it was in the text's order -/
theorem Inv.names {k c : Nat} {ρ0 ρ : Ren} {h0 : H} {w0 w : World} {S : Nat → Prop} {a : Act} (R : Rec D call ops n n0 σ val) (T : TextOk ops) (hcl : Closed ops S) (hSN : ∀ j, S j → j < ops.size) (I : Inv ops n n0 k σ val ρ0 h0 w0 S c ρ a w)
    {i : Nat} {o : Oper} (ho : ops[i]? = some o) (hi : ¬ S i) (hr : ∀ d ∈ o.after.toList, Region.binds .any d = true → S d.on) : TRel ρ (pickT (σ i).t (namesOf ops o)) a := by
  have hiN := (Array.getElem?_eq_some_iff.1 ho).1
  have anc : ∀ e, ((Region.before ops).getD i 0).testBit e = true → S e := fun e he => anc_in hcl i e (fun o' ho' d hd hb => by rw [ho] at ho'; obtain rfl := Option.some.inj ho'; exact hr d hd hb) he
  have later : ∀ j, S j → ((Region.before ops).getD j 0).testBit i = true → False := fun j hj hb => hi (anc_in hcl j i (fun o' ho' d hd hb' => hcl j o' hj ho' d hd hb') hb)
  intro d v hv
  obtain ⟨hm, hv⟩ := (pickT_get (σ i).t (namesOf ops o) d).2 v hv
  have wr : ∀ j p, ops[j]? = some p → p.dst = some d → j ≠ i → (j < i ∧ S j) ∨ (i < j ∧ ¬ S j) := by
    intro j p hp hd hne
    rcases T.ord j i o p d ho hp hd hm hne with ⟨h1, h2⟩ | ⟨h1, h2⟩
    · exact .inl ⟨h1, anc j h2⟩
    · exact .inr ⟨h1, fun hj => later j hj h2⟩
  rcases R.temps i (by omega) d v hv with ⟨j, p, h1, h2, h3, h4, h5⟩ | ⟨h1, h2⟩
  · subst h4
    have hSj : S j := ((wr j p h2 h3 (by omega)).resolve_right (by omega)).2
    refine (I.tmp d).1 j p hSj h2 h3 fun j2 p2 hS2 hp2 hd2 => ?_
    rcases wr j2 p2 hp2 hd2 (fun h => hi (h ▸ hS2)) with ⟨h6, _⟩ | ⟨_, h6⟩
    · exact h5 j2 p2 h6 hp2 hd2
    · exact absurd hS2 h6
  · refine (I.tmp d).2 (fun j p hSj hp hd => ?_) v h2
    rcases wr j p hp hd (fun h => hi (h ▸ hSj)) with ⟨h6, _⟩ | ⟨_, h6⟩
    · exact h1 j p h6 hp hd
    · exact absurd hSj h6
/-- the temporaries behind an operation -/
theorem Inv.tmps {k c : Nat} {ρ0 ρ ρ' : Ren} {h0 : H} {w0 w : World} {S : Nat → Prop} {a : Act} (R : Rec D call ops n n0 σ val) (T : TextOk ops) (hcl : Closed ops S) (I : Inv ops n n0 k σ val ρ0 h0 w0 S c ρ a w)
    {i : Nat} {o : Oper} (ho : ops[i]? = some o) (hi : ¬ S i) (hle : ρ.le ρ') {v' : Value} (hv : VR ρ' (val i) v') :
    (∀ d, (∀ j p, (S j ∨ j = i) → ops[j]? = some p → p.dst = some d → (∀ j2 o2, (S j2 ∨ j2 = i) → ops[j2]? = some o2 → o2.dst = some d → j2 ≤ j) → ∃ v'', (a.put o.dst v').tmps[d]? = some v'' ∧ VR ρ' (val j) v'') ∧
    ((∀ j p, (S j ∨ j = i) → ops[j]? = some p → p.dst ≠ some d) → ∀ v, (σ 0).t.get d = some v → ∃ v'', (a.put o.dst v').tmps[d]? = some v'' ∧ VR ρ' v v'')) ∧ (a.put o.dst v').tmps.size = n ∧ (a.put o.dst v').defers = [] := by
  have later : ∀ j, S j → ((Region.before ops).getD j 0).testBit i = true → False := fun j hj hb => hi (anc_in hcl j i (fun o' ho' d hd hb' => hcl j o' hj ho' d hd hb') hb)
  obtain ⟨hp, _⟩ := R.step i o ho
  have hput : ∀ d, o.dst = some d → d < n := by
    intro d hd
    rw [hd] at hp
    simp only [putT] at hp
    rw [cond_eq_ite] at hp
    split at hp
    · rename_i hb; exact Nat.le_of_ble_eq_true hb
    · simp at hp
  have hget : ∀ d, o.dst ≠ some d → (a.put o.dst v').tmps[d]? = a.tmps[d]? := by
    intro d hd
    cases hdst : o.dst with
    | none => rfl
    | some d' =>
      simp only [Act.put]
      rw [Array.getElem?_setIfInBounds_ne (fun h => hd (by rw [hdst, h]))]
  refine ⟨fun d => ?_, ?_, ?_⟩
  · by_cases hd : o.dst = some d
    · refine ⟨fun j p hj hp hdp hmax => ?_, fun hno => absurd hd (hno i o (.inr rfl) ho)⟩
      have hij := hmax i o (.inr rfl) ho hd
      have : j = i := by
        rcases hj with hj | rfl
        · by_cases he : j = i
          · exact he
          · exfalso
            rcases T.ord j i o p d ho hp hdp (by simp [namesOf, hd]) he with ⟨h1, _⟩ | ⟨_, h2⟩
            · omega
            · exact later j hj h2
        · rfl
      subst this
      refine ⟨v', ?_, hv⟩
      rw [hd]
      simp only [Act.put]
      exact Array.getElem?_setIfInBounds_self_of_lt (by rw [I.tn]; exact hput d hd)
    · rw [hget d hd]
      refine ⟨fun j p hj hp hdp hmax => ?_, fun hno v hv0 => ?_⟩
      · have hSj : S j := by
          rcases hj with hj | hj
          · exact hj
          · rw [hj, ho] at hp; obtain rfl := Option.some.inj hp; exact absurd hdp hd
        obtain ⟨u, h1, h2⟩ := (I.tmp d).1 j p hSj hp hdp (fun j2 o2 h2 h3 h4 => hmax j2 o2 (.inl h2) h3 h4)
        exact ⟨u, h1, h2.mono hle⟩
      · obtain ⟨u, h1, h2⟩ := (I.tmp d).2 (fun j p hj hp => hno j p (.inl hj) hp) v hv0
        exact ⟨u, h1, h2.mono hle⟩
  · cases hdst : o.dst with
    | none => exact I.tn
    | some d => simpa [Act.put] using I.tn
  · cases hdst : o.dst with
    | none => exact I.td
    | some d => exact I.td
end
end Go.Abs

/- Regions whose order is open: each operation, whenever it comes. -/
namespace Go.Abs
open Go
section
variable {P : Program} {D : Data} {call : CallF} {ops : Array Oper} {n n0 : Nat} {σ : Nat → DS} {val : Nat → Value}

theorem Rec.cs_uniq (R : Rec D call ops n n0 σ val) {i : Nat} {o : Oper} (ho : ops[i]? = some o) {ob ob' : AObj} (h1 : (i, ob) ∈ (σ ops.size).cs) (h2 : (i, ob') ∈ (σ ops.size).cs) : ob = ob' := by
  have hi := (Array.getElem?_eq_some_iff.1 ho).1
  obtain ⟨lat, rc, rr, _, _, _, h4, h5, _⟩ := R.btw (i + 1) (ops.size - (i + 1)) (by omega)
  rw [show i + 1 + (ops.size - (i + 1)) = ops.size by omega] at h4
  have hl := (R.low (i := i) (by omega)).2
  have key : ∀ ob, (i, ob) ∈ (σ ops.size).cs → (i, ob) ∈ (σ (i + 1)).cs := by
    intro ob h
    rw [h4] at h
    rcases List.mem_append.1 h with h | h
    · exact h
    · have := (h5 _ h).1; simp only at this; omega
  have h1 := key ob h1
  have h2 := key ob' h2
  obtain ⟨_, hk⟩ := R.step i o ho
  have none : ∀ ob, (i, ob) ∈ (σ i).cs → False := fun ob h => by have := hl _ h; simp only at this; omega
  cases hk with
  | skip hw hv k1 k2 k3 k4 => rw [k2] at h1; exact (none _ h1).elim
  | pure hw hp hq k1 k2 k3 k4 => rw [k2] at h1; exact (none _ h1).elim
  | read hw hq k1 k2 k3 k4 => rw [k2] at h1; exact (none _ h1).elim
  | eff hw ha hq k2 k3 k4 => rw [k2] at h1; exact (none _ h1).elim
  | alloc hw hp ob0 mk hq hv k1 k2 k3 k4 =>
    rw [k2] at h1 h2
    have a1 := (List.mem_append.1 h1).resolve_left (fun h => none _ h)
    have a2 := (List.mem_append.1 h2).resolve_left (fun h => none _ h)
    simp at a1 a2
    rw [a1, a2]
theorem Rec.cs_alloc (R : Rec D call ops n n0 σ val) : ∀ i, i ≤ ops.size → ∀ x ∈ (σ i).cs, x.1 < ops.size ∧ ops.toList.any (fun o => allocOp o.op) = true
  | 0, _, x, hx => by rw [R.c0] at hx; simp at hx
  | i + 1, hi, x, hx => by
    have hi' : i < ops.size := by omega
    have ih := R.cs_alloc i (by omega) x
    obtain ⟨_, hk⟩ := R.step i ops[i] (Array.getElem?_eq_getElem hi')
    cases hk with
    | skip hw hv k1 k2 k3 k4 => rw [k2] at hx; exact ih hx
    | pure hw hp hq k1 k2 k3 k4 => rw [k2] at hx; exact ih hx
    | read hw hq k1 k2 k3 k4 => rw [k2] at hx; exact ih hx
    | eff hw ha hq k2 k3 k4 => rw [k2] at hx; exact ih hx
    | alloc hw hp ob0 mk hq hv k1 k2 k3 k4 =>
      rw [k2] at hx
      rcases List.mem_append.1 hx with hx | hx
      · exact ih hx
      · simp at hx
        subst hx
        exact ⟨hi', List.any_eq_true.2 ⟨ops[i], by simp, hp⟩⟩
theorem reserve_of {ops : Array Oper} (h : ops.toList.any (fun o => allocOp o.op) = true) : reserve ops = ops.size := by
  unfold reserve; rw [h]; rfl
theorem addP_lim {mask i : Nat} (hm : ∀ j, mask.testBit j = true → j < i) : ∀ (l rest : List (Nat × AObj)) (h : H), (∀ x ∈ rest, i ≤ x.1) → addP mask n0 (l ++ rest) h = addP mask n0 l h
  | [], [], h, _ => rfl
  | [], (j, ob) :: rest, h, hr => by
    show addP mask n0 ((j, ob) :: rest) h = _
    unfold addP
    have : mask.testBit j = false := by
      cases hb : mask.testBit j with
      | false => rfl
      | true => have := hm j hb; have := hr (j, ob) (List.mem_cons_self ..); simp only at this; omega
    rw [this]
    exact addP_lim hm [] rest h fun x hx => hr x (List.mem_cons_of_mem _ hx)
  | (j, ob) :: l, rest, h, hr => by
    show addP mask n0 ((j, ob) :: (l ++ rest)) h = addP mask n0 ((j, ob) :: l) h
    unfold addP
    rw [addP_lim hm l rest h hr]
    cases mask.testBit j <;> simp only [cond_true, cond_false]
    split
    · exact addP_lim hm l rest _ hr
    · rfl
theorem Rec.cs_split (R : Rec D call ops n n0 σ val) {i : Nat} (hi : i ≤ ops.size) : ∃ rc, (σ ops.size).cs = (σ i).cs ++ rc ∧ ∀ x ∈ rc, i ≤ x.1 := by
  obtain ⟨lat, rc, rr, _, _, _, h4, h5, _⟩ := R.btw i (ops.size - i) (by omega)
  rw [show i + (ops.size - i) = ops.size by omega] at h4
  exact ⟨rc, h4, fun x hx => (h5 x hx).1⟩
theorem Rec.reads_split (R : Rec D call ops n n0 σ val) {i : Nat} (hi : i ≤ ops.size) : ∃ rr, (σ ops.size).reads = rr ++ (σ i).reads := by
  obtain ⟨lat, rc, rr, _, _, _, _, _, h6⟩ := R.btw i (ops.size - i) (by omega)
  rw [show i + (ops.size - i) = ops.size by omega] at h6
  exact ⟨rr, h6⟩

theorem step_any (hD : DOk P D) (hcall : CallOK P call) (htick : CallTick call) (R : Rec D call ops n n0 σ val) (T : TextOk ops)
    (hre : (σ ops.size).reads.all (fun r => rereadA D call (Region.before ops) n0 (σ ops.size).cs r.1 r.2.1 r.2.2.1 r.2.2.2 (σ ops.size).effs (σ ops.size).m) = true)
    {ρ0 ρ : Ren} {h0 : H} {w0 w : World} {S : Nat → Prop} {a : Act} {c : Nat} (hn0 : n0 = h0.size) (hnro : h0.nro ≤ h0.size) (hd0 : ∀ A e L, ρ0 A e = some L → A < h0.size) (hcl : Closed ops S) (hSN : ∀ j, S j → j < ops.size)
    (I : Inv ops n n0 (reserve ops) σ val ρ0 h0 w0 S c ρ a w) {i : Nat} {o : Oper} (ho : ops[i]? = some o) (hi : ¬ S i) (hr : ∀ d ∈ o.after.toList, Region.binds .any d = true → S d.on)
    {Q : Exit → Act → World → Prop} {K : Act → World → Prop} (hK : ∀ c' ρ' a' w', Inv ops n n0 (reserve ops) σ val ρ0 h0 w0 (fun j => S j ∨ j = i) c' ρ' a' w' → K a' w') : wpOp P ops Q i K a w := by
  have hiN := (Array.getElem?_eq_some_iff.1 ho).1
  have anc : ∀ e, ((Region.before ops).getD i 0).testBit e = true → S e := fun e he => anc_in hcl i e (fun o' ho' d hd hb => by rw [ho] at ho'; obtain rfl := Option.some.inj ho'; exact hr d hd hb) he
  have later : ∀ j, S j → ((Region.before ops).getD j 0).testBit i = true → False := fun j hj hb => hi (anc_in hcl j i (fun o' ho' d hd hb' => hcl j o' hj ho' d hd hb') hb)
  have hT := I.names R T hcl hSN ho hi hr
  have hnro' : (σ c).m.nro = h0.nro := I.ext.nro
  have hops : ∀ x ∈ o.op.operands, evalO (σ i).t x = evalO (pickT (σ i).t (namesOf ops o)) x := by
    intro x hx
    cases x with
    | tmp d =>
      simp only [evalO]
      refine ((pickT_get (σ i).t (namesOf ops o) d).1 ?_).symm
      simp only [namesOf, Oper.looksAt, List.mem_append, List.mem_filterMap]
      right; left
      exact ⟨.tmp d, by simpa using hx, rfl⟩
    | const v => rfl
    | global g => rfl
    | func f => rfl
  have hwant : wantA ops o.guard (pickT (σ i).t (namesOf ops o)) = wantA ops o.guard (σ i).t := by
    unfold wantA
    cases hg : o.guard with
    | none => rfl
    | some p =>
      obtain ⟨j, want⟩ := p
      simp only
      cases hj : ops[j]? with
      | none => rfl
      | some oj =>
        simp only
        cases hd : oj.dst with
        | none => rfl
        | some d =>
          simp only
          rw [(pickT_get (σ i).t (namesOf ops o) d).1 ?_]
          simp only [namesOf, Oper.looksAt, List.mem_append, hg, hj]
          right; right
          simp [hd]
  obtain ⟨hput, hk⟩ := R.step i o ho
  -- the effects that are behind this place are no others
  have notEff : (σ (i + 1)).effs = (σ i).effs → ∀ x ∈ (σ ops.size).effs, x.1 ≠ i := by
    intro he x hx hxi
    obtain ⟨lat, h1, h2, _⟩ := R.split (i := i + 1) (by omega)
    rw [h1] at hx
    rcases List.mem_append.1 hx with hx | hx
    · have := (h2 x hx).1; omega
    · rw [he] at hx; have := (R.low (i := i) (by omega)).1 x hx; omega
  have same : ∀ {ρ' : Ren} {v' : Value} {w' : World}, ((σ (i + 1)).effs = (σ i).effs) → ρ.le ρ' → VR ρ' (val i) v' → WR ρ' (σ c).m w' → Ext ρ0 h0 w0 ρ' (σ c).m w' →
      (∀ j ob, (j, ob) ∈ (σ ops.size).cs → (S j ∨ j = i) → (σ c).m.objs.get (n0 + j) = none → ObjR ρ' w' h0.nro (n0 + j) ob) →
      (reserve ops = ops.size → ∀ j, j < ops.size → ¬ (S j ∨ j = i) → ∀ e, ρ' (n0 + j) e = none) → K (a.put o.dst v') w' := by
    intro ρ' v' w' he hle hv hwr hext hpend hunm
    obtain ⟨t1, t2, t3⟩ := I.tmps R T hcl ho hi hle hv
    refine hK c ρ' _ w' ⟨I.cN, fun x hx hc => .inl (I.done x hx hc), fun x hx hc => ?_, hwr, hext, I.sz, t1, t2, t3, hpend, hunm, fun hk j hj hp => .inl (I.prs hk j hj hp)⟩
    rintro (h1 | h1)
    · exact I.todo x hx hc h1
    · exact notEff he x hx h1
  unfold wpOp
  simp only [ho]
  cases hk with
  | skip hw hv k1 k2 k3 k4 =>
    rw [if_neg (by rw [wantA_ok hT (hwant.trans hw)]; simp)]
    refine same k3 (Ren.le_refl _) (by rw [hv]; exact undef_VR) I.wr I.ext (fun j ob hj hs hn => ?_) (fun hk j hj hs e => I.unm hk j hj (fun h => hs (.inl h)) e)
    rcases hs with hs | hs
    · exact I.pend j ob hj hs hn
    · exfalso
      subst hs
      obtain ⟨rc, h1, h2⟩ := R.cs_split (i := j + 1) (by omega)
      rw [h1] at hj
      rcases List.mem_append.1 hj with hj | hj
      · rw [k2] at hj; have := (R.low (i := j) (by omega)).2 _ hj; simp only at this; omega
      · have := h2 _ hj; simp only at this; omega
  | pure hw hp hq k1 k2 k3 k4 =>
    rw [if_pos (wantA_ok hT (hwant.trans hw))]
    left
    rw [pure_any hp (σ i).t (σ i).m (σ c).m, quietA_congr hops] at hq
    refine eff_wp hD hcall (quiet_eff htick hq) I.wr hT ?_
    intro ρ' v' w' g1 g2 g3
    refine same k3 g3.mono g1 g2 (I.ext.trans hd0 g3) (fun j ob hj hs hn => ?_) (fun hk j hj hs e => ?_)
    · rcases hs with hs | hs
      · have hjN := hSN j hs
        have := keepP g3 I.wr (by have := I.sz; have hr := reserve_of ((R.cs_alloc ops.size (Nat.le_refl _) _ hj).2); omega) hn (by rw [hnro']; omega) (by rw [hnro']; exact I.pend j ob hj hs hn)
        rw [hnro'] at this; exact this
      · exfalso
        subst hs
        obtain ⟨rc, h1, h2⟩ := R.cs_split (i := j + 1) (by omega)
        rw [h1] at hj
        rcases List.mem_append.1 hj with hj | hj
        · rw [k2] at hj; have := (R.low (i := j) (by omega)).2 _ hj; simp only at this; omega
        · have := h2 _ hj; simp only at this; omega
    · cases hh : ρ' (n0 + j) e with
      | none => rfl
      | some L =>
        exfalso
        rcases g3.newA _ _ _ hh (I.unm hk j hj (fun h => hs (.inl h)) e) with h1 | h1
        · have := I.sz; omega
        · exact hs (.inl (I.prs hk j hj h1))
  | alloc hw hp ob mk hq hv k1 k2 k3 k4 =>
    rw [if_pos (wantA_ok hT (hwant.trans hw))]
    left
    have hres : reserve ops = ops.size := reserve_of (List.any_eq_true.2 ⟨o, by
      have := Array.mem_of_getElem? ho
      simpa using this, hp⟩)
    rw [alloc_any hp (σ i).t (σ i).m (σ c).m, opA_congr o.op _ hops] at hq
    obtain ⟨v', w', L, e, hN⟩ := opA_ok (o := o) hD I.wr hT hq
    unfold Oper.wp
    rw [e, Oper.upon_value]
    obtain ⟨ob', hob'⟩ := hN.push
    have hidlt : n0 + i < (σ c).m.size := by have := I.sz; omega
    have habs : (σ c).m.objs.get (n0 + i) = none := by
      cases hh : (σ c).m.objs.get (n0 + i) with
      | none => rfl
      | some x => exact absurd (I.prs hres i hiN (by rw [hh]; simp)) hi
    have hun := I.unm hres i hiN hi
    have hle : ρ.le (updR ρ (n0 + i) 0 L) := updR_le (hun 0)
    have hwr := I.wr.map hidlt hun (by rw [hnro']; omega) habs hob' hN.cb
    have hext := I.ext.allocAt (id := n0 + i) (by omega) (hun 0) hob' hN.cb hN.os hN.tape hN.output
    refine same k3 hle (by rw [hv]; exact hN.rel _ _ hle (updR_self _ _ _ _)) hwr hext (fun j ob2 hj hs hn => ?_) (fun hk j hj hs e => ?_)
    · by_cases hji : j = i
      · subst hji
        have hmem : (j, ob) ∈ (σ ops.size).cs := by
          obtain ⟨rc, h1, _⟩ := R.cs_split (i := j + 1) (by omega)
          rw [h1, k2]; simp
        obtain rfl := R.cs_uniq ho hmem hj
        have := hN.obj (n0 + j) _ hle (fun e L' x => by
          rcases updR_inv x with ⟨_, rfl, rfl⟩ | x
          · exact ⟨rfl, rfl⟩
          · rw [hun] at x; simp at x) w' rfl
        rw [hnro'] at this; exact this
      · have hs := hs.resolve_right hji
        refine (I.pend j ob2 hj hs hn).keep hle ?_ ?_
        · intro e L' x
          rcases updR_inv x with ⟨h1, _, _⟩ | x
          · exfalso; exact hji (by omega)
          · exact x
        · intro e L' x
          exact heap_push w w' ob' hob' _ (I.wr.dom _ _ _ x).2
    · cases hh : updR ρ (n0 + i) 0 L (n0 + j) e with
      | none => rfl
      | some L' =>
        exfalso
        rcases updR_inv hh with ⟨h1, _, _⟩ | x
        · exact hs (.inr (by omega))
        · rw [I.unm hk j hj (fun h => hs (.inl h)) e] at x; simp at x
  | read hw hq k1 k2 k3 k4 =>
    rw [if_pos (wantA_ok hT (hwant.trans hw))]
    left
    -- the heap here
    obtain ⟨lat, l1, l2, l3⟩ := R.split I.cN
    have hmem : (i, o.op, (σ i).t, val i) ∈ (σ ops.size).reads := by
      obtain ⟨rr, h1⟩ := R.reads_split (i := i + 1) (by omega)
      rw [h1, k4]; simp
    have hrr := List.all_eq_true.1 hre _ hmem
    simp only at hrr
    rw [l1] at hrr
    obtain ⟨u, hu, huv⟩ := reread_ok lat (σ c).effs _ hrr (fun x hx => by
        cases hb : ((Region.before ops).getD i 0).testBit x.1 with
        | false => rfl
        | true => exact absurd (anc _ hb) (I.todo x (by rw [l1]; exact List.mem_append_left _ hx) (l2 x hx).1)) (fun x hx => by
        cases hb : ((Region.before ops).getD x.1 0).testBit i with
        | false => rfl
        | true => exact (later x.1 (I.done x (by rw [l1]; exact List.mem_append_right _ hx) ((R.low I.cN).1 x hx)) hb).elim)
    rw [l3] at hu
    subst huv
    rw [quietA_congr hops] at hu
    generalize hhh : addP ((Region.before ops).getD i 0) n0 (σ ops.size).cs (σ c).m = hh at hu
    have hsz := addP_size (n0 := n0) ((Region.before ops).getD i 0) (σ ops.size).cs (σ c).m
    have hst := addP_st (n0 := n0) ((Region.before ops).getD i 0) (σ ops.size).cs (σ c).m
    rw [hhh] at hsz hst
    have hgt := addP_get (n0 := n0) ((Region.before ops).getD i 0) (σ ops.size).cs (σ c).m
    rw [hhh] at hgt
    have hwr : WR ρ hh w := by
      rw [← hhh]
      refine addP_WR _ _ _ I.wr fun j ob hj hb => ⟨?_, fun hn => by rw [hnro']; exact I.pend j ob hj (anc j hb) hn⟩
      have := I.sz
      have hr := R.cs_alloc ops.size (Nat.le_refl _) _ hj
      have hr2 := reserve_of hr.2
      have := hr.1
      simp only at this
      omega
    refine eff_wp hD hcall (quiet_eff htick hu) hwr hT ?_
    intro ρ' v' w' g1 g2 g3
    have hwr' : WR ρ' (σ c).m w' := g2.sub hsz.1.symm hsz.2.symm fun A ob hA => by
      rcases hgt A with h1 | ⟨h1, _⟩
      · rw [h1]; exact hA
      · rw [h1] at hA; simp at hA
    have hpres : ∀ A, A < h0.size → (hh.objs.get A = none ↔ (σ c).m.objs.get A = none) := by
      intro A hA
      rcases hgt A with h1 | ⟨h1, j, ob, h2, h3, h4, h5⟩
      · rw [h1]
      · omega
    have hext : Ext ρ0 h0 w0 ρ' (σ c).m w' := (I.ext.trans2 hd0 hsz.2 hst (by rw [hsz.1]; exact Nat.le_refl _) hpres g3).post hsz.2.symm hst.symm I.ext.size (fun A hA => (hpres A hA).symm)
    refine same k3 g3.mono g1 hwr' hext (fun j ob hj hs hn => ?_) (fun hk j hj hs e => ?_)
    · rcases hs with hs | hs
      · have hjN := hSN j hs
        rcases hgt (n0 + j) with h1 | ⟨h1, j2, ob2, h2, h3, h4, h5⟩
        · rw [← hnro', ← hsz.2]
          refine keepP g3 hwr ?_ (by rw [h1]; exact hn) (by rw [hsz.2, hnro']; omega) (by rw [hsz.2, hnro']; exact I.pend j ob hj hs hn)
          rw [hsz.1]
          have := I.sz; have hr := reserve_of ((R.cs_alloc ops.size (Nat.le_refl _) _ hj).2); omega
        · obtain rfl : j = j2 := by omega
          obtain ⟨oj, hoj⟩ : ∃ oj, ops[j]? = some oj := ⟨ops[j], Array.getElem?_eq_getElem hjN⟩
          obtain rfl := R.cs_uniq hoj hj h2
          have := g2.obj _ _ h5
          rw [hsz.2, hnro'] at this; exact this
      · exfalso
        subst hs
        obtain ⟨rc, h1, h2⟩ := R.cs_split (i := j + 1) (by omega)
        rw [h1] at hj
        rcases List.mem_append.1 hj with hj | hj
        · rw [k2] at hj; have := (R.low (i := j) (by omega)).2 _ hj; simp only at this; omega
        · have := h2 _ hj; simp only at this; omega
    · cases hx : ρ' (n0 + j) e with
      | none => rfl
      | some L =>
        exfalso
        rcases g3.newA _ _ _ hx (I.unm hk j hj (fun h => hs (.inl h)) e) with h1 | h1
        · have := I.sz; rw [hsz.1] at h1; omega
        · rcases hgt (n0 + j) with h2 | ⟨h2, j2, ob2, h3, h4, h5, h6⟩
          · rw [h2] at h1; exact hs (.inl (I.prs hk j hj h1))
          · obtain rfl : j = j2 := by omega
            exact hs (.inl (anc j h5))
  | eff hw ha hq k2 k3 k4 =>
    rw [if_pos (wantA_ok hT (hwant.trans hw))]
    left
    -- this effect is the next one
    have hme : (i, (σ i).m) ∈ (σ ops.size).effs := by
      obtain ⟨lat, h1, _, _⟩ := R.split (i := i + 1) (by omega)
      rw [h1, k3]; simp
    have hci : c ≤ i := by
      by_cases hlt : i < c
      · exact absurd (I.done _ hme hlt) hi
      · omega
    have hmm : (σ i).m = (σ c).m := by
      obtain ⟨lat, rc, rr, h1, h2, h3, _⟩ := R.btw c (i - c) (by omega)
      rw [show c + (i - c) = i by omega] at h1 h3
      have hnil : lat = [] := by
        cases lat with
        | nil => rfl
        | cons x lat =>
          exfalso
          have hx := h2 x (List.mem_cons_self ..)
          have hin : x ∈ (σ i).effs := by rw [h1]; simp
          have hall : x ∈ (σ ops.size).effs := by
            obtain ⟨lat2, g1, _, _⟩ := R.split (i := i) (by omega)
            rw [g1]; exact List.mem_append_right _ hin
          exact I.todo x hall hx.1 (anc _ (ha x hin))
      rw [hnil] at h3
      exact h3
    obtain ⟨rc, c1, c2⟩ := R.cs_split (i := i) (by omega)
    have hlim : addP ((Region.before ops).getD i 0) n0 (σ ops.size).cs (σ c).m = addP ((Region.before ops).getD i 0) n0 (σ i).cs (σ i).m := by
      rw [c1, hmm]
      exact addP_lim (fun j hb => anc_lt T i j hb) _ _ _ c2
    rw [← hlim, effA_congr hops] at hq
    generalize hhh : addP ((Region.before ops).getD i 0) n0 (σ ops.size).cs (σ c).m = hh at hq
    have hsz := addP_size (n0 := n0) ((Region.before ops).getD i 0) (σ ops.size).cs (σ c).m
    have hst := addP_st (n0 := n0) ((Region.before ops).getD i 0) (σ ops.size).cs (σ c).m
    rw [hhh] at hsz hst
    have hgt := addP_get (n0 := n0) ((Region.before ops).getD i 0) (σ ops.size).cs (σ c).m
    rw [hhh] at hgt
    have hwr : WR ρ hh w := by
      rw [← hhh]
      refine addP_WR _ _ _ I.wr fun j ob hj hb => ⟨?_, fun hn => by rw [hnro']; exact I.pend j ob hj (anc j hb) hn⟩
      have := I.sz
      have hr := R.cs_alloc ops.size (Nat.le_refl _) _ hj
      have hr2 := reserve_of hr.2
      have := hr.1
      simp only at this
      omega
    refine eff_wp hD hcall hq hwr hT ?_
    intro ρ' v' w' g1 g2 g3
    have hpres : ∀ A, A < h0.size → (hh.objs.get A = none ↔ (σ c).m.objs.get A = none) := by
      intro A hA
      rcases hgt A with h1 | ⟨h1, j, ob, h2, h3, h4, h5⟩
      · rw [h1]
      · omega
    have hext : Ext ρ0 h0 w0 ρ' (σ (i + 1)).m w' := I.ext.trans2 hd0 hsz.2 hst (by rw [hsz.1]; exact Nat.le_refl _) hpres g3
    obtain ⟨t1, t2, t3⟩ := I.tmps R T hcl ho hi g3.mono g1
    have hzle : hh.size ≤ (σ (i + 1)).m.size := g3.size
    have hprs : reserve ops = ops.size → ∀ j, j < ops.size → hh.objs.get (n0 + j) ≠ none → S j := by
      intro hk j hj h1
      rcases hgt (n0 + j) with h2 | ⟨h2, j2, ob2, h3, h4, h5, h6⟩
      · rw [h2] at h1; exact I.prs hk j hj h1
      · obtain rfl : j = j2 := by omega
        exact anc j h5
    refine hK (i + 1) ρ' _ w' ⟨by omega, fun x hx hc => ?_, fun x hx hc => ?_, g2, hext, by have := I.sz; rw [hsz.1] at hzle; omega, t1, t2, t3, fun j ob hj hs hn => ?_, fun hk j hj hs e => ?_, fun hk j hj hp => ?_⟩
    · by_cases hxi : x.1 = i
      · exact .inr hxi
      · left
        obtain ⟨lat, h1, h2, _⟩ := R.split (i := i) (by omega)
        rw [h1] at hx
        rcases List.mem_append.1 hx with hx | hx
        · have := (h2 x hx).1; omega
        · exact anc _ (ha x hx)
    · rintro (h1 | h1)
      · obtain ⟨lat, g4, g5, _⟩ := R.split (i := i + 1) (by omega)
        have hxl : x ∈ lat := by
          rw [g4] at hx
          rcases List.mem_append.1 hx with hx | hx
          · exact hx
          · have := (R.low (i := i + 1) (by omega)).1 x hx; omega
        have hxN := hSN x.1 h1
        obtain ⟨lat3, rc3, rr3, q1, _⟩ := R.btw (i + 1) (x.1 - (i + 1)) (by omega)
        rw [show i + 1 + (x.1 - (i + 1)) = x.1 by omega] at q1
        exact later x.1 h1 ((g5 x hxl).2 (i, (σ i).m) (by rw [q1, k3]; simp))
      · omega
    · have hs' : S j := by
        rcases hs with hs | hs
        · exact hs
        · exfalso
          subst hs
          obtain ⟨rc, h1, h2⟩ := R.cs_split (i := j + 1) (by omega)
          rw [h1] at hj
          rcases List.mem_append.1 hj with hj | hj
          · rw [k2] at hj; have := (R.low (i := j) (by omega)).2 _ hj; simp only at this; omega
          · have := h2 _ hj; simp only at this; omega
      have hjN := hSN j hs'
      have hlt : n0 + j < hh.size := by
        rw [hsz.1]
        have := I.sz; have hr := reserve_of ((R.cs_alloc ops.size (Nat.le_refl _) _ hj).2); omega
      have habs : hh.objs.get (n0 + j) = none := (g3.pres _ hlt).1 hn
      rw [← hnro', ← hsz.2]
      refine keepP g3 hwr hlt habs (by rw [hsz.2, hnro']; omega) ?_
      rw [hsz.2, hnro']
      refine I.pend j ob hj hs' ?_
      rcases hgt (n0 + j) with h1 | ⟨h1, _⟩
      · rw [← h1]; exact habs
      · exact h1
    · cases hx : ρ' (n0 + j) e with
      | none => rfl
      | some L =>
        exfalso
        rcases g3.newA _ _ _ hx (I.unm hk j hj (fun h => hs (.inl h)) e) with h1 | h1
        · have := I.sz; rw [hsz.1] at h1; omega
        · exact hs (.inl (hprs hk j hj h1))
    · left
      have hlt : n0 + j < hh.size := by rw [hsz.1]; have := I.sz; omega
      exact hprs hk j hj (fun h => hp ((g3.pres _ hlt).2 h))
end
end Go.Abs

/- Regions whose order is open stand for the model's. -/
namespace Go.Abs
open Go

theorem filter_lt {p q : Nat → Bool} : ∀ (l : List Nat), (∀ x, p x = true → q x = true) → (∃ x ∈ l, q x = true ∧ p x = false) → (l.filter p).length < (l.filter q).length
  | [], _, h => by obtain ⟨x, hx, _⟩ := h; simp at hx
  | a :: l, hpq, h => by
    have hle : ∀ l : List Nat, (l.filter p).length ≤ (l.filter q).length := by
      intro l
      induction l with
      | nil => simp
      | cons b l ih =>
        by_cases hb : p b = true
        · rw [List.filter_cons_of_pos hb, List.filter_cons_of_pos (hpq b hb)]; simpa using ih
        · rw [List.filter_cons_of_neg hb]
          by_cases hb2 : q b = true
          · rw [List.filter_cons_of_pos hb2]; simp; omega
          · rw [List.filter_cons_of_neg hb2]; exact ih
    obtain ⟨x, hx, h1, h2⟩ := h
    rcases List.mem_cons.1 hx with rfl | hx
    · rw [List.filter_cons_of_pos h1, List.filter_cons_of_neg (by simp [h2])]
      have := hle l
      simp; omega
    · have ih := filter_lt l hpq ⟨x, hx, h1, h2⟩
      by_cases hb : p a = true
      · rw [List.filter_cons_of_pos hb, List.filter_cons_of_pos (hpq a hb)]; simpa using ih
      · rw [List.filter_cons_of_neg hb]
        by_cases hb2 : q a = true
        · rw [List.filter_cons_of_pos hb2]; simp; omega
        · rw [List.filter_cons_of_neg hb2]; exact ih
section
variable {P : Program} {D : Data} {call : CallF} {ops : Array Oper} {n n0 : Nat} {σ : Nat → DS} {val : Nat → Value}

def Sof (listed : Array Bool) (j : Nat) : Prop := listed.getD j false = true
theorem any_ok (hD : DOk P D) (hcall : CallOK P call) (htick : CallTick call) (R : Rec D call ops n n0 σ val) (T : TextOk ops)
    (hre : (σ ops.size).reads.all (fun r => rereadA D call (Region.before ops) n0 (σ ops.size).cs r.1 r.2.1 r.2.2.1 r.2.2.2 (σ ops.size).effs (σ ops.size).m) = true)
    {ρ0 : Ren} {h0 : H} {w0 : World} (hn0 : n0 = h0.size) (hnro : h0.nro ≤ h0.size) (hd0 : ∀ A e L, ρ0 A e = some L → A < h0.size) {Q : Exit → Act → World → Prop}
    (hQ : ∀ c ρ a w, Inv ops n n0 (reserve ops) σ val ρ0 h0 w0 (fun j => j < ops.size) c ρ a w → Q .normal a w) :
    ∀ (fuel : Nat) (listed : Array Bool) (c : Nat) (ρ : Ren) (a : Act) (w : World), listed.size = ops.size → ((List.range ops.size).filter (fun j => !listed.getD j false)).length ≤ fuel → Closed ops (Sof listed) →
      Inv ops n n0 (reserve ops) σ val ρ0 h0 w0 (Sof listed) c ρ a w → wpAny P .any ops Q fuel listed a w := by
  have fin : ∀ (listed : Array Bool) (c : Nat) (ρ : Ren) (a : Act) (w : World), listed.size = ops.size → (∀ j, j < ops.size → Sof listed j) → Inv ops n n0 (reserve ops) σ val ρ0 h0 w0 (Sof listed) c ρ a w → Q .normal a w := by
    intro listed c ρ a w hls hall I
    have e : Sof listed = fun j => j < ops.size := by
      funext j
      apply propext
      refine ⟨fun h => ?_, hall j⟩
      unfold Sof at h
      by_cases hj : j < listed.size
      · omega
      · rw [Array.getD_eq_getD_getElem?, Array.getElem?_eq_none (by omega)] at h; simp at h
    rw [e] at I
    exact hQ c ρ a w I
  have noReady : ∀ (listed : Array Bool), listed.size = ops.size → Region.ready .any ops listed = [] → ∀ j, j < ops.size → Sof listed j := by
    intro listed hls hnil j
    induction j using Nat.strongRecOn with
    | _ j ih =>
      intro hj
      cases hb : listed.getD j false with
      | true => exact hb
      | false =>
        exfalso
        have hmem : j ∈ Region.ready .any ops listed := by
          rw [mem_ready]
          refine ⟨?_, ops[j], Array.getElem?_eq_getElem hj, fun e he hbd => ?_⟩
          · rw [Array.getD_eq_getD_getElem?, Array.getElem?_eq_getElem (by omega)] at hb ⊢; simpa using hb
          · have hlt := T.lt j ops[j] (Array.getElem?_eq_getElem hj) e (by simpa using he) hbd
            exact ih e.on hlt (by omega)
        rw [hnil] at hmem; simp at hmem
  intro fuel
  induction fuel with
  | zero =>
    intro listed c ρ a w hls hcnt hcl I
    have hall : ∀ j, j < ops.size → Sof listed j := by
      intro j hj
      cases hb : listed.getD j false with
      | true => exact hb
      | false =>
        have : j ∈ (List.range ops.size).filter (fun j => !listed.getD j false) := by
          rw [List.mem_filter]; exact ⟨List.mem_range.2 hj, by rw [hb]; rfl⟩
        have hnil := List.eq_nil_of_length_eq_zero (Nat.le_zero.1 hcnt)
        rw [hnil] at this; simp at this
    refine ⟨?_, fin listed c ρ a w hls hall I⟩
    cases hr : Region.ready .any ops listed with
    | nil => rfl
    | cons j l =>
      exfalso
      have hm : j ∈ Region.ready .any ops listed := by rw [hr]; simp
      rw [mem_ready] at hm
      obtain ⟨h1, o, ho, _⟩ := hm
      have hj := (Array.getElem?_eq_some_iff.1 ho).1
      have := hall j hj
      unfold Sof at this
      rw [Array.getD_eq_getD_getElem?, Array.getElem?_eq_getElem (by omega)] at h1 this
      simp at h1 this
      rw [h1] at this; simp at this
  | succ fuel ih =>
    intro listed c ρ a w hls hcnt hcl I
    refine ⟨fun hnil => fin listed c ρ a w hls (noReady listed hls hnil) I, ?_⟩
    intro i hm
    rw [mem_ready] at hm
    obtain ⟨h1, o, ho, hedges⟩ := hm
    have hiN := (Array.getElem?_eq_some_iff.1 ho).1
    have hi : ¬ Sof listed i := by
      unfold Sof
      rw [Array.getD_eq_getD_getElem?, Array.getElem?_eq_getElem (by omega)] at h1 ⊢
      simp at h1 ⊢; exact h1
    have hSN : ∀ j, Sof listed j → j < ops.size := by
      intro j h
      unfold Sof at h
      by_cases hj : j < listed.size
      · omega
      · rw [Array.getD_eq_getD_getElem?, Array.getElem?_eq_none (by omega)] at h; simp at h
    have hset : ∀ j, Sof (listed.setIfInBounds i true) j ↔ (Sof listed j ∨ j = i) := by
      intro j
      unfold Sof
      by_cases hji : j = i
      · subst hji
        simp [Array.getD_eq_getD_getElem?, Array.getElem?_setIfInBounds_self_of_lt (show j < listed.size by omega)]
      · simp [Array.getD_eq_getD_getElem?, Array.getElem?_setIfInBounds_ne (Ne.symm hji), hji]
    have hseteq : (fun j => Sof listed j ∨ j = i) = Sof (listed.setIfInBounds i true) := by
      funext j; exact propext (hset j).symm
    refine step_any hD hcall htick R T hre hn0 hnro hd0 hcl hSN I ho hi (fun d hd hb => hedges d (by simpa using hd) hb) ?_
    intro c' ρ' a' w' I'
    rw [hseteq] at I'
    refine ih (listed.setIfInBounds i true) c' ρ' a' w' (by simpa using hls) ?_ ?_ I'
    · have := filter_lt (p := fun j => !(listed.setIfInBounds i true).getD j false) (q := fun j => !listed.getD j false) (List.range ops.size) (fun x hx => by
        cases hb : listed.getD x false with
        | false => rfl
        | true =>
          have : (listed.setIfInBounds i true).getD x false = true := (hset x).2 (.inl hb)
          rw [this] at hx; simp at hx) ⟨i, List.mem_range.2 hiN, by
          cases hb : listed.getD i false with
          | false => rfl
          | true => exact absurd hb hi, by
          have : (listed.setIfInBounds i true).getD i false = true := (hset i).2 (.inr rfl)
          rw [this]; rfl⟩
      omega
    · intro j o' hj ho' d hd hb
      rw [hset] at hj ⊢
      rcases hj with hj | rfl
      · exact .inl (hcl j o' hj ho' d hd hb)
      · rw [ho] at ho'
        obtain rfl := Option.some.inj ho'
        exact .inl (hedges d (by simpa using hd) hb)
theorem WR.tick {ρ : Ren} {h : H} {w : World} (hw : WR ρ h w) (k : Nat) : WR ρ (tickIf k h) w := by
  unfold tickIf
  cases k.beq 0
  · exact ⟨hw.dom, hw.dis, hw.obj, hw.lt, hw.nro⟩
  · exact hw
theorem tickIf_eq (k : Nat) (h : H) : (tickIf k h).size = h.size ∧ (tickIf k h).nro = h.nro ∧ (tickIf k h).objs = h.objs := by
  unfold tickIf; cases k.beq 0 <;> exact ⟨rfl, rfl, rfl⟩
theorem draw_ok (hD : DOk P D) (hcall : CallOK P call) (htick : CallTick call) {id : Nat} {Q : Exit → Act → World → Prop} {ρ : Ren} {a : Act} {w : World} {s s' : St} (hrun : drawA D call ops s = some s') (hr : Rel ρ s a w)
    (hQ : ∀ ρ' a' w', Rel ρ' s' a' w' → Ext ρ s.h w ρ' s'.h w' → Q .normal a' w') : (Code.region id ops true).wp P Q a w := by
  unfold drawA at hrun
  simp only at hrun
  rw [cond_eq_ite] at hrun
  split at hrun
  case isFalse => simp at hrun
  case isTrue htext =>
  have T := textOk_ok htext
  split at hrun
  case h_2 => simp at hrun
  case h_1 z hz =>
  rw [cond_eq_ite] at hrun
  split at hrun
  case isFalse => simp at hrun
  case isTrue hre =>
  obtain rfl := Option.some.inj hrun
  obtain ⟨σ, h1, h2, h3⟩ := drun_states ops.toList 0 _ z _ hz
  have hex : ∀ j, ∃ v, ∀ o, ops[j]? = some o → putT (σ j).t s.n o.dst v = some (σ (j + 1)).t ∧ Kind D call ops s.n s.h.size j o (σ j) (σ (j + 1)) v := by
    intro j
    cases ho : ops[j]? with
    | none => exact ⟨undefV, fun o h => by simp at h⟩
    | some o =>
      have := h3 j o (by simpa using ho)
      rw [Nat.zero_add] at this
      obtain ⟨v, g1, g2⟩ := dstep_kind this
      exact ⟨v, fun o' h => by obtain rfl := Option.some.inj h; exact ⟨g1, g2⟩⟩
  obtain ⟨val, hval⟩ := Classical.axiomOfChoice hex
  have hlen : ops.toList.length = ops.size := by simp
  rw [hlen] at h2
  have R : Rec D call ops s.n s.h.size σ val := ⟨fun j o ho => hval j o ho, by rw [h1], by rw [h1]⟩
  have hm0 : (σ 0).m = grow s.h (reserve ops) := by rw [h1]
  have ht0 : (σ 0).t = s.t := by rw [h1]
  refine wp_region_any hD.mixed ?_
  subst h2
  have hd0 : ∀ A e L, ρ A e = some L → A < s.h.size := fun A e L x => (hr.wr.dom A e L x).1
  refine any_ok hD hcall htick R T hre (ρ0 := ρ) (h0 := s.h) (w0 := w) rfl hr.wr.nro hd0 ?_ ops.size (Array.replicate ops.size false) 0 ρ a _ (by simp) (by
    have := List.length_filter_le (fun j => !(Array.replicate ops.size false).getD j false) (List.range ops.size)
    simpa using this) ?_ ?_
  · -- the end
    intro c ρ' a' w' I
    have hallc : (σ ops.size).m = (σ c).m := by
      obtain ⟨lat, l1, l2, l3⟩ := R.split I.cN
      have : lat = [] := by
        cases lat with
        | nil => rfl
        | cons x lat =>
          exfalso
          have hx := l2 x (List.mem_cons_self ..)
          have hin : x ∈ (σ ops.size).effs := by rw [l1]; simp
          exact I.todo x hin hx.1 ((R.low (Nat.le_refl _)).1 x hin)
      rw [this] at l3; exact l3
    have hnro' : (σ c).m.nro = s.h.nro := I.ext.nro
    have hsz := addP_size (n0 := s.h.size) (2 ^ ops.size - 1) (σ ops.size).cs (σ c).m
    have hst := addP_st (n0 := s.h.size) (2 ^ ops.size - 1) (σ ops.size).cs (σ c).m
    have htk : ∀ (k : Nat) (h : H), (tickIf k h).st = h.st := fun k h => by unfold tickIf; cases k.beq 0 <;> rfl
    have hgt := addP_get (n0 := s.h.size) (2 ^ ops.size - 1) (σ ops.size).cs (σ c).m
    have hwr := addP_WR (n0 := s.h.size) (2 ^ ops.size - 1) (σ ops.size).cs (σ c).m I.wr (fun j ob hj hb => by
      have hc := R.cs_alloc ops.size (Nat.le_refl _) _ hj
      have hc1 : j < ops.size := hc.1
      have := I.sz
      have hres := reserve_of hc.2
      exact ⟨by omega, fun hn => by rw [hnro']; exact I.pend j ob hj hc1 hn⟩)
    obtain ⟨k1, k2, k3⟩ := tickIf_eq (reserve ops) (addP (n0 := s.h.size) (2 ^ ops.size - 1) (σ ops.size).cs (σ c).m)
    rw [hallc] at hQ
    refine hQ ρ' a' w' ⟨hwr.tick _, ?_, I.tn, I.td⟩ ?_
    · intro d v hv
      rcases R.temps ops.size (Nat.le_refl _) d v hv with ⟨j, o, g1, g2, g3, g4, g5⟩ | ⟨g1, g2⟩
      · subst g4
        exact (I.tmp d).1 j o g1 g2 g3 (fun j2 o2 q1 q2 q3 => g5 j2 o2 q1 q2 q3)
      · exact (I.tmp d).2 (fun j o q1 q2 => g1 j o q1 q2) v g2
    · refine I.ext.post (by rw [k2, hsz.2]) ((htk _ _).trans hst) (by rw [k1, hsz.1]; exact I.ext.size) (fun A hA => ?_)
      rw [k3]
      rcases hgt A with g1 | ⟨g1, j, ob, g2, g3, g4, g5⟩
      · rw [g1]
      · omega
  · intro j o hj
    unfold Sof at hj
    exfalso
    by_cases hlt : j < ops.size <;> simp [Array.getD_eq_getD_getElem?, Array.getElem?_replicate, hlt] at hj
  · have hno : ∀ j, ¬ Sof (Array.replicate ops.size false) j := by
      intro j hj
      unfold Sof at hj
      by_cases hlt : j < ops.size <;> simp [Array.getD_eq_getD_getElem?, Array.getElem?_replicate, hlt] at hj
    have hwg : WR ρ (σ 0).m w := by rw [hm0]; exact hr.wr.grow _
    have hnone : ∀ A, s.h.size ≤ A → s.h.objs.get A = none := by
      intro A hA
      cases hh : s.h.objs.get A with
      | none => rfl
      | some ob => have := hr.wr.lt _ _ hh; omega
    refine ⟨Nat.zero_le _, fun x _ hx => by omega, fun x _ _ => hno _, hwg.heap rfl, ?_, by rw [hm0]; exact Nat.le_refl _, ?_, hr.n, hr.d, fun j ob _ hj => absurd hj (hno j), ?_, ?_⟩
    · rw [hm0]
      exact ⟨Ren.le_refl _, rfl, Nat.le_add_right _ _, fun _ _ => Iff.rfl, fun A e L x y => by rw [x] at y; simp at y, fun A e L x y => by rw [x] at y; simp at y, Nat.le_refl _, fun _ _ _ => rfl, rfl, rfl, rfl, rfl, fun _ => Nat.le_succ _⟩
    · intro d
      refine ⟨fun j o hj => absurd hj (hno j), fun _ v hv => ?_⟩
      rw [ht0] at hv
      exact hr.t d v hv
    · intro _ j _ _ e
      cases hh : ρ (s.h.size + j) e with
      | none => rfl
      | some L => have := hd0 _ _ _ hh; omega
    · intro _ j _ hp
      rw [hm0] at hp
      exact absurd (hnone _ (Nat.le_add_right _ _)) hp
end
end Go.Abs

/- The machine's code stands for the model's: blocks, loops, calls. -/
namespace Go.Abs
open Go
section
variable {P : Program} {D : Data} {ρ : Ren} {h : H} {w : World} {a : Act}

def ExR : Ex → Exit → Prop
  | .normal, .normal => True
  | .exit i, .exit j => i = j
  | .ret, .ret => True
  | _, _ => False
def CodePost (ρ : Ren) (s : St) (w : World) (ex : Ex) (s' : St) : Exit → Act → World → Prop := fun x a' w' => ExR ex x ∧ ∃ ρ', Rel ρ' s' a' w' ∧ Ext ρ s.h w ρ' s'.h w'
def CodeOK (P : Program) (run : Code → St → Option (Ex × St)) : Prop := ∀ c s ex s', run c s = some (ex, s') → ∀ ρ a w, Rel ρ s a w → c.wp P (CodePost ρ s w ex s') a w
def CodeTick (run : Code → St → Option (Ex × St)) : Prop := ∀ c s ex s', run c s = some (ex, s') → s'.h = s.h ∨ s.h.tick < s'.h.tick

theorem CodePost.trans {s s1 s2 : St} {ρ' : Ren} {w1 : World} {ex : Ex} (hr : Rel ρ s a w) (hx : Ext ρ s.h w ρ' s1.h w1) {x : Exit} {a' : Act} {w' : World} (h2 : CodePost ρ' s1 w1 ex s2 x a' w') : CodePost ρ s w ex s2 x a' w' :=
  let ⟨h3, ρ2, h4, h5⟩ := h2; ⟨h3, ρ2, h4, hx.trans (fun A e L x => (hr.wr.dom A e L x).1) h5⟩
theorem seq_ok {run : Code → St → Option (Ex × St)} (ok : CodeOK P run) {x y : Code} {s s' : St} {ex : Ex} (hrun : (match run x s with | some (.normal, s') => run y s' | r => r) = some (ex, s')) (hr : Rel ρ s a w) :
    x.wp P (Exit.then (y.wp P (CodePost ρ s w ex s')) (CodePost ρ s w ex s')) a w := by
  cases h1 : run x s with
  | none => rw [h1] at hrun; simp at hrun
  | some p =>
    obtain ⟨ex1, s1⟩ := p
    have hx := ok _ _ _ _ h1 ρ a w hr
    refine wp_mono hx ?_
    rintro e a1 w1 ⟨he, ρ1, hr1, hx1⟩
    rw [h1] at hrun
    cases ex1 with
    | normal =>
      cases e <;> simp only [ExR] at he
      exact wp_mono (ok _ _ _ _ hrun ρ1 a1 w1 hr1) fun e a w hh => hh.trans hr hx1
    | exit i =>
      cases e <;> simp only [ExR] at he
      simp only [Option.some.injEq, Prod.mk.injEq] at hrun
      obtain ⟨rfl, rfl⟩ := hrun
      exact ⟨he, ρ1, hr1, hx1⟩
    | ret =>
      cases e <;> simp only [ExR] at he
      simp only [Option.some.injEq, Prod.mk.injEq] at hrun
      obtain ⟨rfl, rfl⟩ := hrun
      exact ⟨trivial, ρ1, hr1, hx1⟩
theorem args0_get : ∀ (l : List Value) (t : Tr Value) (k i : Nat), (args0 t k l).get i = if k ≤ i ∧ i < k + l.length then l[i - k]? else t.get i
  | [], t, k, i => by simp [args0]; omega
  | v :: l, t, k, i => by
    rw [args0, args0_get l, Tr.get_set]
    by_cases h : i = k
    · subst h
      rw [if_neg (by omega), if_pos rfl, if_pos (by simp)]; simp
    · by_cases h2 : k ≤ i ∧ i < k + (v :: l).length
      · rw [if_pos h2, if_pos (by simp at h2 ⊢; omega)]
        obtain ⟨d, hd⟩ : ∃ d, i - k = d + 1 := ⟨i - k - 1, by omega⟩
        rw [hd, show i - (k + 1) = d by omega]; simp
      · rw [if_neg h2, if_neg (by simp at h2 ⊢; omega), if_neg h]
def OvOK (P : Program) (D : Data) : Prop := ∀ f g, D.ov f = some g → ∀ args h v h', g args h = some (v, h') → (h' = h ∨ h.tick < h'.tick) ∧ ∀ ρ w (args' : Array Value), WR ρ h w → VRs ρ args args'.toList → Calls P f args' w (CallPost ρ h w v h')
theorem callW_ok (hD : DOk P D) (hov : OvOK P D) {run : Code → St → Option (Ex × St)} (ok : CodeOK P run) : CallOK P (callW D run) := by
  intro f args h v h' hc ρ w args' hw hargs
  unfold callW at hc
  split at hc
  · rename_i g hg
    exact (hov f g hg args h v h' hc).2 ρ w args' hw hargs
  · split at hc
    case h_2 => simp at hc
    case h_1 F hF =>
    split at hc
    case h_2 => simp at hc
    case h_1 c hb =>
    obtain ⟨k1, k2, k3⟩ := hD.fn f F hF
    refine calls_of_wp k1 hb ?_
    have hlen := hargs.length
    simp only [Array.length_toList] at hlen
    have hrel : Rel ρ ⟨args0 .leaf 0 args, max args.length F.ntmps, h⟩ { tmps := args' ++ Array.replicate (F.ntmps - args'.size) undef, defers := [] } w := by
      refine ⟨hw, ?_, ?_, rfl⟩
      · intro i u hu
        rw [args0_get] at hu
        by_cases hi : 0 ≤ i ∧ i < 0 + args.length
        · rw [if_pos hi] at hu
          simp only [Nat.sub_zero] at hu
          obtain ⟨u', h1, h2⟩ := hargs.get _ _ hu
          refine ⟨u', ?_, h2⟩
          rw [Array.getElem?_append_left (by omega)]
          simpa using h1
        · rw [if_neg hi] at hu; simp [Tr.get_leaf] at hu
      · simp; omega
    split at hc
    · simp at hc
    · rename_i ex s hrun hne
      have hx := ok _ _ _ _ hne ρ _ w hrel
      split at hc
      case h_2 => simp at hc
      case h_1 l hl =>
      obtain ⟨rfl, rfl⟩ := Prod.mk.inj (Option.some.inj hc)
      refine wp_mono hx ?_
      rintro e a' w' ⟨he, ρ', hr', hx'⟩
      obtain ⟨v', g1, g2⟩ := results_ok (P := P) hD hr'.wr hr'.t hl
      cases ex with
      | exit i => exact absurd rfl (hrun i)
      | normal =>
        cases e <;> simp only [ExR] at he
        exact ⟨hr'.d, v', g1, v', ρ', rfl, g2, hr'.wr, hx'⟩
      | ret =>
        cases e <;> simp only [ExR] at he
        exact ⟨hr'.d, v', g1, v', ρ', rfl, g2, hr'.wr, hx'⟩
    · simp at hc
theorem callW_tick (hov : OvOK P D) {run : Code → St → Option (Ex × St)} (ok : CodeTick run) : CallTick (callW D run) := by
  intro f args h v h' hc
  unfold callW at hc
  split at hc
  · rename_i g hg
    exact (hov f g hg args h v h' hc).1
  · split at hc
    case h_2 => simp at hc
    case h_1 F hF =>
    split at hc
    case h_2 => simp at hc
    case h_1 c hb =>
    split at hc
    · simp at hc
    · rename_i ex s hrun hne
      split at hc
      case h_2 => simp at hc
      case h_1 l hl =>
      obtain ⟨rfl, rfl⟩ := Prod.mk.inj (Option.some.inj hc)
      exact ok _ _ _ _ hne
    · simp at hc
theorem exec_loop (N : Nat) (hrec : ∀ m, m ≤ N → CodeOK P (exec D m)) {c : Code} {Q : Exit → Act → World → Prop} : ∀ (n : Nat), n ≤ N + 1 → ∀ (ρ : Ren) (s s' : St) (ex : Ex) (a : Act) (w : World), exec D n (.loop c) s = some (ex, s') → Rel ρ s a w →
    (∀ x a' w', CodePost ρ s w ex s' x a' w' → Q x a' w') → Code.rounds P c Q n a w
  | 0, _, _, _, _, _, _, _, hrun, _, _ => by simp [exec] at hrun
  | n + 1, hn, ρ, s, s', ex, a, w, hrun, hr, hQ => by
    simp only [exec, exec1] at hrun
    rw [rounds_succ]
    cases h1 : exec D n c s with
    | none => rw [h1] at hrun; simp at hrun
    | some p =>
      obtain ⟨ex1, s1⟩ := p
      rw [h1] at hrun
      refine wp_mono (hrec n (by omega) _ _ _ _ h1 ρ a w hr) ?_
      rintro e a1 w1 ⟨he, ρ1, hr1, hx1⟩
      cases ex1 with
      | normal =>
        cases e <;> simp only [ExR] at he
        exact exec_loop N hrec n (by omega) ρ1 s1 s' ex a1 w1 hrun hr1 (fun x a' w' hh => hQ _ _ _ (hh.trans hr hx1))
      | exit i =>
        cases e <;> simp only [ExR] at he
        simp only [Option.some.injEq, Prod.mk.injEq] at hrun
        obtain ⟨rfl, rfl⟩ := hrun
        exact hQ _ _ _ ⟨he, ρ1, hr1, hx1⟩
      | ret =>
        cases e <;> simp only [ExR] at he
        simp only [Option.some.injEq, Prod.mk.injEq] at hrun
        obtain ⟨rfl, rfl⟩ := hrun
        exact hQ _ _ _ ⟨trivial, ρ1, hr1, hx1⟩
theorem addP_tick (mask n0 : Nat) : ∀ (l : List (Nat × AObj)) (h : H), h.tick ≤ (addP mask n0 l h).tick
  | [], h => Nat.le_refl _
  | (i, ob) :: l, h => by
    unfold addP
    rw [cond_eq_ite]
    split
    · split
      · have := addP_tick mask n0 l (newAt h (n0 + i) ob)
        have e : (newAt h (n0 + i) ob).tick = h.tick + 1 := rfl
        omega
      · exact addP_tick mask n0 l h
    · exact addP_tick mask n0 l h
theorem effA_tick {call : CallF} (hc : CallTick call) {o : Op} {t : Tr Value} {h h' : H} {v : Value} (he : effA D call o t h = some (v, h')) : h' = h ∨ h.tick < h'.tick := by
  unfold effA at he
  split at he
  · rename_i hop; obtain ⟨rfl, rfl⟩ := Prod.mk.inj (Option.some.inj he); exact opA_tick hop
  · rename_i hop; obtain ⟨rfl, rfl⟩ := Prod.mk.inj (Option.some.inj he); exact opA_tick hop
  · obtain ⟨rfl, rfl⟩ := Prod.mk.inj (Option.some.inj he); exact .inr (by simp [newAt, grow])
  · exact hc _ _ _ _ _ he
  · simp at he
theorem drun_tick {call : CallF} (hc : CallTick call) {ops : Array Oper} {n n0 : Nat} : ∀ (l : List Oper) (k : Nat) (s z : DS), drun D call ops (Region.before ops) n n0 l k s = some z → s.m.tick ≤ z.m.tick ∧ ((∀ o ∈ l, allocOp o.op = false) → s.cs = [] → z.cs = [] ∧ (z.m = s.m ∨ s.m.tick < z.m.tick))
  | [], k, s, z, h => by obtain rfl := Option.some.inj h; exact ⟨Nat.le_refl _, fun _ h => ⟨h, .inl rfl⟩⟩
  | o :: l, k, s, z, h => by
    unfold drun at h
    split at h
    · rename_i s1 h1
      obtain ⟨ih1, ih2⟩ := drun_tick hc l (k + 1) s1 z h
      obtain ⟨v, _, hk⟩ := dstep_kind h1
      have sub : (∀ p ∈ o :: l, allocOp p.op = false) → ∀ p ∈ l, allocOp p.op = false := fun hh p hp => hh p (List.mem_cons_of_mem _ hp)
      cases hk with
      | skip hw hv k1 k2 k3 k4 => rw [k1] at ih1 ih2; exact ⟨ih1, fun ha hcs => ih2 (sub ha) (by rw [k2]; exact hcs)⟩
      | pure hw hp hq k1 k2 k3 k4 => rw [k1] at ih1 ih2; exact ⟨ih1, fun ha hcs => ih2 (sub ha) (by rw [k2]; exact hcs)⟩
      | read hw hq k1 k2 k3 k4 => rw [k1] at ih1 ih2; exact ⟨ih1, fun ha hcs => ih2 (sub ha) (by rw [k2]; exact hcs)⟩
      | alloc hw hp ob mk hq hv k1 k2 k3 k4 => rw [k1] at ih1 ih2; exact ⟨ih1, fun ha _ => by have := ha o (List.mem_cons_self ..); rw [hp] at this; simp at this⟩
      | eff hw ha hq k2 k3 k4 =>
        have ht := effA_tick hc hq
        have hle := addP_tick ((Region.before ops).getD k 0) n0 s.cs s.m
        refine ⟨?_, fun ha hcs => ?_⟩
        · rcases ht with h2 | h2
          · rw [h2] at ih1; omega
          · omega
        · obtain ⟨g1, g2⟩ := ih2 (sub ha) (by rw [k2]; exact hcs)
          rw [hcs] at ht
          exact ⟨g1, tick_trans ht g2⟩
    · simp at h
theorem drawA_tick {call : CallF} (hc : CallTick call) {ops : Array Oper} {s s' : St} (h : drawA D call ops s = some s') : s'.h = s.h ∨ s.h.tick < s'.h.tick := by
  unfold drawA at h
  simp only at h
  rw [cond_eq_ite] at h
  split at h
  case isFalse => simp at h
  case isTrue =>
  split at h
  case h_2 => simp at h
  case h_1 z hz =>
  rw [cond_eq_ite] at h
  split at h
  case isFalse => simp at h
  case isTrue =>
  obtain rfl := Option.some.inj h
  obtain ⟨g1, g2⟩ := drun_tick hc _ _ _ _ hz
  have g1 : s.h.tick ≤ z.m.tick := g1
  by_cases hk : reserve ops = 0
  · have hal : ∀ o ∈ ops.toList, allocOp o.op = false := by
      intro o ho
      cases hb : allocOp o.op with
      | false => rfl
      | true =>
        exfalso
        have := reserve_of (List.any_eq_true.2 ⟨o, ho, hb⟩)
        rw [hk] at this
        have h0 : ops.toList.length = 0 := by rw [Array.length_toList]; omega
        have := List.eq_nil_of_length_eq_zero h0
        rw [this] at ho; simp at ho
    obtain ⟨g3, g4⟩ := g2 hal rfl
    rw [hk, g3]
    rw [hk] at g4
    exact (g4 : z.m = s.h ∨ s.h.tick < z.m.tick)
  · right
    have e : (tickIf (reserve ops) (addP (2 ^ ops.size - 1) s.h.size z.cs z.m)).tick = (addP (2 ^ ops.size - 1) s.h.size z.cs z.m).tick + 1 := by
      unfold tickIf; rw [nbeq_f hk]; rfl
    have := addP_tick (2 ^ ops.size - 1) s.h.size z.cs z.m
    have e2 : (grow s.h (reserve ops)).tick = s.h.tick := rfl
    show s.h.tick < (tickIf (reserve ops) (addP (2 ^ ops.size - 1) s.h.size z.cs z.m)).tick
    omega
theorem exec1_ok (hD : DOk P D) (hov : OvOK P D) (n : Nat) (ih : ∀ m, m ≤ n → CodeOK P (exec D m) ∧ CodeTick (exec D m)) : CodeOK P (exec D (n + 1)) := by
  have hok := (ih n (Nat.le_refl _)).1
  have hcall : CallOK P (callW D (exec D n)) := callW_ok hD hov hok
  have htick : CallTick (callW D (exec D n)) := callW_tick hov (ih n (Nat.le_refl _)).2
  intro c s ex s' hrun ρ a w hr
  have hrun0 := hrun
  simp only [exec] at hrun
  cases c <;> simp only [exec1] at hrun <;> try (simp at hrun; done)
  case skip =>
    obtain ⟨rfl, rfl⟩ := Prod.mk.inj (Option.some.inj hrun)
    exact wp_skip ⟨trivial, ρ, hr, .refl _ _ _⟩
  case region id ops draw =>
    cases draw
    · simp only [cond_false] at hrun
      split at hrun
      case h_2 => simp at hrun
      case h_1 s1 hs1 =>
      obtain ⟨rfl, rfl⟩ := Prod.mk.inj (Option.some.inj hrun)
      exact region_ok hD hcall hs1 hr fun ρ' a' w' h1 h2 => ⟨trivial, ρ', h1, h2⟩
    · simp only [cond_true] at hrun
      split at hrun
      case h_2 => simp at hrun
      case h_1 s1 hs1 =>
      obtain ⟨rfl, rfl⟩ := Prod.mk.inj (Option.some.inj hrun)
      exact draw_ok hD hcall htick hs1 hr fun ρ' a' w' h1 h2 => ⟨trivial, ρ', h1, h2⟩
  case seq x y => exact wp_seq (seq_ok hok hrun hr)
  case cond c x y =>
    split at hrun
    · rename_i hc
      have hv := evalO_ok hr.t hc
      have e : a.eval c = .bool true := by cases hcc : a.eval c <;> rw [hcc] at hv <;> cases hv; rfl
      exact wp_cond_true e (hok _ _ _ _ hrun ρ a w hr)
    · rename_i hc
      have hv := evalO_ok hr.t hc
      have e : a.eval c = .bool false := by cases hcc : a.eval c <;> rw [hcc] at hv <;> cases hv; rfl
      exact wp_cond_false e (hok _ _ _ _ hrun ρ a w hr)
    · simp at hrun
  case block id x =>
    refine wp_block ?_
    cases h1 : exec D n x s with
    | none => rw [h1] at hrun; simp at hrun
    | some p =>
      obtain ⟨ex1, s1⟩ := p
      rw [h1] at hrun
      refine wp_mono (hok _ _ _ _ h1 ρ a w hr) ?_
      rintro e a1 w1 ⟨he, ρ1, hr1, hx1⟩
      cases ex1 with
      | normal =>
        cases e <;> simp only [ExR] at he
        simp only [Option.some.injEq, Prod.mk.injEq] at hrun
        obtain ⟨rfl, rfl⟩ := hrun
        exact ⟨trivial, ρ1, hr1, hx1⟩
      | exit i =>
        cases e <;> simp only [ExR] at he
        subst he
        simp only at hrun
        by_cases hi : i = id
        · rw [nbeq_t hi] at hrun
          simp only [cond_true, Option.some.injEq, Prod.mk.injEq] at hrun
          obtain ⟨rfl, rfl⟩ := hrun
          simp only [Exit.inBlock, hi, if_true]
          exact ⟨trivial, ρ1, hr1, hx1⟩
        · rw [nbeq_f hi] at hrun
          simp only [cond_false, Option.some.injEq, Prod.mk.injEq] at hrun
          obtain ⟨rfl, rfl⟩ := hrun
          simp only [Exit.inBlock, hi, if_false]
          exact ⟨rfl, ρ1, hr1, hx1⟩
      | ret =>
        cases e <;> simp only [ExR] at he
        simp only [Option.some.injEq, Prod.mk.injEq] at hrun
        obtain ⟨rfl, rfl⟩ := hrun
        exact ⟨trivial, ρ1, hr1, hx1⟩
  case loop x =>
    exact wp_loop_rounds (n + 1) (exec_loop n (fun m hm => (ih m hm).1) (n + 1) (Nat.le_refl _) ρ s s' ex a w hrun0 hr fun _ _ _ h => h)
  case exit id =>
    obtain ⟨rfl, rfl⟩ := Prod.mk.inj (Option.some.inj hrun)
    exact wp_exit ⟨rfl, ρ, hr, .refl _ _ _⟩
  case label l =>
    obtain ⟨rfl, rfl⟩ := Prod.mk.inj (Option.some.inj hrun)
    exact wp_label ⟨trivial, ρ, hr, .refl _ _ _⟩
  case ret =>
    obtain ⟨rfl, rfl⟩ := Prod.mk.inj (Option.some.inj hrun)
    exact wp_ret ⟨trivial, ρ, hr, .refl _ _ _⟩
theorem exec1_tick (hov : OvOK P D) (n : Nat) (ih : CodeTick (exec D n)) : CodeTick (exec D (n + 1)) := by
  have htick : CallTick (callW D (exec D n)) := callW_tick hov ih
  intro c s ex s' hrun
  simp only [exec] at hrun
  cases c <;> simp only [exec1] at hrun <;> try (simp at hrun; done)
  case skip => obtain ⟨rfl, rfl⟩ := Prod.mk.inj (Option.some.inj hrun); exact .inl rfl
  case region id ops draw =>
    cases draw
    · simp only [cond_false] at hrun
      split at hrun
      case h_2 => simp at hrun
      case h_1 s1 hs1 =>
      obtain ⟨rfl, rfl⟩ := Prod.mk.inj (Option.some.inj hrun)
      exact runA_tick htick _ _ _ hs1
    · simp only [cond_true] at hrun
      split at hrun
      case h_2 => simp at hrun
      case h_1 s1 hs1 =>
      obtain ⟨rfl, rfl⟩ := Prod.mk.inj (Option.some.inj hrun)
      exact drawA_tick htick hs1
  case seq x y =>
    cases h1 : exec D n x s with
    | none => rw [h1] at hrun; simp at hrun
    | some p =>
      obtain ⟨ex1, s1⟩ := p
      rw [h1] at hrun
      have t1 := ih _ _ _ _ h1
      cases ex1 with
      | normal => exact tick_trans t1 (ih _ _ _ _ hrun)
      | exit i => simp only [Option.some.injEq, Prod.mk.injEq] at hrun; obtain ⟨rfl, rfl⟩ := hrun; exact t1
      | ret => simp only [Option.some.injEq, Prod.mk.injEq] at hrun; obtain ⟨rfl, rfl⟩ := hrun; exact t1
  case cond c x y =>
    split at hrun
    · exact ih _ _ _ _ hrun
    · exact ih _ _ _ _ hrun
    · simp at hrun
  case block id x =>
    cases h1 : exec D n x s with
    | none => rw [h1] at hrun; simp at hrun
    | some p =>
      obtain ⟨ex1, s1⟩ := p
      rw [h1] at hrun
      have t1 := ih _ _ _ _ h1
      cases ex1 with
      | normal => simp only [Option.some.injEq, Prod.mk.injEq] at hrun; obtain ⟨rfl, rfl⟩ := hrun; exact t1
      | exit i =>
        simp only at hrun
        cases hi : i.beq id <;> rw [hi] at hrun <;> (simp only [cond_true, cond_false, Option.some.injEq, Prod.mk.injEq] at hrun; obtain ⟨rfl, rfl⟩ := hrun; exact t1)
      | ret => simp only [Option.some.injEq, Prod.mk.injEq] at hrun; obtain ⟨rfl, rfl⟩ := hrun; exact t1
  case loop x =>
    cases h1 : exec D n x s with
    | none => rw [h1] at hrun; simp at hrun
    | some p =>
      obtain ⟨ex1, s1⟩ := p
      rw [h1] at hrun
      have t1 := ih _ _ _ _ h1
      cases ex1 with
      | normal => exact tick_trans t1 (ih _ _ _ _ hrun)
      | exit i => simp only [Option.some.injEq, Prod.mk.injEq] at hrun; obtain ⟨rfl, rfl⟩ := hrun; exact t1
      | ret => simp only [Option.some.injEq, Prod.mk.injEq] at hrun; obtain ⟨rfl, rfl⟩ := hrun; exact t1
  case exit id => obtain ⟨rfl, rfl⟩ := Prod.mk.inj (Option.some.inj hrun); exact .inl rfl
  case label l => obtain ⟨rfl, rfl⟩ := Prod.mk.inj (Option.some.inj hrun); exact .inl rfl
  case ret => obtain ⟨rfl, rfl⟩ := Prod.mk.inj (Option.some.inj hrun); exact .inl rfl
theorem exec_ok (hD : DOk P D) (hov : OvOK P D) (n : Nat) : CodeOK P (exec D n) ∧ CodeTick (exec D n) := by
  induction n using Nat.strongRecOn with
  | _ n ih =>
    cases n with
    | zero => exact ⟨fun c s ex s' h => by simp [exec] at h, fun c s ex s' h => by simp [exec] at h⟩
    | succ n => exact ⟨exec1_ok hD hov n fun m hm => ih m (by omega), exec1_tick hov n (ih n (by omega)).2⟩
/-- whatever the machine answers, every run of the model answers -/
theorem callA_ok (hD : DOk P D) (hov : OvOK P D) (n : Nat) : CallOK P (callA D n) := callW_ok hD hov (exec_ok hD hov n).1
end
end Go.Abs
