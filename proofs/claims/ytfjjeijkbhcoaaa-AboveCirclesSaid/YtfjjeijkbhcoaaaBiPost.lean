/- The abstract machine, 23: its outer form: a call from outside, and a row's promise behind it. -/
import Derived.Test.YtfjjeijkbhcoaaaBiCall2
import Derived.ChangeSame
import Derived.RowKit3
set_option linter.unusedVariables false
set_option linter.unusedSimpArgs false
namespace Go.Proofs.Ai
open Go Go.ChangeShapes Go.WideShapes

def noX : Nat → Prop := fun _ => False
theorem Rel.start (w : World) : Rel noX noVals [] w :=
  ⟨fun k h => h.elim, fun b B k h => by cases b <;> simp [getH] at h, fun b b' B B' k h => by cases b <;> simp [getH] at h, fun b B h => by cases b <;> simp [getH] at h⟩

def sumOf (o : Option CallR) : Option (AV × Bool × List Prop) := o.map fun R => (R.r, R.quiet, R.c)

/-- A call whose result is a scalar value and that leaves all old memory as it was. -/
theorem call_scalar {P : Program} {call : CallF} (hcall : CallOK P call) {f : FuncId} {args : List AV} {hs : List Hint} {v : Value} {c : List Prop} (hrun : sumOf (call f args [] hs) = some (.sc v, true, c)) (hc : All c) {w : World} {vs : Array Value} (hsz : vs.size = args.length)
    (hargs : ∀ (i : Nat) (x : AV), args[i]? = some x → Rep noVals [] w (Fz noX noVals [] w) x (vs.getD i undef)) : Calls P f vs w (onReturn fun u w' => u = v ∧ Ext w w') := by
  cases hR : call f args [] hs with
  | none => rw [hR] at hrun; cases hrun
  | some R =>
    rw [hR] at hrun
    simp only [sumOf, Option.map_some, Option.some.injEq, Prod.mk.injEq] at hrun
    obtain ⟨h1, h2, h3⟩ := hrun
    obtain ⟨_, hcl⟩ := hcall f args [] hs R hR
    refine (hcl noX noVals w vs (by rw [h3]; exact hc) (Rel.start w) hsz hargs).mono (fun e w' he => ?_)
    cases e with
    | returned u =>
      obtain ⟨μ', h4, h5⟩ := he
      obtain ⟨_, _, _, hext⟩ := h5 h2
      obtain ⟨_, _, _, hr, _⟩ := h4 []
      rw [h1] at hr
      exact ⟨(rep_sc_inv hr).1, hext⟩
    | panicked c => exact he
    | outgrown => exact he

section
variable {H : Type} {enc : TypeId × Value → H} {P : Program}
theorem Ext.kept {w w' : World} (e : Ext w w') (may : MemPlace → Prop) : w.keptBut w' may := by
  refine ⟨e.os, e.output, fun i hi => ?_⟩
  have h := e.heap i hi
  rw [h]
  cases w.heap[i]? with
  | none => rfl
  | some o =>
    cases o <;> first | rfl | exact ⟨rfl, rfl, rfl, fun _ _ => rfl⟩ | exact .inr ⟨rfl, rfl⟩

/-- As the library's law, where new memory is any. -/
theorem post_of_ext {f : Func} {s : ChangeSpec} {apart fresh handsOn again : Bool} {W W' : World} {args : Array Value} {v : Value} {ds gs : List (DataW H)} {before pa pv : List MemPlace}
    (hW : DataW.Whole enc P f.params.toList s.vars apart W args.toList ds gs before)
    (hres : ∀ (b : Nat) (sp : Nat → Bool) (hd : Bool), DataW.TrodAll enc P W' b sp hd f.resultTypes.toList (v.resultList f.resultTypes.size) (s.fn H (ds ++ gs)).results [])
    (hargs : ∀ sp : Nat → Bool, (∀ p ∈ before, sp p.block = true) → DataW.TrodAll enc P W' 0 sp true f.params.toList args.toList (s.fn H (ds ++ gs)).args pa)
    (hvars : ∀ sp : Nat → Bool, (∀ p ∈ before, sp p.block = true) → DataW.TrodVars enc P W' sp s.vars (s.fn H (ds ++ gs)).vars pv)
    (hps : before = pa ++ pv) (he : Ext W W')
    (hok : ∀ (j : Nat) (t : TypeId) (r : Value), f.resultTypes[j]? = some t → (v.resultList f.resultTypes.size)[j]? = some r → Value.okWide P W' .any 0 t r) :
    s.post enc P f apart fresh handsOn again W args v W' := by
  have hlt := fun p hp => hW.lt p hp
  have hold : ∀ p ∈ before, (fun b => decide (b < W.heap.size)) p.block = true := fun p hp => by simpa using hW.lt p hp
  refine ⟨ds, gs, before, [], pa, pv, hW, hres _ _ _, hargs _ hold, hvars _ hold, World.keptBut_mono (fun p hp => ⟨hp, ?_⟩) (he.kept _), fun _ => ?_⟩
  · rw [hps, List.mem_append] at hp
    exact Or.inr hp
  · obtain ⟨_, _, _, _, _, hz, hn⟩ := hW
    refine ⟨hok, _, _, ([] ++ pa) ++ pv, ⟨[] ++ pa, pv, trodAll_append (hargs _ (fun _ _ => rfl)) (hres _ _ _), hvars _ (fun _ _ => rfl), rfl, ?_, ?_⟩, ?_⟩
    · intro b off hp
      have hp' : MemPlace.cell b off ∈ before := by rw [hps]; simpa using hp
      have hb : b < W.heap.size := hlt _ hp'
      have := hz b off hp'
      rw [World.frozen?, he.heap b hb]
      exact this
    · intro ha
      have := hn ha
      rw [hps] at this
      simpa using this
    · intro p hp _
      rw [hps]
      simpa using hp
end
end Go.Proofs.Ai
