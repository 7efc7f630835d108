/- AboveCircles: the row's inner form. -/
import Derived.Test.YtfjjeijkbhcoaaaAbCirc
import Derived.Test.YtfjjeijkbhcoaaaAbRead
import Derived.Test.YtfjjeijkbhcoaaaRows
import Derived.ProofKit
import Derived.Carry
set_option linter.unusedVariables false
set_option linter.unusedSimpArgs false
namespace Go.Proofs.Ytfjjeijkbhcoaaa
open Go.ChangeShapes Go.WideShapes Go.ChangeAt Go.RowKit Go.Proofs.Ai

theorem Try.own : ownKnob Try.prog.godebug = none := by kernel_rfl
theorem Try.laidOut : laidOutB Try.prog = true := by kernel_rfl
theorem Try.readable47 : Try.prog.readableRec 47 = true := by kernel_rfl
theorem Try.readable39 : Try.prog.readableRec 39 = true := by kernel_rfl

theorem yes_callR {f : FuncId} {xs : List AV} {vs : Array Value} (h : PureAt Try.prog f xs (.boo true) true) (w : World) (hsz : vs.size = xs.length)
    (hargs : ∀ (i : Nat) (x : AV), xs[i]? = some x → Rep noVals [] w (inW w) x (vs.getD i undef)) : Calls Try.prog f vs w (onReturn fun u w' => u = .bool true ∧ Ext w w') := by
  refine (h (inW w) w vs (fun k hk => hk) hsz hargs).mono (fun e w' he => ?_)
  cases e with
  | returned v => exact ⟨(rep_sc_inv he.2).1, he.1⟩
  | panicked c => exact he
  | outgrown => exact he
theorem Ext.below {w w' : World} (e : Ext w w') : Below w.heap.size w w' := ⟨e.os, e.tape.1, e.output, e.size, fun k hk => e.heap k hk⟩

set_option maxRecDepth 100000 in
theorem aboveCircles_lifted (os : Os) (started : os.Started) (H : Type) (enc : TypeId × Value → H) :
    ReturnsInHanded {} Try.checked os 10 .any (Rows.aboveCirclesSpec.pre6 enc Try.prog Try.f10 Rows.aboveCirclesRow.domain false) (Rows.aboveCirclesSpec.post enc Try.prog Try.f10 false true false false) := by
  refine returnsInHanded_of_change (C := Try.checked) Try.own started (by kernel_rfl) Try.func10
    (ChangeSpec.witness6 (enc := enc) (C := Try.checked) false ⟨#[], #[.slice none 0 0, .int .i64 0, .slice none 0 0], []⟩ 8 (by kernel_rfl) (by kernel_rfl) (by kernel_rfl) (by kernel_rfl)) ?_
  intro W base args ds gs before hval0 hW hcnd _
  have hval : ∀ (j : Nat) t v, Try.f10.params[j]? = some t → args[j]? = some v → Value.okWide Try.prog W .any base t v := hval0
  have hW' := hW
  obtain ⟨p, q, hA0, hV, rfl, hfz, hnd⟩ := hW
  have hA : DataW.TrodAll enc Try.prog W 0 (fun _ => true) true Try.f10.params.toList args.toList ds p := hA0
  rw [Try.params10] at hA hval
  obtain ⟨v0, v1, v2, d0, d1, d2, p0, p1, p2, rfl, rfl, rfl, h0, h1, h2⟩ := trodAll_three hA
  obtain ⟨rfl, rfl⟩ := trodVars_none hV
  obtain ⟨b, rfl, rfl, rfl, wb⟩ := open_int Try.underlying3 (hval 1 3 v1 rfl rfl) h1
  obtain ⟨A, n, c, rfl⟩ := okWide_slice Try.underlying39 (hval 0 39 v0 rfl rfl)
  obtain ⟨A2, n2, c2, rfl⟩ := okWide_slice Try.underlying47 (hval 2 47 v2 rfl rfl)
  clear hA0 hval0
  simp only [List.append_nil] at hW'
  obtain ⟨es, hes⟩ := read_ents h0 rfl
  obtain ⟨fuel2, h2f⟩ := id h2
  obtain ⟨zs, u2, hu2, hzs⟩ := read_ints h2f
  have hu2 : Value.slice A2 n2 c2 = u2 := by simpa [Value.cells] using hu2
  subst hu2
  refine (yes_callR (c10 es b zs) W rfl (fun i x hx => by
    match i with
    | 0 => simp at hx; subst hx; exact .fz hes
    | 1 => simp at hx; subst hx; exact rep_sc rfl
    | 2 => simp at hx; subst hx; exact .fz hzs
    | i + 3 => simp at hx)).mono fun e W' he => ?_
  cases e with
  | returned v =>
    obtain ⟨rfl, hx⟩ := he
    have hlt := fun p hp => hW'.lt p hp
    have hstay : ∀ sp : Nat → Bool, (∀ p ∈ p0 ++ p2, sp p.block = true) → DataW.Trod enc Try.prog W' 0 sp true 39 (.slice A n c) d0 p0 := fun sp hs =>
      WideElems.Trod_stays Try.laidOut Try.readable39 (by decide +kernel) h0 (fun x hp => (Ext.below hx).same (hlt x (List.mem_append_left _ hp))) (fun p hp => hs p (List.mem_append_left _ hp))
    have hstay2 : ∀ sp : Nat → Bool, (∀ p ∈ p0 ++ p2, sp p.block = true) → DataW.Trod enc Try.prog W' 0 sp true 47 (.slice A2 n2 c2) d2 p2 := fun sp hs =>
      WideElems.Trod_stays Try.laidOut Try.readable47 (by decide +kernel) h2 (fun x hp => (Ext.below hx).same (hlt x (List.mem_append_right _ hp))) (fun p hp => hs p (List.mem_append_right _ hp))
    exact ⟨_, rfl, post_of_ext (pa := p0 ++ p2) (pv := []) hW' (fun _ _ _ => trodAll_mk1 (shut_bool Try.underlying4 true)) (fun sp hs => by
        have := trodAll_mk3 (hstay sp hs) (shut_int (enc := enc) (w := W') (base := 0) (spare := sp) (held := true) Try.underlying3 wb) (hstay2 sp hs)
        rw [List.nil_append] at this
        exact this) (fun _ _ => rfl) (by simp) hx
      (ok_one (by kernel_rfl) rfl (okWide_bool_mk Try.underlying4 true))⟩
  | panicked c => exact he.elim
  | outgrown => exact he.elim

end Go.Proofs.Ytfjjeijkbhcoaaa
