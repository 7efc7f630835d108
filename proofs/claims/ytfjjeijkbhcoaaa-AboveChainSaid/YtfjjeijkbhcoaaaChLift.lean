/- AboveChain: the row's inner form. -/
import Derived.Test.YtfjjeijkbhcoaaaAbChain3
import Derived.Test.YtfjjeijkbhcoaaaRows
import Derived.ProofKit
set_option linter.unusedVariables false
set_option linter.unusedSimpArgs false
namespace Go.Proofs.Ytfjjeijkbhcoaaa
open Go.ChangeShapes Go.WideShapes Go.ChangeAt Go.RowKit Go.Proofs.Ai

theorem Try.own : ownKnob Try.prog.godebug = none := by kernel_rfl

theorem yes_call {f : FuncId} {xs : List AV} {vs : Array Value} (h : PureAt Try.prog f xs (.boo true) true) (w : World) (hsz : vs.size = xs.length)
    (hargs : ∀ (i : Nat) (x : AV), xs[i]? = some x → Rep noVals [] w (fun _ => False) x (vs.getD i undef)) : Calls Try.prog f vs w (onReturn fun u w' => u = .bool true ∧ Ext w w') := by
  refine (h (fun _ => False) w vs (fun k hk => hk.elim) hsz hargs).mono (fun e w' he => ?_)
  cases e with
  | returned v => exact ⟨(rep_sc_inv he.2).1, he.1⟩
  | panicked c => exact he
  | outgrown => exact he
theorem chain_any (a b : Int) (c : Bool) (w : World) : Calls Try.prog 13 #[.int .i64 a, .int .i64 b, .bool c] w (onReturn fun u w' => u = .bool true ∧ Ext w w') :=
  yes_call (c13 a b c) w rfl (fun i x hx => by
    match i with
    | 0 => simp at hx; subst hx; exact rep_sc rfl
    | 1 => simp at hx; subst hx; exact rep_sc rfl
    | 2 => simp at hx; subst hx; exact rep_sc rfl
    | i + 3 => simp at hx)

set_option maxRecDepth 100000 in
theorem aboveChain_lifted (os : Os) (started : os.Started) (H : Type) (enc : TypeId × Value → H) :
    ReturnsInHanded {} Try.checked os 13 .any (Rows.aboveChainSpec.pre6 enc Try.prog Try.f13 Rows.aboveChainRow.domain false) (Rows.aboveChainSpec.post enc Try.prog Try.f13 false true false false) := by
  refine returnsInHanded_of_change (C := Try.checked) Try.own started (by kernel_rfl) Try.func13
    (ChangeSpec.witness6 (enc := enc) (C := Try.checked) false ⟨#[], #[.int .i64 0, .int .i64 0, .bool false], []⟩ 8 (by kernel_rfl) (by kernel_rfl) (by kernel_rfl) (by kernel_rfl)) ?_
  intro W base args ds gs before hval0 hW hcnd _
  have hval : ∀ (j : Nat) t v, Try.f13.params[j]? = some t → args[j]? = some v → Value.okWide Try.prog W .any base t v := hval0
  have hW' := hW
  obtain ⟨p, q, hA0, hV, rfl, hfz, hnd⟩ := hW
  have hA : DataW.TrodAll enc Try.prog W 0 (fun _ => true) true Try.f13.params.toList args.toList ds p := hA0
  rw [Try.params13] at hA hval
  obtain ⟨v0, v1, v2, d0, d1, d2, p0, p1, p2, rfl, rfl, rfl, h0, h1, h2⟩ := trodAll_three hA
  obtain ⟨rfl, rfl⟩ := trodVars_none hV
  obtain ⟨a, rfl, rfl, rfl, wa⟩ := open_int Try.underlying3 (hval 0 3 v0 rfl rfl) h0
  obtain ⟨b, rfl, rfl, rfl, wb⟩ := open_int Try.underlying3 (hval 1 3 v1 rfl rfl) h1
  obtain ⟨c, rfl, rfl, rfl⟩ := open_bool Try.underlying4 (hval 2 4 v2 rfl rfl) h2
  clear hA0 hval0
  simp only [List.append_nil] at hW'
  refine (chain_any a b c W).mono fun e W' he => ?_
  cases e with
  | returned v =>
    obtain ⟨rfl, hx⟩ := he
    exact ⟨_, rfl, post_of_ext (pa := []) (pv := []) hW' (fun _ _ _ => trodAll_mk1 (shut_bool Try.underlying4 true)) (fun sp _ => trodAll_mk3 (shut_int Try.underlying3 wa) (shut_int Try.underlying3 wb) (shut_bool Try.underlying4 c)) (fun _ _ => rfl) rfl hx
      (ok_one (by kernel_rfl) rfl (okWide_bool_mk Try.underlying4 true))⟩
  | panicked c => exact he.elim
  | outgrown => exact he.elim

end Go.Proofs.Ytfjjeijkbhcoaaa
