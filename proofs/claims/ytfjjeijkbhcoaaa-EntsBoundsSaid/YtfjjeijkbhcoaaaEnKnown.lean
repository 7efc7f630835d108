/- What is known of slices.Insert of one entity behind the last: by a run of its body with these two rows alone. -/
import Derived.Test.YtfjjeijkbhcoaaaAiRows
import Derived.Test.YtfjjeijkbhcoaaaAiTab
set_option linter.unusedVariables false
set_option linter.unusedSimpArgs false
namespace Go.Proofs.Ai
open Go

def noCall : CallF := fun _ _ _ _ => none
theorem noCall_ok (P : Program) : CallOK P noCall := fun f args H hs R h => by cases h
theorem wide : Try.prog.follows .mixedOrders = true := by kernel_rfl

noncomputable def ins84 (eb : List (List FV)) (y : List FV) (i : Int) : Option (AV × St) := runBody Try.prog T1 noCall 60 84 [.own 0, .sc (.int .i64 i), .own 1] [some (.row 29 4 eb), some (.row 29 4 [y])] 0 [.ok, .br false, .br true, .ok]
noncomputable def szB (t : TypeId) : Nat := ((Try.prog.info? t).map (·.bytes)).getD 0
theorem ins84_run (eb : List (List FV)) (y : List FV) (i : Int) : (ins84 eb y i).map (fun x => (x.1, getH x.2.heap 0, x.2.cond)) = some (.own 0, some (.row 29 4 (eb ++ [y])),
    [(eb.length + 1) * (szB 29) ≤ 140737488355328 ∧ eb.length + 1 ≤ 140737488355328, (i == (eb.length : Int)) = true, ((1 : Int) == 0) = false, 0 ≤ i ∧ i ≤ (eb.length : Int) ∧ (eb.length : Int) ≤ (eb.length : Int)]) := by kernel_rfl

def Δ1 : HeapT := fun f args H => match f, args with
  | 84, [.own b, .fz (.sc (.int .i64 i)), .own c] => match getH H b, getH H c with
    | some (.row 29 4 eb), some (.row 29 4 [y]) => if i = (eb.length : Int) ∧ (eb.length + 1) * 4096 ≤ 140737488355328 ∧ b ≠ c then some (.own H.length, setH (setH H b none) c none ++ [some (.row 29 4 (eb ++ [y]))]) else none
    | _, _ => none
  | _, _ => none
def Γ1 : PureT := fun _ _ => none
theorem Γ1_ok : PureOK Try.prog Γ1 := fun _ _ _ _ h => by cases h

theorem Δ1_ok : HeapOK Try.prog Δ1 := by
  intro f args H r H' h X μ w vs hR hsz hargs
  unfold Δ1 at h
  split at h
  · rename_i b i c
    split at h
    · rename_i eb y hb hc
      split at h
      · rename_i hcond
        obtain ⟨hi, hlen, hbc⟩ := hcond
        simp only [Option.some.injEq, Prod.mk.injEq] at h
        obtain ⟨rfl, rfl⟩ := h
        have hrun := ins84_run eb y i
        cases hr : ins84 eb y i with
        | none => rw [hr] at hrun; cases hrun
        | some x =>
          obtain ⟨rv, s'⟩ := x
          rw [hr] at hrun
          simp only [Option.map_some, Option.some.injEq, Prod.mk.injEq] at hrun
          obtain ⟨rfl, hj, hcs⟩ := hrun
          have hall : All s'.cond := by
            rw [hcs]
            have : szB 29 ≤ 4096 := by decide +kernel
            have : (eb.length + 1) * szB 29 ≤ (eb.length + 1) * 4096 := Nat.mul_le_mul_left _ this
            refine ⟨⟨by omega, by omega⟩, by simp [hi], by decide, ⟨by omega, by omega, by omega⟩, trivial⟩
          exact rows_call T1_ok (noCall_ok _) wide hb hc hbc hr hall hj hR hsz hargs
      · cases h
    · cases h
  · cases h
end Go.Proofs.Ai
