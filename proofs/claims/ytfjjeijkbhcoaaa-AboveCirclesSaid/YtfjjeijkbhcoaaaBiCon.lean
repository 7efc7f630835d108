/- The abstract machine, 25: contracts out of runs. -/
import Derived.Test.YtfjjeijkbhcoaaaBiTab
import Derived.Test.YtfjjeijkbhcoaaaBiPost
set_option linter.unusedVariables false
set_option linter.unusedSimpArgs false
namespace Go.Proofs.Ai
open Go

theorem pureAt_of_call {P : Program} {call : CallF} (hcall : CallOK P call) {f : FuncId} {xs : List AV} {hs : List Hint} {r : AV} {c : List Prop} (h : sumOf (call f xs [] hs) = some (r, true, c)) (hc : All c) : PureAt P f xs r false := by
  intro ok w vs hok hsz hargs
  let X : Nat → Prop := fun k => k < w.heap.size ∧ ¬ ok k
  have hR : Rel X noVals [] w := ⟨fun k hk => hk.1, fun b B k h => by cases b <;> simp [getH] at h, fun b b' B B' k h => by cases b <;> simp [getH] at h, fun b B h => by cases b <;> simp [getH] at h⟩
  cases hq : call f xs [] hs with
  | none => rw [hq] at h; cases h
  | some R =>
    rw [hq] at h
    simp only [sumOf, Option.map_some, Option.some.injEq, Prod.mk.injEq] at h
    obtain ⟨h1, h2, h3⟩ := h
    obtain ⟨_, hcl⟩ := hcall f xs [] hs R hq
    refine (hcl X noVals w vs (by rw [h3]; exact hc) hR hsz (fun i x hx => (hargs i x hx).okIff (fun k hk => ⟨hok k hk, fun h => h.2 hk, nil_taken⟩))).mono (fun e w' he => ?_)
    cases e with
    | returned v =>
      obtain ⟨μ', h4, h5⟩ := he
      obtain ⟨e1, e2, rfl, hext⟩ := h5 h2
      obtain ⟨_, _, _, hr, _⟩ := h4 []
      simp only [e1, e2, killAll, h1] at hr
      refine ⟨hext, hr.okIff (fun k hk => ⟨hk.1, ?_⟩)⟩
      rcases Nat.lt_or_ge k w.heap.size with hlt | hge
      · by_cases hk' : ok k
        · exact .inr ⟨rfl, hk'⟩
        · exact absurd ⟨hlt, hk'⟩ hk.2.1
      · exact .inl hge
    | panicked c => exact he
    | outgrown => exact he

theorem pureOK_iff {P : Program} {Γ : PureT} : PureOK P Γ ↔ ∀ f xs r fresh c, Γ f xs = some (r, fresh, c) → All c → PureAt P f xs r fresh := Iff.rfl
noncomputable def szB (t : TypeId) : Nat := ((Try.prog.info? t).map (·.bytes)).getD 0
theorem wide : Try.prog.follows .mixedOrders = true := by kernel_rfl
def Γnil : PureT := fun _ _ => none
theorem Γnil_ok : PureOK Try.prog Γnil := fun _ _ _ _ _ h => by cases h
def Δnil : HeapT := fun _ _ _ => none
theorem Δnil_ok : HeapOK Try.prog Δnil := fun _ _ _ _ _ _ h => by cases h
abbrev FV.int (n : Int) : FV := .sc (.int .i64 n)
abbrev FV.str (s : ByteArray) : FV := .sc (.string s)
abbrev FV.boo (b : Bool) : FV := .sc (.bool b)
abbrev AV.int (n : Int) : AV := .fz (.int n)
abbrev AV.str (s : ByteArray) : AV := .fz (.str s)
abbrev AV.boo (b : Bool) : AV := .fz (.boo b)
noncomputable abbrev callC (Γ : PureT) (Δ : HeapT) (f : Nat) (xs : List AV) (hs : List Hint) : Option (AV × Bool × List Prop) := sumOf (acall Try.prog T1 Γ Δ 60 f xs [] hs)
theorem pure_run {Γ : PureT} {Δ : HeapT} (hΓ : PureOK Try.prog Γ) (hΔ : HeapOK Try.prog Δ) {f : FuncId} {xs : List AV} {hs : List Hint} {r : AV} {c : List Prop} (h : callC Γ Δ f xs hs = some (r, true, c)) (hc : All c) : PureAt Try.prog f xs r false :=
  pureAt_of_call (acall_ok T1_ok hΓ hΔ wide 60) h hc
/-- Temporaries, but for a few forgotten. -/
def sp : Nat → List (Nat × AV) → List AV
  | n, [] => List.replicate n .junk
  | n, (k, v) :: r => setT (sp n r) k v
noncomputable abbrev rT (Γ : PureT) (Δ : HeapT) (c : Code) (s : St) (hs : List Hint) (ks : List Tmp) (kills : List Nat) (N : Nat) := runTo Try.prog T1 (acall Try.prog T1 Γ Δ 60) 60 c s hs ks kills N
section
variable {Γ : PureT} {Δ : HeapT} {s : St} {R : AExit → St → Prop}
theorem tr_run (hΓ : PureOK Try.prog Γ) (hΔ : HeapOK Try.prog Δ) {c : Code} {hs : List Hint} {ks : List Tmp} {kills : List Nat} {N : Nat} {e : AExit} {ts : List AV} {H : AHeap} {cs : List Prop} (h : rT Γ Δ c s hs ks kills N = some (e, ts, H, cs)) (hc : All cs) (hR : R e (stOf ts H s.base)) : Tr Try.prog c s R :=
  Tr.runTo T1_ok (acall_ok T1_ok hΓ hΔ wide 60) wide h hc hR
theorem tr_pre (hΓ : PureOK Try.prog Γ) (hΔ : HeapOK Try.prog Δ) (n : Nat) {c : Code} {hs : List Hint} {ks : List Tmp} {kills : List Nat} {N : Nat} {ts : List AV} {H : AHeap} {cs : List Prop} (h : rT Γ Δ (pre n c) s hs ks kills N = some (.normal, ts, H, cs)) (hc : All cs) (hR : Tr Try.prog (post n c) (stOf ts H s.base) R) : Tr Try.prog c s R :=
  Tr.pre T1_ok (acall_ok T1_ok hΓ hΔ wide 60) wide n h hc hR
/-- .. and a row moved down behind it. -/
theorem tr_runM (hΓ : PureOK Try.prog Γ) (hΔ : HeapOK Try.prog Δ) {c : Code} {hs : List Hint} {ks : List Tmp} {kills : List Nat} {N N' b n : Nat} {e : AExit} {ts ts' : List AV} {H H' : AHeap} {cs : List Prop} (h : rT Γ Δ c s hs ks kills N = some (e, ts, H, cs)) (hc : All cs)
    (hm : (moveS b n (stOf ts H s.base)).bind (trimS ks [] N') = some (stOf ts' H' s.base)) (hR : R e (stOf ts' H' s.base)) : Tr Try.prog c s R := by
  refine Tr.post (R1 := fun e1 s1 => e1 = e ∧ s1 = stOf ts H s.base) (tr_run hΓ hΔ h hc ⟨rfl, rfl⟩) (fun e1 s1 h1 => ?_)
  obtain ⟨rfl, rfl⟩ := h1
  cases hq : moveS b n (stOf ts H s.base) with
  | none => rw [hq] at hm; cases hm
  | some s2 => rw [hq] at hm; exact ⟨_, (View.move hq).trans (View.trim hm), hR⟩
end
end Go.Proofs.Ai
