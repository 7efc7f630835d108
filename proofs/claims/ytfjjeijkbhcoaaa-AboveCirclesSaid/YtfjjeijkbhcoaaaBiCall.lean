/- The abstract machine, 20: calls are sound. -/
import Derived.Test.YtfjjeijkbhcoaaaBiDraw
set_option linter.unusedVariables false
set_option linter.unusedSimpArgs false
namespace Go.Proofs.Ai
open Go

/-! ### frozen -/
theorem snapL_get (K : AHeap) : ∀ {l l' : List AV}, snapL K l = some l' → l'.length = l.length ∧ ∀ (i : Nat) (x : AV), l[i]? = some x → ∃ y, l'[i]? = some y ∧ snap K x = some y
  | [], l', h => by simp [snapL] at h; subst h; exact ⟨rfl, fun i x hx => by simp at hx⟩
  | x :: l, l', h => by
    simp only [snapL] at h
    split at h
    · rename_i y r hy hr
      cases h
      obtain ⟨h1, h2⟩ := snapL_get K hr
      refine ⟨by simp [h1], fun i z hz => ?_⟩
      cases i with
      | zero => simp at hz; subst hz; exact ⟨y, rfl, hy⟩
      | succ i => simpa using h2 i z (by simpa using hz)
    · cases h
theorem rowsOfL_mem : ∀ {l : List AV} {i : Nat} {x : AV} {b : Nat}, l[i]? = some x → b ∈ rowsOf x → b ∈ rowsOfL l
  | [], i, x, b, h, _ => by simp at h
  | y :: l, 0, x, b, h, hb => by simp at h; subst h; exact List.mem_append_left _ hb
  | y :: l, i + 1, x, b, h, hb => List.mem_append_right _ (rowsOfL_mem (i := i) (by simpa using h) hb)
theorem snap_fn {K : AHeap} {f : Fn} {a c : List AV} {y : AV} (h : snap K (.fn f a c) = some y) : a = [] ∧ c = [] ∧ y = .fn f [] [] := by
  cases a <;> cases c <;> simp [snap] at h
  exact ⟨rfl, rfl, h.symm⟩

mutual
theorem snap_rows {K : AHeap} : ∀ (x : AV) {y : AV}, snap K x = some y → ∀ b ∈ rowsOf x, ∃ ty sz els, getH K b = some (.row ty sz els)
  | .fz _, _, _, b, hb => by simp [rowsOf] at hb
  | .own c, y, h, b, hb => by
    simp [rowsOf] at hb; subst hb
    simp only [snap] at h
    split at h
    · rename_i ty sz els hh; exact ⟨_, _, _, hh⟩
    · cases h
  | .vw c o m, y, h, b, hb => by
    simp [rowsOf] at hb; subst hb
    simp only [snap] at h
    split at h
    · rename_i ty sz els hh; exact ⟨_, _, _, hh⟩
    · cases h
  | .agg l, y, h, b, hb => by
    simp only [snap] at h
    split at h
    · rename_i l' hl; exact snapL_rows l hl b (by simpa [rowsOf] using hb)
    · cases h
  | .tup l, y, h, b, hb => by
    simp only [snap] at h
    split at h
    · rename_i l' hl; exact snapL_rows l hl b (by simpa [rowsOf] using hb)
    · cases h
  | .ifc t x, y, h, b, hb => by
    simp only [snap] at h
    split at h
    · rename_i x' hx; exact snap_rows x hx b (by simpa [rowsOf] using hb)
    · cases h
  | .ptr _ _, y, h, b, hb => by simp [rowsOf] at hb
  | .ob _, y, h, b, hb => by simp [rowsOf] at hb
  | .ep _ _ _, y, h, b, hb => by simp [rowsOf] at hb
  | .fp _, y, h, b, hb => by simp [rowsOf] at hb
  | .fn _ _ _, y, h, b, hb => by simp [rowsOf] at hb
  | .junk, y, h, b, hb => by simp [rowsOf] at hb
theorem snapL_rows {K : AHeap} : ∀ (l : List AV) {l' : List AV}, snapL K l = some l' → ∀ b ∈ rowsOfL l, ∃ ty sz els, getH K b = some (.row ty sz els)
  | [], _, _, b, hb => by simp [rowsOfL] at hb
  | x :: l, l', h, b, hb => by
    simp only [snapL] at h
    split at h
    · rename_i x' l'' hx hl
      rcases List.mem_append.1 (by simpa only [rowsOfL] using hb) with hb | hb
      · exact snap_rows x hx b hb
      · exact snapL_rows l hl b hb
    · cases h
end

theorem snap_ok {X : Nat → Prop} {μ : Nat → Value} {H K : AHeap} {w : World} (hR : Rel X μ H w) (hK : ∀ b ty sz els, getH K b = some (.row ty sz els) → getH H b = some (.row ty sz els)) {μ' : Nat → Value} {H' : AHeap} {ok' : Nat → Prop} (hok : ∀ k, Fz X μ H w k → ok' k)
    {x : AV} {v : Value} (h : Rep μ H w (Fz X μ H w) x v) : ∀ {y : AV}, snap K x = some y → (∀ b ty sz els, getH K b = some (.row ty sz els) → b ∈ rowsOf x → ∀ k, blkOf (μ b) = some k → ok' k) → Rep μ' H' w ok' y v := by
  induction h with
  | fz h => intro y hs _; simp [snap] at hs; subst hs; exact .fz (h.okIff hok)
  | agg hl h h1 ih =>
    intro y hs hrow
    simp only [snap] at hs
    split at hs
    · rename_i l' hl'
      cases hs
      obtain ⟨g1, g2⟩ := snapL_get K hl'
      refine .agg (by omega) (fun i y hy => ?_) h1
      have hi : i < l'.length := (List.getElem?_eq_some_iff.1 hy).1
      rename_i l _ _
      obtain ⟨y', hy', hs'⟩ := g2 i (l[i]'(by omega)) (List.getElem?_eq_getElem _)
      rw [hy] at hy'
      cases hy'
      exact ih i _ (List.getElem?_eq_getElem _) hs' (fun b ty sz els hb hm => hrow b ty sz els hb (by simpa only [rowsOf] using rowsOfL_mem (List.getElem?_eq_getElem _) hm))
    · cases hs
  | own h hv h1 =>
    intro y hs hrow
    simp only [snap] at hs
    split at hs
    · rename_i ty sz els hb
      cases hs
      rw [hv]
      exact .fz (row_frozen (hR.blk _ _ (hK _ _ _ _ hb)) (fun k hk => ⟨hok k hk, rfl⟩) (fun k hk => ⟨hrow _ _ _ _ hb (by simp [rowsOf]) k hk, rfl⟩))
    · cases hs
  | vw h hm hc hA =>
    intro y hs hrow
    simp only [snap] at hs
    split at hs
    · rename_i b o m ty0 sz0 els0 A c _ ty sz els hb
      cases hs
      have hb' := hK _ _ _ _ hb
      rw [h] at hb'
      simp only [Option.some.injEq, Blk.row.injEq] at hb'
      obtain ⟨rfl, rfl, rfl⟩ := hb'
      have hlen : ((els0.drop o).take m).length = m := by simp; omega
      rcases Nat.eq_zero_or_pos m with h0 | h0
      · subst h0
        simp only [List.take_zero]
        exact .fz .nil
      · obtain ⟨g, hg, hAe⟩ := hA h0
        obtain ⟨vals, hv1, hv2, _⟩ := row_cells hR h hg
        have : RepF w ok' (.sl sz0 ((els0.drop o).take m)) (.slice A ((els0.drop o).take m).length c) := by
          rw [hAe]
          have hget : ∀ (i : Nat) (x : List FV), ((els0.drop o).take m)[i]? = some x → els0[o + i]? = some x := fun i x hx => by
            rw [List.getElem?_take] at hx
            split at hx
            · rwa [List.getElem?_drop] at hx
            · cases hx
          refine .sl (fun i j => vals.getD ((o + i) * sz0 + j) undef) (by omega) (hrow _ _ _ _ hb (by simp [rowsOf]) g hg) (fun i x hx => (by
            obtain ⟨_, hels, _⟩ := hR.blk _ _ h
            exact hels _ x (hget i x hx))) (fun i j x f hx hf => ?_) (fun i j x f hx hf => ?_)
          · obtain ⟨_, h2, _⟩ := hv2 (o + i) j x f (hget i x hx) hf
            rw [add_none, ← Nat.add_assoc, ← Nat.add_mul]
            exact h2
          · obtain ⟨_, _, h3⟩ := hv2 (o + i) j x f (hget i x hx) hf
            exact h3.okIff hok
        rw [hlen] at this
        exact .fz this
    · cases hs
  | ptr => intro y hs _; simp [snap] at hs
  | ob => intro y hs _; simp [snap] at hs
  | ep => intro y hs _; simp [snap] at hs
  | fp U hk hcell hrep =>
    intro y hs _
    simp [snap] at hs
    subst hs
    exact .fp U (hok _ hk) hcell (fun j f hf => (hrep j f hf).okIff hok)
  | ifc h ih =>
    intro y hs hrow
    simp only [snap] at hs
    split at hs
    · rename_i x' hx
      cases hs
      exact .ifc (ih hx (fun b ty sz els hb hm => hrow b ty sz els hb (by simpa only [rowsOf] using hm)))
    · cases hs
  | fn ha hc h h' ih ih' =>
    intro y hs _
    obtain ⟨rfl, rfl, rfl⟩ := snap_fn hs
    exact .fn ha hc (fun i x hx => by simp at hx) (fun i x hx => by simp at hx)
  | tup hl h ih =>
    intro y hs hrow
    simp only [snap] at hs
    split at hs
    · rename_i l' hl'
      cases hs
      obtain ⟨g1, g2⟩ := snapL_get K hl'
      refine .tup (by omega) (fun i y hy => ?_)
      have hi : i < l'.length := (List.getElem?_eq_some_iff.1 hy).1
      rename_i l _ _
      obtain ⟨y', hy', hs'⟩ := g2 i (l[i]'(by omega)) (List.getElem?_eq_getElem _)
      rw [hy] at hy'
      cases hy'
      exact ih i _ (List.getElem?_eq_getElem _) hs' (fun b ty sz els hb hm => hrow b ty sz els hb (by simpa only [rowsOf] using rowsOfL_mem (List.getElem?_eq_getElem _) hm))
    · cases hs
  | dead hx hb hn h1 =>
    intro y hs hrow
    rename_i x v b
    have dead : ∀ ty sz els, getH K b = some (.row ty sz els) → False := fun ty sz els h => by
      have := hK _ _ _ _ h; rw [hn] at this; cases this
    cases x <;> simp [refOf] at hx <;> subst hx <;> simp only [snap] at hs <;> (try (cases hs; done)) <;>
    · split at hs
      · rename_i hh; exact (dead _ _ _ hh).elim
      · cases hs
  | junk => intro y hs _; simp [snap] at hs

mutual
theorem scalar_refs : ∀ (x : AV), scalarA x = true → noRefs x = true
  | .fz _, _ => rfl
  | .agg l, h => by simp only [scalarA] at h; exact scalarL_refs l h
  | .tup l, h => by simp only [scalarA] at h; exact scalarL_refs l h
  | .ifc t x, h => by simp only [scalarA] at h; exact scalar_refs x h
  | .own _, h => by simp [scalarA] at h
  | .ob _, h => by simp [scalarA] at h
  | .vw _ _ _, h => by simp [scalarA] at h
  | .ptr _ _, h => by simp [scalarA] at h
  | .ep _ _ _, h => by simp [scalarA] at h
  | .fp _, h => by simp [scalarA] at h
  | .fn _ _ _, h => by simp [scalarA] at h
  | .junk, h => by simp [scalarA] at h
theorem scalarL_refs : ∀ (l : List AV), scalarL l = true → refsInL (fun _ => false) l = true
  | [], _ => rfl
  | x :: l, h => by
    simp only [scalarL, Bool.and_eq_true] at h
    simp only [refsInL, Bool.and_eq_true]
    exact ⟨scalar_refs x h.1, scalarL_refs l h.2⟩
end
theorem scalarL_get : ∀ {l : List AV} {i : Nat} {x : AV}, scalarL l = true → l[i]? = some x → scalarA x = true
  | [], i, x, _, h => by simp at h
  | y :: l, i, x, hs, h => by
    simp only [scalarL, Bool.and_eq_true] at hs
    cases i with
    | zero => simp at h; subst h; exact hs.1
    | succ i => exact scalarL_get hs.2 (by simpa using h)
theorem scalar_rep {μ μ' : Nat → Value} {H H' : AHeap} {w w' : World} {ok ok' : Nat → Prop} {x : AV} {v : Value} (h : Rep μ H w ok x v) : scalarA x = true → Rep μ' H' w' ok' x v := by
  induction h with
  | fz h => intro hs; cases h with
    | sc h => exact .fz (.sc h)
    | nil => simp [scalarA] at hs
    | mp => simp [scalarA] at hs
    | sl => simp [scalarA] at hs
  | agg hl h h1 ih => intro hs; simp only [scalarA] at hs; exact .agg hl (fun i x hx => ih i x hx (scalarL_get hs hx)) h1
  | tup hl h ih => intro hs; simp only [scalarA] at hs; exact .tup hl (fun i x hx => ih i x hx (scalarL_get hs hx))
  | ifc h ih => intro hs; simp only [scalarA] at hs; exact .ifc (ih hs)
  | dead hx hb hn h1 => intro hs; rename_i x v b; cases x <;> simp [refOf] at hx <;> simp [scalarA] at hs
  | _ => intro hs; simp [scalarA] at hs

/-! ### results -/
section
variable {X : Nat → Prop} {P : Program} {T : Tab} {call : CallF}

theorem loadA_cond {H : AHeap} {g : Bool} {k : Nat} {x v : AV} {hs : List Hint} {c : List Prop} (h : loadA H g k [] x = .val v hs c) : All c := by
  have valO_c : ∀ {y : Option AV}, valO [] y = .val v hs c → All c := by
    intro y hy
    cases y with
    | none => simp [valO] at hy
    | some z => simp [valO] at hy; rw [hy.2.2]; exact trivial
  unfold loadA at h
  split at h
  · split at h
    · exact valO_c h
    · cases h
  · split at h
    · split at h
      · rename_i heq; cases heq
      · split at h
        · exact valO_c h
        · cases h
    · cases h
  · exact valO_c h
  · cases h

def rget (tmps : Array Value) : ResultVar → Sem Value
  | .tmp t => pure (tmps.getD t undef)
  | .cell a t => do loadVar t (← asAddr (tmps.getD a undef))
theorem results_eq (fn : Func) (tmps : Array Value) : results fn tmps = (do let vs ← fn.results.mapM (rget tmps); pure (if h : vs.size = 1 then vs[0] else .tuple vs)) := by
  unfold results
  congr 1

theorem ret1_ok {μ : Nat → Value} {s : St} {a : Act} {w : World} (hR : RelS X μ s a w) {r : ResultVar} {x : AV} (h : ret1 P s r = some x) :
    ∃ v, (rget a.tmps r).run P w = .ok v w ∧ Rep μ s.heap w (Fz X μ s.heap w) x v := by
  cases r with
  | tmp t => simp [ret1] at h; subst h; exact ⟨_, rfl, hR.ctx.tmps t⟩
  | cell a' t =>
    simp only [ret1] at h
    split at h
    · rename_i g k hg hk
      split at h
      · rename_i v hs c hl
        cases h
        obtain ⟨u, h1, h2⟩ := load_ok (P := P) hR.ctx.rel hg hk (hR.ctx.tmps a') hl (loadA_cond hl)
        refine ⟨u, ?_, h2⟩
        simp only [rget]
        generalize a.tmps.getD a' undef = q at h1 ⊢
        cases q with
        | pointer p =>
          cases p with
          | none => simp [Instr.loadAt, Instr.sureAddr] at h1
          | some ad => simpa [Instr.loadAt, Instr.sureAddr, asAddr] using h1
        | _ => simp [Instr.loadAt, Instr.sureAddr] at h1
      · cases h
    · cases h

theorem retL_ok {μ : Nat → Value} {s : St} {a : Act} {w : World} (hR : RelS X μ s a w) : ∀ {rs : List ResultVar} {l : List AV}, retL P s rs = some l →
    ∃ vs : List Value, (rs.mapM (rget a.tmps)).run P w = .ok vs w ∧ vs.length = l.length ∧ ∀ (i : Nat) (x : AV), l[i]? = some x → Rep μ s.heap w (Fz X μ s.heap w) x (vs.getD i undef)
  | [], l, h => by simp [retL] at h; subst h; exact ⟨[], rfl, rfl, fun i x hx => by simp at hx⟩
  | r :: rs, l, h => by
    simp only [retL] at h
    split at h
    · rename_i x l' hx hl
      cases h
      obtain ⟨v, h1, h2⟩ := ret1_ok (P := P) hR hx
      obtain ⟨vs, h3, h4, h5⟩ := retL_ok hR hl
      refine ⟨v :: vs, ?_, by simp [h4], fun i y hy => ?_⟩
      · simp only [List.mapM_cons, Sem.run_bind]
        rw [h1]
        simp only [Result.andThen_ok, Sem.run_bind]
        rw [h3]
        rfl
      · cases i with
        | zero => simp at hy; subst hy; simpa using h2
        | succ i => simpa using h5 i y (by simpa using hy)
    · cases h

theorem retOf_ok {μ : Nat → Value} {s : St} {a : Act} {w : World} (hR : RelS X μ s a w) {fn : Func} {x : AV} (h : retOf P fn s = some x) :
    ∃ v, (results fn a.tmps).run P w = .ok v w ∧ Rep μ s.heap w (Fz X μ s.heap w) x v := by
  unfold retOf at h
  have run : ∀ {vs : List Value}, (fn.results.toList.mapM (rget a.tmps)).run P w = .ok vs w →
      (results fn a.tmps).run P w = .ok (if h : vs.toArray.size = 1 then vs.toArray[0] else .tuple vs.toArray) w := by
    intro vs hv
    rw [results_eq, Array.mapM_eq_mapM_toList]
    simp only [Sem.run_bind, Sem.run_map]
    rw [hv]
    rfl
  split at h
  · rename_i y hy
    cases h
    obtain ⟨vs, h1, h2, h3⟩ := retL_ok hR hy
    have := run h1
    match vs, h2 with
    | [v], _ =>
      refine ⟨v, by simpa using this, by simpa using h3 0 x rfl⟩
  · rename_i l hne hl
    cases h
    obtain ⟨vs, h1, h2, h3⟩ := retL_ok hR hl
    have := run h1
    have hlen : ¬ vs.length = 1 := fun e => by
      match l, h2 with
      | [y], _ => exact hne y rfl
      | [], h2 => rw [e] at h2; cases h2
      | _ :: _ :: _, h2 => rw [e] at h2; simp at h2
    refine ⟨.tuple vs.toArray, by simpa [hlen] using this, .tup (by simpa using h2) (fun i x hx => by simpa [Array.getD_eq_getD_getElem?, List.getD_eq_getElem?_getD] using h3 i x hx)⟩
  · cases h

/-! ### bodies -/
theorem Keep.rep {N : Nat} {μ μ' : Nat → Value} {H H' : AHeap} {w w' : World} (k : Keep N μ H w μ' H' w') (hN : N = H.length) {x : AV} {v : Value} (h : Rep μ H w (Fz X μ H w) x v) : Rep μ' H' w' (Fz X μ' H' w') x v := by
  subst hN
  exact h.keep k.len (fun b B' hb hg => k.old b B' hb hg) (fun j hj => ⟨⟨Nat.lt_of_lt_of_le hj.1 k.size, hj.2.1, k.free j hj.1 hj.2.2⟩, k.heap j hj.1 hj.2.2⟩)

theorem getT_append_junk {args : List AV} {n t : Nat} : getT (args ++ List.replicate n .junk) t = getT args t := by
  rw [getT_eq, getT_eq]
  rcases Nat.lt_or_ge t args.length with h | h
  · rw [List.getElem?_append_left h]
  · rw [List.getElem?_append_right h, List.getElem?_eq_none h, List.getElem?_replicate]
    split <;> rfl

theorem runBody_ok (hT : TabOK P T) (hcall : CallOK P call) (hm : P.follows .mixedOrders = true) {n : Nat} {f : FuncId} {args : List AV} {H : AHeap} {base : Nat} (hbase : base ≤ H.length) {hs : List Hint} {r : AV} {s' : St} (h : runBody P T call n f args H base hs = some (r, s')) (hc : All s'.cond)
    {μ : Nat → Value} {w : World} {vs : Array Value} (hR : Rel X μ H w) (hsz : vs.size = args.length) (hargs : ∀ (i : Nat) (x : AV), args[i]? = some x → Rep μ H w (Fz X μ H w) x (vs.getD i undef)) :
    Calls P f vs w (onReturn fun v w' => ∃ μ', Rel X μ' s'.heap w' ∧ Keep base μ H w μ' s'.heap w' ∧ Rep μ' s'.heap w' (Fz X μ' s'.heap w') r v) := by
  unfold runBody at h
  split at h
  · rename_i fn hfn
    split at h
    · rename_i c hbody
      have hstart : RelS X μ { tmps := args ++ List.replicate (fn.ntmps - args.length) .junk, heap := H, base := base, hints := hs, cond := [] } { tmps := vs ++ Array.replicate (fn.ntmps - vs.size) undef, defers := [] } w := by
        refine ⟨⟨hR, fun t => ?_⟩, by simp [hsz], rfl, hbase⟩
        simp only [getT_append_junk]
        rcases Nat.lt_or_ge t args.length with ht | ht
        · have h1 := hargs t args[t] (List.getElem?_eq_getElem ht)
          have e1 : getT args t = args[t] := by rw [getT_eq, List.getElem?_eq_getElem ht]; rfl
          have e2 : (vs ++ Array.replicate (fn.ntmps - vs.size) undef).getD t undef = vs.getD t undef := by
            rw [Array.getD_eq_getD_getElem?, Array.getD_eq_getD_getElem?, Array.getElem?_append_left (by omega)]
          rw [e1, e2]
          exact h1
        · rw [getT_oob ht]
          exact .junk
      have fin : ∀ {e : AExit} (s1 : St), (e = .ret ∨ e = .normal) → aexec P T call n c { tmps := args ++ List.replicate (fn.ntmps - args.length) .junk, heap := H, base := base, hints := hs, cond := [] } = some (e, s1) →
          retOf P fn s1 = some r → s1 = s' → Calls P f vs w (onReturn fun v w' => ∃ μ', Rel X μ' s'.heap w' ∧ Keep base μ H w μ' s'.heap w' ∧ Rep μ' s'.heap w' (Fz X μ' s'.heap w') r v) := by
        intro e s1 he hrun hret hs1
        subst hs1
        obtain ⟨_, hbase, m, hm'⟩ := aexec_ok hT hcall (draw_ok hT hcall hm) n c _ e s1 hrun hc
        refine calls_of_wp hfn hbody (hm' X μ _ w hstart _ (fun μ' a' w' hR' hK => ?_)).wp
        obtain ⟨v, h1, h2⟩ := retOf_ok hR' hret
        have hpost : a'.defers = [] ∧ ∃ v, (results fn a'.tmps).run P w' = .ok v w' ∧ (onReturn fun v w' => ∃ μ', Rel X μ' s1.heap w' ∧ Keep base μ H w μ' s1.heap w' ∧ Rep μ' s1.heap w' (Fz X μ' s1.heap w') r v) (.returned v) w' :=
          ⟨hR'.dfr, v, h1, μ', hR'.ctx.rel, hK, h2⟩
        rcases he with rfl | rfl <;> exact hpost
      split at h
      · rename_i s1 hrun
        split at h
        · rename_i r' hret
          simp only [Option.some.injEq, Prod.mk.injEq] at h
          obtain ⟨rfl, rfl⟩ := h
          exact fin s1 (.inl rfl) hrun hret rfl
        · cases h
      · rename_i s1 hrun
        split at h
        · rename_i r' hret
          simp only [Option.some.injEq, Prod.mk.injEq] at h
          obtain ⟨rfl, rfl⟩ := h
          exact fin s1 (.inr rfl) hrun hret rfl
        · cases h
      · cases h
    · cases h
  · cases h
end
end Go.Proofs.Ai
