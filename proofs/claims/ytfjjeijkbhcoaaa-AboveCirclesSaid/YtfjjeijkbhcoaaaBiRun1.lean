/- The abstract machine, 15: a run in the text's order, sound. -/
import Derived.Test.YtfjjeijkbhcoaaaBiOps8
import Derived.Orders
import Derived.LoopN
set_option linter.unusedVariables false
set_option linter.unusedSimpArgs false
namespace Go.Proofs.Ai
open Go

structure RelS (X : Nat → Prop) (μ : Nat → Value) (s : St) (a : Act) (w : World) : Prop where
  ctx : Ctx X μ s.heap w s.tmps a
  size : a.tmps.size = s.tmps.length
  dfr : a.defers = []
  base : s.base ≤ s.heap.length

/-- What a call leaves. -/
def CallPost (X : Nat → Prop) (μ : Nat → Value) (H : AHeap) (w : World) (R : CallR) (v : Value) (w' : World) : Prop := ∃ μ',
  (∀ ts : List AV, let Y := killAll (ts, R.H) R.kills
    Rel X μ' Y.2 w' ∧ Keep H.length μ H w μ' Y.2 w' ∧ (∀ t v, Rep μ H w (Fz X μ H w) (getT ts t) v → Rep μ' Y.2 w' (Fz X μ' Y.2 w') (getT Y.1 t) v) ∧ Rep μ' Y.2 w' (Fz X μ' Y.2 w') R.r v ∧ Y.1.length = ts.length) ∧
  (R.quiet = true → R.H = H ∧ R.kills = [] ∧ μ' = μ ∧ Ext w w')

def onReturn (R : Value → World → Prop) : Ending → World → Prop
  | .returned v, w => R v w
  | _, _ => False

def CallOK (P : Program) (call : CallF) : Prop := ∀ f args H hs R, call f args H hs = some R → enters P f = true ∧ ∀ (X : Nat → Prop) μ w (vs : Array Value), All R.c → Rel X μ H w → vs.size = args.length →
  (∀ (i : Nat) (x : AV), args[i]? = some x → Rep μ H w (Fz X μ H w) x (vs.getD i undef)) → Calls P f vs w (onReturn (CallPost X μ H w R))

theorem putT_length (ts : List AV) (d : Option Tmp) (v : AV) : (putT ts d v).length = ts.length := by
  cases d <;> simp [putT, length_setT]
theorem put_size (a : Act) (d : Option Tmp) (v : Value) : (a.put d v).tmps.size = a.tmps.size := by
  cases d <;> simp [Act.put]
theorem put_dfr (a : Act) (d : Option Tmp) (v : Value) : (a.put d v).defers = a.defers := by
  cases d <;> rfl
theorem put_getD (a : Act) (d : Option Tmp) (v : Value) (t : Nat) : (a.put d v).tmps.getD t undef = if d = some t ∧ t < a.tmps.size then v else a.tmps.getD t undef := by
  cases d with
  | none => simp [Act.put]
  | some d =>
    simp only [Act.put, Option.some.injEq]
    by_cases h : d = t
    · subst h
      by_cases hs : d < a.tmps.size
      · simp [Array.getD_eq_getD_getElem?, hs]
      · simp [Array.getD_eq_getD_getElem?, hs]
    · simp [Array.getD_eq_getD_getElem?, Array.getElem?_setIfInBounds_ne h, h]
theorem putT_getT (ts : List AV) (d : Option Tmp) (v : AV) (t : Nat) : getT (putT ts d v) t = if d = some t ∧ t < ts.length then v else getT ts t := by
  cases d with
  | none => simp [putT]
  | some d =>
    simp only [putT, Option.some.injEq]
    by_cases h : d = t
    · subst h
      by_cases hs : d < ts.length
      · simp [hs, getT_setT_self hs]
      · have hs' : ts.length ≤ d := Nat.le_of_not_lt hs
        rw [getT_oob (by rw [length_setT]; exact hs'), getT_oob hs']; simp [hs]
    · rw [getT_setT_ne (Ne.symm h)]; simp [h]

theorem put_reps {μ : Nat → Value} {H : AHeap} {w : World} {ok : Nat → Prop} {ts : List AV} {a : Act} (hs : a.tmps.size = ts.length) (h : ∀ t, Rep μ H w ok (getT ts t) (a.tmps.getD t undef)) {x : AV} {v : Value} (hx : Rep μ H w ok x v) (d : Option Tmp) :
    ∀ t, Rep μ H w ok (getT (putT ts d x) t) ((a.put d v).tmps.getD t undef) := by
  intro t
  rw [putT_getT, put_getD, hs]
  split
  · exact hx
  · exact h t

theorem rep_undef {μ : Nat → Value} {H : AHeap} {w : World} {ok : Nat → Prop} : Rep μ H w ok (.tup []) undef := .tup rfl (fun i x hx => by simp at hx)

theorem want_ok {X : Nat → Prop} {μ : Nat → Value} {H : AHeap} {w : World} {ops : Array Oper} {ts : List AV} {a : Act} (h : ∀ t, Rep μ H w (Fz X μ H w) (getT ts t) (a.tmps.getD t undef)) {o : Oper} {b : Bool} (hw : wantA ops ts o = some b) :
    Region.wanted o (yielded ops a.tmps) = b := by
  unfold wantA at hw
  unfold Region.wanted
  split at hw
  · rename_i hg; cases hw; simp [hg]
  · rename_i j want hg
    simp only [hg]
    split at hw
    · rename_i d hd
      split at hw
      · rename_i c hc
        cases hw
        have := h d
        rw [hc] at this
        obtain ⟨e, _⟩ := rep_sc_inv this
        have hlt : d < a.tmps.size := by
          rcases Nat.lt_or_ge d a.tmps.size with h' | h'
          · exact h'
          · rw [Array.getD_eq_getD_getElem?, Array.getElem?_eq_none h'] at e; cases e
        have e' : a.tmps[d]? = some (.bool c) := by
          rw [Array.getD_eq_getD_getElem?, Array.getElem?_eq_getElem hlt] at e
          rw [Array.getElem?_eq_getElem hlt]; simpa using e
        simp only [yielded, hd, Option.bind_some, e']
        cases c <;> cases want <;> rfl
      · rename_i l hl
        cases hw
        have := h d
        rw [hl] at this
        have hv : ∃ vs, a.tmps.getD d undef = .tuple vs := by
          generalize a.tmps.getD d undef = q at this
          cases this with
          | tup => exact ⟨_, rfl⟩
          | dead hx => simp [refOf] at hx
        obtain ⟨vs, e⟩ := hv
        simp only [yielded, hd, Option.bind_some]
        rw [Array.getD_eq_getD_getElem?] at e
        cases hh : a.tmps[d]? with
        | none => rfl
        | some q =>
          rw [hh] at e
          simp only [Option.getD_some] at e
          subst e
          rfl
      · cases hw
    · cases hw

/-- One operation, or its skipping. -/
def astep (P : Program) (T : Tab) (call : CallF) (ops : Array Oper) (s : St) (o : Oper) : Option St :=
  match wantA ops s.tmps o with
  | some true => aop1 P T call s o
  | some false => some { s with tmps := putT s.tmps o.dst (.tup []) }
  | none => none

section
variable {P : Program} {T : Tab} {call : CallF} {ops : Array Oper} {Q : Exit → Act → World → Prop}

theorem aop1_ok (hT : TabOK P T) (hcall : CallOK P call) {o : Oper} {s s' : St} (h : aop1 P T call s o = some s') (hc : All s'.cond) :
    All s.cond ∧ s'.base = s.base ∧ ∀ X μ a w, RelS X μ s a w → ∀ K : Act → World → Prop, (∀ μ' a' w', RelS X μ' s' a' w' → Keep s.base μ s.heap w μ' s'.heap w' → K a' w') → o.wp P a w K Q := by
  unfold aop1 at h
  have post : ∀ X μ a w, RelS X μ s a w → OpPost P X μ s.heap w s.tmps a s.base o (aop P T s.tmps s.heap s.base s.hints o) := fun X μ a w hR => aop_ok hR.ctx hT o s.hints
  split at h
  · rename_i v hs c heq
    simp only [Option.some.injEq] at h
    subst h
    have hc := All_app.1 hc
    refine ⟨hc.2, rfl, fun X μ a w hR K hK => ?_⟩
    have hp := post X μ a w hR
    rw [heq] at hp
    obtain ⟨u, h1, h2⟩ := hp hc.1
    unfold Oper.wp
    rw [h1]
    refine hK μ _ w ⟨⟨hR.ctx.rel, put_reps hR.size hR.ctx.tmps h2 _⟩, by rw [put_size, putT_length]; exact hR.size, by rw [put_dfr]; exact hR.dfr, hR.base⟩ (Keep.refl hR.base)
  · rename_i B ks hs c heq
    simp only [Option.some.injEq] at h
    subst h
    have hc := All_app.1 hc
    refine ⟨hc.2, rfl, fun X μ a w hR K hK => ?_⟩
    have hp := post X μ a w hR
    rw [heq] at hp
    obtain ⟨u, w', h1, h2, h3, h4⟩ := hp hc.1
    obtain ⟨g1, g2, g3, g4, g5, g6, g7, g8⟩ := killAll_spec ks (ts := s.tmps) hR.ctx.rel
    generalize killAll (s.tmps, s.heap) ks = Y at *
    obtain ⟨p1, p2, p3, p4⟩ := g1.push_made h2 h3 h4
    unfold Oper.wp
    rw [h1]
    refine hK _ _ w' ⟨⟨p1, put_reps (by rw [g4]; exact hR.size) (fun t => p3 _ _ (g3 t _ (hR.ctx.tmps t))) p4 _⟩, by rw [put_size, putT_length, g4]; exact hR.size, by rw [put_dfr]; exact hR.dfr, by
      have := hR.base; simp only [List.length_append, g5]; exact Nat.le_add_right_of_le this⟩ ?_
    exact (g2.mono hR.base).trans (p2.mono (by rw [g5]; exact hR.base))
  · rename_i v H hs c heq
    simp only [Option.some.injEq] at h
    subst h
    have hc := All_app.1 hc
    refine ⟨hc.2, rfl, fun X μ a w hR K hK => ?_⟩
    have hp := post X μ a w hR
    rw [heq] at hp
    obtain ⟨w', h1, h2, h3, h4⟩ := hp hc.1
    unfold Oper.wp
    rcases h1 with ⟨rfl, h1⟩ | ⟨u, h1, h5⟩
    · rw [h1]
      exact hK _ _ w' ⟨⟨h2, put_reps hR.size (fun t => h4 _ _ (hR.ctx.tmps t)) .junk _⟩, by rw [put_size, putT_length]; exact hR.size, by rw [put_dfr]; exact hR.dfr, Nat.le_trans hR.base h3.len⟩ (h3.mono hR.base)
    rw [h1]
    exact hK _ _ w' ⟨⟨h2, put_reps hR.size (fun t => h4 _ _ (hR.ctx.tmps t)) h5 _⟩, by rw [put_size, putT_length]; exact hR.size, by rw [put_dfr]; exact hR.dfr, Nat.le_trans hR.base h3.len⟩ (h3.mono hR.base)
  · rename_i b B hs c heq
    simp only [Option.some.injEq] at h
    subst h
    have hc := All_app.1 hc
    refine ⟨hc.2, rfl, fun X μ a w hR K hK => ?_⟩
    have hp := post X μ a w hR
    rw [heq] at hp
    obtain ⟨hb, u, w', h1, h2, h3, h4, h5, h6⟩ := hp hc.1
    unfold Oper.wp
    rw [h1]
    refine hK _ _ w' ⟨⟨h2, put_reps (by rw [subL_length]; exact hR.size) (fun t => by rw [subL_getT]; exact h4 _ _ (hR.ctx.tmps t)) h5 _⟩, by rw [put_size, putT_length, subL_length]; exact hR.size, by rw [put_dfr]; exact hR.dfr, by
      have := hR.base; simp only [length_setH, subH_length]; exact this⟩ (h3.mono hb)
  · rename_i f args heq
    split at h
    · rename_i R hR'
      simp only [Option.some.injEq] at h
      subst h
      obtain ⟨hent, hcl⟩ := hcall _ _ _ _ _ hR'
      have hc := All_app.1 hc
      refine ⟨hc.2, rfl, fun X μ a w hR K hK => ?_⟩
      have hp := post X μ a w hR
      rw [heq] at hp
      obtain ⟨vs, h1, h2, h3⟩ := hp hent
      unfold Oper.wp
      rw [h1, Oper.upon_enter]
      refine (hcl X μ w vs hc.1 hR.ctx.rel h2 h3).mono (fun e w' he => ?_)
      cases e with
      | returned v =>
        obtain ⟨μ', h4, _⟩ := he
        obtain ⟨g1, g2, g3, g4, g5⟩ := h4 s.tmps
        refine hK μ' _ w' ⟨⟨g1, put_reps (by rw [g5]; exact hR.size) (fun t => g3 t _ (hR.ctx.tmps t)) g4 _⟩, by rw [put_size, putT_length, g5]; exact hR.size, by rw [put_dfr]; exact hR.dfr, Nat.le_trans hR.base g2.len⟩ (g2.mono hR.base)
      | panicked c => exact he.elim
      | outgrown => exact he.elim
    · cases h
  · cases h

theorem astep_ok (hT : TabOK P T) (hcall : CallOK P call) {i : Nat} {o : Oper} (ho : ops[i]? = some o) {s s' : St} (h : astep P T call ops s o = some s') (hc : All s'.cond) :
    All s.cond ∧ s'.base = s.base ∧ ∀ X μ a w, RelS X μ s a w → ∀ K : Act → World → Prop, (∀ μ' a' w', RelS X μ' s' a' w' → Keep s.base μ s.heap w μ' s'.heap w' → K a' w') → wpOp P ops Q i K a w := by
  unfold astep at h
  split at h
  · rename_i hw
    obtain ⟨h1, h2, h3⟩ := aop1_ok (Q := Q) hT hcall h hc
    refine ⟨h1, h2, fun X μ a w hR K hK => ?_⟩
    have := want_ok hR.ctx.tmps hw
    simp only [wpOp, ho, this, if_true]
    exact .inl (h3 X μ a w hR K hK)
  · rename_i hw
    simp only [Option.some.injEq] at h
    subst h
    refine ⟨hc, rfl, fun X μ a w hR K hK => ?_⟩
    have := want_ok hR.ctx.tmps hw
    simp only [wpOp, ho, this]
    exact hK μ _ w ⟨⟨hR.ctx.rel, put_reps hR.size hR.ctx.tmps rep_undef _⟩, by rw [put_size, putT_length]; exact hR.size, by rw [put_dfr]; exact hR.dfr, hR.base⟩ (Keep.refl hR.base)
  · cases h

theorem aops_step {o : Oper} {rest : List Oper} {s : St} : aops P T call ops (o :: rest) s = match astep P T call ops s o with
    | some s' => aops P T call ops rest s'
    | none => none := by
  unfold astep
  simp only [aops]
  cases wantA ops s.tmps o with
  | none => rfl
  | some b => cases b <;> rfl

theorem aops_ok (hT : TabOK P T) (hcall : CallOK P call) : ∀ (l : List Nat) (os : List Oper), l.map (ops[·]?) = os.map some → ∀ (s s' : St), aops P T call ops os s = some s' → All s'.cond →
    All s.cond ∧ s'.base = s.base ∧ ∀ X μ a w, RelS X μ s a w → (∀ μ' a' w', RelS X μ' s' a' w' → Keep s.base μ s.heap w μ' s'.heap w' → Q .normal a' w') → wpOps P ops Q l a w
  | [], os, hl, s, s', h, hc => by
    have : os = [] := by cases os <;> simp at hl; rfl
    subst this
    simp [aops] at h
    subst h
    exact ⟨hc, rfl, fun X μ a w hR hQ => hQ μ a w hR (Keep.refl hR.base)⟩
  | i :: l, os, hl, s, s', h, hc => by
    cases os with
    | nil => simp at hl
    | cons o rest =>
      simp only [List.map_cons, List.cons.injEq] at hl
      rw [aops_step] at h
      split at h
      · rename_i s1 h1
        obtain ⟨c1, b1, r1⟩ := aops_ok hT hcall l rest hl.2 s1 s' h hc
        obtain ⟨c0, b0, r0⟩ := astep_ok (Q := Q) hT hcall hl.1 h1 c1
        refine ⟨c0, b1.trans b0, fun X μ a w hR hQ => ?_⟩
        rw [wpOps_cons]
        refine r0 X μ a w hR _ (fun μ1 a1 w1 hR1 k1 => r1 X μ1 a1 w1 hR1 (fun μ2 a2 w2 hR2 k2 => hQ μ2 a2 w2 hR2 ?_))
        rw [b0] at k2
        exact k1.trans k2
      · cases h

def toExit : AExit → Exit
  | .normal => .normal
  | .exit id => .exit id
  | .ret => .ret

/-- Loops by their rounds. -/
def Runs (m : Nat) (P : Program) (Q : Exit → Act → World → Prop) (a : Act) (w : World) : Code → Prop
  | .loop c => Code.rounds P c Q m a w
  | c => c.wp P Q a w
theorem Runs.wp {m : Nat} {a : Act} {w : World} : ∀ {c : Code}, Runs m P Q a w c → c.wp P Q a w := by
  intro c h
  cases c <;> first | exact wp_loop_rounds m h | exact h

/-- Drawn regions are sound (shown elsewhere). -/
def DrawOK (P : Program) (T : Tab) (call : CallF) : Prop := ∀ (id : Nat) (ops : Array Oper) (s s' : St), adraw P T call ops s = some s' → All s'.cond → All s.cond ∧ s'.base = s.base ∧
  ∀ X μ a w, RelS X μ s a w → ∀ Q : Exit → Act → World → Prop, (∀ μ' a' w', RelS X μ' s' a' w' → Keep s.base μ s.heap w μ' s'.heap w' → Q .normal a' w') → (Code.region id ops true).wp P Q a w

theorem aexec_ok (hT : TabOK P T) (hcall : CallOK P call) (hD : DrawOK P T call) : ∀ (n : Nat) (c : Code) (s : St) (e : AExit) (s' : St), aexec P T call n c s = some (e, s') → All s'.cond →
    All s.cond ∧ s'.base = s.base ∧ ∃ m, ∀ X μ a w, RelS X μ s a w → ∀ Q : Exit → Act → World → Prop, (∀ μ' a' w', RelS X μ' s' a' w' → Keep s.base μ s.heap w μ' s'.heap w' → Q (toExit e) a' w') → Runs m P Q a w c
  | 0, c, s, e, s', h, hc => by simp [aexec] at h
  | n + 1, c, s, e, s', h, hc => by
    have ih := aexec_ok hT hcall hD n
    cases c with
    | skip =>
      simp only [aexec, Option.some.injEq, Prod.mk.injEq] at h
      obtain ⟨rfl, rfl⟩ := h
      exact ⟨hc, rfl, 0, fun X μ a w hR Q hQ => wp_skip (hQ μ a w hR (Keep.refl hR.base))⟩
    | region id ops d =>
      simp only [aexec] at h
      split at h
      · rename_i s1 h1
        simp only [Option.some.injEq, Prod.mk.injEq] at h
        obtain ⟨rfl, rfl⟩ := h
        cases d with
        | true =>
          obtain ⟨a1, a2, a3⟩ := hD id ops s s1 (by simpa using h1) hc
          exact ⟨a1, a2, 0, a3⟩
        | false =>
          have hl : (List.range ops.size).map (ops[·]?) = ops.toList.map some := by
            apply List.ext_getElem?
            intro i
            simp only [List.getElem?_map]
            rcases Nat.lt_or_ge i ops.size with hi | hi
            · simp [hi]
            · simp [List.getElem?_eq_none, hi]
          obtain ⟨a1, a2, a3⟩ := aops_ok (Q := fun _ _ _ => True) hT hcall _ _ hl s s1 (by simpa using h1) hc
          refine ⟨a1, a2, 0, fun X μ a w hR Q hQ => wp_region ?_⟩
          exact (aops_ok (Q := Q) hT hcall _ _ hl s s1 (by simpa using h1) hc).2.2 X μ a w hR hQ
      · cases h
    | seq x y =>
      simp only [aexec] at h
      split at h
      · rename_i s1 h1
        obtain ⟨c1, b1, m1, r1⟩ := ih y s1 e s' h hc
        obtain ⟨c0, b0, m0, r0⟩ := ih x s .normal s1 h1 c1
        refine ⟨c0, b1.trans b0, 0, fun X μ a w hR Q hQ => wp_seq (r0 X μ a w hR _ (fun μ1 a1 w1 hR1 k1 => ?_)).wp⟩
        refine (r1 X μ1 a1 w1 hR1 Q (fun μ2 a2 w2 hR2 k2 => hQ μ2 a2 w2 hR2 ?_)).wp
        rw [b0] at k2
        exact k1.trans k2
      · rename_i i s1 h1
        simp only [Option.some.injEq, Prod.mk.injEq] at h
        obtain ⟨rfl, rfl⟩ := h
        obtain ⟨c0, b0, m0, r0⟩ := ih x s _ _ h1 hc
        exact ⟨c0, b0, 0, fun X μ a w hR Q hQ => wp_seq (r0 X μ a w hR (Exit.then (y.wp P Q) Q) (fun μ1 a1 w1 hR1 k1 => hQ μ1 a1 w1 hR1 k1)).wp⟩
      · rename_i s1 h1
        simp only [Option.some.injEq, Prod.mk.injEq] at h
        obtain ⟨rfl, rfl⟩ := h
        obtain ⟨c0, b0, m0, r0⟩ := ih x s _ _ h1 hc
        exact ⟨c0, b0, 0, fun X μ a w hR Q hQ => wp_seq (r0 X μ a w hR (Exit.then (y.wp P Q) Q) (fun μ1 a1 w1 hR1 k1 => hQ μ1 a1 w1 hR1 k1)).wp⟩
      · cases h
    | cond o x y =>
      simp only [aexec] at h
      split at h
      · rename_i b hb
        have hev : ∀ X μ a w, RelS X μ s a w → a.eval o = .bool b := by
          intro X μ a w hR
          have := hR.ctx.eval o
          rw [hb] at this
          exact (rep_sc_inv this).1
        split at h
        · rename_i hh hs hhs
          obtain ⟨c1, b1, m1, r1⟩ := ih _ _ e s' h hc
          refine ⟨c1.2, b1, 0, fun X μ a w hR Q hQ => ?_⟩
          have e1 := hev X μ a w hR
          have e2 : b = hh := c1.1
          rw [e2] at e1
          exact wp_cond e1 (r1 X μ a w ⟨hR.ctx, hR.size, hR.dfr, hR.base⟩ Q hQ).wp
        · split at h
          · obtain ⟨c1, b1, m1, r1⟩ := ih _ _ e s' h hc
            exact ⟨c1, b1, 0, fun X μ a w hR Q hQ => wp_cond (hev X μ a w hR) (r1 X μ a w hR Q hQ).wp⟩
          · obtain ⟨c1, b1, m1, r1⟩ := ih _ _ e s' h hc
            exact ⟨c1, b1, 0, fun X μ a w hR Q hQ => wp_cond (hev X μ a w hR) (r1 X μ a w hR Q hQ).wp⟩
      · cases h
    | block id x =>
      simp only [aexec] at h
      split at h
      · rename_i i s1 h1
        split at h
        · rename_i hi
          simp only [Option.some.injEq, Prod.mk.injEq] at h
          obtain ⟨rfl, rfl⟩ := h
          obtain ⟨c0, b0, m0, r0⟩ := ih x s _ _ h1 hc
          refine ⟨c0, b0, 0, fun X μ a w hR Q hQ => wp_block (r0 X μ a w hR _ (fun μ1 a1 w1 hR1 k1 => ?_)).wp⟩
          have := hQ μ1 a1 w1 hR1 k1
          simpa [toExit, Exit.inBlock, hi] using this
        · rename_i hi
          simp only [Option.some.injEq, Prod.mk.injEq] at h
          obtain ⟨rfl, rfl⟩ := h
          obtain ⟨c0, b0, m0, r0⟩ := ih x s _ _ h1 hc
          refine ⟨c0, b0, 0, fun X μ a w hR Q hQ => wp_block (r0 X μ a w hR _ (fun μ1 a1 w1 hR1 k1 => ?_)).wp⟩
          have := hQ μ1 a1 w1 hR1 k1
          simpa [toExit, Exit.inBlock, hi] using this
      · rename_i s1 h1
        simp only [Option.some.injEq, Prod.mk.injEq] at h
        obtain ⟨rfl, rfl⟩ := h
        obtain ⟨c0, b0, m0, r0⟩ := ih x s _ _ h1 hc
        exact ⟨c0, b0, 0, fun X μ a w hR Q hQ => wp_block (r0 X μ a w hR (Exit.inBlock id Q) (fun μ1 a1 w1 hR1 k1 => hQ μ1 a1 w1 hR1 k1)).wp⟩
      · rename_i s1 h1
        simp only [Option.some.injEq, Prod.mk.injEq] at h
        obtain ⟨rfl, rfl⟩ := h
        obtain ⟨c0, b0, m0, r0⟩ := ih x s _ _ h1 hc
        exact ⟨c0, b0, 0, fun X μ a w hR Q hQ => wp_block (r0 X μ a w hR (Exit.inBlock id Q) (fun μ1 a1 w1 hR1 k1 => hQ μ1 a1 w1 hR1 k1)).wp⟩
      · cases h
    | loop x =>
      simp only [aexec] at h
      split at h
      · rename_i s1 h1
        obtain ⟨c1, b1, m1, r1⟩ := ih (.loop x) s1 e s' h hc
        obtain ⟨c0, b0, m0, r0⟩ := ih x s .normal s1 h1 c1
        refine ⟨c0, b1.trans b0, m1 + 1, fun X μ a w hR Q hQ => ?_⟩
        show Code.rounds P x Q (m1 + 1) a w
        rw [rounds_succ]
        refine (r0 X μ a w hR _ (fun μ1 a1 w1 hR1 k1 => ?_)).wp
        refine r1 X μ1 a1 w1 hR1 Q (fun μ2 a2 w2 hR2 k2 => hQ μ2 a2 w2 hR2 ?_)
        rw [b0] at k2
        exact k1.trans k2
      · rename_i i s1 h1
        simp only [Option.some.injEq, Prod.mk.injEq] at h
        obtain ⟨rfl, rfl⟩ := h
        obtain ⟨c0, b0, m0, r0⟩ := ih x s _ _ h1 hc
        exact ⟨c0, b0, 1, fun X μ a w hR Q hQ => (r0 X μ a w hR (Exit.then (Code.rounds P x Q 0) Q) (fun μ1 a1 w1 hR1 k1 => hQ μ1 a1 w1 hR1 k1)).wp⟩
      · rename_i s1 h1
        simp only [Option.some.injEq, Prod.mk.injEq] at h
        obtain ⟨rfl, rfl⟩ := h
        obtain ⟨c0, b0, m0, r0⟩ := ih x s _ _ h1 hc
        exact ⟨c0, b0, 1, fun X μ a w hR Q hQ => (r0 X μ a w hR (Exit.then (Code.rounds P x Q 0) Q) (fun μ1 a1 w1 hR1 k1 => hQ μ1 a1 w1 hR1 k1)).wp⟩
      · cases h
    | exit id =>
      simp only [aexec, Option.some.injEq, Prod.mk.injEq] at h
      obtain ⟨rfl, rfl⟩ := h
      exact ⟨hc, rfl, 0, fun X μ a w hR Q hQ => wp_exit (hQ μ a w hR (Keep.refl hR.base))⟩
    | ret =>
      simp only [aexec, Option.some.injEq, Prod.mk.injEq] at h
      obtain ⟨rfl, rfl⟩ := h
      exact ⟨hc, rfl, 0, fun X μ a w hR Q hQ => wp_ret (hQ μ a w hR (Keep.refl hR.base))⟩
    | _ => simp [aexec] at h
end
end Go.Proofs.Ai
