/- The abstract machine, 21: calls are sound, to the end. -/
import Derived.Test.YtfjjeijkbhcoaaaBiCall
set_option linter.unusedVariables false
set_option linter.unusedSimpArgs false
namespace Go.Proofs.Ai
open Go

def noVals : Nat → Value := fun _ => undef

def PureOK (P : Program) (Γ : PureT) : Prop := ∀ f as r fresh c, Γ f as = some (r, fresh, c) → All c → ∀ (ok : Nat → Prop) (w : World) (vs : Array Value), (∀ k, ok k → k < w.heap.size) → vs.size = as.length →
  (∀ (i : Nat) (x : AV), as[i]? = some x → Rep noVals [] w ok x (vs.getD i undef)) →
  Calls P f vs w (onReturn fun v w' => Ext w w' ∧ Rep noVals [] w' (fun k => k < w'.heap.size ∧ (w.heap.size ≤ k ∨ (fresh = false ∧ ok k))) r v)

def HeapOK (P : Program) (Δ : HeapT) : Prop := ∀ f args H r H' c, Δ f args H = some (r, H', c) → All c → ∀ (X : Nat → Prop) (μ : Nat → Value) (w : World) (vs : Array Value), Rel X μ H w → vs.size = args.length →
  (∀ (i : Nat) (x : AV), args[i]? = some x → Rep μ H w (Fz X μ H w) x (vs.getD i undef)) →
  Calls P f vs w (onReturn fun v w' => ∃ μ', Rel X μ' H' w' ∧ Keep H.length μ H w μ' H' w' ∧ Rep μ' H' w' (Fz X μ' H' w') r v)

section
variable {X : Nat → Prop} {P : Program} {T : Tab} {μ : Nat → Value} {H : AHeap} {w w' : World}

theorem Rep.ofNil {μ1 : Nat → Value} {ok ok' : Nat → Prop} {x : AV} {v : Value} (h : Rep μ1 [] w ok x v) (hk : ∀ k, ok k → ok' k) : Rep μ H w ok' x v :=
  h.keep (Nat.zero_le _) (fun b B' hb _ => absurd hb (Nat.not_lt_zero _)) (fun k h' => ⟨hk k h', rfl⟩)

/-- What a callee that gets frozen arguments may not touch. -/
def shut (X : Nat → Prop) (μ : Nat → Value) (H : AHeap) (ks : List Nat) (k : Nat) : Prop := X k ∨ ∃ b B, getH H b = some B ∧ blkOf (μ b) = some k ∧ b ∉ ks

theorem shut_lt (h : Rel X μ H w) {ks : List Nat} {k : Nat} (hk : shut X μ H ks k) : k < w.heap.size := by
  rcases hk with hk | ⟨b, B, hb, e, _⟩
  · exact h.xlt k hk
  · exact h.lt hb e

/-- Nothing stays taken by the rows that have died. -/
theorem shut_fz (h : Rel X μ H w) (e : Ext w w') {ks : List Nat} {H1 : AHeap} (hsub : ∀ c B', getH H1 c = some B' → ∃ B, getH H c = some B ∧ sameKind B B') (hdead : ∀ b ∈ ks, getH H1 b = none) {k : Nat} (hk : k < w'.heap.size ∧ ¬ shut X μ H ks k) : Fz X μ H1 w' k := by
  refine ⟨hk.1, fun hX => hk.2 (.inl hX), ?_⟩
  rintro ⟨b, B, hb, e⟩
  obtain ⟨B0, hB0, _⟩ := hsub b B hb
  refine hk.2 (.inr ⟨b, B0, hB0, e, fun hm => ?_⟩)
  rw [hdead b hm] at hb
  cases hb

theorem killAll_push : ∀ (ks : List Nat) (ts : List AV) (H : AHeap) (ty sz : Nat) (els : List (List FV)), (∀ b ∈ ks, b < H.length) → killAll (ts, H ++ [some (.row ty sz els)]) ks = ((killAll (ts, H) ks).1, (killAll (ts, H) ks).2 ++ [some (.row ty sz els)])
  | [], ts, H, ty, sz, els, _ => rfl
  | b :: ks, ts, H, ty, sz, els, hb => by
    have hlt := hb b List.mem_cons_self
    have subH_app : ∀ (H : AHeap) (r : AV), subH b r (H ++ [some (.row ty sz els)]) = subH b r H ++ [some (.row ty sz els)] := by
      intro H r
      induction H with
      | nil => rfl
      | cons x H ih => simp only [List.cons_append, subH, ih]
    have setH_app : ∀ (H : AHeap) (b : Nat) (v x : Option Blk), b < H.length → setH (H ++ [x]) b v = setH H b v ++ [x] := by
      intro H
      induction H with
      | nil => intro b v x h; simp at h
      | cons y H ih =>
        intro b v x h
        cases b with
        | zero => rfl
        | succ b => simp only [List.cons_append, setH, ih b v x (by simpa using h)]
    have hk1 : kill1 (ts, H ++ [some (.row ty sz els)]) b = ((kill1 (ts, H) b).1, (kill1 (ts, H) b).2 ++ [some (.row ty sz els)]) := by
      unfold kill1
      simp only [getH_append_old hlt]
      cases getH H b with
      | none => rfl
      | some B =>
        cases B with
        | var => rfl
        | obj => rfl
        | row ty' sz' els' =>
          simp only
          rw [subH_app, setH_app _ _ _ _ (by rw [subH_length]; exact hlt)]
    show killAll (kill1 _ b) ks = _
    rw [hk1]
    have hl : (kill1 (ts, H) b).2.length = H.length := by
      unfold kill1
      simp only
      split
      · simp [length_setH, subH_length]
      · rfl
    exact killAll_push ks _ _ ty sz els (fun c hc => by rw [hl]; exact hb c (List.mem_cons_of_mem _ hc))

/-- A frozen result, the heap as it was; the rows among the arguments dead where the result may lie in them. -/
theorem post_frozen (hR : Rel X μ H w) {args : List AV} {as : List AV} (hsnap : snapL H args = some as) {r : AV} {hs : List Hint} {c : List Prop} {v : Value} {μ1 : Nat → Value} (e : Ext w w') (hr : Rep μ1 [] w' (fun k => k < w'.heap.size ∧ ¬ shut X μ H (rowsOfL args) k) r v)
    {q : Bool} (hq : q = true → ((rowsOfL args).isEmpty || scalarA r) = true ∨ Rep μ1 [] w' (fun k => k < w'.heap.size ∧ w.heap.size ≤ k) r v) :
    CallPost X μ H w (if q = true then { r, H, kills := [], hs, c, quiet := true } else { r, H, kills := rowsOfL args, hs, c, quiet := false }) v w' := by
  have hrows := snapL_rows args hsnap
  have hR' := hR.ext e
  cases q with
  | true =>
    simp only [if_true]
    refine ⟨μ, fun ts => ⟨hR', Keep.ext e (Nat.le_refl _), fun t v hv => hv.ext e, ?_, rfl⟩, fun _ => ⟨rfl, rfl, rfl, e⟩⟩
    simp only [killAll]
    rcases hq rfl with h | h
    · simp only [Bool.or_eq_true] at h
      rcases h with h | h
      · refine hr.ofNil (fun k hk => shut_fz (ks := rowsOfL args) hR e (fun c B' hc => ⟨B', hc, sameKind.refl _⟩) (fun b hb => ?_) hk)
        rw [List.isEmpty_iff.1 h] at hb
        cases hb
      · exact scalar_rep hr h
    · refine h.ofNil (fun k hk => ⟨hk.1, fun hX => ?_, fun ht => ?_⟩)
      · have := hR.xlt k hX; omega
      · have := hR.taken_lt ht; omega
  | false =>
    simp only [Bool.false_eq_true, if_false]
    refine ⟨μ, fun ts => ?_, fun h => by cases h⟩
    obtain ⟨g1, g2, g3, g4, g5, g6, g7, g8⟩ := killAll_spec (rowsOfL args) (ts := ts) hR'
    refine ⟨g1, (Keep.ext e (Nat.le_refl _)).trans g2, fun t v hv => g3 t v (hv.ext e), ?_, g4⟩
    refine hr.ofNil (fun k hk => shut_fz hR e g6 (fun b hb => ?_) hk)
    obtain ⟨ty, sz, els, hb'⟩ := hrows b hb
    exact g7 b hb _ _ _ hb'

theorem Rel.shutNil (hR : Rel X μ H w) (ks : List Nat) (μ1 : Nat → Value) : Rel (shut X μ H ks) μ1 [] w :=
  ⟨fun k hk => shut_lt hR hk, fun b B k h => by cases b <;> simp [getH] at h, fun b b' B B' k h => by cases b <;> simp [getH] at h, fun b B h => by cases b <;> simp [getH] at h⟩
theorem nil_taken {μ1 : Nat → Value} {k : Nat} : ¬ Taken μ1 [] k := by
  rintro ⟨b, B, h, _⟩; cases b <;> simp [getH] at h

/-- The arguments, frozen. -/
theorem args_frozen (hR : Rel X μ H w) {args as : List AV} {vs : Array Value} (hsnap : snapL H args = some as) (hargs : ∀ (i : Nat) (x : AV), args[i]? = some x → Rep μ H w (Fz X μ H w) x (vs.getD i undef)) (μ1 : Nat → Value) :
    ∀ (i : Nat) (x : AV), as[i]? = some x → Rep μ1 [] w (fun k => k < w.heap.size ∧ ¬ shut X μ H (rowsOfL args) k) x (vs.getD i undef) := by
  intro i x hx
  obtain ⟨h1, h2⟩ := snapL_get H hsnap
  have hi : i < args.length := by have := (List.getElem?_eq_some_iff.1 hx).1; omega
  obtain ⟨y, hy, hs⟩ := h2 i args[i] (List.getElem?_eq_getElem hi)
  rw [hx] at hy
  cases hy
  refine snap_ok hR (fun b ty sz els h => h) (fun k hk => ⟨hk.1, by
      rintro (hX | ⟨b, B, hb, e, _⟩)
      · exact hk.2.1 hX
      · exact hk.2.2 ⟨b, B, hb, e⟩⟩) (hargs i _ (List.getElem?_eq_getElem hi)) hs (fun b ty sz els hb hm k hk => ⟨hR.lt hb hk, by
      rintro (hX | ⟨b', B', hb', e, hn⟩)
      · exact hR.notX b _ k hb hk hX
      · have := hR.dis b b' _ _ k hb hb' hk e
        subst this
        exact hn (rowsOfL_mem (List.getElem?_eq_getElem hi) hm)⟩)

theorem keep_ext {μ1 μ' : Nat → Value} {H' : AHeap} (k : Keep 0 μ1 [] w μ' H' w') : Ext w w' :=
  ⟨k.size, k.os, k.tape, k.output, fun i hi => k.heap i hi nil_taken⟩

theorem getH_blank {N b : Nat} {H : AHeap} {B : Blk} (h : getH (blank N H) b = some B) (hN : N ≤ H.length) : N ≤ b ∧ getH H b = some B := by
  unfold blank at h
  rcases Nat.lt_or_ge b N with hb | hb
  · rw [getH_append_old (by simpa using hb), getH_eq, List.getElem?_replicate] at h
    simp [hb] at h
  · rw [getH_append_new (by simpa using hb), getH_eq, List.getElem?_drop] at h
    simp only [List.length_replicate] at h
    rw [show N + (b - N) = b from by omega, ← getH_eq] at h
    exact ⟨hb, h⟩

theorem snapR_ok (hR : Rel X μ H w) {μ' : Nat → Value} {H' : AHeap} {ok' : Nat → Prop} (hok : ∀ k, Fz X μ H w k → ok' k) {x : AV} {v : Value} (h : Rep μ H w (Fz X μ H w) x v) {y : AV} (hs : snapR H x = some y)
    (hb : ∀ b B, getH H b = some B → ∀ k, blkOf (μ b) = some k → ok' k) : Rep μ' H' w ok' y v := by
  unfold snapR at hs
  split at hs
  · rename_i b
    split at hs
    · rename_i es c hob
      cases hs
      obtain ⟨g, e, hg⟩ := hR.blk b _ hob
      have e : μ b = .map (some g) := e
      cases h with
      | ob _ hv _ =>
        rw [hv, e]
        exact .fz (.mp (hb b _ hob g (by rw [e]; rfl)) hg)
      | dead hx _ hn _ => simp [refOf] at hx; subst hx; rw [hob] at hn; cases hn
    · cases hs
  · exact snap_ok hR (fun b ty sz els h => h) hok h hs (fun b ty sz els hb' _ k hk => hb b _ hb' k hk)

theorem trim_ok {N : Nat} {μ' : Nat → Value} {H' : AHeap} (hN : N = H.length) (hR : Rel X μ' H' w') (hK : Keep N μ H w μ' H' w') {r : AV} {v : Value} (hr : Rep μ' H' w' (Fz X μ' H' w') r v) :
    Rel X μ' (trimR N r H').2 w' ∧ Keep N μ H w μ' (trimR N r H').2 w' ∧ Rep μ' (trimR N r H').2 w' (Fz X μ' (trimR N r H').2 w') (trimR N r H').1 v := by
  unfold trimR
  extract_lets p r'
  have hr' : r' = match snap (blank N H') r with
    | some x => x
    | none => r := rfl
  clear_value r'
  by_cases hc : (refsIn p r' && (H'.take N).all (refsInB p)) = true
  · rw [if_pos hc]
    simp only [Bool.and_eq_true, List.all_eq_true] at hc
    obtain ⟨hc1, hc2⟩ := hc
    have hlen : (H'.take N).length = N := by have := hK.len; simp; omega
    have hget : ∀ b B, getH (H'.take N) b = some B → b < N ∧ getH H' b = some B := by
      intro b B h
      have hb := getH_lt h
      rw [hlen] at hb
      rw [getH_eq, List.getElem?_take, if_pos hb, ← getH_eq] at h
      exact ⟨hb, h⟩
    have hleft : Left (H'.take N) H' := ⟨by rw [hlen]; exact hK.len, fun b B h => (hget b B h).2⟩
    have htk : ∀ k, Taken μ' (H'.take N) k → Taken μ' H' k := fun k ⟨b, B, h, e⟩ => ⟨b, B, (hget b B h).2, e⟩
    have hfz : ∀ k, Fz X μ' H' w' k → Fz X μ' (H'.take N) w' k := fun k hk => ⟨hk.1, hk.2.1, fun ht => hk.2.2 (htk k ht)⟩
    have hd := hR.drop hleft (fun b ty cells h => by
      rw [hlen]
      have hm : some (Blk.var ty cells) ∈ H'.take N := by
        rw [getH_eq] at h
        cases hh : (H'.take N)[b]? with
        | none => rw [hh] at h; cases h
        | some q => rw [hh] at h; simp only [Option.join_some] at h; subst h; exact List.mem_of_getElem? hh
      exact hc2 _ hm)
    have hrel : Rel X μ' (H'.take N) w' := by
      refine ⟨hR.xlt, fun b B k h e => hR.notX b B k (hget b B h).2 e, hd.dis, fun b B h => ?_⟩
      have hok : ∀ k, Fz (aside X μ' (H'.take N) H') μ' (H'.take N) w' k → Fz X μ' (H'.take N) w' k := fun k hk => hfz k ((aside_fz hleft k).1 hk)
      have hB := hd.blk b B h
      cases B with
      | var ty cells =>
        obtain ⟨g, cur, e1, e2, e3, e4⟩ := hB
        exact ⟨g, cur, e1, e2, e3, fun i x hx => ⟨(e4 i x hx).1.okIff hok, (e4 i x hx).2⟩⟩
      | row ty sz els =>
        obtain ⟨e1, e2, vals, e3, e4⟩ := hB
        exact ⟨e1, e2, vals, e3, fun i j x f hx hf => (e4 i j x f hx hf).okIff hok⟩
      | obj o => exact BRep.objMove hB rfl (fun _ _ => rfl)
    refine ⟨hrel, ⟨hK.size, hK.os, hK.tape, hK.output, hK.heap, fun k hk hn ht => hK.free k hk hn (htk k ht), by rw [hlen]; exact Nat.le_refl _, fun b B' hb h => hK.old b B' hb (hget b B' h).2⟩, ?_⟩
    split at hr'
    · rename_i x hx
      subst hr'
      refine snap_ok hR (fun b ty sz els h => (getH_blank h hK.len).2) hfz hr hx (fun b ty sz els hb _ k hk => ?_)
      obtain ⟨h1, h2⟩ := getH_blank hb hK.len
      refine ⟨hR.lt h2 hk, hR.notX b _ k h2 hk, ?_⟩
      rintro ⟨b', B', hb', e⟩
      obtain ⟨h3, h4⟩ := hget b' B' hb'
      have := hR.dis b b' _ _ k h2 h4 hk e
      omega
    · rename_i hx
      subst hr'
      refine (hr.drop hleft (fun b B hb => (hR.blk b B hb).one) ?_).okIff hfz
      rw [hlen]
      exact hc1
  · rw [if_neg hc]; exact ⟨hR, hK, hr⟩

theorem acall_ok (hT : TabOK P T) {Γ : PureT} {Δ : HeapT} (hΓ : PureOK P Γ) (hΔ : HeapOK P Δ) (hm : P.follows .mixedOrders = true) : ∀ n, CallOK P (acall P T Γ Δ n)
  | 0 => by intro f args H hs R h; simp [acall] at h
  | n + 1 => by
    have ih := acall_ok hT hΓ hΔ hm n
    intro f args H hs R h
    simp only [acall] at h
    split at h
    · cases h
    · rename_i hent
      refine ⟨by simpa using hent, fun X μ w vs hc hR hsz hargs => ?_⟩
      split at h
      · rename_i r H' c hd
        simp only [Option.some.injEq] at h
        subst h
        refine (hΔ f args H r H' c hd hc X μ w vs hR hsz hargs).mono (fun e w' he => ?_)
        cases e with
        | returned v =>
          obtain ⟨μ', h1, h2, h3⟩ := he
          exact ⟨μ', fun ts => ⟨h1, h2, fun t v hv => h2.rep rfl hv, h3, rfl⟩, fun h => by cases h⟩
        | panicked c => exact he
        | outgrown => exact he
      · split at h
        · rename_i as hsnap
          have hsz' : vs.size = as.length := by rw [(snapL_get H hsnap).1]; exact hsz
          split at h
          · -- known
            rename_i r fresh c0 hg
            have hc0 : All c0 := by
              split at h <;> (simp only [Option.some.injEq] at h; subst h; exact hc)
            have hrun := hΓ f as r fresh c0 hg hc0 (fun k => k < w.heap.size ∧ ¬ shut X μ H (rowsOfL args) k) w vs (fun k hk => hk.1) hsz' (args_frozen hR hsnap hargs noVals)
            have hRq : R = if (fresh || (rowsOfL args).isEmpty || scalarA r) = true then { r, H, kills := [], hs, c := c0, quiet := true } else { r, H, kills := rowsOfL args, hs, c := c0, quiet := false } := by
              split at h <;> rename_i hq
              · rw [if_pos hq]; exact (Option.some.inj h).symm
              · rw [if_neg hq]; exact (Option.some.inj h).symm
            rw [hRq]
            refine hrun.mono (fun e w' he => ?_)
            cases e with
            | returned v =>
              obtain ⟨h1, h2⟩ := he
              refine post_frozen hR hsnap h1 (h2.ofNil (μ := noVals) (fun k hk => ⟨hk.1, fun hs => ?_⟩)) (fun hq => ?_)
              · rcases hk.2 with h | ⟨_, h⟩
                · have := shut_lt hR hs; omega
                · exact h.2 hs
              · simp only [Bool.or_eq_true] at hq
                rcases hq with (hq | hq) | hq
                · exact .inr (h2.ofNil (fun k hk => ⟨hk.1, by rcases hk.2 with h | ⟨h, _⟩; exact h; rw [hq] at h; cases h⟩))
                · exact .inl (by simp [hq])
                · exact .inl (by simp [hq])
            | panicked c => exact he
            | outgrown => exact he
          · split at h
            · rename_i r s' hb
              have hbody := fun hc => runBody_ok (X := shut X μ H (rowsOfL args)) hT ih hm (Nat.le_refl _) hb hc (hR.shutNil (rowsOfL args) noVals) hsz' (fun i x hx => (args_frozen hR hsnap hargs noVals i x hx).okIff (fun k hk => ⟨hk.1, hk.2, nil_taken⟩))
              split at h
              · -- a row kept
                rename_i B hkeep
                simp only [Option.some.injEq] at h
                subst h
                have hkr : keptRow s'.heap r = some B := by
                  split at hkeep
                  · exact hkeep
                  · cases hkeep
                have hrow : ∃ b ty sz els, r = .own b ∧ getH s'.heap b = some (.row ty sz els) ∧ B = .row ty sz els := by
                  cases r with
                  | own b =>
                    simp only [keptRow] at hkr
                    split at hkr
                    · rename_i hh
                      cases hkr
                      exact ⟨b, _, _, _, rfl, hh, rfl⟩
                    · cases hkr
                  | _ => simp [keptRow] at hkr
                obtain ⟨b0, ty, sz, els, rfl, hb0, rfl⟩ := hrow
                refine (hbody hc).mono (fun e w' he => ?_)
                cases e with
                | returned v =>
                  obtain ⟨μ', h1, h2, h3⟩ := he
                  have hv : v = μ' b0 := by
                    cases h3 with
                    | own _ hv _ => exact hv
                    | dead hx _ hn _ => simp [refOf] at hx; subst hx; rw [hb0] at hn; cases hn
                  subst hv
                  have e := keep_ext h2
                  have hrows := snapL_rows args hsnap
                  have hpush : ∀ ts : List AV, killAll (ts, H ++ [some (.row ty sz els)]) (rowsOfL args) = ((killAll (ts, H) (rowsOfL args)).1, (killAll (ts, H) (rowsOfL args)).2 ++ [some (.row ty sz els)]) := fun ts =>
                    killAll_push _ _ _ _ _ _ (fun b hb => by obtain ⟨_, _, _, h⟩ := hrows b hb; exact getH_lt h)
                  have hu : ∀ k, blkOf (μ' b0) = some k → w.heap.size ≤ k := fun k hk => by
                    rcases Nat.lt_or_ge k w.heap.size with hlt | hge
                    · exact absurd ⟨b0, _, hb0, hk⟩ (h2.free k hlt nil_taken)
                    · exact hge
                  refine ⟨upd μ H.length (μ' b0), fun ts => ?_, fun h => by cases h⟩
                  rw [hpush ts]
                  obtain ⟨g1, g2, g3, g4, g5, g6, g7, g8⟩ := killAll_spec (rowsOfL args) (ts := ts) hR
                  generalize killAll (ts, H) (rowsOfL args) = Y at *
                  have hok : ∀ k, Fz (shut X μ H (rowsOfL args)) μ' s'.heap w' k → Fz X (upd μ Y.2.length (μ' b0)) (Y.2 ++ [some (.row ty sz els)]) w' k := by
                    intro k hk
                    refine ⟨hk.1, fun hX => hk.2.1 (.inl hX), ?_⟩
                    rintro ⟨c, B', hc', e'⟩
                    rcases getH_push hc' with ⟨hlt, hc''⟩ | ⟨rfl, _⟩
                    · rw [upd_ne (by omega)] at e'
                      obtain ⟨B0, hB0, _⟩ := g6 c B' hc''
                      refine hk.2.1 (.inr ⟨c, B0, hB0, e', fun hm' => ?_⟩)
                      obtain ⟨_, _, _, hh⟩ := hrows c hm'
                      rw [g7 c hm' _ _ _ hh] at hc''
                      cases hc''
                    · rw [upd_self] at e'
                      exact hk.2.2 ⟨b0, _, hb0, e'⟩
                  have hB : BRep (upd μ Y.2.length (μ' b0)) (Y.2 ++ [some (.row ty sz els)]) w' (Fz X (upd μ Y.2.length (μ' b0)) (Y.2 ++ [some (.row ty sz els)]) w') Y.2.length (.row ty sz els) := by
                    obtain ⟨q1, q2, vals, q3, q4⟩ := h1.blk b0 _ hb0
                    exact ⟨q1, q2, vals, by rw [upd_self]; exact q3, fun i j x f hx hf => (q4 i j x f hx hf).okIff hok⟩
                  obtain ⟨p1, p2⟩ := g1.push e.size e.os e.tape e.output e.heap hu hB
                  have hone : (μ' b0).oneCell' = true := (h1.blk b0 _ hb0).one
                  rw [g5] at p1 p2
                  refine ⟨p1, g2.trans p2, fun t v hv => ?_, ?_, g4⟩
                  · have := push_rep (B := .row ty sz els) g1 e.size e.heap hu (g3 t v hv)
                    rw [g5] at this
                    exact this
                  · exact .own (by rw [← g5]; exact getH_last _ _) (by rw [upd_self]) hone
                | panicked c => exact he
                | outgrown => exact he
              · split at h
                · rename_i r' hsn
                  have hRq : R = if ((rowsOfL args).isEmpty || scalarA r') = true then { r := r', H, kills := [], hs := s'.hints, c := s'.cond, quiet := true } else { r := r', H, kills := rowsOfL args, hs := s'.hints, c := s'.cond, quiet := false } := by
                    split at h <;> rename_i hq
                    · rw [if_pos hq]; exact (Option.some.inj h).symm
                    · rw [if_neg hq]; exact (Option.some.inj h).symm
                  have hc' : All s'.cond := by
                    rw [hRq] at hc
                    split at hc <;> exact hc
                  rw [hRq]
                  refine (hbody hc').mono (fun e w' he => ?_)
                  cases e with
                  | returned v =>
                    obtain ⟨μ', h1, h2, h3⟩ := he
                    refine post_frozen (μ1 := noVals) hR hsnap (keep_ext h2) ?_ (fun hq => .inl hq)
                    exact snapR_ok h1 (fun k hk => ⟨hk.1, hk.2.1⟩) h3 hsn (fun b B hb k hk => ⟨h1.lt hb hk, h1.notX b _ k hb hk⟩)
                  | panicked c => exact he
                  | outgrown => exact he
                · cases h
            · cases h
        · split at h
          · rename_i r s' hb
            simp only [Option.some.injEq] at h
            subst h
            refine (runBody_ok hT ih hm (Nat.le_refl _) hb hc hR hsz hargs).mono (fun e w' he => ?_)
            cases e with
            | returned v =>
              obtain ⟨μ', h1, h2, h3⟩ := he
              obtain ⟨t1, t2, t3⟩ := trim_ok rfl h1 h2 h3
              exact ⟨μ', fun ts => ⟨t1, t2, fun t v hv => t2.rep rfl hv, t3, rfl⟩, fun h => by cases h⟩
            | panicked c => exact he
            | outgrown => exact he
          · cases h
end
end Go.Proofs.Ai
