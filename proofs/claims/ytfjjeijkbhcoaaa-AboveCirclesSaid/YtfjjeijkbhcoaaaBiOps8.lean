/- The abstract machine, 14: each operation does what the machine says. -/
import Derived.Test.YtfjjeijkbhcoaaaBiMaps
import Derived.Laws.OwnMore
set_option linter.unusedVariables false
set_option linter.unusedSimpArgs false
namespace Go.Proofs.Ai
open Go

theorem run_callFunc {P : Program} {f : FuncId} (h : enters P f = true) (vs : Array Value) (w : World) : (callFunc f vs).run P w = .ok (.enter f vs) w := by
  unfold enters at h
  split at h
  · rename_i fn hf
    simp only [Bool.and_eq_true, Bool.not_eq_true'] at h
    have h1 : ¬ fn.name = "runtime.NumGoroutine" := by simpa using h.2
    have h2 : ¬ fn.body = none := by have := h.1; simp at this; simp [Option.isSome_iff_ne_none] at this; exact this
    simp [callFunc, hf, h1, h2]
  · cases h

def OpPost (P : Program) (X : Nat → Prop) (μ : Nat → Value) (H : AHeap) (w : World) (ts : List AV) (a : Act) (base : Nat) (o : Oper) : AR → Prop
  | .bad => True
  | .val v _ c => All c → ∃ u, (execOp a.eval o).run P w = .ok (.value u) w ∧ Rep μ H w (Fz X μ H w) v u
  | .new B ks _ c => All c → ∃ u w', (execOp a.eval o).run P w = .ok (.value u) w' ∧ Ext w w' ∧ (∀ k, blkOf u = some k → w.heap.size ≤ k) ∧ Made μ (killAll (ts, H) ks).2 w (Fz X μ (killAll (ts, H) ks).2 w) w' u B
  | .put v H' _ c => All c → ∃ w', ((v = .junk ∧ (execOp a.eval o).run P w = .ok .skip w') ∨ ∃ u, (execOp a.eval o).run P w = .ok (.value u) w' ∧ Rep μ H' w' (Fz X μ H' w') v u) ∧ Rel X μ H' w' ∧ Keep H.length μ H w μ H' w' ∧ ∀ x v, Rep μ H w (Fz X μ H w) x v → Rep μ H' w' (Fz X μ H' w') x v
  | .app b B _ c => All c → base ≤ b ∧ ∃ u w', (execOp a.eval o).run P w = .ok (.value u) w' ∧ Rel X (upd μ b u) (setH (subH b .junk H) b (some B)) w' ∧ Keep b μ H w (upd μ b u) (setH (subH b .junk H) b (some B)) w' ∧
      (∀ x v, Rep μ H w (Fz X μ H w) x v → Rep (upd μ b u) (setH (subH b .junk H) b (some B)) w' (Fz X (upd μ b u) (setH (subH b .junk H) b (some B)) w') (subA b .junk x) v) ∧
      Rep (upd μ b u) (setH (subH b .junk H) b (some B)) w' (Fz X (upd μ b u) (setH (subH b .junk H) b (some B)) w') (.own b) u ∧ b < H.length
  | .call f args => enters P f = true → ∃ vs : Array Value, (execOp a.eval o).run P w = .ok (.enter f vs) w ∧ vs.size = args.length ∧ ∀ (i : Nat) (x : AV), args[i]? = some x → Rep μ H w (Fz X μ H w) x (vs.getD i undef)

section
variable {X : Nat → Prop} {μ : Nat → Value} {H : AHeap} {w : World} {P : Program} {T : Tab} {ts : List AV} {a : Act} {base : Nat}

theorem OpPost.valO {o : Oper} {hs : List Hint} {x : Option AV} (h : ∀ v, x = some v → ∃ u, (execOp a.eval o).run P w = .ok (.value u) w ∧ Rep μ H w (Fz X μ H w) v u) : OpPost P X μ H w ts a base o (Ai.valO hs x) := by
  cases x with
  | none => exact trivial
  | some v => exact fun _ => h v rfl

/-- Out of a value lemma: whatever the machine says there. -/
theorem OpPost.of_val {o : Oper} {r : AR} (hn : ∀ B ks hs c, r ≠ .new B ks hs c) (hp : ∀ v H' hs c, r ≠ .put v H' hs c) (ha : ∀ b B hs c, r ≠ .app b B hs c) (hc : ∀ f args, r ≠ .call f args)
    (h : ∀ v hs c, r = .val v hs c → All c → ∃ u, (execOp a.eval o).run P w = .ok (.value u) w ∧ Rep μ H w (Fz X μ H w) v u) : OpPost P X μ H w ts a base o r := by
  cases r with
  | bad => exact trivial
  | val v hs c => exact h v hs c rfl
  | new B ks hs c => exact absurd rfl (hn B ks hs c)
  | put v H' hs c => exact absurd rfl (hp v H' hs c)
  | app b B hs c => exact absurd rfl (ha b B hs c)
  | call f args => exact absurd rfl (hc f args)

/-- Results that are a value, or bad. -/
def valish : AR → Bool
  | .bad | .val _ _ _ => true
  | _ => false
theorem OpPost.of_valish {o : Oper} {r : AR} (hr : valish r = true) (h : ∀ v hs c, r = .val v hs c → All c → ∃ u, (execOp a.eval o).run P w = .ok (.value u) w ∧ Rep μ H w (Fz X μ H w) v u) : OpPost P X μ H w ts a base o r := by
  cases r with
  | bad => exact trivial
  | val v hs c => exact h v hs c rfl
  | _ => simp [valish] at hr
theorem valish_valO (hs : List Hint) (x : Option AV) : valish (Ai.valO hs x) = true := by cases x <;> rfl
theorem valish_load (H : AHeap) (g : Bool) (k : Nat) (hs : List Hint) (x : AV) : valish (loadA H g k hs x) = true := by
  unfold loadA
  repeat' (first | rfl | exact valish_valO _ _ | split)
theorem valish_idx (H : AHeap) (hs : List Hint) (sz : Nat) (x : AV) (i : Int) : valish (idxA H hs sz x i) = true := by
  unfold idxA
  repeat' (first | rfl | split)
theorem valish_slice (H : AHeap) (hs : List Hint) (sz : Nat) (x : AV) (lo hi : Option Int) : valish (sliceA H hs sz x lo hi) = true := by
  unfold sliceA
  repeat' (first | rfl | split | dsimp only)
theorem valish_bin (P : Program) (T : Tab) (H : AHeap) (op : BinOp) (t : TypeId) (hs : List Hint) (x y : AV) : valish (binA P T H op t hs x y) = true := by
  unfold binA
  repeat' (first | rfl | exact valish_valO _ _ | split)
theorem valish_conv (P : Program) (H : AHeap) (s d : TypeId) (hs : List Hint) (x : AV) : valish (convA P H s d hs x) = true := by
  unfold convA
  repeat' (first | rfl | split)

theorem rep_args (h : Ctx X μ H w ts a) (xs : List Operand) : ∀ (i : Nat) (x : AV), (xs.map (evalA ts))[i]? = some x → Rep μ H w (Fz X μ H w) x ((xs.map a.eval).toArray.getD i undef) := by
  intro i x hx
  rw [List.getElem?_map] at hx
  obtain ⟨o, ho, rfl⟩ := Option.map_eq_some_iff.1 hx
  have : ((xs.map a.eval).toArray).getD i undef = a.eval o := by simp [Array.getD_eq_getD_getElem?, ho]
  rw [this]
  exact h.eval o

theorem optI_spec (h : Ctx X μ H w ts a) {lo : Option Operand} {l : Option Int} (hl : optI ts lo = some l) : l = none ∧ lo.map a.eval = none ∨ ∃ k n, l = some n ∧ lo.map a.eval = some (.int k n) := by
  cases lo with
  | none => simp [optI] at hl; subst hl; exact .inl ⟨rfl, rfl⟩
  | some x =>
    simp only [optI] at hl
    split at hl
    · rename_i n hn
      cases hl
      obtain ⟨k, hk⟩ := asI_spec hn
      have := h.eval x
      rw [hk] at this
      obtain ⟨e, _⟩ := rep_sc_inv this
      exact .inr ⟨k, n, rfl, by simp [e]⟩
    · cases hl

theorem RepL.app {ok : Nat → Prop} {l l' : List AV} {vs vs' : Array Value} (hl : vs.size = l.length) (hl' : vs'.size = l'.length) (h : ∀ (i : Nat) (x : AV), l[i]? = some x → Rep μ H w ok x (vs.getD i undef)) (h' : ∀ (i : Nat) (x : AV), l'[i]? = some x → Rep μ H w ok x (vs'.getD i undef)) :
    ∀ (i : Nat) (x : AV), (l ++ l')[i]? = some x → Rep μ H w ok x ((vs ++ vs').getD i undef) := by
  intro i x hx
  rcases Nat.lt_or_ge i l.length with hi | hi
  · rw [List.getElem?_append_left hi] at hx
    have : (vs ++ vs').getD i undef = vs.getD i undef := by
      rw [Array.getD_eq_getD_getElem?, Array.getD_eq_getD_getElem?, Array.getElem?_append_left (by omega)]
    rw [this]; exact h i x hx
  · rw [List.getElem?_append_right hi] at hx
    have : (vs ++ vs').getD i undef = vs'.getD (i - l.length) undef := by
      rw [Array.getD_eq_getD_getElem?, Array.getD_eq_getD_getElem?, Array.getElem?_append_right (by omega), hl]
    rw [this]; exact h' _ x hx

theorem map_two {α β : Type} {f : α → β} {c : Array α} {x y : β} (h : c.toList.map f = [x, y]) : ∃ p q, c = #[p, q] ∧ f p = x ∧ f q = y := by
  match hc : c.toList, h with
  | [], h => simp at h
  | [_], h => simp at h
  | [p, q], h => simp at h; exact ⟨p, q, by apply Array.ext'; exact hc, h.1, h.2⟩
  | _ :: _ :: _ :: _, h => simp at h
theorem map_one {α β : Type} {f : α → β} {c : Array α} {x : β} (h : c.toList.map f = [x]) : ∃ p, c = #[p] ∧ f p = x := by
  match hc : c.toList, h with
  | [], h => simp at h
  | [p], h => simp at h; exact ⟨p, by apply Array.ext'; exact hc, h⟩
  | _ :: _ :: _, h => simp at h

theorem call_ok (h : Ctx X μ H w ts a) (hT : TabOK P T) {o : Oper} {c : Call} {hs : List Hint} (ho : o.op = .call c) : OpPost P X μ H w ts a base o (callA P T ts H base hs c) := by
  have hargs := rep_args h c.args.toList
  unfold callA
  simp only
  split
  · -- len
    rename_i hc
    split
    · rename_i t x ht hx
      obtain ⟨p, hp, rfl⟩ := map_one hx
      have hxr := h.eval p
      have hta : c.argTypes = #[t] := by apply Array.ext'; exact ht
      split
      · rename_i n hu hn
        split
        · rename_i s heq
          intro _
          rw [heq] at hxr
          obtain ⟨e, _⟩ := rep_sc_inv hxr
          refine ⟨.int .i64 s.size, ?_, ?_⟩
          · simp [execOp, ho, resolve, hc, invoke, builtin, Builtin.len_, hta, hp, e, run_underlying hu, goInt]
          · rw [heq] at hn
            rcases lenA_sc hn with ⟨s', hs', rfl⟩ | ⟨_, _, hs', _⟩
            · cases hs'; exact rep_sc rfl
            · cases hs'
        · exact trivial
      · rename_i e n hu hn
        split
        · exact trivial
        · rename_i hns
          intro _
          rcases len_ok h.rel hxr hn with ⟨s, hs', _⟩ | ⟨A, m, cc, e1, rfl, _, _⟩
          · exact absurd hs' (hns s)
          · refine ⟨.int .i64 m, ?_, rep_sc rfl⟩
            simp [execOp, ho, resolve, hc, invoke, builtin, Builtin.len_, hta, hp, e1, run_underlying hu, goInt]
      · exact trivial
    · exact trivial
  · -- append
    rename_i hc
    split
    · rename_i t t' x y ht hxy
      split
      · rename_i htt
        subst htt
        split
        · rename_i e he
          split
          · rename_i i hi
            split
            · rename_i z ys hz hys
              split
              · rename_i hzs
                obtain ⟨p, q, hpq, rfl, rfl⟩ := map_two hxy
                have hx := h.eval p
                have hy := h.eval q
                have hta : c.argTypes = #[t, t] := by apply Array.ext'; exact ht
                have hu := elemOf_spec he
                obtain ⟨A, cc, vals, R⟩ := els_read h.rel hy hys
                have hrun : ∀ {v' : Value} {w' : World}, (Builtin.append_ #[t, t] o.type #[a.eval p, a.eval q]).run P w = .ok v' w' → (execOp a.eval o).run P w = .ok (.value v') w' := by
                  intro v' w' hr
                  simp [execOp, ho, resolve, hc, invoke, builtin, hta, hpq, hr]
                split
                · split
                  · rename_i r c0 hchk
                    intro hc0
                    obtain ⟨h1, h2⟩ := chk_spec hchk hc0
                    rename_i heq _
                    rw [heq] at hx
                    obtain ⟨e1, _⟩ := rep_sc_inv hx
                    obtain ⟨v', w', hr, hext, hb, hm⟩ := app_nil_ok (rty := o.type) h.rel hu hi hz hzs.1 hzs.2 R h1 h2
                    rw [e1] at hrun
                    exact ⟨v', w', hrun hr, hext, hb, hm⟩
                  · exact trivial
                · rename_i b heq
                  split
                  · rename_i ty sz els hb
                    split
                    · rename_i hcond
                      obtain ⟨hbase, rfl, rfl⟩ := hcond
                      split
                      · rename_i r c0 hchk
                        intro hc0
                        obtain ⟨h1, h2⟩ := chk_spec hchk hc0
                        have e1 : a.eval p = μ b := by
                          rw [heq] at hx
                          generalize a.eval p = q at hx
                          cases hx with
                          | own _ hv _ => exact hv
                          | dead hx' _ hd _ => simp [refOf] at hx'; subst hx'; rw [hb] at hd; cases hd
                        obtain ⟨v', w', hr, ⟨hA, hB⟩, hC, hD⟩ := app_ok (t := t) (rty := o.type) (ty := t) h.rel hb hu hi hz hzs.1 hzs.2 R h1 h2
                        rw [e1] at hrun
                        exact ⟨hbase, v', w', hrun hr, hA, hB, hC, hD, getH_lt hb⟩
                      · exact trivial
                    · exact trivial
                  · exact trivial
                · exact trivial
              · exact trivial
            · exact trivial
          · exact trivial
        · exact trivial
      · exact trivial
    · exact trivial
  · -- copy
    rename_i hc
    split
    · rename_i t t' x y ht hxy
      split
      · rename_i e he
        split
        · rename_i i e' hi he'
          split
          · rename_i b ys hys
            split
            · rename_i ty sz els hb
              split
              · rename_i hsz
                subst hsz
                split
                · rename_i r c0 hchk
                  intro hc0
                  have hl := chk_spec hchk hc0
                  obtain ⟨p, q, hpq, hp, rfl⟩ := map_two hxy
                  have hx := h.eval p
                  rw [hp] at hx
                  have hta : c.argTypes = #[t, t'] := by apply Array.ext'; exact ht
                  obtain ⟨A, cc, vals, R⟩ := els_read h.rel (h.eval q) hys
                  have e1 : a.eval p = μ b := by
                    generalize a.eval p = q at hx
                    cases hx with
                    | own _ hv _ => exact hv
                    | dead hx' _ hd _ => simp [refOf] at hx'; subst hx'; rw [hb] at hd; cases hd
                  obtain ⟨w', g1, g2, g3, g4⟩ := copy_ok (t' := t') (ty := o.type) h.rel (elemOf_spec he) hi hb R hl
                  refine ⟨w', .inr ⟨.int .i64 els.length, ?_, rep_sc rfl⟩, g2, g3, g4⟩
                  simp [execOp, ho, resolve, hc, invoke, builtin, hta, hpq, e1, g1]
                · exact trivial
              · exact trivial
            · exact trivial
          · exact trivial
        · exact trivial
      · exact trivial
    · exact trivial
  · exact trivial
  · -- invoke
    rename_i r m hc
    split
    · rename_i t x hr
      split
      · rename_i f hf
        intro he
        have hrr := h.eval r
        rw [hr] at hrr
        obtain ⟨v, ev, hv⟩ := rep_ifc_inv hrr
        refine ⟨#[v] ++ c.args.map a.eval, ?_, by simp; omega, ?_⟩
        · have hm := hT.meth t m f hf v w
          have e0 : (#[Value.iface t v] ++ Array.map a.eval c.args)[0]? = some (.iface t v) := by rw [Array.getElem?_append_left (by simp)]; rfl
          have e1 : (Array.map a.eval c.args).extract 0 c.args.size = Array.map a.eval c.args := by
            apply Array.ext'
            simp only [Array.toList_extract, Array.toList_map, List.extract_eq_take_drop, Nat.sub_zero, List.drop_zero]
            exact List.take_of_length_le (by simp)
          simp [execOp, ho, resolve, hc, invoke, ev, callMethod, hm, run_callFunc he, e0, e1]
        · have := RepL.app (l := [x]) (l' := c.args.toList.map (evalA ts)) (vs := #[v]) (vs' := c.args.map a.eval) rfl (by simp) (fun i y hy => by
            cases i with
            | zero => simp at hy; subst hy; simpa using hv
            | succ i => simp at hy) (fun i y hy => by have := hargs i y hy; simpa using this)
          simpa using this
      · exact trivial
    · exact trivial
  · -- a function value
    rename_i f hc
    split
    · rename_i k first cap hf
      intro he
      have hrr := h.eval f
      rw [hf] at hrr
      have hinv : ∃ as cs : Array Value, a.eval f = .func (.func k) as cs ∧ as.size = first.length ∧ cs.size = cap.length ∧ (∀ (i : Nat) (x : AV), first[i]? = some x → Rep μ H w (Fz X μ H w) x (as.getD i undef)) ∧ (∀ (i : Nat) (x : AV), cap[i]? = some x → Rep μ H w (Fz X μ H w) x (cs.getD i undef)) := by
        generalize a.eval f = q at hrr
        cases hrr with
        | fn ha hc h h' => exact ⟨_, _, rfl, ha, hc, h, h'⟩
        | dead hx => simp [refOf] at hx
      obtain ⟨as, cs, e, h1, h2, h3, h4⟩ := hinv
      refine ⟨as ++ c.args.map a.eval ++ cs, ?_, by simp; omega, ?_⟩
      · simp [execOp, ho, resolve, hc, Deferred.ofValue, e, invoke, run_callFunc he]
      · refine RepL.app (by simp; omega) h2 (RepL.app h1 (by simp) h3 (fun i y hy => by have := hargs i y hy; simpa using this)) h4
    · exact trivial

theorem aop_ok (h : Ctx X μ H w ts a) (hT : TabOK P T) (o : Oper) (hs : List Hint) : OpPost P X μ H w ts a base o (aop P T ts H base hs o) := by
  unfold aop
  simp only
  split
  · -- move
    rename_i x ho
    exact fun _ => ⟨_, by simp [execOp, ho] <;> rfl, h.eval x⟩
  · -- assign
    rename_i x ho
    split
    · rename_i e he
      split
      · rename_i sz hsz
        split
        · rename_i h0
          intro _
          refine ⟨.slice none 0 0, w, by simp [execOp, ho, Act.eval], Ext.refl w, fun k hk => (by simp [blkOf] at hk), ?_⟩
          exact ⟨h0, fun i x hx => (by simp at hx), [], World.ownsRow_nil w 0 e sz, fun i j x f hx => (by simp at hx)⟩
        · exact trivial
      · exact trivial
    · exact fun _ => ⟨_, by simp [execOp, ho] <;> rfl, h.eval _⟩
  · -- pick
    rename_i c x y ho
    have hc := h.eval c
    split
    · rename_i b heq
      rw [heq] at hc
      obtain ⟨e, _⟩ := rep_sc_inv hc
      split
      · rename_i hh r
        intro hb
        have hb := hb.1
        subst hb
        cases b
        · exact ⟨_, by simp [execOp, ho, e, asBool] <;> rfl, h.eval y⟩
        · exact ⟨_, by simp [execOp, ho, e, asBool] <;> rfl, h.eval x⟩
      · split
        · exact fun _ => ⟨_, by simp [execOp, ho, e, asBool] <;> rfl, h.eval x⟩
        · exact fun _ => ⟨_, by simp [execOp, ho, e, asBool] <;> rfl, h.eval y⟩
    · exact trivial
  · -- alloc
    rename_i e ho
    split
    · rename_i z hz
      split
      · rename_i h1
        intro _
        have hm := made_var (rep_zero (μ := μ) (H := H) (w := w) (ok := Fz X μ H w) h1) e
        refine ⟨.pointer (some ⟨w.heap.size, 0, none⟩), _, ?_, alloc_ext w _, fun k hk => by simp [blkOf] at hk; omega, hm⟩
        simp [execOp, ho, Instr.alloc, run_zeroOf hz, newVar, newRow]
      · exact trivial
    · exact trivial
  · -- box
    rename_i e x ho
    split
    · rename_i h1
      intro _
      have hm := made_var (RepL.of_cells (h.eval x) h1) e
      refine ⟨.pointer (some ⟨w.heap.size, 0, none⟩), _, ?_, alloc_ext w _, fun k hk => by simp [blkOf] at hk; omega, hm⟩
      simp [execOp, ho, Instr.box, newVar, newRow]
    · exact trivial
  · -- build
    rename_i t parts ho
    split
    · rename_i z fs hz hfs
      split
      · rename_i h1
        split
        · rename_i cs hcs
          intro _
          have hL := rep_zero (μ := μ) (H := H) (w := w) (ok := Fz X μ H w) h1
          obtain ⟨us, h2, h3⟩ := fill_ok h.eval _ parts.toList _ cs _ hL hcs
          have hrun : (Instr.build t (parts.map fun p => (p.1, a.eval p.2))).run P w = .ok (.agg us.toArray) w := by
            refine run_build w t _ us.toArray ?_
            unfold placesOf at hfs
            split at hfs
            · rename_i fields hu
              unfold zeroOf at hz
              cases hi : P.info? t with
              | none => simp [hi] at hz
              | some it =>
                simp [hi] at hz
                simp only [Program.built, hi, hu, hz, hfs]
                simpa using h2
            · cases hfs
          refine ⟨.agg us.toArray, ?_, .agg (by simpa using h3.1) (fun i x hx => by
            obtain ⟨v, hv, hr, _⟩ := h3.get hx
            have : us.toArray.getD i undef = v := by simp [Array.getD_eq_getD_getElem?, hv]
            rw [this]; exact hr) (fun i hi => by
            have hi' : i < us.length := by simpa using hi
            have : us.toArray.getD i undef = us[i] := by simp [Array.getD_eq_getD_getElem?, hi']
            rw [this]; exact h3.2.2 _ (List.getElem_mem hi'))⟩
          simp only [execOp, ho, Sem.run_bind, hrun, Result.andThen_ok, Sem.run_pure]
        · exact trivial
      · exact trivial
    · exact trivial
  · -- buildSlice
    rename_i t len parts ho
    split
    · rename_i e he
      split
      · rename_i sz hsz
        split
        · rename_i els ks hels
          split
          · rename_i hc
            intro _
            obtain ⟨hpos, h0, hlim, hall, hzz⟩ := hc
            obtain ⟨h1, h2, h3⟩ := elsOf_spec hels
            obtain ⟨g1, g2, g3, g4, g5, g6, g7, g8⟩ := killAll_spec ks (ts := ts) h.rel
            generalize killAll (ts, H) ks = Y at *
            have hdead : ∀ b ∈ ks, getH Y.2 b = none := fun b hb => by
              obtain ⟨ty, s', e', hh⟩ := h3 b hb
              exact g7 b hb _ _ _ hh
            have hlen : parts.toList.length = len := by have := congrArg List.length hpos; simpa using this
            have hel : ∀ (i : Nat) (p : Nat × Operand), parts.toList[i]? = some p → ∃ fs, els[i]? = some fs ∧ fs.length = sz ∧ (a.eval p.2).cells.size = sz ∧ (∀ v ∈ (a.eval p.2).cells.toList, v.oneCell' = true) ∧ ∀ (j : Nat) (f : FV), fs[j]? = some f → RepF w (Fz X μ Y.2 w) f ((a.eval p.2).cells.toList.getD j undef) := by
              intro i p hp
              obtain ⟨fs, ks', e1, e2, e3⟩ := h2 i (cellsA (evalA ts p.2)) (by rw [List.getElem?_map, hp]; rfl)
              have hR := RepL.of_cells (h.eval p.2) (frozenCells_ones e2)
              obtain ⟨f1, f2⟩ := frozen_ok h.rel g8 g6 e2 (fun b hb => hdead b (e3 b hb)) hR
              have hs : fs.length = sz := by
                have := List.all_eq_true.1 hall fs (List.mem_of_getElem? e1)
                simpa using this
              have := hR.1
              simp at this
              exact ⟨fs, e1, hs, by omega, hR.2.2, f2⟩
            obtain ⟨z, hz1, hz2⟩ := Option.map_eq_some_iff.1 hzz
            have hvs : ∀ v ∈ parts.toList.map (fun p => a.eval p.2), v.cells.size = sz := by
              intro v hv
              obtain ⟨p, hp, rfl⟩ := List.mem_map.1 hv
              obtain ⟨i, hi, rfl⟩ := List.getElem_of_mem hp
              obtain ⟨_, _, _, h, _⟩ := hel i _ (List.getElem?_eq_getElem hi)
              exact h
            have hrun := run_buildSlice (P := P) (w := w) (elemOf_spec he) hsz ⟨z, hz1, hz2⟩ h0 hlim (parts.toList.map fun p => a.eval p.2) hvs (by simp [← hlen]) (parts.map fun p => (p.1, a.eval p.2)) (by
              have := parts_zip (parts.toList.map fun p => (p.1, a.eval p.2)) 0 (by simp [Function.comp_def, hpos, hlen])
              simpa [Function.comp_def] using this)
            refine ⟨.slice (some ⟨w.heap.size, 0, none⟩) len len, w.alloc (.cells ((parts.toList.map fun p => a.eval p.2).map (·.cells.toList)).flatten.toArray e), by simp only [execOp, ho, Sem.run_bind, hrun, Result.andThen_ok, Sem.run_pure], alloc_ext w _, fun k hk => (by simp [blkOf] at hk; omega), ?_⟩
            have hvl : ∀ (i : Nat) (x : List Value), ((parts.toList.map fun p => a.eval p.2).map (·.cells.toList))[i]? = some x → x.length = sz := by
              intro i x hx
              rw [List.getElem?_map] at hx
              obtain ⟨v, hv, rfl⟩ := Option.map_eq_some_iff.1 hx
              have := hvs v (List.mem_of_getElem? hv)
              simpa using this
            have hfl := flatten_length _ hvl
            have hel1 : els.length = len := by rw [h1]; simp [← hlen]
            refine ⟨h0, fun i x hx => ?_, ((parts.toList.map fun p => a.eval p.2).map (·.cells.toList)).flatten, ?_, fun i j x f hx hf => ?_⟩
            · have := List.all_eq_true.1 hall x (List.mem_of_getElem? hx)
              simpa using this
            · rw [hel1]
              have := World.ownsRow_lit (base := 0) (e := e) (size := sz) w ((parts.toList.map fun p => a.eval p.2).map (·.cells.toList)).flatten.toArray len (Nat.zero_le _) (by
                have : len * 1 ≤ len * sz := Nat.mul_le_mul_left _ h0
                simp only [maxLen]; omega) (by simpa [hlen] using hfl)
              simpa using this
            · have hi : i < parts.toList.length := by rw [hlen, ← hel1]; exact (List.getElem?_eq_some_iff.1 hx).1
              obtain ⟨fs, e1, e2, e3, e4, e5⟩ := hel i _ (List.getElem?_eq_getElem hi)
              rw [hx] at e1
              cases e1
              have hj : j < (a.eval parts.toList[i].2).cells.toList.length := by
                have := (List.getElem?_eq_some_iff.1 hf).1
                rw [Array.length_toList, e3, ← e2]; exact this
              have := flatten_get _ hvl i j (a.eval parts.toList[i].2).cells.toList _ (by rw [List.getElem?_map, List.getElem?_map, List.getElem?_eq_getElem hi]; rfl) (List.getElem?_eq_getElem hj)
              have h5 := e5 j f hf
              rw [List.getD_eq_getElem?_getD] at h5 ⊢
              rw [List.getElem?_eq_getElem hj] at h5
              rw [this]
              exact h5
          · exact trivial
        · exact trivial
      · exact trivial
    · exact trivial
  · -- load
    rename_i t x ho
    split
    · rename_i g k hg hk
      refine OpPost.of_valish (valish_load _ _ _ _ _) (fun v hs' c hr hc => ?_)
      obtain ⟨u', h1, h2⟩ := load_ok h.rel hg hk (h.eval x) hr hc
      exact ⟨u', by simp [execOp, ho, h1], h2⟩
    · exact trivial
  · -- store
    rename_i t p x ho
    split
    · rename_i k hk
      split
      · rename_i hlen
        have hcase : ∀ r, storeA H (cellsA (evalA ts x)) hs (evalA ts p) = r → OpPost P X μ H w ts a base o r := by
          intro r hr
          cases r with
          | bad => exact trivial
          | put v H' hs' c =>
            intro hAll
            have h1 : ones (cellsA (evalA ts x)) = true := by
              unfold storeA at hr
              split at hr
              · split at hr
                · split at hr
                  · rename_i hc; exact hc.2
                  · cases hr
                · cases hr
              · split at hr
                · split at hr
                  · split at hr
                    · rename_i hc; exact hc.2
                    · cases hr
                  · split at hr
                    · split at hr
                      · rename_i hc; exact hc.2
                      · cases hr
                    · cases hr
                · cases hr
              · cases hr
            obtain ⟨hv, w', h2, h3, h4, h5⟩ := store_ok h.rel (t := t) (by rw [hlen]; exact hk) (h.eval p) (RepL.of_cells (h.eval x) h1) hr hAll
            exact ⟨w', .inl ⟨hv, by simp [execOp, ho, h2]⟩, h3, h4, h5⟩
          | val v hs' c =>
            exfalso
            unfold storeA at hr
            repeat' (first | (cases hr; done) | split at hr)
          | new B ks hs' c =>
            exfalso
            unfold storeA at hr
            repeat' (first | (cases hr; done) | split at hr)
          | app b B hs' c =>
            exfalso
            unfold storeA at hr
            repeat' (first | (cases hr; done) | split at hr)
          | call f args =>
            exfalso
            unfold storeA at hr
            repeat' (first | (cases hr; done) | split at hr)
        exact hcase _ rfl
      · exact trivial
    · exact trivial
  · -- nilCheck
    rename_i x ho
    have hx := h.eval x
    split
    · rename_i b o' heq
      rw [heq] at hx
      split
      · rename_i ty cells hb
        intro _
        have : ∃ ad, a.eval x = .pointer (some ad) := by
          generalize a.eval x = q at hx
          cases hx with
          | ptr => exact ⟨_, rfl⟩
          | dead hx' _ hd _ => simp [refOf] at hx'; subst hx'; rw [hb] at hd; cases hd
        obtain ⟨ad, e⟩ := this
        exact ⟨_, by simp [execOp, ho, e]; rfl, by rw [← e]; exact hx⟩
      · exact trivial
    · rename_i cs heq
      rw [heq] at hx
      intro _
      have : ∃ ad, a.eval x = .pointer (some ad) := by
        generalize a.eval x = q at hx
        cases hx with
        | fp => exact ⟨_, rfl⟩
        | dead hx' _ hd _ => simp [refOf] at hx'
      obtain ⟨ad, e⟩ := this
      exact ⟨_, by simp [execOp, ho, e]; rfl, by rw [← e]; exact hx⟩
    · exact trivial
  · -- binOp
    rename_i op t x y yt ho
    have plain : ∀ hs, OpPost P X μ H w ts a base o (binA P T H op t hs (evalA ts x) (evalA ts y)) := fun hs => by
      refine OpPost.of_valish (valish_bin _ _ _ _ _ _ _ _) (fun v hs' c hr hc => ?_)
      obtain ⟨u, h1, h2⟩ := bin_ok h.rel hT x y (h.eval x) (h.eval y) hr hc
      refine ⟨u, ?_, h2⟩
      simp only [execOp, ho, Sem.run_bind] at h1 ⊢
      rw [h1]
      rfl
    split
    · rename_i op' v r
      split
      · split
        · rename_i u r' c heq
          have := plain r
          rw [heq] at this
          rintro ⟨rfl, hc⟩
          exact this hc
        · exact trivial
      · exact plain _
    · exact plain _
  · -- range
    rename_i t x ho
    have hx := h.eval x
    split
    · rename_i s hu heq
      rw [heq] at hx
      obtain ⟨e, _⟩ := rep_sc_inv hx
      intro _
      refine ⟨.pointer (some ⟨w.heap.size, 0, none⟩), w.alloc (.stringIter s 0), ?_, alloc_ext w _, fun k hk => (by simp [blkOf] at hk; omega), w.heap.size, rfl, heap_alloc_new w _⟩
      simp only [execOp, ho, Instr.range, e, Sem.run_bind, run_underlying hu, Result.andThen_ok]
      rfl
    · exact trivial
  · -- next
    rename_i x str ho
    have hx := h.eval x
    split
    · rename_i b heq
      rw [heq] at hx
      split
      · rename_i s pos hb
        have hv : a.eval x = μ b := by
          generalize a.eval x = q at hx
          cases hx with
          | ob _ hv _ => exact hv
          | dead hx' _ hd _ => simp [refOf] at hx'; subst hx'; rw [hb] at hd; cases hd
        obtain ⟨g, e, hg⟩ := h.rel.blk b _ hb
        split
        · have e : μ b = .pointer (some ⟨g, 0, none⟩) := e
          · rw [e] at hv
            have hgb : blkOf (μ b) = some g := by rw [e]; rfl
            have hget : (getObj g).run P w = .ok (.stringIter s pos) w := by simp [getObj, Sem.run, hg]
            split
            · rename_i hlt
              intro _
              have hset : (setObj g (.stringIter s (pos + (Utf8.decode s pos).2))).run P w = .ok () { w with heap := w.heap.setIfInBounds g (.stringIter s (pos + (Utf8.decode s pos).2)) } := by simp [setObj, Sem.run, hg]
              have hheap : ∀ k, blkOf (μ b) ≠ some k → ({ w with heap := w.heap.setIfInBounds g (.stringIter s (pos + (Utf8.decode s pos).2)) } : World).heap[k]? = w.heap[k]? := fun k hk => by
                have : g ≠ k := fun e' => hk (by rw [hgb, e'])
                simp only
                rw [Array.getElem?_setIfInBounds_ne this]
              have hs : sameKind (.obj (.stringIter s pos)) (.obj (.stringIter s (pos + (Utf8.decode s pos).2)) ) := fun _ => rfl
              have hsz : ({ w with heap := w.heap.setIfInBounds g (.stringIter s (pos + (Utf8.decode s pos).2)) } : World).heap.size = w.heap.size := by simp
              have hlt' : g < w.heap.size := (Array.getElem?_eq_some_iff.1 hg).1
              obtain ⟨p1, p2⟩ := h.rel.setb hb hs hsz rfl ⟨rfl, Nat.le_refl _⟩ rfl hheap ⟨g, e, by simp [hlt']⟩
              refine ⟨_, .inr ⟨.tuple #[.bool true, goInt pos, .int .i32 (Utf8.decode s pos).1], ?_, .tup rfl (fun i y hy => ?_)⟩, p1, p2, fun x v hx => setb_rep hb hs hsz hheap hx⟩
              · simp only [execOp, ho, hv, Instr.next, Sem.run_bind, hget, Result.andThen_ok, hlt, if_true, hset, Sem.run_pure]
              · match i with
                | 0 => simp at hy; subst hy; exact rep_sc rfl
                | 1 => simp at hy; subst hy; exact rep_sc rfl
                | 2 => simp at hy; subst hy; exact rep_sc rfl
                | i + 3 => simp at hy
            · rename_i hge
              intro _
              refine ⟨.tuple #[.bool false], ?_, .tup rfl (fun i y hy => ?_)⟩
              · simp only [execOp, ho, hv, Instr.next, Sem.run_bind, hget, Result.andThen_ok, hge, if_false, Sem.run_pure]
              · match i with
                | 0 => simp at hy; subst hy; exact rep_sc rfl
                | i + 1 => simp at hy
        · exact trivial
      · exact trivial
    · exact trivial
  · -- not
    rename_i t x ho
    have hx := h.eval x
    split
    · rename_i b heq
      rw [heq] at hx
      obtain ⟨e, _⟩ := rep_sc_inv hx
      exact fun _ => ⟨_, by simp [execOp, ho, e, Op.unary] <;> rfl, rep_sc rfl⟩
    · exact trivial
  · -- convert
    rename_i s d x ho
    refine OpPost.of_valish (valish_conv _ _ _ _ _ _) (fun v hs' c hr hc => ?_)
    obtain ⟨u, h1, h2⟩ := conv_ok h.rel (h.eval x) hr hc
    exact ⟨u, by simp [execOp, ho, h1], h2⟩
  · -- makeInterface
    rename_i t x ho
    split
    · exact trivial
    · rename_i d hd hu
      intro _
      refine ⟨.iface t (a.eval x), ?_, .ifc (h.eval x)⟩
      have hd' : ∀ ms, d ≠ .interface ms := fun ms e => hd ms (by rw [← e])
      simp only [execOp, ho, Instr.makeInterface, Sem.run_bind, run_underlying hu, Result.andThen_ok]
      cases d <;> first | rfl | (exact absurd rfl (hd' _))
    · exact trivial
  · -- makeFunc
    rename_i fn first cap ho
    intro _
    refine ⟨.func fn (first.map a.eval) (cap.map a.eval), by simp [execOp, ho, Instr.makeFunc], .fn (by simp) (by simp) (fun i x hx => ?_) (fun i x hx => ?_)⟩
    · have := rep_args h first.toList i x hx; simpa using this
    · have := rep_args h cap.toList i x hx; simpa using this
  · -- makeMap
    rename_i t ho
    split
    · rename_i ht
      intro _
      obtain ⟨k, e, fs, h1, _⟩ := hT.sets t ht
      refine ⟨.map (some w.heap.size), w.alloc (.map #[] 0), ?_, alloc_ext w _, fun k hk => (by simp [blkOf] at hk; omega), w.heap.size, rfl, heap_alloc_new w _⟩
      simp only [execOp, ho, Instr.makeMap, Option.map_none]
      rfl
    · exact trivial
  · -- lookup
    rename_i t x i ho
    split
    · rename_i b k l ht hx hi
      split
      · rename_i es clock hb
        intro hc
        have hxx := h.eval x
        rw [hx] at hxx
        have hii := h.eval i
        rw [hi] at hii
        have ei := rep_pair_inv hii
        have hv : a.eval x = μ b := by
          generalize a.eval x = q at hxx
          cases hxx with
          | ob _ hv _ => exact hv
          | dead hx' _ hd _ => simp [refOf] at hx'; subst hx'; rw [hb] at hd; cases hd
        obtain ⟨g, e, hg⟩ := h.rel.blk b _ hb
        have e : μ b = .map (some g) := e
        refine ⟨.bool (hasKey es k l), ?_, rep_sc rfl⟩
        simp only [execOp, ho, hv, e, ei, Sem.run_bind, run_lookup hT ht hg hc.1 k l, Result.andThen_ok, Sem.run_pure]
      · exact trivial
    · rename_i es clock k l ht hx hi
      intro hc
      have hxx := h.eval x
      rw [hx] at hxx
      have hii := h.eval i
      rw [hi] at hii
      have ei := rep_pair_inv hii
      obtain ⟨g, e, hg⟩ : ∃ g, a.eval x = .map (some g) ∧ w.heap[g]? = some (.map es clock) := by
        generalize a.eval x = q at hxx
        cases hxx with
        | fz hf => cases hf with
          | mp hok hg => exact ⟨_, rfl, hg⟩
        | dead hx' _ hd _ => simp [refOf] at hx'
      refine ⟨.bool (hasKey es k l), ?_, rep_sc rfl⟩
      simp only [execOp, ho, e, ei, Sem.run_bind, run_lookup hT ht hg hc.1 k l, Result.andThen_ok, Sem.run_pure]
    · exact trivial
  · -- mapUpdate
    rename_i t m k v ho
    split
    · rename_i b x y ht hm hk hv
      split
      · rename_i es clock hb
        intro hc
        have hmm := h.eval m
        rw [hm] at hmm
        have hkk := h.eval k
        rw [hk] at hkk
        have ek := rep_pair_inv hkk
        have hvv := h.eval v
        rw [hv] at hvv
        obtain ⟨ev, _⟩ := rep_sc_inv hvv
        have hvm : a.eval m = μ b := by
          generalize a.eval m = q at hmm
          cases hmm with
          | ob _ hv _ => exact hv
          | dead hx' _ hd _ => simp [refOf] at hx'; subst hx'; rw [hb] at hd; cases hd
        obtain ⟨g, e, hg⟩ := h.rel.blk b _ hb
        have e : μ b = .map (some g) := e
        have hgb : blkOf (μ b) = some g := by rw [e]; rfl
        have hlt' : g < w.heap.size := (Array.getElem?_eq_some_iff.1 hg).1
        have hheap : ∀ k, blkOf (μ b) ≠ some k → ({ w with heap := w.heap.setIfInBounds g (.map (putKey es clock x y) (putClock es clock x y)) } : World).heap[k]? = w.heap[k]? := fun k hk => by
          have : g ≠ k := fun e' => hk (by rw [hgb, e'])
          simp only
          rw [Array.getElem?_setIfInBounds_ne this]
        have hs : sameKind (.obj (.map es clock)) (.obj (.map (putKey es clock x y) (putClock es clock x y))) := fun _ => rfl
        have hsz : ({ w with heap := w.heap.setIfInBounds g (.map (putKey es clock x y) (putClock es clock x y)) } : World).heap.size = w.heap.size := by simp
        obtain ⟨p1, p2⟩ := h.rel.setb hb hs hsz rfl ⟨rfl, Nat.le_refl _⟩ rfl hheap ⟨g, e, by simp [hlt']⟩
        refine ⟨_, .inl ⟨rfl, ?_⟩, p1, p2, fun x v hx => setb_rep hb hs hsz hheap hx⟩
        simp only [execOp, ho, hvm, e, ek, ev, Sem.run_bind, run_mapUpdate hT ht hg hc.1 x y, Result.andThen_ok, Sem.run_pure]
      · exact trivial
    · exact trivial
  · -- makeSlice
    rename_i t n m ho
    split
    · rename_i e l l' he hn hm
      split
      · rename_i i z hi hz
        split
        · rename_i hcond
          obtain ⟨h0, hzl, hz1⟩ := hcond
          split
          · rename_i r c0 hchk
            intro hc
            obtain ⟨rfl, hn0, hb, hl⟩ := chk_spec hchk hc
            have hnn := h.eval n
            rw [hn] at hnn
            obtain ⟨en, _⟩ := rep_sc_inv hnn
            have hmm := h.eval m
            rw [hm] at hmm
            obtain ⟨em, _⟩ := rep_sc_inv hmm
            obtain ⟨u, w', g1, g2, g3, g4⟩ := make_ok (μ := μ) (H := H) (w := w) (ok := Fz X μ H w) (elemOf_spec he) hi hz h0 hzl hz1 hn0 hb hl
            exact ⟨u, w', by simp [execOp, ho, en, em, g1], g2, g3, g4⟩
          · exact trivial
        · exact trivial
      · exact trivial
    · exact trivial
  · -- slice
    rename_i t x lo hi ho
    split
    · rename_i l hh hl hhi
      split
      · rename_i r hpop
        unfold popA at hpop
        split at hpop
        · simp only [Option.some.injEq] at hpop
          subst hpop
          split
          · rename_i e b n hu hx
            split
            · rename_i ty sz els hb
              split
              · rename_i hcond
                obtain ⟨hbase, hsz⟩ := hcond
                split
                · rename_i r c0 hchk
                  intro hc
                  obtain ⟨hn0, hn1⟩ := chk_spec hchk hc
                  have hxx := h.eval x
                  rw [hx] at hxx
                  have e1 : a.eval x = μ b := by
                    generalize a.eval x = q at hxx
                    cases hxx with
                    | own _ hv _ => exact hv
                    | dead hx' _ hd _ => simp [refOf] at hx'; subst hx'; rw [hb] at hd; cases hd
                  have elo : lo.map a.eval = none := by
                    rcases optI_spec h hl with ⟨_, e⟩ | ⟨k, m, e, _⟩
                    · exact e
                    · cases e
                  obtain ⟨k, ehi⟩ : ∃ k, hi.map a.eval = some (.int k n) := by
                    rcases optI_spec h hhi with ⟨e, _⟩ | ⟨k, m, e, e'⟩
                    · cases e
                    · cases e; exact ⟨k, e'⟩
                  obtain ⟨v', g1, ⟨g2, g3⟩, g4, g5⟩ := pop_ok (k := k) h.rel hb hu hsz hn0 hn1
                  exact ⟨hbase, v', w, by simp [execOp, ho, e1, elo, ehi, g1], g2, g3, g4, g5, getH_lt hb⟩
                · exact trivial
              · exact trivial
            · exact trivial
          · exact trivial
        · cases hpop
      split
      · rename_i hu
        split
        · rename_i s heq
          refine OpPost.of_valish (valish_slice _ _ _ _ _ _) (fun v hs' c hr hc => ?_)
          have hx := h.eval x
          rw [heq] at hx
          obtain ⟨u, h1, h2⟩ := slice_ok (P := P) h.rel (optI_spec h hl) (optI_spec h hhi) hx hr hc (.inl ⟨hu, s, rfl⟩)
          exact ⟨u, by simp [execOp, ho, h1], h2⟩
        · exact trivial
      · rename_i e hu
        split
        · rename_i sz hsz
          split
          · exact trivial
          · rename_i hns
            refine OpPost.of_valish (valish_slice _ _ _ _ _ _) (fun v hs' c hr hc => ?_)
            obtain ⟨u, h1, h2⟩ := slice_ok (P := P) h.rel (optI_spec h hl) (optI_spec h hhi) (h.eval x) hr hc (.inr ⟨e, hu, hsz, fun s hs' => hns s hs'⟩)
            exact ⟨u, by simp [execOp, ho, h1], h2⟩
        · exact trivial
      · exact trivial
    · exact trivial
  · -- fieldAddr
    rename_i t x f ho
    split
    · rename_i fs hfs
      split
      · rename_i off ft hf
        split
        · rename_i k hk
          split
          · exact trivial
          · rename_i h0
            have hx := h.eval x
            have fin : ∀ {v : AV} {ad : Addr}, a.eval x = .pointer (some ad) → Rep μ H w (Fz X μ H w) v (.pointer (some (ad.add off))) → OpPost P X μ H w ts a base o (.val v hs []) := by
              intro v ad e hr _
              exact ⟨_, by simp [execOp, ho, e, run_field hfs hf hk h0 ad w] <;> rfl, hr⟩
            split
            · rename_i b o' heq
              rw [heq] at hx
              split
              · rename_i B hB
                generalize hq : a.eval x = q at hx fin
                cases hx with
                | ptr hb hg => exact fin rfl (by rw [add_none]; exact .ptr hb hg)
                | dead hx' _ hd _ => simp [refOf] at hx'; subst hx'; rw [hB] at hd; cases hd
              · exact trivial
            · rename_i b i j heq
              rw [heq] at hx
              split
              · rename_i B hB
                generalize hq : a.eval x = q at hx fin
                cases hx with
                | ep hb hi hg => exact fin rfl (by rw [add_none, Nat.add_assoc]; exact .ep hb hi hg)
                | dead hx' _ hd _ => simp [refOf] at hx'; subst hx'; rw [hB] at hd; cases hd
              · exact trivial
            · rename_i cs heq
              rw [heq] at hx
              generalize hq : a.eval x = q at hx fin
              cases hx with
              | fp U hok hcell hrep =>
                refine fin rfl (.fp (fun j => U (off + j)) (by rw [show (Addr.add _ off).block = _ from by unfold Addr.add; split <;> rfl]; exact hok) (fun j f hf' => ?_) (fun j f hf' => ?_))
                · rw [List.getElem?_drop] at hf'; rw [add_add]; exact hcell _ f hf'
                · rw [List.getElem?_drop] at hf'; exact hrep _ f hf'
              | dead hx' _ hd _ => simp [refOf] at hx'
            · exact trivial
        · exact trivial
      · exact trivial
    · exact trivial
  · -- indexAddr
    rename_i t x i ho
    split
    · rename_i e n he hn
      split
      · rename_i sz hsz
        refine OpPost.of_valish (valish_idx _ _ _ _ _) (fun v hs' c hr hc => ?_)
        obtain ⟨k, hk⟩ := asI_spec hn
        have hi := h.eval i
        rw [hk] at hi
        obtain ⟨ei, _⟩ := rep_sc_inv hi
        obtain ⟨u, h1, h2⟩ := idx_ok (P := P) (k := k) h.rel he hsz (h.eval x) hr hc
        exact ⟨u, by simp [execOp, ho, ei, h1], h2⟩
      · exact trivial
    · exact trivial
  · -- index
    rename_i t x i ho
    split
    · rename_i s n hu hx hn
      split
      · rename_i r c0 hchk
        intro hc
        obtain ⟨h0, h1⟩ := chk_spec hchk hc
        obtain ⟨k, hk⟩ := asI_spec hn
        have hi := h.eval i
        rw [hk] at hi
        obtain ⟨ei, _⟩ := rep_sc_inv hi
        have hxx := h.eval x
        rw [hx] at hxx
        obtain ⟨ex, _⟩ := rep_sc_inv hxx
        exact ⟨_, by simp [execOp, ho, ei, ex, run_index_string hu h0 h1] <;> rfl, rep_sc rfl⟩
      · exact trivial
    · exact trivial
  · -- typeAssert
    rename_i x xt at_ ok ho
    split
    · exact trivial
    · rename_i d hd hu
      have hd' : ∀ ms, d ≠ .interface ms := fun ms e => hd ms (by rw [← e])
      split
      · rename_i t v heq
        have hx := h.eval x
        rw [heq] at hx
        obtain ⟨u, e, hv⟩ := rep_ifc_inv hx
        split
        · rename_i hta
          subst hta
          intro _
          cases ok
          · refine ⟨u, ?_, hv⟩
            simp only [execOp, ho, Instr.typeAssert, Sem.run_bind, run_underlying hu, Result.andThen_ok, e]
            cases d <;> first | (simp; done) | (exact absurd rfl (hd' _))
          · refine ⟨.tuple #[u, .bool true], ?_, .tup rfl (fun i y hy => ?_)⟩
            · simp only [execOp, ho, Instr.typeAssert, Sem.run_bind, run_underlying hu, Result.andThen_ok, e]
              cases d <;> first | (simp; done) | (exact absurd rfl (hd' _))
            · match i with
              | 0 => simp at hy; subst hy; simpa using hv
              | 1 => simp at hy; subst hy; simpa using rep_sc rfl
              | i + 2 => simp at hy
        · rename_i hta
          split
          · rename_i hok
            subst hok
            split
            · rename_i z hz
              intro _
              refine ⟨.tuple #[z, .bool false], ?_, .tup rfl (fun i y hy => ?_)⟩
              · simp only [execOp, ho, Instr.typeAssert, Sem.run_bind, run_underlying hu, Result.andThen_ok, e]
                cases d <;> first | (simp [hta, run_zeroOf hz]; done) | (exact absurd rfl (hd' _))
              · match i with
                | 0 => simp at hy; subst hy; simpa using rep_ofValue z
                | 1 => simp at hy; subst hy; simpa using rep_sc rfl
                | i + 2 => simp at hy
            · exact trivial
          · exact trivial
      · exact trivial
    · exact trivial
  · -- extract
    rename_i x i ho
    split
    · rename_i l heq
      refine OpPost.valO (fun v hv => ?_)
      have hx := h.eval x
      rw [heq] at hx
      have : ∃ vs : Array Value, a.eval x = .tuple vs ∧ vs.size = l.length ∧ ∀ (i : Nat) (x : AV), l[i]? = some x → Rep μ H w (Fz X μ H w) x (vs.getD i undef) := by
        generalize a.eval x = q at hx
        cases hx with
        | tup hl h => exact ⟨_, rfl, hl, h⟩
        | dead hx' => simp [refOf] at hx'
      obtain ⟨vs, e, hl, hv'⟩ := this
      have hi : i < vs.size := by rw [hl]; exact (List.getElem?_eq_some_iff.1 hv).1
      refine ⟨vs.getD i undef, ?_, hv' i v hv⟩
      simp [execOp, ho, e, Instr.extract, Array.getElem?_eq_getElem hi, Array.getD_eq_getD_getElem?]
    · exact trivial
  · -- call
    rename_i c ho
    exact call_ok h hT ho
  · exact trivial
end
end Go.Proofs.Ai
