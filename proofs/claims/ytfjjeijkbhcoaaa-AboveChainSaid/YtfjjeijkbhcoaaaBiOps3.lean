/- The abstract machine, 9: operations: fields, indexes, pieces, two operands, conversions. -/
import Derived.Test.YtfjjeijkbhcoaaaBiOps2
set_option linter.unusedVariables false
set_option linter.unusedSimpArgs false
namespace Go.Proofs.Ai
open Go

theorem add_add (a : Addr) (m n : Nat) : (a.add m).add n = a.add (m + n) := by
  unfold Addr.add
  by_cases hm : m = 0
  · subst hm; simp
  · by_cases hn : n = 0
    · subst hn; simp
    · simp [hm, hn, Nat.add_assoc]

theorem chk_spec {p : Prop} [Decidable p] {hs hs' : List Hint} {c : List Prop} (h : chk p hs = some (hs', c)) (hc : All c) : p := by
  unfold chk at h
  split at h
  · cases h; exact hc.1
  · split at h
    · assumption
    · cases h

theorem asI_spec {x : AV} {n : Int} (h : asI x = some n) : ∃ k, x = .fz (.sc (.int k n)) := by
  unfold asI at h
  split at h
  · cases h; exact ⟨_, rfl⟩
  · cases h

section
variable {X : Nat → Prop} {μ : Nat → Value} {H : AHeap} {w : World} {P : Program}

theorem fieldsOf_spec {t : TypeId} {fs : List (Nat × TypeId)} {f off : Nat} {ft : TypeId} (h : fieldsOf P t = some fs) (hf : fs[f]? = some (off, ft)) : ∃ fields fd, P.underlying t = some (.struct fields) ∧ fields[f]? = some fd ∧ fd.offset = off ∧ fd.type = ft := by
  unfold fieldsOf at h
  split at h
  · rename_i fields hu
    cases h
    rw [List.getElem?_map] at hf
    obtain ⟨fd, hfd, e⟩ := Option.map_eq_some_iff.1 hf
    simp only [Prod.mk.injEq] at e
    exact ⟨fields, fd, hu, by simpa using hfd, e.1, e.2⟩
  · cases h

theorem run_field {t : TypeId} {fs : List (Nat × TypeId)} {f off k : Nat} {ft : TypeId} (h : fieldsOf P t = some fs) (hf : fs[f]? = some (off, ft)) (hk : szOf P ft = some k) (h0 : ¬ k = 0) (ad : Addr) (w : World) :
    (Instr.fieldAt t (.pointer (some ad)) f).run P w = .ok (.pointer (some (ad.add off))) w := by
  obtain ⟨fields, fd, hu, hfd, rfl, rfl⟩ := fieldsOf_spec h hf
  simp [Instr.fieldAt, run_underlying hu, hfd, Instr.sureAddr, fieldPlace, run_szOf hk, h0]

theorem run_indexAt {t e : TypeId} {sz : Nat} (he : elemOf P t = some e) (hsz : szOf P e = some sz) {ad : Addr} {n c : Nat} {k : IntKind} {i : Int} (h0 : 0 ≤ i) (h1 : i < n) (w : World) :
    (Instr.indexAt t (.slice (some ad) n c) (.int k i)).run P w = .ok (.pointer (some (ad.add (i.toNat * sz)))) w := by
  have hu := elemOf_spec he
  simp [Instr.indexAt, asIntOf, run_underlying hu, h0, h1, run_szOf hsz]

theorem idx_ok (h : Rel X μ H w) {t e : TypeId} {sz : Nat} (he : elemOf P t = some e) (hsz : szOf P e = some sz) {hs hs' : List Hint} {x v : AV} {c : List Prop} {u : Value} {k : IntKind} {i : Int}
    (hx : Rep μ H w (Fz X μ H w) x u) (hl : idxA H hs sz x i = .val v hs' c) (hc : All c) : ∃ u', (Instr.indexAt t u (.int k i)).run P w = .ok u' w ∧ Rep μ H w (Fz X μ H w) v u' := by
  have slcase : ∀ {xs : List (List FV)} {y : List FV}, RepF w (Fz X μ H w) (.sl sz xs) u → 0 ≤ i → xs[i.toNat]? = some y → ∃ u', (Instr.indexAt t u (.int k i)).run P w = .ok u' w ∧ Rep μ H w (Fz X μ H w) (.fp y) u' := by
    intro xs y hf h0 hy
    have hlt := (List.getElem?_eq_some_iff.1 hy).1
    cases hf with
    | nil => simp at hy
    | sl U hcap hok hlen hcell hrep =>
      rename_i ad cc
      refine ⟨_, run_indexAt he hsz h0 (by omega) w, .fp (fun j => U i.toNat j) ?_ (fun j f hf' => ?_) (fun j f hf' => hrep _ j y f hy hf')⟩
      · rw [show (ad.add (i.toNat * sz)).block = ad.block from by unfold Addr.add; split <;> rfl]; exact hok
      · rw [add_add]; exact hcell _ j y f hy hf'
  cases hx with
  | fz hf =>
    rename_i f
    cases f with
    | sc v => simp [idxA] at hl
    | mp es cl => simp [idxA] at hl
    | sl sz' xs =>
      simp only [idxA] at hl
      split at hl
      · rename_i hs2
        subst hs2
        split at hl
        · rename_i y r
          simp only [AR.val.injEq] at hl
          obtain ⟨rfl, rfl, rfl⟩ := hl
          exact slcase hf hc.1.1 hc.1.2
        · split at hl
          · rename_i h0
            split at hl
            · rename_i y hy
              simp only [AR.val.injEq] at hl
              obtain ⟨rfl, rfl, rfl⟩ := hl
              exact slcase hf h0 hy
            · cases hl
          · cases hl
      · cases hl
  | own hb hv h1 =>
    rename_i b ty sz' els
    simp only [idxA, hb] at hl
    split at hl
    · rename_i hs2
      subst hs2
      split at hl
      · rename_i r c' hchk
        simp only [AR.val.injEq] at hl
        obtain ⟨rfl, rfl, rfl⟩ := hl
        obtain ⟨h0, h2⟩ := chk_spec hchk hc
        obtain ⟨hsz0, hels, vals, ho, hvv⟩ := h.blk b _ hb
        rcases ho.2 with ⟨e', hn⟩ | ⟨g, cap, cur, e', _, hh, hnc, _⟩
        · omega
        · rw [hv, e']
          refine ⟨_, run_indexAt he hsz h0 h2 w, ?_⟩
          rw [add_none, Nat.zero_add]
          have := Rep.ep (μ := μ) (w := w) (ok := Fz X μ H w) (j := 0) (i := i.toNat) (g := g) hb (by omega) (by rw [e']; rfl)
          simpa using this
      · cases hl
    · cases hl
  | dead hx' hb hd h1 =>
    rename_i b
    cases x <;> simp [refOf] at hx' <;> subst hx' <;> simp [idxA, hd] at hl
  | _ => simp [idxA] at hl

theorem run_sliceBounds {isS : Bool} {n c : Nat} {lo hi : Option Value} {l hh : Int} (hl : lo = none ∧ l = 0 ∨ ∃ k, lo = some (.int k l)) (hhi : hi = none ∧ hh = n ∨ ∃ k, hi = some (.int k hh)) (h0 : 0 ≤ l) (h1 : l ≤ hh) (h2 : hh ≤ n) (hnc : n ≤ c) (w : World) :
    (Instr.sliceBounds isS n c lo hi none).run P w = .ok (l.toNat, hh.toNat, c) w := by
  have hh0 : 0 ≤ hh := by omega
  have e1 : 0 ≤ hh ∧ hh ≤ (c : Int) := ⟨hh0, by omega⟩
  have e2 : 0 ≤ l ∧ l ≤ ((hh.toNat : Nat) : Int) := ⟨h0, by omega⟩
  have e3 : (hh.toNat : Int) = hh := by omega
  rcases hl with ⟨rfl, rfl⟩ | ⟨k, rfl⟩ <;> rcases hhi with ⟨rfl, rfl⟩ | ⟨k', rfl⟩ <;>
    simp [Instr.sliceBounds, Instr.sliceBound, asIntOf, e1, e2, e3, h0, h1, hh0]
  all_goals first
    | rfl
    | (rw [if_pos (by omega)]; rfl)
    | (rw [if_pos ⟨by omega, by omega⟩]; simp)
    | skip

theorem run_slice_slice {t e : TypeId} {sz : Nat} (he : P.underlying t = some (.slice e)) (hsz : szOf P e = some sz) {A : Option Addr} {n c : Nat} {lo hi : Option Value} {l hh : Int}
    (hl : lo = none ∧ l = 0 ∨ ∃ k, lo = some (.int k l)) (hhi : hi = none ∧ hh = n ∨ ∃ k, hi = some (.int k hh)) (h0 : 0 ≤ l) (h1 : l ≤ hh) (h2 : hh ≤ n) (hnc : n ≤ c) (w : World) :
    (Instr.sliceAt t (.slice A n c) lo hi none).run P w = .ok (.slice (if c = l.toNat then A else A.map (·.add (l.toNat * sz))) (hh.toNat - l.toNat) (c - l.toNat)) w := by
  have hb := run_sliceBounds (P := P) (isS := true) hl hhi h0 h1 h2 hnc w
  simp [Instr.sliceAt, run_underlying he, Instr.slice, hb, run_szOf hsz]
theorem run_slice_string {t : TypeId} (he : P.underlying t = some .string) {s : ByteArray} {lo hi : Option Value} {l hh : Int}
    (hl : lo = none ∧ l = 0 ∨ ∃ k, lo = some (.int k l)) (hhi : hi = none ∧ hh = (s.size : Nat) ∨ ∃ k, hi = some (.int k hh)) (h0 : 0 ≤ l) (h1 : l ≤ hh) (h2 : hh ≤ s.size) (w : World) :
    (Instr.sliceAt t (.string s) lo hi none).run P w = .ok (.string (s.extract l.toNat hh.toNat)) w := by
  have hb := run_sliceBounds (P := P) (isS := false) (n := s.size) (c := s.size) hl hhi h0 h1 h2 (Nat.le_refl _) w
  simp [Instr.sliceAt, run_underlying he, Instr.slice, hb]

theorem slice_ok (h : Rel X μ H w) {t : TypeId} {sz : Nat} {hs hs' : List Hint} {x v : AV} {c : List Prop} {u : Value} {lo hi : Option Int} {lv hv : Option Value}
    (hlv : lo = none ∧ lv = none ∨ ∃ k n, lo = some n ∧ lv = some (.int k n)) (hhv : hi = none ∧ hv = none ∨ ∃ k n, hi = some n ∧ hv = some (.int k n))
    (hx : Rep μ H w (Fz X μ H w) x u) (hl : sliceA H hs sz x lo hi = .val v hs' c) (hc : All c)
    (ht : (P.underlying t = some .string ∧ ∃ s, x = .fz (.sc (.string s))) ∨ (∃ e, P.underlying t = some (.slice e) ∧ szOf P e = some sz ∧ ∀ s, x ≠ .fz (.sc (.string s)))) :
    ∃ u', (Instr.sliceAt t u lv hv none).run P w = .ok u' w ∧ Rep μ H w (Fz X μ H w) v u' := by
  unfold sliceA at hl
  cases hlen : lenA H x with
  | none => rw [hlen] at hl; cases hl
  | some n =>
    rw [hlen] at hl
    simp only at hl
    cases hchk : chk (0 ≤ lo.getD 0 ∧ lo.getD 0 ≤ hi.getD n ∧ hi.getD n ≤ n) hs with
    | none => rw [hchk] at hl; cases hl
    | some rc =>
      obtain ⟨r, c0⟩ := rc
      rw [hchk] at hl
      simp only at hl
      generalize hL : lo.getD 0 = l at *
      generalize hHH : hi.getD n = hh at *
      have hlo : lv = none ∧ l = 0 ∨ ∃ k, lv = some (.int k l) := by
        rcases hlv with ⟨rfl, rfl⟩ | ⟨k, m, rfl, rfl⟩
        · exact .inl ⟨rfl, hL.symm⟩
        · simp at hL; subst hL; exact .inr ⟨k, rfl⟩
      have hhi : hv = none ∧ hh = n ∨ ∃ k, hv = some (.int k hh) := by
        rcases hhv with ⟨rfl, rfl⟩ | ⟨k, m, rfl, rfl⟩
        · exact .inl ⟨rfl, hHH.symm⟩
        · simp at hHH; subst hHH; exact .inr ⟨k, rfl⟩
      rcases len_ok h hx hlen with ⟨s, rfl, rfl, rfl⟩ | ⟨A, m, cc, rfl, rfl, hmc, hns⟩
      · rcases ht with ⟨hu, _⟩ | ⟨e, _, _, hne⟩
        · simp only [AR.val.injEq] at hl
          obtain ⟨rfl, rfl, rfl⟩ := hl
          obtain ⟨h0, h1, h2⟩ := chk_spec hchk hc
          exact ⟨_, run_slice_string hu hlo hhi h0 h1 h2 w, rep_sc rfl⟩
        · exact absurd rfl (hne s)
      · rcases ht with ⟨_, s, rfl⟩ | ⟨e, hu, hsz, _⟩
        · exact absurd rfl (hns s)
        · have hrun : ∀ (h0 : 0 ≤ l ∧ l ≤ hh ∧ hh ≤ m), (Instr.sliceAt t (.slice A m cc) lv hv none).run P w = .ok (.slice (if cc = l.toNat then A else A.map (·.add (l.toNat * sz))) (hh.toNat - l.toNat) (cc - l.toNat)) w :=
            fun h0 => run_slice_slice hu hsz hlo hhi h0.1 h0.2.1 h0.2.2 hmc w
          cases hx with
          | fz hf =>
            rename_i f _hns
            cases f with
            | mp es cl => simp [lenA] at hlen
            | sc v0 =>
              obtain ⟨A0, c0', rfl, hn⟩ : ∃ A c, v0 = .slice A 0 c ∧ (m : Int) = 0 := by
                rcases lenA_sc hlen with ⟨s, rfl, _⟩ | h3
                · exact absurd rfl (hns s)
                · exact h3
              have e0 : ∀ h0 : 0 ≤ l ∧ l ≤ hh ∧ hh ≤ (m : Int), l.toNat = 0 ∧ hh.toNat = 0 := fun h0 => ⟨by omega, by omega⟩
              cases hf with
              | sc h1 =>
                split at hl
                · rename_i heq; simp at heq
                · rename_i heq
                  simp only [AV.fz.injEq, FV.sc.injEq, Value.slice.injEq] at heq
                  obtain ⟨rfl, _, rfl⟩ := heq
                  simp only [AR.val.injEq] at hl
                  obtain ⟨rfl, rfl, rfl⟩ := hl
                  have h0 := chk_spec hchk hc
                  obtain ⟨e1, e2⟩ := e0 h0
                  refine ⟨_, hrun h0, ?_⟩
                  rw [e1, e2]
                  exact rep_sc rfl
                · simp only [AR.val.injEq] at hl
                  obtain ⟨rfl, rfl, rfl⟩ := hl
                  have h0 := chk_spec hchk hc
                  obtain ⟨e1, e2⟩ := e0 h0
                  refine ⟨_, hrun h0, ?_⟩
                  rw [e1, e2]
                  exact .fz .nil
                · rename_i heq; simp at heq
                · rename_i heq; simp at heq
                · cases hl
            | sl sz' xs =>
              simp only at hl
              split at hl
              · rename_i hs2
                subst hs2
                simp only [AR.val.injEq] at hl
                obtain ⟨rfl, rfl, rfl⟩ := hl
                have h0 := chk_spec hchk hc
                refine ⟨_, hrun h0, .fz ?_⟩
                have hdl : (hh - l).toNat = hh.toNat - l.toNat := by omega
                cases hf with
                | nil =>
                  simp only [List.drop_nil, List.take_nil]
                  have : hh.toNat - l.toNat = 0 := by have := h0.2.2; simp at this; omega
                  rw [this]
                  exact .nil
                | sl U hcap hok hlens hcell hrep =>
                  rename_i ad
                  by_cases hz : hh.toNat - l.toNat = 0
                  · rw [hdl, hz, List.take_zero]; exact .nil
                  · have hcl : ¬ cc = l.toNat := by omega
                    rw [if_neg hcl, hdl]
                    have hl2 : ((xs.drop l.toNat).take (hh.toNat - l.toNat)).length = hh.toNat - l.toNat := by simp; omega
                    have hget : ∀ {i : Nat} {y : List FV}, ((xs.drop l.toNat).take (hh.toNat - l.toNat))[i]? = some y → xs[l.toNat + i]? = some y := by
                      intro i y hy
                      rw [List.getElem?_take] at hy
                      split at hy
                      · rwa [List.getElem?_drop] at hy
                      · cases hy
                    have := RepF.sl (w := w) (ok := Fz X μ H w) (sz := sz') (xs := (xs.drop l.toNat).take (hh.toNat - l.toNat)) (ad := ad.add (l.toNat * sz')) (c := cc - l.toNat) (fun i j => U (l.toNat + i) j) (by omega)
                      (by rw [show (ad.add (l.toNat * sz')).block = ad.block from by unfold Addr.add; split <;> rfl]; exact hok) (fun i y hy => hlens _ y (hget hy))
                      (fun i j y f hy hf' => by rw [add_add, ← Nat.add_assoc, ← Nat.add_mul]; exact hcell _ j y f (hget hy) hf') (fun i j y f hy hf' => hrep _ j y f (hget hy) hf')
                    rw [hl2] at this
                    exact this
              · cases hl
          | own hb hvb h1 =>
            rename_i b ty sz' els _hns
            simp only [hb] at hl
            split at hl
            · rename_i hs2
              subst hs2
              simp only [AR.val.injEq] at hl
              obtain ⟨rfl, rfl, rfl⟩ := hl
              have h0 := chk_spec hchk hc
              have hm : m = els.length := by simp only [lenA, hb, Option.some.injEq] at hlen; omega
              have hdl : (hh - l).toNat = hh.toNat - l.toNat := by omega
              refine ⟨_, hrun h0, ?_⟩
              rw [hdl]
              refine .vw hb (by omega) (by omega) (fun hpos => ?_)
              have hcl : ¬ cc = l.toNat := by omega
              rw [if_neg hcl]
              obtain ⟨hsz0, hels, vals, ho, hvv⟩ := h.blk b _ hb
              rcases ho.2 with ⟨e', hn⟩ | ⟨g, cap, cur, e', _⟩
              · omega
              · rw [← hvb] at e'
                cases e'
                refine ⟨g, by rw [← hvb]; rfl, ?_⟩
                simp [add_none]
            · cases hl
          | vw hb hm hcc hA => simp at hl
          | dead hx' hb hd h1 =>
            rename_i b _hns
            cases x <;> simp [refOf] at hx' <;> subst hx' <;> simp [lenA, hd] at hlen
          | _ => simp at hl
end
end Go.Proofs.Ai
