/- The abstract machine, 13: append, stores. -/
import Derived.Test.YtfjjeijkbhcoaaaBiOps6
set_option linter.unusedVariables false
set_option linter.unusedSimpArgs false
namespace Go.Proofs.Ai
open Go

theorem blkOf_own {v : Value} (h : ∃ A n c, v = .slice A n c) : blkOf v = v.ownBlock := by
  obtain ⟨A, n, c, rfl⟩ := h
  cases A <;> rfl
theorem ownsRow_slice {w : World} {base : Nat} {e : TypeId} {size n : Nat} {v : Value} {xs : List Value} (h : w.ownsRow base e size v n xs) : ∃ A n c, v = .slice A n c := by
  rcases h.2 with ⟨rfl, _⟩ | ⟨g, cap, cur, rfl, _⟩ <;> exact ⟨_, _, _, rfl⟩

section
variable {X : Nat → Prop} {μ : Nat → Value} {H : AHeap} {w : World} {P : Program}

theorem run_append_empty {t ty e : TypeId} {i : TypeInfo} (ht : P.underlying t = some (.slice e)) (hi : P.info? e = some i) {base : Nat} {v : Value} {n : Nat} {xs : List Value} (hown : w.ownsRow base e i.size v n xs) (c : Nat) :
    (Builtin.append_ #[t, t] ty #[v, .slice none 0 c]).run P w = .ok v w := by
  rcases hown.2 with ⟨rfl, rfl⟩ | ⟨g, cap, cur, rfl, _, _, hnc, _⟩
  · simp [Builtin.append_, run_underlying ht, sizeOf, typeInfo, hi, Builtin.lenOf, Builtin.firstCells]
  · simp [Builtin.append_, run_underlying ht, sizeOf, typeInfo, hi, Builtin.lenOf, Builtin.firstCells, hnc, storeCells]

/-- append: what comes of it. -/
theorem append_run {t ty e : TypeId} {i : TypeInfo} {z : Value} (ht : P.underlying t = some (.slice e)) (hi : P.info? e = some i) (hz : i.zero = some z) (hzs : z.cells.size = i.size) (hsz : 0 < i.size)
    {v : Value} {n : Nat} {xs : List Value} (hown : w.ownsRow 0 e i.size v n xs) {ok : Nat → Prop} {ys : List (List FV)} {u : Value} {A : Option Addr} {c : Nat} {vals : List Value} (R : Reads w ok i.size ys u A c vals)
    (hb : (n + ys.length) * i.bytes ≤ 140737488355328) (hl : n + ys.length ≤ 140737488355328) :
    ∃ v' w', (Builtin.append_ #[t, t] ty #[v, u]).run P w = .ok v' w' ∧ w'.ownsRow 0 e i.size v' (n + ys.length) (xs ++ vals) ∧ w.grownBy w' v.ownBlock ∧ (v'.ownBlock = v.ownBlock ∨ v'.ownBlock = some w.heap.size) := by
  rw [R.val]
  cases hA : A with
  | none =>
    have h0 := R.none hA
    subst h0
    have hv : vals = [] := List.eq_nil_of_length_eq_zero (by rw [R.len]; simp)
    subst hv
    exact ⟨v, w, run_append_empty ht hi hown c, by simpa using hown, ⟨rfl, rfl, rfl, Nat.le_refl _, fun _ _ _ => rfl⟩, .inl rfl⟩
  | some ad =>
    obtain ⟨v', w', h1, h2, h3, _, h5⟩ := run_append_own_at (P := P) w 0 t ty e i z i.size i.bytes ht hi hz rfl rfl hzs hsz v n xs hown ad ys.length c vals R.len (R.cells ad hA) R.ones (by simp only [maxLen]; omega) hb (Nat.zero_le _)
    exact ⟨v', w', h1, h2, h3, h5⟩

theorem vals_append {ok : Nat → Prop} {sz : Nat} {els ys : List (List FV)} {vs vals : List Value} (hl : vs.length = els.length * sz) (hels : ∀ (i : Nat) (x : List FV), els[i]? = some x → x.length = sz)
    (hv : ∀ (i j : Nat) (x : List FV) (f : FV), els[i]? = some x → x[j]? = some f → RepF w ok f (vs.getD (i * sz + j) undef)) (hv' : ∀ (i j : Nat) (x : List FV) (f : FV), ys[i]? = some x → x[j]? = some f → RepF w ok f (vals.getD (i * sz + j) undef)) :
    ∀ (i j : Nat) (x : List FV) (f : FV), (els ++ ys)[i]? = some x → x[j]? = some f → RepF w ok f ((vs ++ vals).getD (i * sz + j) undef) := by
  intro i j x f hx hf
  rcases Nat.lt_or_ge i els.length with hi | hi
  · rw [List.getElem?_append_left hi] at hx
    have hj : j < sz := by rw [← hels i x hx]; exact (List.getElem?_eq_some_iff.1 hf).1
    have hlt := idx_lt hi hj
    have := hv i j x f hx hf
    rwa [show (vs ++ vals).getD (i * sz + j) undef = vs.getD (i * sz + j) undef from by
      rw [List.getD_eq_getElem?_getD, List.getD_eq_getElem?_getD, List.getElem?_append_left (by rw [hl]; exact hlt)]]
  · rw [List.getElem?_append_right hi] at hx
    have := hv' (i - els.length) j x f hx hf
    rwa [show (vs ++ vals).getD (i * sz + j) undef = vals.getD ((i - els.length) * sz + j) undef from by
      have e : els.length * sz ≤ i * sz := Nat.mul_le_mul_right _ hi
      rw [List.getD_eq_getElem?_getD, List.getD_eq_getElem?_getD, List.getElem?_append_right (by rw [hl]; omega), hl, Nat.sub_mul]
      congr 2
      omega]

/-- append to an own row. -/
theorem app_ok (h : Rel X μ H w) {b ty t rty : TypeId} {e : TypeId} {i : TypeInfo} {z : Value} {els ys : List (List FV)} (hb : getH H b = some (.row e i.size els)) (ht : P.underlying t = some (.slice e)) (hi : P.info? e = some i) (hz : i.zero = some z) (hzs : z.cells.size = i.size) (hsz : 0 < i.size)
    {u : Value} {A : Option Addr} {c : Nat} {vals : List Value} (R : Reads w (Fz X μ H w) i.size ys u A c vals) (hby : (els.length + ys.length) * i.bytes ≤ 140737488355328) (hl : els.length + ys.length ≤ 140737488355328) :
    ∃ v' w', (Builtin.append_ #[t, t] rty #[μ b, u]).run P w = .ok v' w' ∧
      (Rel X (upd μ b v') (setH (subH b .junk H) b (some (.row e i.size (els ++ ys)))) w' ∧ Keep b μ H w (upd μ b v') (setH (subH b .junk H) b (some (.row e i.size (els ++ ys)))) w') ∧
      (∀ x v, Rep μ H w (Fz X μ H w) x v → Rep (upd μ b v') (setH (subH b .junk H) b (some (.row e i.size (els ++ ys)))) w' (Fz X (upd μ b v') (setH (subH b .junk H) b (some (.row e i.size (els ++ ys)))) w') (subA b .junk x) v) ∧
      Rep (upd μ b v') (setH (subH b .junk H) b (some (.row e i.size (els ++ ys)))) w' (Fz X (upd μ b v') (setH (subH b .junk H) b (some (.row e i.size (els ++ ys)))) w') (.own b) v' := by
  obtain ⟨_, hels, vs, ho, hv⟩ := h.blk b _ hb
  obtain ⟨v', w', hr, hown, hg, hat⟩ := append_run (ty := rty) ht hi hz hzs hsz ho R hby hl
  have hsl := blkOf_own (ownsRow_slice ho)
  have hsl' := blkOf_own (ownsRow_slice hown)
  have hheap : ∀ k, k < w.heap.size → blkOf (μ b) ≠ some k → w'.heap[k]? = w.heap[k]? := fun k hk hne => hg.block k hk (by rw [← hsl]; exact fun e => hne e.symm)
  have hu : ∀ k, blkOf v' = some k → blkOf (μ b) = some k ∨ w.heap.size ≤ k := fun k hk => by
    rw [hsl'] at hk
    rcases hat with hat | hat
    · rw [hat, ← hsl] at hk; exact .inl hk
    · rw [hat] at hk; cases hk; exact .inr (Nat.le_refl _)
  have hmv := app_fz (X := X) (u := v') (els' := els ++ ys) h hb hg.size hheap hu
  have hone : v'.oneCell' = true := by obtain ⟨A, n, c, rfl⟩ := ownsRow_slice hown; rfl
  have hrep := fun (x : AV) (v : Value) (hx : Rep μ H w (Fz X μ H w) x v) => app_rep (els' := els ++ ys) h hb hg.size hheap hu hx
  refine ⟨v', w', hr, h.app hb hg.size hg.os (TapeOK.run hr hg.tape) hg.output hheap hu ⟨hsz, ?_, vs ++ vals, ?_, ?_⟩, hrep, ?_⟩
  · intro k x hx
    rcases Nat.lt_or_ge k els.length with hk | hk
    · rw [List.getElem?_append_left hk] at hx; exact hels k x hx
    · rw [List.getElem?_append_right hk] at hx; exact R.lens _ x hx
  · rw [upd_self, List.length_append]; exact hown
  · exact fun k j x f hx hf => (vals_append ho.1 hels hv R.reps k j x f hx hf).move hmv
  · refine .own (sz := i.size) (ty := e) (els := els ++ ys) ?_ (upd_self _ _ _).symm hone
    exact getH_setH_self (by rw [subH_length]; exact getH_lt hb)

/-- append to nil. -/
theorem app_nil_ok (h : Rel X μ H w) {t rty : TypeId} {e : TypeId} {i : TypeInfo} {z : Value} {ys : List (List FV)} (ht : P.underlying t = some (.slice e)) (hi : P.info? e = some i) (hz : i.zero = some z) (hzs : z.cells.size = i.size) (hsz : 0 < i.size)
    {u : Value} {A : Option Addr} {c : Nat} {vals : List Value} (R : Reads w (Fz X μ H w) i.size ys u A c vals) (hby : ys.length * i.bytes ≤ 140737488355328) (hl : ys.length ≤ 140737488355328) :
    ∃ v' w', (Builtin.append_ #[t, t] rty #[.slice none 0 0, u]).run P w = .ok v' w' ∧ Ext w w' ∧ (∀ k, blkOf v' = some k → w.heap.size ≤ k) ∧ Made μ H w (Fz X μ H w) w' v' (.row e i.size ys) := by
  obtain ⟨v', w', hr, hown, hg, hat⟩ := append_run (w := w) (ty := rty) (n := 0) (xs := []) (v := .slice none 0 0) ht hi hz hzs hsz (World.ownsRow_nil w 0 e i.size) R (by simpa using hby) (by simpa using hl)
  simp only [Nat.zero_add, List.nil_append] at hown
  have hsl' := blkOf_own (ownsRow_slice hown)
  refine ⟨v', w', hr, ⟨hg.size, hg.os, TapeOK.run hr hg.tape, hg.output, fun k hk => hg.block k hk (by simp [Value.ownBlock])⟩, fun k hk => ?_, hsz, R.lens, vals, hown, R.reps⟩
  rw [hsl'] at hk
  rcases hat with hat | hat
  · rw [hat] at hk; simp [Value.ownBlock] at hk
  · rw [hat] at hk; cases hk; exact Nat.le_refl _

/-! ### stores -/
theorem run_storeVar {t : TypeId} {k : Nat} (hk : szOf P t = some k) {g o : Nat} {ty : TypeId} {cur : Array Value} (hg : w.heap[g]? = some (.cells cur ty (0, 0))) {u : Value} (hs : u.cells.size = k) (hf : o + k ≤ cur.size) (h1 : ∀ v ∈ u.cells.toList, v.oneCell' = true) :
    (Instr.storeAt t (.pointer (some ⟨g, o, none⟩)) u).run P w = .ok () (w.setRow g (layAt cur.toList o u.cells.toList).toArray) := by
  have := run_storeCells_at P g o ty u.cells.toList 0 cur w hg (by simp; omega) h1
  simp only [Nat.add_zero] at this
  simp [Instr.storeAt, Instr.sureAddr, storeVar, run_szOf hk, hs, this, layAt]

theorem set_get {α : Type} {l : List α} {i k : Nat} {x y : α} (h : (l.set i x)[k]? = some y) : (k = i ∧ y = x ∧ i < l.length) ∨ (k ≠ i ∧ l[k]? = some y) := by
  rw [List.getElem?_set] at h
  split at h
  · rename_i e
    subst e
    split at h
    · cases h; exact .inl ⟨rfl, rfl, by assumption⟩
    · cases h
  · rename_i e; exact .inr ⟨fun e' => e e'.symm, h⟩

theorem layAt_get {vs us : List Value} {off n : Nat} (hf : off + us.length ≤ vs.length) : (layAt vs off us)[n]? = if off ≤ n ∧ n < off + us.length then us[n - off]? else vs[n]? := by
  unfold layAt
  have e2 : (vs.take off).length = off := by simp; omega
  rw [List.append_assoc]
  rcases Nat.lt_or_ge n off with h | h
  · rw [List.getElem?_append_left (by omega), List.getElem?_take, if_pos h, if_neg (by omega)]
  · rw [List.getElem?_append_right (by omega), e2]
    rcases Nat.lt_or_ge (n - off) us.length with h' | h'
    · rw [List.getElem?_append_left h', if_pos (by omega)]
    · rw [List.getElem?_append_right h', List.getElem?_drop, if_neg (by omega)]
      congr 1
      omega

theorem frozen_nil : ∀ {cs : List AV} {fs : List FV} {ks : List Nat}, frozenCells [] cs = some (fs, ks) → ∀ {ok : Nat → Prop} {vs : List Value}, RepL μ H w ok cs vs → fs.length = cs.length ∧ ∀ (j : Nat) (f : FV), fs[j]? = some f → RepF w ok f (vs.getD j undef)
  | [], fs, ks, h, ok, vs, _ => by simp [frozenCells] at h; obtain ⟨rfl, rfl⟩ := h; simp
  | x :: r, fs, ks, h, ok, vs, hv => by
    unfold frozenCells at h
    split at h
    · rename_i heq; cases heq
    · rename_i f r' heq
      simp only [List.cons.injEq] at heq
      obtain ⟨rfl, rfl⟩ := heq
      split at h
      · rename_i fs' ks' hf
        cases h
        cases vs with
        | nil => have := hv.1; simp at this
        | cons u vs =>
          have := frozen_nil hf (vs := vs) ⟨by have := hv.1; simpa using this, fun i x hx => by have := hv.2.1 (i + 1) x (by simpa using hx); simpa using this, fun v hm => hv.2.2 v (List.mem_cons_of_mem _ hm)⟩
          refine ⟨by simp [this.1], fun j f' hj => ?_⟩
          cases j with
          | zero =>
            simp at hj
            subst hj
            have := hv.2.1 0 _ rfl
            simp only [List.getD_cons_zero] at this ⊢
            cases this with
            | fz hF => exact hF
            | dead hx => simp [refOf] at hx
          | succ j => simpa using this.2 j f' (by simpa using hj)
      · cases h
    · rename_i b r' heq
      simp [getH] at h
    · cases h

theorem store_ok (h : Rel X μ H w) {t : TypeId} {cs : List AV} (hk : szOf P t = some cs.length) {hs hs' : List Hint} {x v : AV} {H' : AHeap} {c : List Prop} {p u : Value} (hx : Rep μ H w (Fz X μ H w) x p) (hu : RepL μ H w (Fz X μ H w) cs u.cells.toList)
    (hl : storeA H cs hs x = .put v H' hs' c) (hAll : All c) : v = .junk ∧ ∃ w', (Instr.storeAt t p u).run P w = .ok () w' ∧ Rel X μ H' w' ∧ Keep H.length μ H w μ H' w' ∧ ∀ x v, Rep μ H w (Fz X μ H w) x v → Rep μ H' w' (Fz X μ H' w') x v := by
  have hus : u.cells.size = cs.length := by have := hu.1; simpa using this
  have hone := hu.2.2
  cases hx with
  | ptr hb hg =>
    rename_i b o ty cells g
    simp only [storeA, hb] at hl
    split at hl
    · rename_i hc
      simp only [AR.put.injEq] at hl
      obtain ⟨rfl, rfl, rfl, rfl⟩ := hl
      obtain ⟨g', cur, e, hh, hcs, hcell⟩ := h.blk b _ hb
      have hgg : g' = g := by rw [e] at hg; simpa [blkOf] using hg
      subst hgg
      have hrun := run_storeVar hk hh (u := u) (o := o) hus (by omega) hone
      have hL : RepL μ H w (Fz X μ H w) cells cur.toList := .mk (by simpa using hcs) (fun i y z hy hz => by
        have hz' : cur.getD i undef = z := by
          rw [← toList_getD, List.getD_eq_getElem?_getD, hz]; rfl
        rw [← hz']
        exact hcell i y hy)
      have hlay := hL.lay hu (off := o) hc.1
      have hsame : sameKind (.var ty cells) (.var ty (putAt cells o cs)) := ⟨rfl, by rw [putAt_eq _ _ _ (by omega)]; simp; omega⟩
      have hheap : ∀ k, blkOf (μ b) ≠ some k → (w.setRow g' (layAt cur.toList o u.cells.toList).toArray).heap[k]? = w.heap[k]? := fun k hk' => setRow_other w g' k _ (fun e' => hk' (by rw [hg, e']))
      have hsize : (w.setRow g' (layAt cur.toList o u.cells.toList).toArray).heap.size = w.heap.size := by simp [World.setRow]
      refine ⟨rfl, _, hrun, ?_⟩
      have hset := h.setb (w' := w.setRow g' (layAt cur.toList o u.cells.toList).toArray) hb hsame hsize rfl ⟨rfl, Nat.le_refl _⟩ rfl hheap ?_
      · exact ⟨hset.1, hset.2, fun x v hx => setb_rep hb hsame hsize hheap hx⟩
      · refine ⟨g', _, e, setRow_heap w g' cur _ ty (0, 0) hh, by rw [List.size_toArray, hlay.1], fun i y hy => ?_⟩
        obtain ⟨z, hz, hr, h1⟩ := hlay.get hy
        have : ((layAt cur.toList o u.cells.toList).toArray).getD i undef = z := by simp [Array.getD_eq_getD_getElem?, hz]
        rw [this]
        exact ⟨setb_rep hb hsame hsize hheap hr, h1⟩
    · cases hl
  | ep hb hi hg =>
    rename_i b i j ty sz els g
    simp only [storeA, hb] at hl
    split at hl
    · rename_i ty1 sz1 els1 fs ks hrow hfz
      cases hrow
      have key : ∀ x0, els[i]? = some x0 → j + fs.length ≤ x0.length ∧ ones cs = true → v = .junk → H' = setH H b (some (.row ty sz (els.set i (putAt x0 j fs)))) →
          v = .junk ∧ ∃ w', (Instr.storeAt t (.pointer (some ⟨g, i * sz + j, none⟩)) u).run P w = .ok () w' ∧ Rel X μ H' w' ∧ Keep H.length μ H w μ H' w' ∧ ∀ x v, Rep μ H w (Fz X μ H w) x v → Rep μ H' w' (Fz X μ H' w') x v := by
        intro x0 hx0 hc hvj hHj
        subst hvj
        subst hHj
        obtain ⟨hfl, hF⟩ := frozen_nil hfz hu
        obtain ⟨hsz, hels, vs, ho, hv⟩ := h.blk b _ hb
        rcases ho.2 with ⟨e, _⟩ | ⟨g', cap, cur, e, _, hh, hnc, hcm, hcs, htk⟩
        · rw [e] at hg; simp [blkOf] at hg
        · have hgg : g' = g := by rw [e] at hg; simpa [blkOf] using hg
          subst hgg
          have hxl := hels i x0 hx0
          have hfit : i * sz + (j + cs.length) ≤ els.length * sz := by
            have : (i + 1) * sz ≤ els.length * sz := Nat.mul_le_mul_right _ hi
            rw [Nat.add_mul] at this
            omega
          have hcap : els.length * sz ≤ cap * sz := Nat.mul_le_mul_right _ hnc
          have hrun := run_storeVar hk hh (u := u) (o := i * sz + j) hus (by omega) hone
          have hvl := ho.1
          have hul : u.cells.toList.length = cs.length := by simpa using hus
          have hsame : sameKind (.row ty sz els) (.row ty sz (els.set i (putAt x0 j fs))) := ⟨rfl, rfl, by simp⟩
          have hheap : ∀ k, blkOf (μ b) ≠ some k → (w.setRow g' (layAt cur.toList (i * sz + j) u.cells.toList).toArray).heap[k]? = w.heap[k]? := fun k hk' => setRow_other w g' k _ (fun e' => hk' (by rw [hg, e']))
          have hsize : (w.setRow g' (layAt cur.toList (i * sz + j) u.cells.toList).toArray).heap.size = w.heap.size := by simp [World.setRow]
          have hmv := setb_fz (X := X) hb hsame hsize hheap
          have hxlen : ∀ (k : Nat) (x : List FV), (els.set i (putAt x0 j fs))[k]? = some x → x.length = sz := fun k x hx => by
            rcases set_get hx with ⟨rfl, rfl, _⟩ | ⟨_, hx'⟩
            · rw [putAt_eq _ _ _ (by omega)]; simp; omega
            · exact hels k x hx'
          refine ⟨rfl, _, hrun, ?_⟩
          have hset := h.setb (w' := w.setRow g' (layAt cur.toList (i * sz + j) u.cells.toList).toArray) hb hsame hsize rfl ⟨rfl, Nat.le_refl _⟩ rfl hheap ?_
          · exact ⟨hset.1, hset.2, fun x v hx => setb_rep hb hsame hsize hheap hx⟩
          · refine ⟨hsz, hxlen, layAt vs (i * sz + j) u.cells.toList, ⟨?_, .inr ⟨g', cap, _, by rw [e]; simp, Nat.zero_le _, setRow_heap w g' cur _ ty (0, 0) hh, by simpa using hnc, hcm, ?_, ?_⟩⟩, fun k l x f hx hf => ?_⟩
            · rw [layAt_length (by rw [hul]; omega), hvl]; simp
            · rw [List.size_toArray, layAt_length (by rw [hul]; simp; omega)]; simpa using hcs
            · apply List.ext_getElem?
              intro n
              rw [layAt_get (by rw [hul]; omega), List.getElem?_take]
              simp only [List.length_set]
              by_cases hn : n < els.length * sz
              · rw [if_pos hn, layAt_get (by rw [hul]; simp; omega)]
                split
                · rfl
                · rw [← htk, List.getElem?_take, if_pos hn]
              · rw [if_neg hn, if_neg (by rw [hul]; omega), List.getElem?_eq_none (by omega)]
            · have hkl : k < els.length := by
                have := (List.getElem?_eq_some_iff.1 hx).1; simpa using this
              have hll : l < sz := by rw [← hxlen k x hx]; exact (List.getElem?_eq_some_iff.1 hf).1
              refine RepF.move hmv ?_
              rw [List.getD_eq_getElem?_getD, layAt_get (by rw [hul]; omega), hul]
              rcases set_get hx with ⟨rfl, rfl, _⟩ | ⟨hki, hx'⟩
              · rw [putAt_eq _ _ _ (by omega), List.append_assoc] at hf
                have e1 : (x0.take j).length = j := by simp; omega
                by_cases hin : j ≤ l ∧ l < j + cs.length
                · rw [if_pos (by omega), show k * sz + l - (k * sz + j) = l - j from by omega]
                  rw [List.getElem?_append_right (by omega), e1, List.getElem?_append_left (by omega)] at hf
                  have := hF _ f hf
                  rwa [List.getD_eq_getElem?_getD] at this
                · rw [if_neg (by omega)]
                  have hf' : x0[l]? = some f := by
                    rcases Nat.lt_or_ge l j with hlj | hlj
                    · rw [List.getElem?_append_left (by omega), List.getElem?_take, if_pos hlj] at hf; exact hf
                    · rw [List.getElem?_append_right (by omega), e1, List.getElem?_append_right (by omega), List.getElem?_drop] at hf
                      rw [← hf]; congr 1; omega
                  have := hv k l x0 f hx0 hf'
                  rwa [List.getD_eq_getElem?_getD] at this
              · rw [if_neg ?_]
                · have := hv k l x f hx' hf
                  rwa [List.getD_eq_getElem?_getD] at this
                · rintro ⟨h1, h2⟩
                  rcases Nat.lt_or_gt_of_ne hki with hlt | hgt
                  · have : (k + 1) * sz ≤ i * sz := Nat.mul_le_mul_right _ hlt
                    rw [Nat.add_mul] at this
                    omega
                  · have : (i + 1) * sz ≤ k * sz := Nat.mul_le_mul_right _ hgt
                    rw [Nat.add_mul] at this
                    omega
      split at hl
      · rename_i x0 r
        split at hl
        · rename_i hc
          simp only [AR.put.injEq] at hl
          obtain ⟨h1, h2, h3, h4⟩ := hl
          subst h4
          exact key x0 hAll.1 hc h1.symm h2.symm
        · cases hl
      · split at hl
        · rename_i x0 hx0
          split at hl
          · rename_i hc
            simp only [AR.put.injEq] at hl
            obtain ⟨h1, h2, h3, h4⟩ := hl
            exact key x0 hx0 hc h1.symm h2.symm
          · cases hl
        · cases hl
    · cases hl
  | dead hx' hb hd h1 =>
    rename_i b
    cases x <;> simp [refOf] at hx' <;> subst hx' <;> simp [storeA, hd] at hl
  | _ => simp [storeA] at hl
end
end Go.Proofs.Ai
