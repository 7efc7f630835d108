/- The abstract machine, 13b: maps of pairs of texts; rows made, copied into, made shorter. -/
import Derived.Test.YtfjjeijkbhcoaaaBiOps
import Derived.Laws.OwnMore
import Derived.WalkSmall
set_option linter.unusedVariables false
set_option linter.unusedSimpArgs false
namespace Go.Proofs.Ai
open Go

theorem beq_ba (a b : ByteArray) : (a == b) = true ↔ a = b := by
  cases a with | mk x => cases b with | mk y =>
  show (x == y) = true ↔ _
  rw [beq_iff_eq]
  constructor
  · rintro rfl; rfl
  · intro h; injection h
theorem beq_pair {a b c d : ByteArray} (h : (a == c && b == d) = true) : a = c ∧ b = d := by
  rw [Bool.and_eq_true] at h
  exact ⟨(beq_ba _ _).1 h.1, (beq_ba _ _).1 h.2⟩

def keyOfP (a b : ByteArray) : Value := .agg #[.string a, .string b]
theorem pairKey_mk (a b : ByteArray) : pairKey (.agg #[.string a, .string b]) = some (a, b) := rfl
def isKey (a b : ByteArray) (e : MapEntry) : Bool := match pairKey e.key with
  | some (c, d) => a == c && b == d
  | none => false

section
variable {P : Program} {w : World} {k : TypeId}

theorem run_findAsking (heq : ∀ a b c d (w : World), (Op.equal k (.agg #[.string a, .string b]) (.agg #[.string c, .string d])).run P w = .ok (a == c && b == d) w) (a b : ByteArray) :
    ∀ (es : List MapEntry) (i : Nat), (∀ e ∈ es, (∃ c d, e.key = .agg #[.string c, .string d]) ∧ e.val = .bool true) →
      (es.any (isKey a b) = true ∧ ∃ j e, es[j]? = some e ∧ e.key = .agg #[.string a, .string b] ∧ e.val = .bool true ∧ (Instr.findAsking k (.agg #[.string a, .string b]) es i).run P w = .ok (some (i + j, .bool true)) w) ∨
      (es.any (isKey a b) = false ∧ (Instr.findAsking k (.agg #[.string a, .string b]) es i).run P w = .ok none w)
  | [], i, _ => .inr ⟨rfl, rfl⟩
  | e :: es, i, h => by
    obtain ⟨⟨c, d, hk⟩, hv⟩ := h e List.mem_cons_self
    have hik : isKey a b e = (a == c && b == d) := by simp [isKey, hk, pairKey_mk]
    cases hab : (a == c && b == d) with
    | true =>
      obtain ⟨rfl, rfl⟩ := beq_pair hab
      refine .inl ⟨by simp [hik, hab], 0, e, rfl, hk, hv, ?_⟩
      simp only [Instr.findAsking, hk, Sem.run_bind, heq, Result.andThen_ok, hab, if_true, hv]
      rfl
    | false =>
      have step : (Instr.findAsking k (.agg #[.string a, .string b]) (e :: es) i).run P w = (Instr.findAsking k (.agg #[.string a, .string b]) es (i + 1)).run P w := by
        simp only [Instr.findAsking, hk, Sem.run_bind, heq, Result.andThen_ok, hab, Bool.false_eq_true, if_false]
      rcases run_findAsking heq a b es (i + 1) (fun x hx => h x (List.mem_cons_of_mem _ hx)) with ⟨h1, j, e', h2, h3, h4, h5⟩ | ⟨h1, h2⟩
      · refine .inl ⟨by simp [h1], j + 1, e', by simpa using h2, h3, h4, ?_⟩
        rw [step, h5]
        congr 3
        omega
      · exact .inr ⟨by simp [hik, hab, h1], by rw [step, h2]⟩

theorem run_findKey {fs : Array Field} (hk : P.underlying k = some (.struct fs)) (a b : ByteArray) (es : List MapEntry) : (Instr.findKey k (.agg #[.string a, .string b]) es).run P w = (Instr.findAsking k (.agg #[.string a, .string b]) es).run P w := by
  unfold Instr.findKey
  simp only [Sem.run_bind, run_underlying hk, Result.andThen_ok]
  cases es with
  | nil => rfl
  | cons e es => rfl

theorem hasKey_eq (es : Array MapEntry) (a b : ByteArray) : hasKey es a b = es.toList.any (isKey a b) := rfl

theorem run_lookup {T : Tab} (hT : TabOK P T) {t : TypeId} (ht : T.sets t = true) {r : Nat} {es : Array MapEntry} {clock : Nat} (hr : w.heap[r]? = some (.map es clock)) (hs : SetLike es) (a b : ByteArray) :
    (Instr.lookup t (.map (some r)) (.agg #[.string a, .string b]) false).run P w = .ok (.bool (hasKey es a b)) w := by
  obtain ⟨k, e, fs, h1, h2, h3, h4, h5⟩ := hT.sets t ht
  have hg : (getObj r).run P w = .ok (.map es clock) w := by simp [getObj, Sem.run, hr]
  have hf := run_findAsking (P := P) (w := w) h5 a b es.toList 0 hs
  rw [hasKey_eq]
  unfold Instr.lookup
  simp only [Sem.run_bind, run_underlying h1, Result.andThen_ok, hg, Sem.run_pure, h4, run_findKey h2]
  rcases hf with ⟨g1, j, e', g2, g3, g4, g5⟩ | ⟨g1, g2⟩
  · simp [g1, g5]
  · simp [g1, g2, run_zeroOf h3]

theorem sameBits_pair (a b : ByteArray) : Instr.sameBits 10000 (.agg #[.string a, .string b]) (.agg #[.string a, .string b]) = true := by
  have ha := (beq_ba a a).2 rfl
  have hb := (beq_ba b b).2 rfl
  show Instr.sameBits (9999 + 1) _ _ = true
  simp only [Instr.sameBits]
  simp [Instr.sameBits, ha, hb]

theorem run_mapUpdate {T : Tab} (hT : TabOK P T) {t : TypeId} (ht : T.sets t = true) {r : Nat} {es : Array MapEntry} {clock : Nat} (hr : w.heap[r]? = some (.map es clock)) (hs : SetLike es) (a b : ByteArray) :
    (Instr.mapUpdate t (.map (some r)) (.agg #[.string a, .string b]) (.bool true)).run P w = .ok () { w with heap := w.heap.setIfInBounds r (.map (putKey es clock a b) (putClock es clock a b)) } := by
  obtain ⟨k, e, fs, h1, h2, h3, h4, h5⟩ := hT.sets t ht
  have hg : (getObj r).run P w = .ok (.map es clock) w := by simp [getObj, Sem.run, hr]
  have hf := run_findAsking (P := P) (w := w) h5 a b es.toList 0 hs
  have hset : ∀ o, (setObj r o).run P w = .ok () { w with heap := w.heap.setIfInBounds r o } := fun o => by simp [setObj, Sem.run, hr]
  unfold Instr.mapUpdate
  simp only [Sem.run_bind, run_underlying h1, Result.andThen_ok, hg, h4, run_findKey h2]
  rcases hf with ⟨g1, j, e', g2, g3, g4, g5⟩ | ⟨g1, g2⟩
  · have hk : hasKey es a b = true := g1
    simp only [Nat.zero_add] at g5
    rw [g5]
    have hj : es[j]? = some e' := by rw [← Array.getElem?_toList]; exact g2
    have hkeep : (Instr.keyThatStays (Value.agg #[.string a, .string b]) (.agg #[.string a, .string b])).run P w = .ok (.agg #[.string a, .string b]) w := by
      unfold Instr.keyThatStays
      rw [if_pos (sameBits_pair a b)]
      rfl
    have hm : es.modify j (fun e => { e with key := .agg #[.string a, .string b], val := .bool true }) = es := by
      apply Array.ext'
      rw [Array.toList_modify]
      apply List.ext_getElem?
      intro n
      rw [List.getElem?_modify]
      by_cases hn : j = n
      · subst hn
        rw [g2]
        cases e' with | mk key val born =>
        simp only at g3 g4
        subst g3
        subst g4
        simp
      · simp [hn]
    simp only [Result.andThen_ok, hj, Option.map_some, Option.getD_some, g3, hkeep, Sem.run_bind, hset, hm, putKey, putClock, hk, if_true]
  · have hk : hasKey es a b = false := g1
    rw [g2]
    simp only [Result.andThen_ok, hset, putKey, putClock, hk, Bool.false_eq_true, if_false]
end

section
variable {X : Nat → Prop} {μ : Nat → Value} {H : AHeap} {w : World} {P : Program}

/-- A row of zeros made. -/
theorem make_ok {t e : TypeId} {i : TypeInfo} {z : List FV} (ht : P.underlying t = some (.slice e)) (hi : P.info? e = some i) (hz : zeroF P e = some z) (h0 : 0 < i.size) (hzl : z.length = i.size) (hz1 : z.all (fun | .sc v => v.oneCell' | _ => false) = true)
    {n : Int} (hn : 0 ≤ n) (hb : i.bytes * n.toNat ≤ 140737488355328) (hl : n.toNat ≤ 140737488355328) {ok : Nat → Prop} :
    ∃ u w', (Instr.makeSlice t (.int .i64 n) (.int .i64 n)).run P w = .ok u w' ∧ Ext w w' ∧ (∀ k, blkOf u = some k → w.heap.size ≤ k) ∧ Made μ H w ok w' u (.row e i.size (List.replicate n.toNat z)) := by
  obtain ⟨zv, hzv, rfl⟩ : ∃ zv, zeroOf P e = some zv ∧ z = zv.cells.toList.map FV.sc := by
    unfold zeroF at hz
    obtain ⟨zv, h1, h2⟩ := Option.map_eq_some_iff.1 hz
    exact ⟨zv, h1, h2.symm⟩
  have hzi : i.zero = some zv := by
    unfold zeroOf at hzv
    rw [hi] at hzv
    exact hzv
  have hcs : zv.cells.size = i.size := by simpa using hzl
  have e1 : ((n.toNat : Nat) : Int) = n := Int.toNat_of_nonneg hn
  have hr := run_make_full (P := P) w 0 t e i zv i.size ht hi hzi rfl .i64 .i64 n.toNat (by omega) (by simp only [maxLen]; omega) (Nat.zero_le _)
  rw [e1] at hr
  obtain ⟨w', h1, h2, h3⟩ := hr
  refine ⟨_, w', h1, ⟨h3.size, h3.os, TapeOK.run h1 h3.tape, h3.output, fun k hk => h3.block k hk (by simp)⟩, fun k hk => by simp [blkOf] at hk; omega, h0, fun k x hx => ?_, (madeCells zv.cells (n.toNat * i.size)).toList, by simpa using h2, fun k j x f hx hf => ?_⟩
  · rw [List.getElem?_replicate] at hx
    split at hx
    · cases hx; exact hzl
    · cases hx
  · rw [List.getElem?_replicate] at hx
    split at hx
    · rename_i hk
      cases hx
      have hj : j < i.size := by rw [← hzl]; exact (List.getElem?_eq_some_iff.1 hf).1
      have hlt := idx_lt hk hj
      have hm : (k * i.size + j) % i.size = j := mod_of_idx hj
      have hg : (madeCells zv.cells (n.toNat * i.size)).toList.getD (k * i.size + j) undef = zv.cells.toList.getD j undef := by
        rw [List.getD_eq_getElem?_getD, List.getD_eq_getElem?_getD]
        simp [madeCells, hlt, hcs, hm, hj]
      rw [hg]
      rw [List.getElem?_map] at hf
      obtain ⟨v, hv, rfl⟩ := Option.map_eq_some_iff.1 hf
      rw [List.getD_eq_getElem?_getD, hv]
      refine .sc ?_
      have := List.all_eq_true.1 hz1 (FV.sc v) (List.mem_map.2 ⟨v, List.mem_of_getElem? hv, rfl⟩)
      simpa using this
    · cases hx

/-- A whole row copied over. -/
theorem copy_ok (h : Rel X μ H w) {t t' e ty : TypeId} {i : TypeInfo} (ht : P.underlying t = some (.slice e)) (hi : P.info? e = some i) {b rty : Nat} {els ys : List (List FV)} (hb : getH H b = some (.row rty i.size els)) {u : Value} {A : Option Addr} {c : Nat} {vals : List Value}
    (R : Reads w (Fz X μ H w) i.size ys u A c vals) (hl : ys.length = els.length) :
    ∃ w', (Builtin.copy_ #[t, t'] ty #[μ b, u]).run P w = .ok (.int .i64 els.length) w' ∧ Rel X μ (setH H b (some (.row rty i.size ys))) w' ∧ Keep H.length μ H w μ (setH H b (some (.row rty i.size ys))) w' ∧
      ∀ x v, Rep μ H w (Fz X μ H w) x v → Rep μ (setH H b (some (.row rty i.size ys))) w' (Fz X μ (setH H b (some (.row rty i.size ys))) w') x v := by
  obtain ⟨hsz, hels, vs, ho, hv⟩ := h.blk b _ hb
  have hsame : sameKind (.row rty i.size els) (.row rty i.size ys) := ⟨rfl, rfl, hl.symm⟩
  have hsizeOf : (sizeOf e).run P w = .ok i.size w := by simp [sizeOf, typeInfo, hi]
  cases hA : A with
  | none =>
    have hy := R.none hA
    subst hy
    have he : els = [] := List.eq_nil_of_length_eq_zero (by simpa using hl.symm)
    subst he
    have hH : setH H b (some (.row rty i.size [])) = H := by
      have : ∀ (H : AHeap) (b : Nat) (B : Blk), getH H b = some B → setH H b (some B) = H := by
        intro H
        induction H with
        | nil => intro b B h; cases b <;> simp [getH] at h
        | cons x H ih =>
          intro b B h
          cases b with
          | zero => simp [getH] at h; subst h; rfl
          | succ b => simp only [setH]; rw [ih b B (by simpa [getH] using h)]
      exact this H b _ hb
    rw [hH]
    refine ⟨w, ?_, h, Keep.refl (Nat.le_refl _), fun x v hx => hx⟩
    rw [R.val, hA]
    rcases ho.2 with ⟨e1, _⟩ | ⟨g, cap, cur, e1, _⟩ <;> rw [e1] <;> simp [Builtin.copy_, run_underlying ht, Builtin.lenOf, Builtin.firstCells, hsizeOf, storeCells, goInt]
  | some ad =>
    have hlen := R.len
    have hone := R.ones
    rcases ho.2 with ⟨e1, hn0⟩ | ⟨g, cap, cur, e1, _, hh, hnc, hcm, hcs, htk⟩
    · have he : els = [] := List.eq_nil_of_length_eq_zero hn0
      subst he
      have hy : ys = [] := List.eq_nil_of_length_eq_zero (by simpa using hl)
      subst hy
      have hv0 : vals = [] := List.eq_nil_of_length_eq_zero (by simpa using hlen)
      subst hv0
      have hH : setH H b (some (.row rty i.size [])) = H := by
        have : ∀ (H : AHeap) (b : Nat) (B : Blk), getH H b = some B → setH H b (some B) = H := by
          intro H
          induction H with
          | nil => intro b B h; cases b <;> simp [getH] at h
          | cons x H ih =>
            intro b B h
            cases b with
            | zero => simp [getH] at h; subst h; rfl
            | succ b => simp only [setH]; rw [ih b B (by simpa [getH] using h)]
        exact this H b _ hb
      rw [hH]
      refine ⟨w, ?_, h, Keep.refl (Nat.le_refl _), fun x v hx => hx⟩
      have hfc := run_firstCells_some (P := P) (w := w) i.size 0 ad 0 c [] (by simp) (fun j v hj => by simp at hj)
      rw [R.val, hA, e1]
      simp [Builtin.copy_, run_underlying ht, Builtin.lenOf, hfc, hsizeOf, storeCells, goInt]
    · have hgb : blkOf (μ b) = some g := by rw [e1]; rfl
      have hvl : vals.length = els.length * i.size := by rw [hlen, hl]
      have hcap : els.length * i.size ≤ cap * i.size := Nat.mul_le_mul_right _ hnc
      have hfc := run_firstCells_some (P := P) (w := w) i.size ys.length ad ys.length c vals hlen (R.cells ad hA)
      have hst := run_storeCells_at P g 0 rty vals 0 cur w hh (by simp; omega) hone
      have hmin : Nat.min ys.length els.length = ys.length := by rw [hl]; exact Nat.min_self _
      have hrun : (Builtin.copy_ #[t, t'] ty #[μ b, u]).run P w = .ok (.int .i64 els.length) (w.setRow g (vals ++ cur.toList.drop vals.length).toArray) := by
        rw [R.val, hA, e1]
        simp [Builtin.copy_, run_underlying ht, Builtin.lenOf, hsizeOf, goInt, hmin]
        rw [hl] at hfc ⊢
        simp [hfc] at hst ⊢
        simp [hst]
      have hheap : ∀ k, blkOf (μ b) ≠ some k → (w.setRow g (vals ++ cur.toList.drop vals.length).toArray).heap[k]? = w.heap[k]? := fun k hk' => setRow_other w g k _ (fun e' => hk' (by rw [hgb, e']))
      have hsize : (w.setRow g (vals ++ cur.toList.drop vals.length).toArray).heap.size = w.heap.size := by simp [World.setRow]
      have hmv := setb_fz (X := X) hb hsame hsize hheap
      refine ⟨_, hrun, ?_⟩
      have hset := h.setb (w' := w.setRow g (vals ++ cur.toList.drop vals.length).toArray) hb hsame hsize rfl ⟨rfl, Nat.le_refl _⟩ rfl hheap ?_
      · exact ⟨hset.1, hset.2, fun x v hx => setb_rep hb hsame hsize hheap hx⟩
      · refine ⟨hsz, R.lens, vals, ⟨hlen, .inr ⟨g, cap, _, by rw [e1, hl], Nat.zero_le _, setRow_heap w g cur _ rty (0, 0) hh, by rw [hl]; exact hnc, hcm, ?_, ?_⟩⟩, fun k l x f hx hf => (R.reps k l x f hx hf).move hmv⟩
        · simp; omega
        · rw [hl, ← hvl]
          simp

/-- An own row made shorter. -/
theorem pop_ok (h : Rel X μ H w) {t e : TypeId} {b ty sz : Nat} {els : List (List FV)} (hb : getH H b = some (.row ty sz els)) (ht : P.underlying t = some (.slice e)) (hsz : szOf P e = some sz) {n : Int} {k : IntKind} (h0 : 0 ≤ n) (hn : n ≤ els.length) :
    ∃ v', (Instr.sliceAt t (μ b) none (some (.int k n)) none).run P w = .ok v' w ∧
      (Rel X (upd μ b v') (setH (subH b .junk H) b (some (.row ty sz (els.take n.toNat)))) w ∧ Keep b μ H w (upd μ b v') (setH (subH b .junk H) b (some (.row ty sz (els.take n.toNat)))) w) ∧
      (∀ x v, Rep μ H w (Fz X μ H w) x v → Rep (upd μ b v') (setH (subH b .junk H) b (some (.row ty sz (els.take n.toNat)))) w (Fz X (upd μ b v') (setH (subH b .junk H) b (some (.row ty sz (els.take n.toNat)))) w) (subA b .junk x) v) ∧
      Rep (upd μ b v') (setH (subH b .junk H) b (some (.row ty sz (els.take n.toNat)))) w (Fz X (upd μ b v') (setH (subH b .junk H) b (some (.row ty sz (els.take n.toNat)))) w) (.own b) v' := by
  obtain ⟨hs0, hels, vs, ho, hv⟩ := h.blk b _ hb
  obtain ⟨v', hrun, hown, hblk⟩ : ∃ v', (Instr.sliceAt t (μ b) none (some (.int k n)) none).run P w = .ok v' w ∧ w.ownsRow 0 ty sz v' n.toNat (vs.take (n.toNat * sz)) ∧ blkOf v' = blkOf (μ b) := by
    have hle : n.toNat * sz ≤ els.length * sz := Nat.mul_le_mul_right _ (by omega)
    have hvl := ho.1
    rcases ho.2 with ⟨e1, hn0⟩ | ⟨g, cap, cur, e1, hb0, hh, hnc, hcm, hcs, htk⟩
    · have hz : n = 0 := by omega
      subst hz
      rw [e1]
      have := run_slice_slice (P := P) (t := t) ht hsz (A := none) (n := 0) (c := 0) (lo := none) (hi := some (.int k 0)) (l := 0) (hh := 0) (.inl ⟨rfl, rfl⟩) (.inr ⟨k, rfl⟩) (by omega) (by omega) (by omega) (Nat.le_refl _) w
      refine ⟨_, this, ⟨by simp, .inl ⟨rfl, rfl⟩⟩, rfl⟩
    · rw [e1]
      have := run_slice_slice (P := P) (t := t) ht hsz (A := some ⟨g, 0, none⟩) (n := els.length) (c := cap) (lo := none) (hi := some (.int k n)) (l := 0) (hh := n) (.inl ⟨rfl, rfl⟩) (.inr ⟨k, rfl⟩) (by omega) (by omega) (by omega) hnc w
      have hA : (if cap = (0 : Int).toNat then (some ⟨g, 0, none⟩ : Option Addr) else (some (⟨g, 0, none⟩ : Addr)).map (·.add ((0 : Int).toNat * sz))) = some ⟨g, 0, none⟩ := by
        split
        · rfl
        · simp [add_none]
      rw [hA] at this
      refine ⟨_, this, ⟨by rw [List.length_take]; omega, .inr ⟨g, cap, cur, by simp, hb0, hh, by omega, hcm, hcs, ?_⟩⟩, rfl⟩
      rw [← htk, List.take_take, Nat.min_eq_left hle]
  have hheap : ∀ k, k < w.heap.size → blkOf (μ b) ≠ some k → w.heap[k]? = w.heap[k]? := fun _ _ _ => rfl
  have hu : ∀ k, blkOf v' = some k → blkOf (μ b) = some k ∨ w.heap.size ≤ k := fun k hk => .inl (hblk ▸ hk)
  have hmv := app_fz (X := X) (u := v') (els' := els.take n.toNat) h hb (Nat.le_refl _) hheap hu
  have hone : v'.oneCell' = true := by obtain ⟨A, n, c, rfl⟩ := ownsRow_slice hown; rfl
  have hrep := fun (x : AV) (v : Value) (hx : Rep μ H w (Fz X μ H w) x v) => app_rep (els' := els.take n.toNat) h hb (Nat.le_refl _) hheap hu hx
  have htl : (els.take n.toNat).length = n.toNat := by rw [List.length_take]; omega
  have hsub : ∀ (i : Nat) (x : List FV), (els.take n.toNat)[i]? = some x → i < n.toNat ∧ els[i]? = some x := fun i x hx => by
    rw [List.getElem?_take] at hx
    split at hx
    · exact ⟨by assumption, hx⟩
    · cases hx
  refine ⟨v', hrun, h.app hb (Nat.le_refl _) rfl ⟨rfl, Nat.le_refl _⟩ rfl hheap hu ⟨hs0, fun i x hx => hels i x (hsub i x hx).2, vs.take (n.toNat * sz), by rw [upd_self, htl]; exact hown, fun i j x f hx hf => ?_⟩, hrep, ?_⟩
  · obtain ⟨hi, hx'⟩ := hsub i x hx
    have hj : j < sz := by rw [← hels i x hx']; exact (List.getElem?_eq_some_iff.1 hf).1
    have := hv i j x f hx' hf
    rw [show (vs.take (n.toNat * sz)).getD (i * sz + j) undef = vs.getD (i * sz + j) undef from by
      rw [List.getD_eq_getElem?_getD, List.getD_eq_getElem?_getD, List.getElem?_take, if_pos (idx_lt hi hj)]]
    exact this.move hmv
  · refine .own (sz := sz) (ty := ty) (els := els.take n.toNat) ?_ (upd_self _ _ _).symm hone
    exact getH_setH_self (by rw [subH_length]; exact getH_lt hb)
end
end Go.Proofs.Ai
