/- The abstract machine, 3: what its values and blocks say of a world; what stays. The abstract machine, 4: moves of a whole state: a new block, a row frozen, a row grown, a store. The abstract machine, 5: moves of a whole state: a new block; a row grown; a store; blocks left aside. The abstract machine, 6: a world that only grew; blocks left aside and taken up again; a place filled. -/
import Derived.Test.YtfjjeijkbhcoaaaBiExec
import Derived.Test.YtfjjeijkbhcoaaaBiDrawn
set_option linter.unusedVariables false
namespace Go.Proofs.Ai
open Go

inductive RepF (w : World) (ok : Nat → Prop) : FV → Value → Prop
  | sc {v} (h : v.oneCell' = true) : RepF w ok (.sc v) v
  | nil {sz A c} : RepF w ok (.sl sz []) (.slice A 0 c)
  | mp {es c g} (hok : ok g) (h : w.heap[g]? = some (.map es c)) : RepF w ok (.mp es c) (.map (some g))
  | sl {sz xs ad c} (U : Nat → Nat → Value) (hc : xs.length ≤ c) (hok : ok ad.block)
      (hsz : ∀ (i : Nat) (x : List FV), xs[i]? = some x → x.length = sz)
      (hcell : ∀ (i j : Nat) (x : List FV) (f : FV), xs[i]? = some x → x[j]? = some f → w.cell? (ad.add (i * sz + j)) = some (U i j))
      (hrep : ∀ (i j : Nat) (x : List FV) (f : FV), xs[i]? = some x → x[j]? = some f → RepF w ok f (U i j)) : RepF w ok (.sl sz xs) (.slice (some ad) xs.length c)

theorem RepF.move {w w' : World} {ok ok' : Nat → Prop} (hk : ∀ k, ok k → ok' k ∧ w'.heap[k]? = w.heap[k]?) {f : FV} {v : Value} (h : RepF w ok f v) : RepF w' ok' f v := by
  induction h with
  | sc h => exact .sc h
  | nil => exact .nil
  | mp hok h => exact .mp (hk _ hok).1 ((hk _ hok).2.trans h)
  | sl U hc hok hsz hcell hrep ih =>
    refine .sl U hc (hk _ hok).1 hsz (fun i j x f hx hf => ?_) ih
    rw [← hcell i j x f hx hf]
    refine World.cell?_of_block ?_
    rw [show (Addr.add _ (i * _ + j)).block = _ from by unfold Addr.add; split <;> rfl]
    exact (hk _ hok).2

theorem RepF.one {w : World} {ok : Nat → Prop} {f : FV} {v : Value} (h : RepF w ok f v) : v.oneCell' = true := by
  cases h with
  | sc h => exact h
  | nil => rfl
  | mp => rfl
  | sl => rfl

def blkOf : Value → Option Nat
  | .slice (some a) _ _ => some a.block
  | .pointer (some a) => some a.block
  | .map (some g) => some g
  | _ => none

/-- A map's value is its number, an iterator's a pointer to it. -/
def objV : Obj → Nat → Value
  | .map _ _, g => .map (some g)
  | _, g => .pointer (some ⟨g, 0, none⟩)
theorem blkOf_objV (o : Obj) (g : Nat) : blkOf (objV o g) = some g := by cases o <;> rfl
theorem one_objV (o : Obj) (g : Nat) : (objV o g).oneCell' = true := by cases o <;> rfl

def Taken (μ : Nat → Value) (H : AHeap) (k : Nat) : Prop := ∃ b B, getH H b = some B ∧ blkOf (μ b) = some k
def Fz (X : Nat → Prop) (μ : Nat → Value) (H : AHeap) (w : World) (k : Nat) : Prop := k < w.heap.size ∧ ¬ X k ∧ ¬ Taken μ H k

def refOf : AV → Option Nat
  | .own b | .ob b | .vw b _ _ | .ptr b _ | .ep b _ _ => some b
  | _ => none

inductive Rep (μ : Nat → Value) (H : AHeap) (w : World) (ok : Nat → Prop) : AV → Value → Prop
  | fz {f v} (h : RepF w ok f v) : Rep μ H w ok (.fz f) v
  | agg {l} {vs : Array Value} (hl : vs.size = l.length) (h : ∀ (i : Nat) (x : AV), l[i]? = some x → Rep μ H w ok x (vs.getD i undef)) (h1 : ∀ i, i < vs.size → (vs.getD i undef).oneCell' = true) : Rep μ H w ok (.agg l) (.agg vs)
  | own {b ty sz els v} (h : getH H b = some (.row ty sz els)) (hv : v = μ b) (h1 : v.oneCell' = true) : Rep μ H w ok (.own b) v
  | ob {b o v} (h : getH H b = some (.obj o)) (hv : v = μ b) (h1 : v.oneCell' = true) : Rep μ H w ok (.ob b) v
  | vw {b o m ty sz els A c} (h : getH H b = some (.row ty sz els)) (hm : o + m ≤ els.length) (hc : m ≤ c) (hA : 0 < m → ∃ g, blkOf (μ b) = some g ∧ A = some ⟨g, o * sz, none⟩) : Rep μ H w ok (.vw b o m) (.slice A m c)
  | ptr {b o ty cells g} (h : getH H b = some (.var ty cells)) (hg : blkOf (μ b) = some g) : Rep μ H w ok (.ptr b o) (.pointer (some ⟨g, o, none⟩))
  | ep {b i j ty sz els g} (h : getH H b = some (.row ty sz els)) (hi : i < els.length) (hg : blkOf (μ b) = some g) : Rep μ H w ok (.ep b i j) (.pointer (some ⟨g, i * sz + j, none⟩))
  | fp {cs ad} (U : Nat → Value) (hok : ok ad.block) (hcell : ∀ (j : Nat) (f : FV), cs[j]? = some f → w.cell? (ad.add j) = some (U j)) (hrep : ∀ (j : Nat) (f : FV), cs[j]? = some f → RepF w ok f (U j)) : Rep μ H w ok (.fp cs) (.pointer (some ad))
  | ifc {t x v} (h : Rep μ H w ok x v) : Rep μ H w ok (.ifc t x) (.iface t v)
  | fn {f a c} {as cs : Array Value} (ha : as.size = a.length) (hc : cs.size = c.length) (h : ∀ (i : Nat) (x : AV), a[i]? = some x → Rep μ H w ok x (as.getD i undef)) (h' : ∀ (i : Nat) (x : AV), c[i]? = some x → Rep μ H w ok x (cs.getD i undef)) : Rep μ H w ok (.fn f a c) (.func f as cs)
  | tup {l} {vs : Array Value} (hl : vs.size = l.length) (h : ∀ (i : Nat) (x : AV), l[i]? = some x → Rep μ H w ok x (vs.getD i undef)) : Rep μ H w ok (.tup l) (.tuple vs)
  | dead {x v b} (hx : refOf x = some b) (hb : b < H.length) (h : getH H b = none) (h1 : v.oneCell' = true) : Rep μ H w ok x v
  | junk {v} : Rep μ H w ok .junk v

def BRep (μ : Nat → Value) (H : AHeap) (w : World) (ok : Nat → Prop) (b : Nat) : Blk → Prop
  | .var ty cells => ∃ g cur, μ b = .pointer (some ⟨g, 0, none⟩) ∧ w.heap[g]? = some (.cells cur ty (0, 0)) ∧ cur.size = cells.length ∧
      ∀ (i : Nat) (x : AV), cells[i]? = some x → Rep μ H w ok x (cur.getD i undef) ∧ (cur.getD i undef).oneCell' = true
  | .row ty sz els => 0 < sz ∧ (∀ (i : Nat) (x : List FV), els[i]? = some x → x.length = sz) ∧ ∃ vals : List Value, w.ownsRow 0 ty sz (μ b) els.length vals ∧
      ∀ (i j : Nat) (x : List FV) (f : FV), els[i]? = some x → x[j]? = some f → RepF w ok f (vals.getD (i * sz + j) undef)
  | .obj o => ∃ g, μ b = objV o g ∧ w.heap[g]? = some o

structure Rel (X : Nat → Prop) (μ : Nat → Value) (H : AHeap) (w : World) : Prop where
  xlt : ∀ k, X k → k < w.heap.size
  notX : ∀ b B k, getH H b = some B → blkOf (μ b) = some k → ¬ X k
  dis : ∀ b b' B B' k, getH H b = some B → getH H b' = some B' → blkOf (μ b) = some k → blkOf (μ b') = some k → b = b'
  blk : ∀ b B, getH H b = some B → BRep μ H w (Fz X μ H w) b B

def sameKind : Blk → Blk → Prop
  | .var ty cells, .var ty' cells' => ty = ty' ∧ cells.length = cells'.length
  | .row ty sz els, .row ty' sz' els' => ty = ty' ∧ sz = sz' ∧ els.length = els'.length
  | .obj o, .obj o' => ∀ g, objV o g = objV o' g
  | _, _ => False

theorem sameKind.refl : ∀ B : Blk, sameKind B B
  | .var _ _ => ⟨rfl, rfl⟩
  | .row _ _ _ => ⟨rfl, rfl, rfl⟩
  | .obj _ => fun _ => rfl
theorem sameKind.trans : ∀ {A B C : Blk}, sameKind A B → sameKind B C → sameKind A C
  | .var _ _, .var _ _, .var _ _, h, k => ⟨h.1.trans k.1, h.2.trans k.2⟩
  | .row _ _ _, .row _ _ _, .row _ _ _, h, k => ⟨h.1.trans k.1, h.2.1.trans k.2.1, h.2.2.trans k.2.2⟩
  | .obj _, .obj _, .obj _, h, k => fun g => (h g).trans (k g)

/-- What stays: the first N blocks keep their places and kinds (or die); nothing else of the old memory is touched. -/
structure Keep (N : Nat) (μ : Nat → Value) (H : AHeap) (w : World) (μ' : Nat → Value) (H' : AHeap) (w' : World) : Prop where
  size : w.heap.size ≤ w'.heap.size
  os : w'.os = w.os
  tape : TapeOK w w'
  output : w'.output = w.output
  heap : ∀ k, k < w.heap.size → ¬ Taken μ H k → w'.heap[k]? = w.heap[k]?
  free : ∀ k, k < w.heap.size → ¬ Taken μ H k → ¬ Taken μ' H' k
  len : N ≤ H'.length
  old : ∀ b B', b < N → getH H' b = some B' → μ' b = μ b ∧ ∃ B, getH H b = some B ∧ sameKind B B'

theorem Keep.refl {N : Nat} {μ : Nat → Value} {H : AHeap} {w : World} (hN : N ≤ H.length) : Keep N μ H w μ H w :=
  ⟨Nat.le_refl _, rfl, TapeOK.refl w, rfl, fun _ _ _ => rfl, fun _ _ h => h, hN, fun b B hb h => ⟨rfl, B, h, sameKind.refl B⟩⟩
theorem Keep.trans {N : Nat} {μ μ' μ'' : Nat → Value} {H H' H'' : AHeap} {w w' w'' : World} (h : Keep N μ H w μ' H' w') (k : Keep N μ' H' w' μ'' H'' w'') : Keep N μ H w μ'' H'' w'' where
  size := Nat.le_trans h.size k.size
  os := k.os.trans h.os
  tape := k.tape.trans h.tape
  output := k.output.trans h.output
  heap j hj hn := (k.heap j (Nat.lt_of_lt_of_le hj h.size) (h.free j hj hn)).trans (h.heap j hj hn)
  free j hj hn := k.free j (Nat.lt_of_lt_of_le hj h.size) (h.free j hj hn)
  len := k.len
  old b B' hb h' := by
    obtain ⟨e1, B1, h1, s1⟩ := k.old b B' hb h'
    obtain ⟨e2, B2, h2, s2⟩ := h.old b B1 hb h1
    exact ⟨e1.trans e2, B2, h2, s2.trans s1⟩
theorem Keep.mono {N N' : Nat} {μ μ' : Nat → Value} {H H' : AHeap} {w w' : World} (h : Keep N μ H w μ' H' w') (hN : N' ≤ N) : Keep N' μ H w μ' H' w' :=
  ⟨h.size, h.os, h.tape, h.output, h.heap, h.free, Nat.le_trans hN h.len, fun b B' hb h' => h.old b B' (Nat.lt_of_lt_of_le hb hN) h'⟩

/-! ### lists of blocks -/
theorem getH_lt : ∀ {H : AHeap} {b : Nat} {B : Blk}, getH H b = some B → b < H.length
  | [], b, B, h => by cases b <;> simp [getH] at h
  | x :: r, 0, B, _ => by simp
  | x :: r, b + 1, B, h => by
    have := getH_lt (H := r) (b := b) (B := B) (by simpa [getH] using h)
    simp; omega
theorem getH_append_old : ∀ {H H' : AHeap} {b : Nat}, b < H.length → getH (H ++ H') b = getH H b
  | [], _, b, h => by simp at h
  | x :: r, _, 0, _ => rfl
  | x :: r, H', b + 1, h => by
    simp only [List.cons_append, getH]
    exact getH_append_old (by simpa using h)
theorem getH_append_new : ∀ {H H' : AHeap} {b : Nat}, H.length ≤ b → getH (H ++ H') b = getH H' (b - H.length)
  | [], _, b, _ => by simp
  | x :: r, H', 0, h => by simp at h
  | x :: r, H', b + 1, h => by
    simp only [List.cons_append, getH, List.length_cons]
    rw [getH_append_new (by simpa using h)]
    congr 1
    omega
theorem getH_last (H : AHeap) (B : Blk) : getH (H ++ [some B]) H.length = some B := by
  rw [getH_append_new (Nat.le_refl _), Nat.sub_self]; rfl
theorem getH_push {H : AHeap} {B : Blk} {b : Nat} {B' : Blk} (h : getH (H ++ [some B]) b = some B') : (b < H.length ∧ getH H b = some B') ∨ (b = H.length ∧ B = B') := by
  rcases Nat.lt_or_ge b H.length with hb | hb
  · rw [getH_append_old hb] at h; exact .inl ⟨hb, h⟩
  · have hlt := getH_lt h
    simp at hlt
    obtain rfl : b = H.length := by omega
    rw [getH_last] at h
    exact .inr ⟨rfl, Option.some.inj h⟩
theorem length_setH : ∀ (H : AHeap) (b : Nat) (v : Option Blk), (setH H b v).length = H.length
  | [], _, _ => rfl
  | _ :: _, 0, _ => rfl
  | x :: r, b + 1, v => by simp [setH, length_setH r b v]
theorem getH_setH_self : ∀ {H : AHeap} {b : Nat} {v : Option Blk}, b < H.length → getH (setH H b v) b = v
  | [], _, _, h => by simp at h
  | _ :: _, 0, _, _ => rfl
  | x :: r, b + 1, v, h => by simp only [setH, getH]; exact getH_setH_self (by simpa using h)
theorem getH_setH_ne : ∀ {H : AHeap} {b c : Nat} {v : Option Blk}, c ≠ b → getH (setH H b v) c = getH H c
  | [], _, _, _, _ => rfl
  | _ :: _, 0, 0, _, h => absurd rfl h
  | _ :: _, 0, c + 1, _, _ => rfl
  | x :: r, b + 1, 0, v, _ => rfl
  | x :: r, b + 1, c + 1, v, h => by simp only [setH, getH]; exact getH_setH_ne (by omega)
theorem getT_setT_self : ∀ {l : List AV} {n : Nat} {v : AV}, n < l.length → getT (setT l n v) n = v
  | [], _, _, h => by simp at h
  | _ :: _, 0, _, _ => rfl
  | x :: r, n + 1, v, h => by simp only [setT, getT]; exact getT_setT_self (by simpa using h)
theorem getT_setT_ne : ∀ {l : List AV} {n m : Nat} {v : AV}, m ≠ n → getT (setT l n v) m = getT l m
  | [], _, _, _, _ => rfl
  | _ :: _, 0, 0, _, h => absurd rfl h
  | _ :: _, 0, m + 1, _, _ => rfl
  | x :: r, n + 1, 0, v, _ => rfl
  | x :: r, n + 1, m + 1, v, h => by simp only [setT, getT]; exact getT_setT_ne (by omega)
theorem length_setT : ∀ (l : List AV) (n : Nat) (v : AV), (setT l n v).length = l.length
  | [], _, _ => rfl
  | _ :: _, 0, _ => rfl
  | x :: r, n + 1, v => by simp [setT, length_setT r n v]
theorem getT_oob : ∀ {l : List AV} {n : Nat}, l.length ≤ n → getT l n = .junk
  | [], _, _ => rfl
  | _ :: _, 0, h => by simp at h
  | x :: r, n + 1, h => by simp only [getT]; exact getT_oob (by simpa using h)
theorem getT_eq : ∀ (l : List AV) (n : Nat), getT l n = (l[n]?).getD .junk
  | [], n => by simp [getT]
  | x :: _, 0 => rfl
  | x :: r, n + 1 => by simp [getT, getT_eq r n]

/-! ### what stays -/
theorem Taken.congr {μ μ' : Nat → Value} {H : AHeap} (h : ∀ b B, getH H b = some B → μ' b = μ b) {k : Nat} : Taken μ' H k ↔ Taken μ H k := by
  constructor
  · rintro ⟨b, B, hb, hk⟩; exact ⟨b, B, hb, by rw [← h b B hb]; exact hk⟩
  · rintro ⟨b, B, hb, hk⟩; exact ⟨b, B, hb, by rw [h b B hb]; exact hk⟩

/-- A value's reading is carried on. -/
theorem Rep.keep {μ μ' : Nat → Value} {H H' : AHeap} {w w' : World} {ok ok' : Nat → Prop} (hlen : H.length ≤ H'.length)
    (hold : ∀ b B', b < H.length → getH H' b = some B' → μ' b = μ b ∧ ∃ B, getH H b = some B ∧ sameKind B B')
    (hk : ∀ k, ok k → ok' k ∧ w'.heap[k]? = w.heap[k]?) {x : AV} {v : Value} (h : Rep μ H w ok x v) : Rep μ' H' w' ok' x v := by
  have live : ∀ {b : Nat} {B : Blk}, getH H b = some B → (getH H' b = none ∧ b < H'.length) ∨ ∃ B', getH H' b = some B' ∧ μ' b = μ b ∧ sameKind B B' := by
    intro b B hb
    have hlt := getH_lt hb
    cases h' : getH H' b with
    | none => exact .inl ⟨rfl, Nat.lt_of_lt_of_le hlt hlen⟩
    | some B' =>
      obtain ⟨e, B0, h0, s⟩ := hold b B' hlt h'
      rw [hb] at h0
      cases h0
      exact .inr ⟨B', rfl, e, s⟩
  induction h with
  | fz h => exact .fz (h.move hk)
  | agg hl _ h1 ih => exact .agg hl ih h1
  | own h hv h1 =>
    rcases live h with ⟨hn, hb⟩ | ⟨B', hB', e, s⟩
    · exact .dead rfl hb hn h1
    · cases B' with
      | var => cases s
      | obj => cases s
      | row => exact .own hB' (hv.trans e.symm) h1
  | ob h hv h1 =>
    rcases live h with ⟨hn, hb⟩ | ⟨B', hB', e, s⟩
    · exact .dead rfl hb hn h1
    · cases B' with
      | var => cases s
      | row => cases s
      | obj => exact .ob hB' (hv.trans e.symm) h1
  | vw h hm hc hA =>
    rcases live h with ⟨hn, hb⟩ | ⟨B', hB', e, s⟩
    · exact .dead rfl hb hn rfl
    · cases B' with
      | var => cases s
      | obj => cases s
      | row ty sz els =>
        obtain ⟨rfl, rfl, hl⟩ := s
        exact .vw hB' (hl ▸ hm) hc (fun h0 => by rw [e]; exact hA h0)
  | ptr h hg =>
    rcases live h with ⟨hn, hb⟩ | ⟨B', hB', e, s⟩
    · exact .dead rfl hb hn rfl
    · cases B' with
      | row => cases s
      | obj => cases s
      | var ty cells => exact .ptr hB' (by rw [e]; exact hg)
  | ep h hi hg =>
    rcases live h with ⟨hn, hb⟩ | ⟨B', hB', e, s⟩
    · exact .dead rfl hb hn rfl
    · cases B' with
      | var => cases s
      | obj => cases s
      | row ty sz els =>
        obtain ⟨rfl, rfl, hl⟩ := s
        exact .ep hB' (hl ▸ hi) (by rw [e]; exact hg)
  | fp U hok hcell hrep =>
    refine .fp U (hk _ hok).1 (fun j f hf => ?_) (fun j f hf => (hrep j f hf).move hk)
    rw [← hcell j f hf]
    refine World.cell?_of_block ?_
    rw [show (Addr.add _ j).block = _ from by unfold Addr.add; split <;> rfl]
    exact (hk _ hok).2
  | ifc _ ih => exact .ifc ih
  | fn ha hc _ _ ih ih' => exact .fn ha hc ih ih'
  | tup hl _ ih => exact .tup hl ih
  | dead hx hb h h1 =>
    refine .dead hx (Nat.lt_of_lt_of_le hb hlen) ?_ h1
    cases h' : getH H' _ with
    | none => rfl
    | some B' =>
      obtain ⟨_, B0, h0, _⟩ := hold _ B' hb h'
      rw [h] at h0
      cases h0
  | junk => exact .junk

end Go.Proofs.Ai
set_option linter.unusedVariables false
namespace Go.Proofs.Ai
open Go

theorem subL_get (b : Nat) (r : AV) : ∀ (l : List AV) (i : Nat), (subL b r l)[i]? = (l[i]?).map (subA b r)
  | [], i => by simp [subL]
  | x :: l, 0 => by simp [subL]
  | x :: l, i + 1 => by simp [subL, subL_get b r l i]
theorem subL_length (b : Nat) (r : AV) : ∀ l : List AV, (subL b r l).length = l.length
  | [] => rfl
  | x :: l => by simp [subL, subL_length b r l]
theorem subH_get (b : Nat) (r : AV) : ∀ (H : AHeap) (c : Nat), getH (subH b r H) c = subB b r (getH H c)
  | [], c => by cases c <;> rfl
  | x :: l, 0 => rfl
  | x :: l, c + 1 => by simp only [subH, getH]; exact subH_get b r l c
theorem subH_length (b : Nat) (r : AV) : ∀ H : AHeap, (subH b r H).length = H.length
  | [] => rfl
  | x :: l => by simp [subH, subH_length b r l]
theorem subL_getT (b : Nat) (r : AV) : ∀ (l : List AV) (i : Nat), getT (subL b r l) i = subA b r (getT l i)
  | [], i => by simp [subL, getT, subA]
  | x :: l, 0 => rfl
  | x :: l, i + 1 => by simp only [subL, getT]; exact subL_getT b r l i
theorem subB_kind (b : Nat) (r : AV) {x : Option Blk} {B' : Blk} (h : subB b r x = some B') : ∃ B, x = some B ∧ sameKind B B' := by
  cases x with
  | none => simp [subB] at h
  | some B =>
    cases B with
    | var ty cells => simp [subB] at h; subst h; exact ⟨_, rfl, rfl, (subL_length b r cells).symm⟩
    | row ty sz els => simp [subB] at h; subst h; exact ⟨_, rfl, rfl, rfl, rfl⟩
    | obj o => simp [subB] at h; subst h; exact ⟨_, rfl, fun _ => rfl⟩

/-- A reading under a substitution of row b's value. -/
theorem Rep.sub {μ μ' : Nat → Value} {H H' : AHeap} {w w' : World} {ok ok' : Nat → Prop} {b : Nat} {r : AV} {B : Blk} (hb : getH H b = some B) (hrow : ∃ ty sz els, B = .row ty sz els) (hlen : H.length ≤ H'.length)
    (hold : ∀ c B', c ≠ b → c < H.length → getH H' c = some B' → μ' c = μ c ∧ ∃ B, getH H c = some B ∧ sameKind B B')
    (hk : ∀ k, ok k → ok' k ∧ w'.heap[k]? = w.heap[k]?) (hr : ∀ v, v = μ b → v.oneCell' = true → Rep μ' H' w' ok' r v) {x : AV} {v : Value} (h : Rep μ H w ok x v) : Rep μ' H' w' ok' (subA b r x) v := by
  have live : ∀ {c : Nat} {B : Blk}, c ≠ b → getH H c = some B → (getH H' c = none ∧ c < H'.length) ∨ ∃ B', getH H' c = some B' ∧ μ' c = μ c ∧ sameKind B B' := by
    intro c B hc hB
    have hlt := getH_lt hB
    cases h' : getH H' c with
    | none => exact .inl ⟨rfl, Nat.lt_of_lt_of_le hlt hlen⟩
    | some B' =>
      obtain ⟨e, B0, h0, s⟩ := hold c B' hc hlt h'
      rw [hB] at h0
      cases h0
      exact .inr ⟨B', rfl, e, s⟩
  obtain ⟨bty, bsz, bels, rfl⟩ := hrow
  induction h with
  | fz h => simp only [subA]; exact .fz (h.move hk)
  | agg hl _ h1 ih =>
    simp only [subA]
    refine .agg (by rw [subL_length]; exact hl) (fun i x hx => ?_) h1
    rw [subL_get] at hx
    obtain ⟨y, hy, rfl⟩ := Option.map_eq_some_iff.1 hx
    exact ih i y hy
  | @own c ty sz els v h hv h1 =>
    simp only [subA]
    by_cases hc : c = b
    · subst hc; rw [if_pos rfl]; exact hr _ hv h1
    · rw [if_neg hc]
      rcases live hc h with ⟨hn, hb'⟩ | ⟨B', hB', e, s⟩
      · exact .dead rfl hb' hn h1
      · cases B' with
        | var => cases s
        | obj => cases s
        | row => exact .own hB' (hv.trans e.symm) h1
  | @ob c o v h hv h1 =>
    simp only [subA]
    have hc : c ≠ b := by rintro rfl; rw [hb] at h; cases h
    rcases live hc h with ⟨hn, hb'⟩ | ⟨B', hB', e, s⟩
    · exact .dead rfl hb' hn h1
    · cases B' with
      | row => cases s
      | var => cases s
      | obj => exact .ob hB' (hv.trans e.symm) h1
  | @vw c o m ty sz els A cc h hm hcc hA =>
    simp only [subA]
    by_cases hc : c = b
    · rw [if_pos hc]; exact .junk
    · rw [if_neg hc]
      rcases live hc h with ⟨hn, hb'⟩ | ⟨B', hB', e, s⟩
      · exact .dead rfl hb' hn rfl
      · cases B' with
        | var => cases s
        | obj => cases s
        | row ty sz els =>
          obtain ⟨rfl, rfl, hl⟩ := s
          exact .vw hB' (hl ▸ hm) hcc (fun h0 => by rw [e]; exact hA h0)
  | @ptr c o ty cells g h hg =>
    simp only [subA]
    have hc : c ≠ b := by rintro rfl; rw [hb] at h; cases h
    rcases live hc h with ⟨hn, hb'⟩ | ⟨B', hB', e, s⟩
    · exact .dead rfl hb' hn rfl
    · cases B' with
      | row => cases s
      | obj => cases s
      | var ty cells => exact .ptr hB' (by rw [e]; exact hg)
  | @ep c i j ty sz els g h hi hg =>
    simp only [subA]
    by_cases hc : c = b
    · rw [if_pos hc]; exact .junk
    · rw [if_neg hc]
      rcases live hc h with ⟨hn, hb'⟩ | ⟨B', hB', e, s⟩
      · exact .dead rfl hb' hn rfl
      · cases B' with
        | var => cases s
        | obj => cases s
        | row ty sz els =>
          obtain ⟨rfl, rfl, hl⟩ := s
          exact .ep hB' (hl ▸ hi) (by rw [e]; exact hg)
  | fp U hok hcell hrep =>
    simp only [subA]
    refine .fp U (hk _ hok).1 (fun j f hf => ?_) (fun j f hf => (hrep j f hf).move hk)
    rw [← hcell j f hf]
    refine World.cell?_of_block ?_
    rw [show (Addr.add _ j).block = _ from by unfold Addr.add; split <;> rfl]
    exact (hk _ hok).2
  | ifc _ ih => simp only [subA]; exact .ifc ih
  | fn ha hc _ _ ih ih' =>
    simp only [subA]
    refine .fn (by rw [subL_length]; exact ha) (by rw [subL_length]; exact hc) (fun i x hx => ?_) (fun i x hx => ?_)
    · rw [subL_get] at hx
      obtain ⟨y, hy, rfl⟩ := Option.map_eq_some_iff.1 hx
      exact ih i y hy
    · rw [subL_get] at hx
      obtain ⟨y, hy, rfl⟩ := Option.map_eq_some_iff.1 hx
      exact ih' i y hy
  | tup hl _ ih =>
    simp only [subA]
    refine .tup (by rw [subL_length]; exact hl) (fun i x hx => ?_)
    rw [subL_get] at hx
    obtain ⟨y, hy, rfl⟩ := Option.map_eq_some_iff.1 hx
    exact ih i y hy
  | @dead x v c hx hc h h1 =>
    have hcb : c ≠ b := by rintro rfl; rw [hb] at h; cases h
    have hd : getH H' c = none := by
      cases h' : getH H' c with
      | none => rfl
      | some B' =>
        obtain ⟨_, B0, h0, _⟩ := hold c B' hcb hc h'
        rw [h] at h0
        cases h0
    have hx' : subA b r x = x := by
      cases x <;> simp [refOf] at hx <;> subst hx <;> simp [subA, hcb]
    rw [hx']
    exact .dead hx (Nat.lt_of_lt_of_le hc hlen) hd h1
  | junk => simp only [subA]; exact .junk

/-! ### the places of blocks -/
theorem BRep.lt {μ : Nat → Value} {H : AHeap} {w : World} {ok : Nat → Prop} {b : Nat} {B : Blk} (h : BRep μ H w ok b B) {k : Nat} (hk : blkOf (μ b) = some k) : k < w.heap.size := by
  cases B with
  | var ty cells =>
    obtain ⟨g, cur, e, hg, _⟩ := h
    rw [e] at hk
    simp [blkOf] at hk
    subst hk
    exact (Array.getElem?_eq_some_iff.1 hg).1
  | row ty sz els =>
    obtain ⟨_, _, vals, ho, _⟩ := h
    rcases ho.2 with ⟨e, _⟩ | ⟨g, cap, cur, e, _, hg, _⟩
    · rw [e] at hk; simp [blkOf] at hk
    · rw [e] at hk
      simp [blkOf] at hk
      subst hk
      exact (Array.getElem?_eq_some_iff.1 hg).1
  | obj o =>
    obtain ⟨g, e, hg⟩ := h
    have : g = k := by rw [e, blkOf_objV] at hk; exact Option.some.inj hk
    subst this
    exact (Array.getElem?_eq_some_iff.1 hg).1
theorem BRep.one {μ : Nat → Value} {H : AHeap} {w : World} {ok : Nat → Prop} {b : Nat} {B : Blk} (h : BRep μ H w ok b B) : (μ b).oneCell' = true := by
  cases B with
  | var ty cells => obtain ⟨g, cur, e, _⟩ := h; rw [e]; rfl
  | row ty sz els =>
    obtain ⟨_, _, vals, ho, _⟩ := h
    rcases ho.2 with ⟨e, _⟩ | ⟨g, cap, cur, e, _⟩ <;> rw [e] <;> rfl
  | obj o => obtain ⟨g, e, _⟩ := h; rw [e]; exact one_objV o g
theorem BRep.objMove {μ μ' : Nat → Value} {H H' : AHeap} {w w' : World} {ok ok' : Nat → Prop} {b b' : Nat} {o : Obj} (h : BRep μ H w ok b (.obj o)) (hu : μ' b' = μ b) (hh : ∀ k, blkOf (μ b) = some k → w'.heap[k]? = w.heap[k]?) : BRep μ' H' w' ok' b' (.obj o) := by
  obtain ⟨g, e, hg⟩ := h
  exact ⟨g, by rw [hu]; exact e, (hh g (by rw [e]; exact blkOf_objV o g)).trans hg⟩
theorem Rel.lt {X : Nat → Prop} {μ : Nat → Value} {H : AHeap} {w : World} (h : Rel X μ H w) {b : Nat} {B : Blk} (hb : getH H b = some B) {k : Nat} (hk : blkOf (μ b) = some k) : k < w.heap.size := (h.blk b B hb).lt hk
theorem Rel.taken_lt {X : Nat → Prop} {μ : Nat → Value} {H : AHeap} {w : World} (h : Rel X μ H w) {k : Nat} (hk : Taken μ H k) : k < w.heap.size := by
  obtain ⟨b, B, hb, e⟩ := hk
  exact h.lt hb e

/-- The reading of the rows of a block. -/
theorem ownsRow_move {w w1 : World} {base : Nat} {e : TypeId} {size n : Nat} {v : Value} {xs : List Value} (h : w.ownsRow base e size v n xs) (hm : ∀ k, blkOf v = some k → w1.heap[k]? = w.heap[k]?) : w1.ownsRow base e size v n xs := by
  obtain ⟨h1, h2⟩ := h
  refine ⟨h1, ?_⟩
  rcases h2 with h2 | ⟨g, cap, cur, rfl, hg, hh, r⟩
  · exact .inl h2
  · exact .inr ⟨g, cap, cur, rfl, hg, (hm g (by simp [blkOf])).trans hh, r⟩

/-- An own row, read as frozen data. -/
theorem row_frozen {μ : Nat → Value} {H : AHeap} {w w' : World} {ok ok' : Nat → Prop} {b : Nat} {ty sz : Nat} {els : List (List FV)} (h : BRep μ H w ok b (.row ty sz els)) (hk : ∀ k, ok k → ok' k ∧ w'.heap[k]? = w.heap[k]?)
    (hb : ∀ k, blkOf (μ b) = some k → ok' k ∧ w'.heap[k]? = w.heap[k]?) : RepF w' ok' (.sl sz els) (μ b) := by
  obtain ⟨hsz, hels, vals, ho, hv⟩ := h
  have ho' := ownsRow_move ho (fun k hk' => (hb k hk').2)
  rcases ho.2 with ⟨e, hn⟩ | ⟨g, cap, cur, e, _, hg, hnc, _, _, _⟩
  · rw [e]
    obtain rfl : els = [] := List.eq_nil_of_length_eq_zero hn
    exact .nil
  · rw [e] at ho' hb ⊢
    refine .sl (fun i j => vals.getD (i * sz + j) undef) hnc (hb g (by simp [blkOf])).1 hels (fun i j x f hx hf => ?_) (fun i j x f hx hf => (hv i j x f hx hf).move hk)
    refine ho'.cells (g := g) rfl (i * sz + j) _ ?_
    have hlt : i * sz + j < vals.length := by
      have hl := ho.1
      have hi : i < els.length := (List.getElem?_eq_some_iff.1 hx).1
      have hj : j < sz := by rw [← hels i x hx]; exact (List.getElem?_eq_some_iff.1 hf).1
      rw [hl]
      have : (i + 1) * sz ≤ els.length * sz := Nat.mul_le_mul_right _ hi
      rw [Nat.add_mul] at this
      omega
    simp [List.getD_eq_getElem?_getD, List.getElem?_eq_getElem hlt]

/-! ### a row is frozen -/
theorem Rel.kill {X : Nat → Prop} {μ : Nat → Value} {H : AHeap} {w : World} (h : Rel X μ H w) {b : Nat} {ty sz : Nat} {els : List (List FV)} (hb : getH H b = some (.row ty sz els)) :
    Rel X μ (setH (subH b (.fz (.sl sz els)) H) b none) w ∧ Keep H.length μ H w μ (setH (subH b (.fz (.sl sz els)) H) b none) w ∧
    ∀ x v, Rep μ H w (Fz X μ H w) x v → Rep μ (setH (subH b (.fz (.sl sz els)) H) b none) w (Fz X μ (setH (subH b (.fz (.sl sz els)) H) b none) w) (subA b (.fz (.sl sz els)) x) v := by
  have hblt := getH_lt hb
  have hself : getH (setH (subH b (.fz (.sl sz els)) H) b none) b = none := getH_setH_self (by rw [subH_length]; exact hblt)
  have hne : ∀ c, c ≠ b → getH (setH (subH b (.fz (.sl sz els)) H) b none) c = subB b (.fz (.sl sz els)) (getH H c) := fun c hc => by rw [getH_setH_ne hc, subH_get]
  have hlen : (setH (subH b (.fz (.sl sz els)) H) b none).length = H.length := by rw [length_setH, subH_length]
  generalize hH' : setH (subH b (.fz (.sl sz els)) H) b none = H' at *
  have hold : ∀ c B', c ≠ b → c < H.length → getH H' c = some B' → μ c = μ c ∧ ∃ B, getH H c = some B ∧ sameKind B B' := fun c B' hc _ h' => by
    rw [hne c hc] at h'
    exact ⟨rfl, subB_kind _ _ h'⟩
  have hold' : ∀ c B', c < H.length → getH H' c = some B' → μ c = μ c ∧ ∃ B, getH H c = some B ∧ sameKind B B' := fun c B' hlt h' => by
    by_cases hc : c = b
    · subst hc; rw [hself] at h'; cases h'
    · exact hold c B' hc hlt h'
  have htk : ∀ k, Taken μ H' k → Taken μ H k := by
    rintro k ⟨c, B', hc, e⟩
    obtain ⟨_, B, hB, _⟩ := hold' c B' (by rw [← hlen]; exact getH_lt hc) hc
    exact ⟨c, B, hB, e⟩
  have hfz : ∀ k, Fz X μ H w k → Fz X μ H' w k := fun k hk => ⟨hk.1, hk.2.1, fun ht => hk.2.2 (htk k ht)⟩
  have hmv : ∀ k, Fz X μ H w k → Fz X μ H' w k ∧ w.heap[k]? = w.heap[k]? := fun k hk => ⟨hfz k hk, rfl⟩
  have hbok : ∀ k, blkOf (μ b) = some k → Fz X μ H' w k ∧ w.heap[k]? = w.heap[k]? := fun k hk => by
    refine ⟨⟨h.lt hb hk, h.notX b _ k hb hk, ?_⟩, rfl⟩
    rintro ⟨c, B', hc, e⟩
    have hcb : c ≠ b := by rintro rfl; rw [hself] at hc; cases hc
    obtain ⟨_, B, hB, _⟩ := hold c B' hcb (by rw [← hlen]; exact getH_lt hc) hc
    exact hcb (h.dis c b B _ k hB hb e hk)
  have hr : ∀ v, v = μ b → v.oneCell' = true → Rep μ H' w (Fz X μ H' w) (.fz (.sl sz els)) v := fun v hv _ => by
    rw [hv]
    exact .fz (row_frozen (h.blk b _ hb) hmv hbok)
  have hsub : ∀ x v, Rep μ H w (Fz X μ H w) x v → Rep μ H' w (Fz X μ H' w) (subA b (.fz (.sl sz els)) x) v := fun x v hx =>
    hx.sub hb ⟨_, _, _, rfl⟩ (by rw [hlen]; exact Nat.le_refl _) hold hmv hr
  refine ⟨⟨h.xlt, fun c B' k hc e => ?_, fun c c' B B' k hc hc' e e' => ?_, fun c B' hc => ?_⟩, ⟨Nat.le_refl _, rfl, TapeOK.refl _, rfl, fun _ _ _ => rfl, fun k _ hn ht => hn (htk k ht), by rw [hlen]; exact Nat.le_refl _, hold'⟩, hsub⟩
  · obtain ⟨_, B, hB, _⟩ := hold' c B' (by rw [← hlen]; exact getH_lt hc) hc
    exact h.notX c B k hB e
  · obtain ⟨_, B0, hB, _⟩ := hold' c B (by rw [← hlen]; exact getH_lt hc) hc
    obtain ⟨_, B0', hB', _⟩ := hold' c' B' (by rw [← hlen]; exact getH_lt hc') hc'
    exact h.dis c c' _ _ k hB hB' e e'
  · have hcb : c ≠ b := by rintro rfl; rw [hself] at hc; cases hc
    rw [hne c hcb] at hc
    cases hB : getH H c with
    | none => rw [hB] at hc; simp [subB] at hc
    | some B0 =>
      have hrep := h.blk c B0 hB
      cases B0 with
      | var cty cells =>
        rw [hB] at hc
        simp [subB] at hc
        subst hc
        obtain ⟨g, cur, e, hg, hcs, hcell⟩ := hrep
        refine ⟨g, cur, e, hg, by rw [subL_length]; exact hcs, fun i x hx => ?_⟩
        rw [subL_get] at hx
        obtain ⟨y, hy, rfl⟩ := Option.map_eq_some_iff.1 hx
        exact ⟨hsub y _ (hcell i y hy).1, (hcell i y hy).2⟩
      | row cty csz cels =>
        rw [hB] at hc
        simp [subB] at hc
        subst hc
        obtain ⟨h1, h2, vals, ho, hv⟩ := hrep
        exact ⟨h1, h2, vals, ho, fun i j x f hx hf => (hv i j x f hx hf).move hmv⟩
      | obj o =>
        rw [hB] at hc
        simp [subB] at hc
        subst hc
        exact BRep.objMove hrep rfl (fun _ _ => rfl)

end Go.Proofs.Ai
set_option linter.unusedVariables false
namespace Go.Proofs.Ai
open Go

def upd (μ : Nat → Value) (b : Nat) (u : Value) : Nat → Value := fun c => if c = b then u else μ c
theorem upd_self (μ : Nat → Value) (b : Nat) (u : Value) : upd μ b u b = u := if_pos rfl
theorem upd_ne {μ : Nat → Value} {b c : Nat} {u : Value} (h : c ≠ b) : upd μ b u c = μ c := if_neg h

section push
variable {X : Nat → Prop} {μ : Nat → Value} {H : AHeap} {w w' : World} {u : Value} {B : Blk}

theorem push_old : ∀ c B', c < H.length → getH (H ++ [some B]) c = some B' → upd μ H.length u c = μ c ∧ ∃ B, getH H c = some B ∧ sameKind B B' := fun c B' hc h => by
  rw [getH_append_old hc] at h
  exact ⟨upd_ne (by omega), B', h, sameKind.refl _⟩
theorem push_fz (h : Rel X μ H w) (hsize : w.heap.size ≤ w'.heap.size) (hheap : ∀ k, k < w.heap.size → w'.heap[k]? = w.heap[k]?) (hu : ∀ k, blkOf u = some k → w.heap.size ≤ k) :
    ∀ k, Fz X μ H w k → Fz X (upd μ H.length u) (H ++ [some B]) w' k ∧ w'.heap[k]? = w.heap[k]? := fun k hk => by
  refine ⟨⟨Nat.lt_of_lt_of_le hk.1 hsize, hk.2.1, ?_⟩, hheap k hk.1⟩
  rintro ⟨c, B', hc, e⟩
  rcases getH_push hc with ⟨hlt, hc'⟩ | ⟨rfl, _⟩
  · rw [upd_ne (by omega)] at e
    exact hk.2.2 ⟨c, B', hc', e⟩
  · rw [upd_self] at e
    have := hu k e
    have := hk.1
    omega
theorem push_rep (h : Rel X μ H w) (hsize : w.heap.size ≤ w'.heap.size) (hheap : ∀ k, k < w.heap.size → w'.heap[k]? = w.heap[k]?) (hu : ∀ k, blkOf u = some k → w.heap.size ≤ k) {x : AV} {v : Value}
    (hx : Rep μ H w (Fz X μ H w) x v) : Rep (upd μ H.length u) (H ++ [some B]) w' (Fz X (upd μ H.length u) (H ++ [some B]) w') x v :=
  hx.keep (by simp) push_old (push_fz h hsize hheap hu)

/-- A new block. -/
theorem Rel.push (h : Rel X μ H w) (hsize : w.heap.size ≤ w'.heap.size) (hos : w'.os = w.os) (htape : TapeOK w w') (hout : w'.output = w.output) (hheap : ∀ k, k < w.heap.size → w'.heap[k]? = w.heap[k]?)
    (hu : ∀ k, blkOf u = some k → w.heap.size ≤ k) (hB : BRep (upd μ H.length u) (H ++ [some B]) w' (Fz X (upd μ H.length u) (H ++ [some B]) w') H.length B) :
    Rel X (upd μ H.length u) (H ++ [some B]) w' ∧ Keep H.length μ H w (upd μ H.length u) (H ++ [some B]) w' := by
  have hmv := push_fz (B := B) h hsize hheap hu
  refine ⟨⟨fun k hk => Nat.lt_of_lt_of_le (h.xlt k hk) hsize, fun c B' k hc e => ?_, fun c c' B1 B2 k hc hc' e e' => ?_, fun c B' hc => ?_⟩, ⟨hsize, hos, htape, hout, fun k hk _ => hheap k hk, fun k hk hn => ?_, by simp, push_old⟩⟩
  · rcases getH_push hc with ⟨hlt, hc'⟩ | ⟨rfl, _⟩
    · rw [upd_ne (by omega)] at e; exact h.notX c B' k hc' e
    · rw [upd_self] at e
      intro hX
      have := hu k e
      have := h.xlt k hX
      omega
  · rcases getH_push hc with ⟨hlt, hc1⟩ | ⟨rfl, _⟩ <;> rcases getH_push hc' with ⟨hlt', hc2⟩ | ⟨rfl, _⟩
    · rw [upd_ne (by omega)] at e e'; exact h.dis c c' _ _ k hc1 hc2 e e'
    · rw [upd_ne (by omega)] at e
      rw [upd_self] at e'
      have := hu k e'
      have := h.lt hc1 e
      omega
    · rw [upd_self] at e
      rw [upd_ne (by omega)] at e'
      have := hu k e
      have := h.lt hc2 e'
      omega
    · rfl
  · rcases getH_push hc with ⟨hlt, hc'⟩ | ⟨rfl, rfl⟩
    · have hrep := h.blk c B' hc'
      cases B' with
      | var cty cells =>
        obtain ⟨g, cur, e, hg, hcs, hcell⟩ := hrep
        refine ⟨g, cur, by rw [upd_ne (by omega)]; exact e, (hheap g (Array.getElem?_eq_some_iff.1 hg).1).trans hg, hcs, fun i x hx => ⟨push_rep h hsize hheap hu (hcell i x hx).1, (hcell i x hx).2⟩⟩
      | row cty csz cels =>
        obtain ⟨h1, h2, vals, ho, hv⟩ := hrep
        refine ⟨h1, h2, vals, ?_, fun i j x f hx hf => (hv i j x f hx hf).move hmv⟩
        rw [upd_ne (by omega)]
        exact ownsRow_move ho (fun k hk => hheap k (h.lt hc' hk))
      | obj o => exact BRep.objMove hrep (upd_ne (by omega)) (fun k hk => hheap k (h.lt hc' hk))
    · exact hB
  · rintro ⟨c, B', hc, e⟩
    rcases getH_push hc with ⟨hlt, hc'⟩ | ⟨rfl, _⟩
    · rw [upd_ne (by omega)] at e; exact hn ⟨c, B', hc', e⟩
    · rw [upd_self] at e
      have := hu k e
      omega
end push

section app
variable {X : Nat → Prop} {μ : Nat → Value} {H : AHeap} {w w' : World} {u : Value} {b ty sz : Nat} {els els' : List (List FV)}

theorem app_get (hb : getH H b = some (.row ty sz els)) {c : Nat} {B' : Blk} (h : getH (setH (subH b .junk H) b (some (.row ty sz els'))) c = some B') : (c = b ∧ B' = .row ty sz els') ∨ (c ≠ b ∧ subB b .junk (getH H c) = some B') := by
  by_cases hc : c = b
  · subst hc
    rw [getH_setH_self (by rw [subH_length]; exact getH_lt hb)] at h
    exact .inl ⟨rfl, (Option.some.inj h).symm⟩
  · rw [getH_setH_ne hc, subH_get] at h
    exact .inr ⟨hc, h⟩
theorem app_fz (h : Rel X μ H w) (hb : getH H b = some (.row ty sz els)) (hsize : w.heap.size ≤ w'.heap.size) (hheap : ∀ k, k < w.heap.size → blkOf (μ b) ≠ some k → w'.heap[k]? = w.heap[k]?) (hu : ∀ k, blkOf u = some k → blkOf (μ b) = some k ∨ w.heap.size ≤ k) :
    ∀ k, Fz X μ H w k → Fz X (upd μ b u) (setH (subH b .junk H) b (some (.row ty sz els'))) w' k ∧ w'.heap[k]? = w.heap[k]? := fun k hk => by
  refine ⟨⟨Nat.lt_of_lt_of_le hk.1 hsize, hk.2.1, ?_⟩, hheap k hk.1 (fun e => hk.2.2 ⟨b, _, hb, e⟩)⟩
  rintro ⟨c, B', hc, e⟩
  rcases app_get hb hc with ⟨rfl, _⟩ | ⟨hcb, hc'⟩
  · rw [upd_self] at e
    rcases hu k e with e' | hge
    · exact hk.2.2 ⟨c, _, hb, e'⟩
    · have := hk.1; omega
  · rw [upd_ne hcb] at e
    obtain ⟨B0, hB0, _⟩ := subB_kind _ _ hc'
    exact hk.2.2 ⟨c, B0, hB0, e⟩
theorem app_rep (h : Rel X μ H w) (hb : getH H b = some (.row ty sz els)) (hsize : w.heap.size ≤ w'.heap.size) (hheap : ∀ k, k < w.heap.size → blkOf (μ b) ≠ some k → w'.heap[k]? = w.heap[k]?) (hu : ∀ k, blkOf u = some k → blkOf (μ b) = some k ∨ w.heap.size ≤ k)
    {x : AV} {v : Value} (hx : Rep μ H w (Fz X μ H w) x v) :
    Rep (upd μ b u) (setH (subH b .junk H) b (some (.row ty sz els'))) w' (Fz X (upd μ b u) (setH (subH b .junk H) b (some (.row ty sz els'))) w') (subA b .junk x) v :=
  hx.sub hb ⟨_, _, _, rfl⟩ (by rw [length_setH, subH_length]; exact Nat.le_refl _) (fun c B' hc _ h' => by
    rcases app_get hb h' with ⟨rfl, _⟩ | ⟨_, hc'⟩
    · exact absurd rfl hc
    · exact ⟨upd_ne hc, subB_kind _ _ hc'⟩) (app_fz h hb hsize hheap hu) (fun _ _ _ => .junk)

/-- A row grown: its value is a new one, all that spoke of it is forgotten. -/
theorem Rel.app (h : Rel X μ H w) (hb : getH H b = some (.row ty sz els)) (hsize : w.heap.size ≤ w'.heap.size) (hos : w'.os = w.os) (htape : TapeOK w w') (hout : w'.output = w.output)
    (hheap : ∀ k, k < w.heap.size → blkOf (μ b) ≠ some k → w'.heap[k]? = w.heap[k]?) (hu : ∀ k, blkOf u = some k → blkOf (μ b) = some k ∨ w.heap.size ≤ k)
    (hB : BRep (upd μ b u) (setH (subH b .junk H) b (some (.row ty sz els'))) w' (Fz X (upd μ b u) (setH (subH b .junk H) b (some (.row ty sz els'))) w') b (.row ty sz els')) :
    Rel X (upd μ b u) (setH (subH b .junk H) b (some (.row ty sz els'))) w' ∧ Keep b μ H w (upd μ b u) (setH (subH b .junk H) b (some (.row ty sz els'))) w' := by
  have hmv := app_fz (els' := els') h hb hsize hheap hu
  have hblt := getH_lt hb
  refine ⟨⟨fun k hk => Nat.lt_of_lt_of_le (h.xlt k hk) hsize, fun c B' k hc e => ?_, fun c c' B1 B2 k hc hc' e e' => ?_, fun c B' hc => ?_⟩, ⟨hsize, hos, htape, hout, fun k hk hn => hheap k hk (fun e => hn ⟨b, _, hb, e⟩), fun k hk hn => ?_, by rw [length_setH, subH_length]; omega, fun c B' hc h' => ?_⟩⟩
  · rcases app_get hb hc with ⟨rfl, _⟩ | ⟨hcb, hc'⟩
    · rw [upd_self] at e
      rcases hu k e with e' | hge
      · exact h.notX c _ k hb e'
      · intro hX; have := h.xlt k hX; omega
    · rw [upd_ne hcb] at e
      obtain ⟨B0, hB0, _⟩ := subB_kind _ _ hc'
      exact h.notX c B0 k hB0 e
  · rcases app_get hb hc with ⟨rfl, _⟩ | ⟨hcb, hc1⟩ <;> rcases app_get hb hc' with ⟨rfl, _⟩ | ⟨hcb', hc2⟩
    · rfl
    · rw [upd_self] at e
      rw [upd_ne hcb'] at e'
      obtain ⟨B0, hB0, _⟩ := subB_kind _ _ hc2
      rcases hu k e with e1 | hge
      · exact h.dis _ _ _ _ k hb hB0 e1 e'
      · have := h.lt hB0 e'; omega
    · rw [upd_ne hcb] at e
      rw [upd_self] at e'
      obtain ⟨B0, hB0, _⟩ := subB_kind _ _ hc1
      rcases hu k e' with e1 | hge
      · exact h.dis _ _ _ _ k hB0 hb e e1
      · have := h.lt hB0 e; omega
    · rw [upd_ne hcb] at e
      rw [upd_ne hcb'] at e'
      obtain ⟨B0, hB0, _⟩ := subB_kind _ _ hc1
      obtain ⟨B0', hB0', _⟩ := subB_kind _ _ hc2
      exact h.dis _ _ _ _ k hB0 hB0' e e'
  · rcases app_get hb hc with ⟨rfl, rfl⟩ | ⟨hcb, hc'⟩
    · exact hB
    · cases hB0 : getH H c with
      | none => rw [hB0] at hc'; simp [subB] at hc'
      | some B0 =>
        have hrep := h.blk c B0 hB0
        have hne : ∀ k, blkOf (μ c) = some k → w'.heap[k]? = w.heap[k]? := fun k hk => hheap k (h.lt hB0 hk) (fun e => hcb (h.dis c b _ _ k hB0 hb hk e))
        cases B0 with
        | var cty cells =>
          rw [hB0] at hc'
          simp [subB] at hc'
          subst hc'
          obtain ⟨g, cur, e, hg, hcs, hcell⟩ := hrep
          refine ⟨g, cur, by rw [upd_ne hcb]; exact e, (hne g (by rw [e]; rfl)).trans hg, by rw [subL_length]; exact hcs, fun i x hx => ?_⟩
          rw [subL_get] at hx
          obtain ⟨y, hy, rfl⟩ := Option.map_eq_some_iff.1 hx
          exact ⟨app_rep h hb hsize hheap hu (hcell i y hy).1, (hcell i y hy).2⟩
        | row cty csz cels =>
          rw [hB0] at hc'
          simp [subB] at hc'
          subst hc'
          obtain ⟨h1, h2, vals, ho, hv⟩ := hrep
          refine ⟨h1, h2, vals, ?_, fun i j x f hx hf => (hv i j x f hx hf).move hmv⟩
          rw [upd_ne hcb]
          exact ownsRow_move ho hne
        | obj o =>
          rw [hB0] at hc'
          simp [subB] at hc'
          subst hc'
          exact BRep.objMove hrep (upd_ne hcb) hne
  · rintro ⟨c, B', hc, e⟩
    rcases app_get hb hc with ⟨rfl, _⟩ | ⟨hcb, hc'⟩
    · rw [upd_self] at e
      rcases hu k e with e' | hge
      · exact hn ⟨c, _, hb, e'⟩
      · omega
    · rw [upd_ne hcb] at e
      obtain ⟨B0, hB0, _⟩ := subB_kind _ _ hc'
      exact hn ⟨c, B0, hB0, e⟩
  · rcases app_get hb h' with ⟨rfl, _⟩ | ⟨hcb, hc'⟩
    · omega
    · exact ⟨upd_ne hcb, subB_kind _ _ hc'⟩
end app

section store
variable {X : Nat → Prop} {μ : Nat → Value} {H : AHeap} {w w' : World} {b : Nat} {B B' : Blk}
theorem setb_get (hb : getH H b = some B) {c : Nat} {B1 : Blk} (h : getH (setH H b (some B')) c = some B1) : (c = b ∧ B1 = B') ∨ (c ≠ b ∧ getH H c = some B1) := by
  by_cases hc : c = b
  · subst hc
    rw [getH_setH_self (getH_lt hb)] at h
    exact .inl ⟨rfl, (Option.some.inj h).symm⟩
  · rw [getH_setH_ne hc] at h
    exact .inr ⟨hc, h⟩
theorem setb_old (hb : getH H b = some B) (hs : sameKind B B') : ∀ c B1, c < H.length → getH (setH H b (some B')) c = some B1 → μ c = μ c ∧ ∃ B, getH H c = some B ∧ sameKind B B1 := fun c B1 _ h => by
  rcases setb_get hb h with ⟨rfl, rfl⟩ | ⟨_, hc⟩
  · exact ⟨rfl, B, hb, hs⟩
  · exact ⟨rfl, B1, hc, sameKind.refl _⟩
theorem setb_fz (hb : getH H b = some B) (hs : sameKind B B') (hsize : w'.heap.size = w.heap.size) (hheap : ∀ k, blkOf (μ b) ≠ some k → w'.heap[k]? = w.heap[k]?) :
    ∀ k, Fz X μ H w k → Fz X μ (setH H b (some B')) w' k ∧ w'.heap[k]? = w.heap[k]? := fun k hk => by
  refine ⟨⟨by rw [hsize]; exact hk.1, hk.2.1, ?_⟩, hheap k (fun e => hk.2.2 ⟨b, B, hb, e⟩)⟩
  rintro ⟨c, B1, hc, e⟩
  rcases setb_get hb hc with ⟨rfl, _⟩ | ⟨_, hc'⟩
  · exact hk.2.2 ⟨c, B, hb, e⟩
  · exact hk.2.2 ⟨c, B1, hc', e⟩
theorem setb_rep (hb : getH H b = some B) (hs : sameKind B B') (hsize : w'.heap.size = w.heap.size) (hheap : ∀ k, blkOf (μ b) ≠ some k → w'.heap[k]? = w.heap[k]?) {x : AV} {v : Value}
    (hx : Rep μ H w (Fz X μ H w) x v) : Rep μ (setH H b (some B')) w' (Fz X μ (setH H b (some B')) w') x v :=
  hx.keep (by rw [length_setH]; exact Nat.le_refl _) (setb_old hb hs) (setb_fz hb hs hsize hheap)

/-- A store into an own block. -/
theorem Rel.setb (h : Rel X μ H w) (hb : getH H b = some B) (hs : sameKind B B') (hsize : w'.heap.size = w.heap.size) (hos : w'.os = w.os) (htape : TapeOK w w') (hout : w'.output = w.output)
    (hheap : ∀ k, blkOf (μ b) ≠ some k → w'.heap[k]? = w.heap[k]?) (hB : BRep μ (setH H b (some B')) w' (Fz X μ (setH H b (some B')) w') b B') :
    Rel X μ (setH H b (some B')) w' ∧ Keep H.length μ H w μ (setH H b (some B')) w' := by
  have hmv := setb_fz (X := X) hb hs hsize hheap
  have htk : ∀ k, Taken μ (setH H b (some B')) k → Taken μ H k := by
    rintro k ⟨c, B1, hc, e⟩
    rcases setb_get hb hc with ⟨rfl, _⟩ | ⟨_, hc'⟩
    · exact ⟨c, B, hb, e⟩
    · exact ⟨c, B1, hc', e⟩
  refine ⟨⟨fun k hk => by rw [hsize]; exact h.xlt k hk, fun c B1 k hc e => ?_, fun c c' B1 B2 k hc hc' e e' => ?_, fun c B1 hc => ?_⟩, ⟨by rw [hsize]; exact Nat.le_refl _, hos, htape, hout, fun k hk hn => hheap k (fun e => hn ⟨b, B, hb, e⟩), fun k hk hn ht => hn (htk k ht), by rw [length_setH]; exact Nat.le_refl _, setb_old hb hs⟩⟩
  · rcases setb_get hb hc with ⟨rfl, _⟩ | ⟨_, hc'⟩
    · exact h.notX _ _ k hb e
    · exact h.notX _ _ k hc' e
  · rcases setb_get hb hc with ⟨rfl, _⟩ | ⟨_, hc1⟩ <;> rcases setb_get hb hc' with ⟨rfl, _⟩ | ⟨_, hc2⟩
    · rfl
    · exact h.dis _ _ _ _ k hb hc2 e e'
    · exact h.dis _ _ _ _ k hc1 hb e e'
    · exact h.dis _ _ _ _ k hc1 hc2 e e'
  · rcases setb_get hb hc with ⟨rfl, rfl⟩ | ⟨hcb, hc'⟩
    · exact hB
    · have hrep := h.blk c B1 hc'
      have hne : ∀ k, blkOf (μ c) = some k → w'.heap[k]? = w.heap[k]? := fun k hk => hheap k (fun e => hcb (h.dis c b _ _ k hc' hb hk e))
      cases B1 with
      | var cty cells =>
        obtain ⟨g, cur, e, hg, hcs, hcell⟩ := hrep
        exact ⟨g, cur, e, (hne g (by rw [e]; rfl)).trans hg, hcs, fun i x hx => ⟨setb_rep hb hs hsize hheap (hcell i x hx).1, (hcell i x hx).2⟩⟩
      | row cty csz cels =>
        obtain ⟨h1, h2, vals, ho, hv⟩ := hrep
        exact ⟨h1, h2, vals, ownsRow_move ho hne, fun i j x f hx hf => (hv i j x f hx hf).move hmv⟩
      | obj o => exact BRep.objMove hrep rfl hne
end store

section drop
variable {X : Nat → Prop} {μ : Nat → Value} {H H' : AHeap} {w : World}
/-- Blocks left aside: H' knows some of H's blocks, none besides. -/
def Left (H' H : AHeap) : Prop := H'.length ≤ H.length ∧ ∀ b B, getH H' b = some B → getH H b = some B
/-- .. what is left aside is X's from now on. -/
def aside (X : Nat → Prop) (μ : Nat → Value) (H' H : AHeap) : Nat → Prop := fun k => X k ∨ (Taken μ H k ∧ ¬ Taken μ H' k)
theorem aside_fz (hl : Left H' H) (k : Nat) : Fz (aside X μ H' H) μ H' w k ↔ Fz X μ H w k := by
  unfold Fz aside
  constructor
  · rintro ⟨h1, h2, h3⟩
    refine ⟨h1, fun hX => h2 (.inl hX), fun ht => h2 (.inr ⟨ht, h3⟩)⟩
  · rintro ⟨h1, h2, h3⟩
    refine ⟨h1, ?_, ?_⟩
    · rintro (hX | ⟨ht, _⟩)
      · exact h2 hX
      · exact h3 ht
    · rintro ⟨b, B, hb, e⟩
      exact h3 ⟨b, B, hl.2 b B hb, e⟩
end drop

end Go.Proofs.Ai
set_option linter.unusedVariables false
namespace Go.Proofs.Ai
open Go

/-- Nothing that was there has turned. -/
structure Ext (w w' : World) : Prop where
  size : w.heap.size ≤ w'.heap.size
  os : w'.os = w.os
  tape : TapeOK w w'
  output : w'.output = w.output
  heap : ∀ k, k < w.heap.size → w'.heap[k]? = w.heap[k]?
theorem Ext.refl (w : World) : Ext w w := ⟨Nat.le_refl _, rfl, TapeOK.refl w, rfl, fun _ _ => rfl⟩
theorem Ext.trans {a b c : World} (h : Ext a b) (k : Ext b c) : Ext a c :=
  ⟨Nat.le_trans h.size k.size, k.os.trans h.os, k.tape.trans h.tape, k.output.trans h.output, fun i hi => (k.heap i (Nat.lt_of_lt_of_le hi h.size)).trans (h.heap i hi)⟩
theorem Ext.drew (w : World) : Ext w { w with drawn := w.drawn + 1 } := ⟨Nat.le_refl _, rfl, ⟨rfl, Nat.le_succ _⟩, rfl, fun _ _ => rfl⟩

section world
variable {X : Nat → Prop} {μ : Nat → Value} {H : AHeap} {w w' : World}
theorem Fz.ext (e : Ext w w') : ∀ k, Fz X μ H w k → Fz X μ H w' k ∧ w'.heap[k]? = w.heap[k]? := fun k hk => ⟨⟨Nat.lt_of_lt_of_le hk.1 e.size, hk.2⟩, e.heap k hk.1⟩
theorem Rep.ext (e : Ext w w') {x : AV} {v : Value} (h : Rep μ H w (Fz X μ H w) x v) : Rep μ H w' (Fz X μ H w') x v :=
  h.keep (Nat.le_refl _) (fun b B' _ hb => ⟨rfl, B', hb, sameKind.refl _⟩) (Fz.ext e)
theorem Rel.ext (h : Rel X μ H w) (e : Ext w w') : Rel X μ H w' := by
  refine ⟨fun k hk => Nat.lt_of_lt_of_le (h.xlt k hk) e.size, h.notX, h.dis, fun b B hb => ?_⟩
  have hrep := h.blk b B hb
  cases B with
  | var ty cells =>
    obtain ⟨g, cur, e1, hg, hcs, hcell⟩ := hrep
    exact ⟨g, cur, e1, (e.heap g (Array.getElem?_eq_some_iff.1 hg).1).trans hg, hcs, fun i x hx => ⟨(hcell i x hx).1.ext e, (hcell i x hx).2⟩⟩
  | row ty sz els =>
    obtain ⟨h1, h2, vals, ho, hv⟩ := hrep
    exact ⟨h1, h2, vals, ownsRow_move ho (fun k hk => e.heap k (h.lt hb hk)), fun i j x f hx hf => (hv i j x f hx hf).move (Fz.ext e)⟩
  | obj o => exact BRep.objMove hrep rfl (fun k hk => e.heap k (h.lt hb hk))
theorem Keep.ext (e : Ext w w') {N : Nat} (hN : N ≤ H.length) : Keep N μ H w μ H w' :=
  ⟨e.size, e.os, e.tape, e.output, fun k hk _ => e.heap k hk, fun _ _ h => h, hN, fun b B' _ hb => ⟨rfl, B', hb, sameKind.refl _⟩⟩
end world

theorem refsInL_iff (p : Nat → Bool) : ∀ {l : List AV}, refsInL p l = true ↔ ∀ (i : Nat) (x : AV), l[i]? = some x → refsIn p x = true
  | [] => by simp [refsInL]
  | x :: l => by
    simp only [refsInL, Bool.and_eq_true, refsInL_iff p (l := l)]
    constructor
    · rintro ⟨h, h'⟩ i y hy
      cases i with
      | zero => simp at hy; subst hy; exact h
      | succ i => exact h' i y (by simpa using hy)
    · intro h
      exact ⟨h 0 x rfl, fun i y hy => h (i + 1) y (by simpa using hy)⟩

section refs
variable {μ : Nat → Value} {H H' : AHeap} {w : World} {ok : Nat → Prop}
/-- What a reading speaks of is there. -/
theorem Rep.refs {x : AV} {v : Value} (h : Rep μ H w ok x v) : refsIn (fun c => decide (c < H.length)) x = true := by
  induction h with
  | fz => rfl
  | agg _ _ _ ih => simp only [refsIn]; exact (refsInL_iff _).2 ih
  | own h => simp only [refsIn, decide_eq_true_eq]; exact getH_lt h
  | ob h => simp only [refsIn, decide_eq_true_eq]; exact getH_lt h
  | vw h => simp only [refsIn, decide_eq_true_eq]; exact getH_lt h
  | ptr h => simp only [refsIn, decide_eq_true_eq]; exact getH_lt h
  | ep h => simp only [refsIn, decide_eq_true_eq]; exact getH_lt h
  | fp => rfl
  | ifc _ ih => simp only [refsIn]; exact ih
  | fn _ _ _ _ ih ih' => simp only [refsIn, Bool.and_eq_true]; exact ⟨(refsInL_iff _).2 ih, (refsInL_iff _).2 ih'⟩
  | tup _ _ ih => simp only [refsIn]; exact (refsInL_iff _).2 ih
  | dead hx hb => rename_i x _ _ _ _; cases x <;> simp [refOf] at hx <;> subst hx <;> simpa [refsIn] using hb
  | junk => rfl

mutual
theorem refsIn_mono {p q : Nat → Bool} (h : ∀ c, p c = true → q c = true) : ∀ x : AV, refsIn p x = true → refsIn q x = true
  | .fz _, _ => rfl
  | .fp _, _ => rfl
  | .junk, _ => rfl
  | .agg l, hx => by simp only [refsIn] at hx ⊢; exact refsInL_mono h l hx
  | .tup l, hx => by simp only [refsIn] at hx ⊢; exact refsInL_mono h l hx
  | .own b, hx => by simp only [refsIn] at hx ⊢; exact h b hx
  | .ob b, hx => by simp only [refsIn] at hx ⊢; exact h b hx
  | .vw b _ _, hx => by simp only [refsIn] at hx ⊢; exact h b hx
  | .ptr b _, hx => by simp only [refsIn] at hx ⊢; exact h b hx
  | .ep b _ _, hx => by simp only [refsIn] at hx ⊢; exact h b hx
  | .ifc _ x, hx => by simp only [refsIn] at hx ⊢; exact refsIn_mono h x hx
  | .fn _ a c, hx => by
    simp only [refsIn, Bool.and_eq_true] at hx ⊢
    exact ⟨refsInL_mono h a hx.1, refsInL_mono h c hx.2⟩
theorem refsInL_mono {p q : Nat → Bool} (h : ∀ c, p c = true → q c = true) : ∀ l : List AV, refsInL p l = true → refsInL q l = true
  | [], _ => rfl
  | x :: l, hx => by
    simp only [refsInL, Bool.and_eq_true] at hx ⊢
    exact ⟨refsIn_mono h x hx.1, refsInL_mono h l hx.2⟩
end

/-- Blocks left aside: what spoke of them is dead. -/
theorem Rep.drop (hl : Left H' H) (h1 : ∀ b B, getH H b = some B → (μ b).oneCell' = true) {x : AV} {v : Value} (h : Rep μ H w ok x v) (hr : refsIn (fun c => decide (c < H'.length)) x = true) : Rep μ H' w ok x v := by
  have live : ∀ {c : Nat} {B : Blk}, getH H c = some B → getH H' c = none ∨ getH H' c = some B := by
    intro c B hB
    cases h' : getH H' c with
    | none => exact .inl rfl
    | some B' => have := hl.2 c B' h'; rw [hB] at this; exact .inr this.symm
  induction h with
  | fz h => exact .fz h
  | agg hl' _ h1' ih =>
    simp only [refsIn] at hr
    exact .agg hl' (fun i x hx => ih i x hx ((refsInL_iff _).1 hr i x hx)) h1'
  | own h hv h1' =>
    simp only [refsIn, decide_eq_true_eq] at hr
    rcases live h with hn | hs
    · exact .dead rfl hr hn h1'
    · exact .own hs hv h1'
  | ob h hv h1' =>
    simp only [refsIn, decide_eq_true_eq] at hr
    rcases live h with hn | hs
    · exact .dead rfl hr hn h1'
    · exact .ob hs hv h1'
  | vw h hm hc hA =>
    simp only [refsIn, decide_eq_true_eq] at hr
    rcases live h with hn | hs
    · exact .dead rfl hr hn rfl
    · exact .vw hs hm hc hA
  | ptr h hg =>
    simp only [refsIn, decide_eq_true_eq] at hr
    rcases live h with hn | hs
    · exact .dead rfl hr hn rfl
    · exact .ptr hs hg
  | ep h hi hg =>
    simp only [refsIn, decide_eq_true_eq] at hr
    rcases live h with hn | hs
    · exact .dead rfl hr hn rfl
    · exact .ep hs hi hg
  | fp U hok hcell hrep => exact .fp U hok hcell hrep
  | ifc _ ih => exact .ifc (ih (by simpa only [refsIn] using hr))
  | fn ha hc _ _ ih ih' =>
    simp only [refsIn, Bool.and_eq_true] at hr
    exact .fn ha hc (fun i x hx => ih i x hx ((refsInL_iff _).1 hr.1 i x hx)) (fun i x hx => ih' i x hx ((refsInL_iff _).1 hr.2 i x hx))
  | tup hl' _ ih =>
    simp only [refsIn] at hr
    exact .tup hl' (fun i x hx => ih i x hx ((refsInL_iff _).1 hr i x hx))
  | dead hx hb h h1 =>
    rename_i x _ c
    have hc : c < H'.length := by cases x <;> simp [refOf] at hx <;> subst hx <;> simpa [refsIn] using hr
    refine .dead hx hc ?_ h1
    cases h' : getH H' c with
    | none => rfl
    | some B' => have := hl.2 c B' h'; rw [h] at this; cases this
  | junk => exact .junk

/-- .. and taken up again, where all that a value speaks of was there all along. -/
theorem Rep.lift (hl : Left H' H) {x : AV} {v : Value} (h : Rep μ H' w ok x v) (hr : refsIn (liveIn H') x = true) : Rep μ H w ok x v := by
  induction h with
  | fz h => exact .fz h
  | agg hl' _ h1' ih =>
    simp only [refsIn] at hr
    exact .agg hl' (fun i x hx => ih i x hx ((refsInL_iff _).1 hr i x hx)) h1'
  | own h hv h1' => exact .own (hl.2 _ _ h) hv h1'
  | ob h hv h1' => exact .ob (hl.2 _ _ h) hv h1'
  | vw h hm hc hA => exact .vw (hl.2 _ _ h) hm hc hA
  | ptr h hg => exact .ptr (hl.2 _ _ h) hg
  | ep h hi hg => exact .ep (hl.2 _ _ h) hi hg
  | fp U hok hcell hrep => exact .fp U hok hcell hrep
  | ifc _ ih => exact .ifc (ih (by simpa only [refsIn] using hr))
  | fn ha hc _ _ ih ih' =>
    simp only [refsIn, Bool.and_eq_true] at hr
    exact .fn ha hc (fun i x hx => ih i x hx ((refsInL_iff _).1 hr.1 i x hx)) (fun i x hx => ih' i x hx ((refsInL_iff _).1 hr.2 i x hx))
  | tup hl' _ ih =>
    simp only [refsIn] at hr
    exact .tup hl' (fun i x hx => ih i x hx ((refsInL_iff _).1 hr i x hx))
  | dead hx hb h h1 =>
    rename_i x _ c
    have : liveIn H' c = true := by cases x <;> simp [refOf] at hx <;> subst hx <;> simpa [refsIn] using hr
    simp [liveIn, h] at this
  | junk => exact .junk
end refs

theorem Rep.okIff {μ : Nat → Value} {H : AHeap} {w : World} {ok ok' : Nat → Prop} (h : ∀ k, ok k → ok' k) {x : AV} {v : Value} (hx : Rep μ H w ok x v) : Rep μ H w ok' x v :=
  hx.keep (Nat.le_refl _) (fun b B' _ hb => ⟨rfl, B', hb, sameKind.refl _⟩) (fun k hk => ⟨h k hk, rfl⟩)
theorem RepF.okIff {w : World} {ok ok' : Nat → Prop} (h : ∀ k, ok k → ok' k) {x : FV} {v : Value} (hx : RepF w ok x v) : RepF w ok' x v := hx.move (fun k hk => ⟨h k hk, rfl⟩)

/-- A state with blocks left aside. -/
theorem Rel.drop {X : Nat → Prop} {μ : Nat → Value} {H H' : AHeap} {w : World} (h : Rel X μ H w) (hl : Left H' H)
    (hc : ∀ b ty cells, getH H' b = some (.var ty cells) → refsInL (fun c => decide (c < H'.length)) cells = true) : Rel (aside X μ H' H) μ H' w := by
  have h1 : ∀ b B, getH H b = some B → (μ b).oneCell' = true := fun b B hb => (h.blk b B hb).one
  have hok : ∀ k, Fz X μ H w k → Fz (aside X μ H' H) μ H' w k := fun k hk => (aside_fz hl k).2 hk
  refine ⟨?_, fun b B k hb e => ?_, fun b b' B B' k hb hb' e e' => h.dis b b' B B' k (hl.2 b B hb) (hl.2 b' B' hb') e e', fun b B hb => ?_⟩
  · rintro k (hX | ⟨ht, _⟩)
    · exact h.xlt k hX
    · exact h.taken_lt ht
  · rintro (hX | ⟨_, hn⟩)
    · exact h.notX b B k (hl.2 b B hb) e hX
    · exact hn ⟨b, B, hb, e⟩
  · have hrep := h.blk b B (hl.2 b B hb)
    cases B with
    | var ty cells =>
      obtain ⟨g, cur, e, hg, hcs, hcell⟩ := hrep
      refine ⟨g, cur, e, hg, hcs, fun i x hx => ⟨?_, (hcell i x hx).2⟩⟩
      exact ((hcell i x hx).1.drop hl h1 ((refsInL_iff _).1 (hc b ty cells hb) i x hx)).okIff hok
    | row ty sz els =>
      obtain ⟨h2, h3, vals, ho, hv⟩ := hrep
      exact ⟨h2, h3, vals, ho, fun i j x f hx hf => (hv i j x f hx hf).okIff hok⟩
    | obj o => exact BRep.objMove hrep rfl (fun _ _ => rfl)

/-! ### a new block, told ahead of its place -/
def Made (μ : Nat → Value) (H : AHeap) (w : World) (ok : Nat → Prop) (w' : World) (u : Value) : Blk → Prop
  | .var ty cells => ∃ g cur, u = .pointer (some ⟨g, 0, none⟩) ∧ w'.heap[g]? = some (.cells cur ty (0, 0)) ∧ cur.size = cells.length ∧
      ∀ (i : Nat) (x : AV), cells[i]? = some x → Rep μ H w ok x (cur.getD i undef) ∧ (cur.getD i undef).oneCell' = true
  | .row ty sz els => 0 < sz ∧ (∀ (i : Nat) (x : List FV), els[i]? = some x → x.length = sz) ∧ ∃ vals : List Value, w'.ownsRow 0 ty sz u els.length vals ∧
      ∀ (i j : Nat) (x : List FV) (f : FV), els[i]? = some x → x[j]? = some f → RepF w ok f (vals.getD (i * sz + j) undef)
  | .obj o => ∃ g, u = objV o g ∧ w'.heap[g]? = some o

theorem Made.brep {μ μ' : Nat → Value} {H H' : AHeap} {w w' : World} {ok ok' : Nat → Prop} {u : Value} {B : Blk} {b : Nat} (h : Made μ H w ok w' u B) (hu : μ' b = u)
    (hx : ∀ x v, Rep μ H w ok x v → Rep μ' H' w' ok' x v) (hf : ∀ f v, RepF w ok f v → RepF w' ok' f v) : BRep μ' H' w' ok' b B := by
  cases B with
  | var ty cells =>
    obtain ⟨g, cur, e, hg, hcs, hcell⟩ := h
    exact ⟨g, cur, hu.trans e, hg, hcs, fun i x hx' => ⟨hx _ _ (hcell i x hx').1, (hcell i x hx').2⟩⟩
  | row ty sz els =>
    obtain ⟨h1, h2, vals, ho, hv⟩ := h
    exact ⟨h1, h2, vals, by rw [hu]; exact ho, fun i j x f hx' hf' => hf _ _ (hv i j x f hx' hf')⟩
  | obj o => obtain ⟨g, e, hg⟩ := h; exact ⟨g, by rw [hu]; exact e, hg⟩
theorem Made.one {μ : Nat → Value} {H : AHeap} {w : World} {ok : Nat → Prop} {w' : World} {u : Value} {B : Blk} (h : Made μ H w ok w' u B) : u.oneCell' = true := by
  cases B with
  | var ty cells => obtain ⟨g, cur, e, _⟩ := h; rw [e]; rfl
  | row ty sz els =>
    obtain ⟨_, _, vals, ho, _⟩ := h
    rcases ho.2 with ⟨e, _⟩ | ⟨g, cap, cur, e, _⟩ <;> rw [e] <;> rfl
  | obj o => obtain ⟨g, e, _⟩ := h; rw [e]; exact one_objV o g
theorem Made.newV {μ μ' : Nat → Value} {H H' : AHeap} {w w' w1 : World} {ok ok' : Nat → Prop} {u : Value} {B : Blk} {b : Nat} (h : Made μ H w ok w' u B) (hb : getH H' b = some B) (hu : μ' b = u) : Rep μ' H' w1 ok' (newV b B) u := by
  cases B with
  | var ty cells => obtain ⟨g, cur, e, _⟩ := h; subst e; exact .ptr hb (by rw [hu]; rfl)
  | row ty sz els => exact .own hb hu.symm h.one
  | obj o => exact .ob hb hu.symm h.one

/-- .. at the end. -/
theorem Rel.push_made {X : Nat → Prop} {μ : Nat → Value} {H : AHeap} {w w' : World} {u : Value} {B : Blk} (h : Rel X μ H w) (e : Ext w w') (hu : ∀ k, blkOf u = some k → w.heap.size ≤ k) (hm : Made μ H w (Fz X μ H w) w' u B) :
    Rel X (upd μ H.length u) (H ++ [some B]) w' ∧ Keep H.length μ H w (upd μ H.length u) (H ++ [some B]) w' ∧
      (∀ x v, Rep μ H w (Fz X μ H w) x v → Rep (upd μ H.length u) (H ++ [some B]) w' (Fz X (upd μ H.length u) (H ++ [some B]) w') x v) ∧
      Rep (upd μ H.length u) (H ++ [some B]) w' (Fz X (upd μ H.length u) (H ++ [some B]) w') (Ai.newV H.length B) u := by
  have hx : ∀ x v, Rep μ H w (Fz X μ H w) x v → Rep (upd μ H.length u) (H ++ [some B]) w' (Fz X (upd μ H.length u) (H ++ [some B]) w') x v := fun x v hx => push_rep h e.size e.heap hu hx
  obtain ⟨h1, h2⟩ := h.push e.size e.os e.tape e.output e.heap hu (hm.brep (upd_self _ _ _) hx (fun f v hf => hf.move (push_fz h e.size e.heap hu)))
  exact ⟨h1, h2, hx, hm.newV (getH_last H B) (upd_self _ _ _)⟩

section fill
variable {X : Nat → Prop} {μ : Nat → Value} {H : AHeap} {w w' : World} {u : Value} {B : Blk} {b : Nat}
theorem fill_get (hb : getH H b = none) (hlt : b < H.length) {c : Nat} {B1 : Blk} (h : getH (setH H b (some B)) c = some B1) : (c = b ∧ B1 = B) ∨ (c ≠ b ∧ getH H c = some B1) := by
  by_cases hc : c = b
  · subst hc
    rw [getH_setH_self hlt] at h
    exact .inl ⟨rfl, (Option.some.inj h).symm⟩
  · rw [getH_setH_ne hc] at h
    exact .inr ⟨hc, h⟩
theorem fill_fz (hb : getH H b = none) (hlt : b < H.length) (e : Ext w w') (hu : ∀ k, blkOf u = some k → w.heap.size ≤ k) :
    ∀ k, Fz X μ H w k → Fz X (upd μ b u) (setH H b (some B)) w' k ∧ w'.heap[k]? = w.heap[k]? := fun k hk => by
  refine ⟨⟨Nat.lt_of_lt_of_le hk.1 e.size, hk.2.1, ?_⟩, e.heap k hk.1⟩
  rintro ⟨c, B', hc, e'⟩
  rcases fill_get hb hlt hc with ⟨rfl, _⟩ | ⟨hcb, hc'⟩
  · rw [upd_self] at e'
    have := hu k e'
    have := hk.1
    omega
  · rw [upd_ne hcb] at e'
    exact hk.2.2 ⟨c, B', hc', e'⟩
theorem Rep.fill (hb : getH H b = none) (hlt : b < H.length) {ok ok' : Nat → Prop} (hk : ∀ k, ok k → ok' k ∧ w'.heap[k]? = w.heap[k]?) {x : AV} {v : Value} (h : Rep μ H w ok x v) (hr : refsIn (fun c => c != b) x = true) :
    Rep (upd μ b u) (setH H b (some B)) w' ok' x v := by
  have live : ∀ {c : Nat} {B1 : Blk}, c ≠ b → getH H c = some B1 → getH (setH H b (some B)) c = some B1 := fun hc hB => by rw [getH_setH_ne hc]; exact hB
  have ne : ∀ {c : Nat} {B1 : Blk}, getH H c = some B1 → c ≠ b := by rintro c B1 h rfl; rw [hb] at h; cases h
  induction h with
  | fz h => exact .fz (h.move hk)
  | agg hl' _ h1' ih =>
    simp only [refsIn] at hr
    exact .agg hl' (fun i x hx => ih i x hx ((refsInL_iff _).1 hr i x hx)) h1'
  | own h hv h1' => exact .own (live (ne h) h) (hv.trans (upd_ne (ne h)).symm) h1'
  | ob h hv h1' => exact .ob (live (ne h) h) (hv.trans (upd_ne (ne h)).symm) h1'
  | vw h hm hc hA => exact .vw (live (ne h) h) hm hc (fun h0 => by rw [upd_ne (ne h)]; exact hA h0)
  | ptr h hg => exact .ptr (live (ne h) h) (by rw [upd_ne (ne h)]; exact hg)
  | ep h hi hg => exact .ep (live (ne h) h) hi (by rw [upd_ne (ne h)]; exact hg)
  | fp U hok hcell hrep =>
    refine .fp U (hk _ hok).1 (fun j f hf => ?_) (fun j f hf => (hrep j f hf).move hk)
    rw [← hcell j f hf]
    refine World.cell?_of_block ?_
    rw [show (Addr.add _ j).block = _ from by unfold Addr.add; split <;> rfl]
    exact (hk _ hok).2
  | ifc _ ih => exact .ifc (ih (by simpa only [refsIn] using hr))
  | fn ha hc _ _ ih ih' =>
    simp only [refsIn, Bool.and_eq_true] at hr
    exact .fn ha hc (fun i x hx => ih i x hx ((refsInL_iff _).1 hr.1 i x hx)) (fun i x hx => ih' i x hx ((refsInL_iff _).1 hr.2 i x hx))
  | tup hl' _ ih =>
    simp only [refsIn] at hr
    exact .tup hl' (fun i x hx => ih i x hx ((refsInL_iff _).1 hr i x hx))
  | dead hx hc h h1 =>
    rename_i x _ c
    have hne : c ≠ b := by cases x <;> simp [refOf] at hx <;> subst hx <;> simpa [refsIn] using hr
    exact .dead hx (by rw [length_setH]; exact hc) (by rw [getH_setH_ne hne]; exact h) h1
  | junk => exact .junk

/-- A place that was kept is filled. -/
theorem Rel.fill (h : Rel X μ H w) (hb : getH H b = none) (hlt : b < H.length) (e : Ext w w') (hu : ∀ k, blkOf u = some k → w.heap.size ≤ k)
    (hc : ∀ c ty cells, getH H c = some (.var ty cells) → refsInL (fun c => c != b) cells = true)
    (hB : BRep (upd μ b u) (setH H b (some B)) w' (Fz X (upd μ b u) (setH H b (some B)) w') b B) : Rel X (upd μ b u) (setH H b (some B)) w' := by
  have hmv := fill_fz (X := X) (μ := μ) (B := B) hb hlt e hu
  refine ⟨fun k hk => Nat.lt_of_lt_of_le (h.xlt k hk) e.size, fun c B' k hc' e' => ?_, fun c c' B1 B2 k hc1 hc2 e1 e2 => ?_, fun c B' hc' => ?_⟩
  · rcases fill_get hb hlt hc' with ⟨rfl, _⟩ | ⟨hcb, hc''⟩
    · rw [upd_self] at e'
      intro hX
      have := hu k e'
      have := h.xlt k hX
      omega
    · rw [upd_ne hcb] at e'; exact h.notX c B' k hc'' e'
  · rcases fill_get hb hlt hc1 with ⟨rfl, _⟩ | ⟨hcb, h1⟩ <;> rcases fill_get hb hlt hc2 with ⟨rfl, _⟩ | ⟨hcb', h2⟩
    · rfl
    · rw [upd_self] at e1
      rw [upd_ne hcb'] at e2
      have := hu k e1
      have := h.lt h2 e2
      omega
    · rw [upd_ne hcb] at e1
      rw [upd_self] at e2
      have := hu k e2
      have := h.lt h1 e1
      omega
    · rw [upd_ne hcb] at e1
      rw [upd_ne hcb'] at e2
      exact h.dis c c' _ _ k h1 h2 e1 e2
  · rcases fill_get hb hlt hc' with ⟨rfl, rfl⟩ | ⟨hcb, hc''⟩
    · exact hB
    · have hrep := h.blk c B' hc''
      cases B' with
      | var cty cells =>
        obtain ⟨g, cur, e1, hg, hcs, hcell⟩ := hrep
        refine ⟨g, cur, by rw [upd_ne hcb]; exact e1, (e.heap g (Array.getElem?_eq_some_iff.1 hg).1).trans hg, hcs, fun i x hx => ⟨(hcell i x hx).1.fill hb hlt hmv ((refsInL_iff _).1 (hc c cty cells hc'') i x hx), (hcell i x hx).2⟩⟩
      | row cty csz cels =>
        obtain ⟨h1, h2, vals, ho, hv⟩ := hrep
        refine ⟨h1, h2, vals, ?_, fun i j x f hx hf => (hv i j x f hx hf).move hmv⟩
        rw [upd_ne hcb]
        exact ownsRow_move ho (fun k hk => e.heap k (h.lt hc'' hk))
      | obj o => exact BRep.objMove hrep (upd_ne hcb) (fun k hk => e.heap k (h.lt hc'' hk))
end fill

end Go.Proofs.Ai
