/- The abstract machine, 3: what its values and blocks say of a world; what stays. -/
import Derived.Test.YtfjjeijkbhcoaaaBiExec
import Derived.Test.YtfjjeijkbhcoaaaBiDrawn
set_option linter.unusedVariables false
namespace Go.Proofs.Ai
open Go

inductive RepF (w : World) (ok : Nat → Prop) : FV → Value → Prop
  | sc {v} (h : v.oneCell' = true) : RepF w ok (.sc v) v
  | nil {sz A c} : RepF w ok (.sl sz []) (.slice A 0 c)
  | mp {es c g} (hok : ok g) (h : w.heap[g]? = some (.map es c)) : RepF w ok (.mp es c) (.map (some g))
  | sl {sz xs ad c} (U : Nat → Nat → Value) (hc : xs.length ≤ c) (hok : ok ad.block)
      (hsz : ∀ (i : Nat) (x : List FV), xs[i]? = some x → x.length = sz)
      (hcell : ∀ (i j : Nat) (x : List FV) (f : FV), xs[i]? = some x → x[j]? = some f → w.cell? (ad.add (i * sz + j)) = some (U i j))
      (hrep : ∀ (i j : Nat) (x : List FV) (f : FV), xs[i]? = some x → x[j]? = some f → RepF w ok f (U i j)) : RepF w ok (.sl sz xs) (.slice (some ad) xs.length c)

theorem RepF.move {w w' : World} {ok ok' : Nat → Prop} (hk : ∀ k, ok k → ok' k ∧ w'.heap[k]? = w.heap[k]?) {f : FV} {v : Value} (h : RepF w ok f v) : RepF w' ok' f v := by
  induction h with
  | sc h => exact .sc h
  | nil => exact .nil
  | mp hok h => exact .mp (hk _ hok).1 ((hk _ hok).2.trans h)
  | sl U hc hok hsz hcell hrep ih =>
    refine .sl U hc (hk _ hok).1 hsz (fun i j x f hx hf => ?_) ih
    rw [← hcell i j x f hx hf]
    refine World.cell?_of_block ?_
    rw [show (Addr.add _ (i * _ + j)).block = _ from by unfold Addr.add; split <;> rfl]
    exact (hk _ hok).2

theorem RepF.one {w : World} {ok : Nat → Prop} {f : FV} {v : Value} (h : RepF w ok f v) : v.oneCell' = true := by
  cases h with
  | sc h => exact h
  | nil => rfl
  | mp => rfl
  | sl => rfl

def blkOf : Value → Option Nat
  | .slice (some a) _ _ => some a.block
  | .pointer (some a) => some a.block
  | .map (some g) => some g
  | _ => none

/-- A map's value is its number, an iterator's a pointer to it. -/
def objV : Obj → Nat → Value
  | .map _ _, g => .map (some g)
  | _, g => .pointer (some ⟨g, 0, none⟩)
theorem blkOf_objV (o : Obj) (g : Nat) : blkOf (objV o g) = some g := by cases o <;> rfl
theorem one_objV (o : Obj) (g : Nat) : (objV o g).oneCell' = true := by cases o <;> rfl

def Taken (μ : Nat → Value) (H : AHeap) (k : Nat) : Prop := ∃ b B, getH H b = some B ∧ blkOf (μ b) = some k
def Fz (X : Nat → Prop) (μ : Nat → Value) (H : AHeap) (w : World) (k : Nat) : Prop := k < w.heap.size ∧ ¬ X k ∧ ¬ Taken μ H k

def refOf : AV → Option Nat
  | .own b | .ob b | .vw b _ _ | .ptr b _ | .ep b _ _ => some b
  | _ => none

inductive Rep (μ : Nat → Value) (H : AHeap) (w : World) (ok : Nat → Prop) : AV → Value → Prop
  | fz {f v} (h : RepF w ok f v) : Rep μ H w ok (.fz f) v
  | agg {l} {vs : Array Value} (hl : vs.size = l.length) (h : ∀ (i : Nat) (x : AV), l[i]? = some x → Rep μ H w ok x (vs.getD i undef)) (h1 : ∀ i, i < vs.size → (vs.getD i undef).oneCell' = true) : Rep μ H w ok (.agg l) (.agg vs)
  | own {b ty sz els v} (h : getH H b = some (.row ty sz els)) (hv : v = μ b) (h1 : v.oneCell' = true) : Rep μ H w ok (.own b) v
  | ob {b o v} (h : getH H b = some (.obj o)) (hv : v = μ b) (h1 : v.oneCell' = true) : Rep μ H w ok (.ob b) v
  | vw {b o m ty sz els A c} (h : getH H b = some (.row ty sz els)) (hm : o + m ≤ els.length) (hc : m ≤ c) (hA : 0 < m → ∃ g, blkOf (μ b) = some g ∧ A = some ⟨g, o * sz, none⟩) : Rep μ H w ok (.vw b o m) (.slice A m c)
  | ptr {b o ty cells g} (h : getH H b = some (.var ty cells)) (hg : blkOf (μ b) = some g) : Rep μ H w ok (.ptr b o) (.pointer (some ⟨g, o, none⟩))
  | ep {b i j ty sz els g} (h : getH H b = some (.row ty sz els)) (hi : i < els.length) (hg : blkOf (μ b) = some g) : Rep μ H w ok (.ep b i j) (.pointer (some ⟨g, i * sz + j, none⟩))
  | fp {cs ad} (U : Nat → Value) (hok : ok ad.block) (hcell : ∀ (j : Nat) (f : FV), cs[j]? = some f → w.cell? (ad.add j) = some (U j)) (hrep : ∀ (j : Nat) (f : FV), cs[j]? = some f → RepF w ok f (U j)) : Rep μ H w ok (.fp cs) (.pointer (some ad))
  | ifc {t x v} (h : Rep μ H w ok x v) : Rep μ H w ok (.ifc t x) (.iface t v)
  | fn {f a c} {as cs : Array Value} (ha : as.size = a.length) (hc : cs.size = c.length) (h : ∀ (i : Nat) (x : AV), a[i]? = some x → Rep μ H w ok x (as.getD i undef)) (h' : ∀ (i : Nat) (x : AV), c[i]? = some x → Rep μ H w ok x (cs.getD i undef)) : Rep μ H w ok (.fn f a c) (.func f as cs)
  | tup {l} {vs : Array Value} (hl : vs.size = l.length) (h : ∀ (i : Nat) (x : AV), l[i]? = some x → Rep μ H w ok x (vs.getD i undef)) : Rep μ H w ok (.tup l) (.tuple vs)
  | dead {x v b} (hx : refOf x = some b) (hb : b < H.length) (h : getH H b = none) (h1 : v.oneCell' = true) : Rep μ H w ok x v
  | junk {v} : Rep μ H w ok .junk v

def BRep (μ : Nat → Value) (H : AHeap) (w : World) (ok : Nat → Prop) (b : Nat) : Blk → Prop
  | .var ty cells => ∃ g cur, μ b = .pointer (some ⟨g, 0, none⟩) ∧ w.heap[g]? = some (.cells cur ty (0, 0)) ∧ cur.size = cells.length ∧
      ∀ (i : Nat) (x : AV), cells[i]? = some x → Rep μ H w ok x (cur.getD i undef) ∧ (cur.getD i undef).oneCell' = true
  | .row ty sz els => 0 < sz ∧ (∀ (i : Nat) (x : List FV), els[i]? = some x → x.length = sz) ∧ ∃ vals : List Value, w.ownsRow 0 ty sz (μ b) els.length vals ∧
      ∀ (i j : Nat) (x : List FV) (f : FV), els[i]? = some x → x[j]? = some f → RepF w ok f (vals.getD (i * sz + j) undef)
  | .obj o => ∃ g, μ b = objV o g ∧ w.heap[g]? = some o

structure Rel (X : Nat → Prop) (μ : Nat → Value) (H : AHeap) (w : World) : Prop where
  xlt : ∀ k, X k → k < w.heap.size
  notX : ∀ b B k, getH H b = some B → blkOf (μ b) = some k → ¬ X k
  dis : ∀ b b' B B' k, getH H b = some B → getH H b' = some B' → blkOf (μ b) = some k → blkOf (μ b') = some k → b = b'
  blk : ∀ b B, getH H b = some B → BRep μ H w (Fz X μ H w) b B

def sameKind : Blk → Blk → Prop
  | .var ty cells, .var ty' cells' => ty = ty' ∧ cells.length = cells'.length
  | .row ty sz els, .row ty' sz' els' => ty = ty' ∧ sz = sz' ∧ els.length = els'.length
  | .obj o, .obj o' => ∀ g, objV o g = objV o' g
  | _, _ => False

theorem sameKind.refl : ∀ B : Blk, sameKind B B
  | .var _ _ => ⟨rfl, rfl⟩
  | .row _ _ _ => ⟨rfl, rfl, rfl⟩
  | .obj _ => fun _ => rfl
theorem sameKind.trans : ∀ {A B C : Blk}, sameKind A B → sameKind B C → sameKind A C
  | .var _ _, .var _ _, .var _ _, h, k => ⟨h.1.trans k.1, h.2.trans k.2⟩
  | .row _ _ _, .row _ _ _, .row _ _ _, h, k => ⟨h.1.trans k.1, h.2.1.trans k.2.1, h.2.2.trans k.2.2⟩
  | .obj _, .obj _, .obj _, h, k => fun g => (h g).trans (k g)

/-- What stays: the first N blocks keep their places and kinds (or die); nothing else of the old memory is touched. -/
structure Keep (N : Nat) (μ : Nat → Value) (H : AHeap) (w : World) (μ' : Nat → Value) (H' : AHeap) (w' : World) : Prop where
  size : w.heap.size ≤ w'.heap.size
  os : w'.os = w.os
  tape : TapeOK w w'
  output : w'.output = w.output
  heap : ∀ k, k < w.heap.size → ¬ Taken μ H k → w'.heap[k]? = w.heap[k]?
  free : ∀ k, k < w.heap.size → ¬ Taken μ H k → ¬ Taken μ' H' k
  len : N ≤ H'.length
  old : ∀ b B', b < N → getH H' b = some B' → μ' b = μ b ∧ ∃ B, getH H b = some B ∧ sameKind B B'

theorem Keep.refl {N : Nat} {μ : Nat → Value} {H : AHeap} {w : World} (hN : N ≤ H.length) : Keep N μ H w μ H w :=
  ⟨Nat.le_refl _, rfl, TapeOK.refl w, rfl, fun _ _ _ => rfl, fun _ _ h => h, hN, fun b B hb h => ⟨rfl, B, h, sameKind.refl B⟩⟩
theorem Keep.trans {N : Nat} {μ μ' μ'' : Nat → Value} {H H' H'' : AHeap} {w w' w'' : World} (h : Keep N μ H w μ' H' w') (k : Keep N μ' H' w' μ'' H'' w'') : Keep N μ H w μ'' H'' w'' where
  size := Nat.le_trans h.size k.size
  os := k.os.trans h.os
  tape := k.tape.trans h.tape
  output := k.output.trans h.output
  heap j hj hn := (k.heap j (Nat.lt_of_lt_of_le hj h.size) (h.free j hj hn)).trans (h.heap j hj hn)
  free j hj hn := k.free j (Nat.lt_of_lt_of_le hj h.size) (h.free j hj hn)
  len := k.len
  old b B' hb h' := by
    obtain ⟨e1, B1, h1, s1⟩ := k.old b B' hb h'
    obtain ⟨e2, B2, h2, s2⟩ := h.old b B1 hb h1
    exact ⟨e1.trans e2, B2, h2, s2.trans s1⟩
theorem Keep.mono {N N' : Nat} {μ μ' : Nat → Value} {H H' : AHeap} {w w' : World} (h : Keep N μ H w μ' H' w') (hN : N' ≤ N) : Keep N' μ H w μ' H' w' :=
  ⟨h.size, h.os, h.tape, h.output, h.heap, h.free, Nat.le_trans hN h.len, fun b B' hb h' => h.old b B' (Nat.lt_of_lt_of_le hb hN) h'⟩

/-! ### lists of blocks -/
theorem getH_lt : ∀ {H : AHeap} {b : Nat} {B : Blk}, getH H b = some B → b < H.length
  | [], b, B, h => by cases b <;> simp [getH] at h
  | x :: r, 0, B, _ => by simp
  | x :: r, b + 1, B, h => by
    have := getH_lt (H := r) (b := b) (B := B) (by simpa [getH] using h)
    simp; omega
theorem getH_append_old : ∀ {H H' : AHeap} {b : Nat}, b < H.length → getH (H ++ H') b = getH H b
  | [], _, b, h => by simp at h
  | x :: r, _, 0, _ => rfl
  | x :: r, H', b + 1, h => by
    simp only [List.cons_append, getH]
    exact getH_append_old (by simpa using h)
theorem getH_append_new : ∀ {H H' : AHeap} {b : Nat}, H.length ≤ b → getH (H ++ H') b = getH H' (b - H.length)
  | [], _, b, _ => by simp
  | x :: r, H', 0, h => by simp at h
  | x :: r, H', b + 1, h => by
    simp only [List.cons_append, getH, List.length_cons]
    rw [getH_append_new (by simpa using h)]
    congr 1
    omega
theorem getH_last (H : AHeap) (B : Blk) : getH (H ++ [some B]) H.length = some B := by
  rw [getH_append_new (Nat.le_refl _), Nat.sub_self]; rfl
theorem getH_push {H : AHeap} {B : Blk} {b : Nat} {B' : Blk} (h : getH (H ++ [some B]) b = some B') : (b < H.length ∧ getH H b = some B') ∨ (b = H.length ∧ B = B') := by
  rcases Nat.lt_or_ge b H.length with hb | hb
  · rw [getH_append_old hb] at h; exact .inl ⟨hb, h⟩
  · have hlt := getH_lt h
    simp at hlt
    obtain rfl : b = H.length := by omega
    rw [getH_last] at h
    exact .inr ⟨rfl, Option.some.inj h⟩
theorem length_setH : ∀ (H : AHeap) (b : Nat) (v : Option Blk), (setH H b v).length = H.length
  | [], _, _ => rfl
  | _ :: _, 0, _ => rfl
  | x :: r, b + 1, v => by simp [setH, length_setH r b v]
theorem getH_setH_self : ∀ {H : AHeap} {b : Nat} {v : Option Blk}, b < H.length → getH (setH H b v) b = v
  | [], _, _, h => by simp at h
  | _ :: _, 0, _, _ => rfl
  | x :: r, b + 1, v, h => by simp only [setH, getH]; exact getH_setH_self (by simpa using h)
theorem getH_setH_ne : ∀ {H : AHeap} {b c : Nat} {v : Option Blk}, c ≠ b → getH (setH H b v) c = getH H c
  | [], _, _, _, _ => rfl
  | _ :: _, 0, 0, _, h => absurd rfl h
  | _ :: _, 0, c + 1, _, _ => rfl
  | x :: r, b + 1, 0, v, _ => rfl
  | x :: r, b + 1, c + 1, v, h => by simp only [setH, getH]; exact getH_setH_ne (by omega)
theorem getT_setT_self : ∀ {l : List AV} {n : Nat} {v : AV}, n < l.length → getT (setT l n v) n = v
  | [], _, _, h => by simp at h
  | _ :: _, 0, _, _ => rfl
  | x :: r, n + 1, v, h => by simp only [setT, getT]; exact getT_setT_self (by simpa using h)
theorem getT_setT_ne : ∀ {l : List AV} {n m : Nat} {v : AV}, m ≠ n → getT (setT l n v) m = getT l m
  | [], _, _, _, _ => rfl
  | _ :: _, 0, 0, _, h => absurd rfl h
  | _ :: _, 0, m + 1, _, _ => rfl
  | x :: r, n + 1, 0, v, _ => rfl
  | x :: r, n + 1, m + 1, v, h => by simp only [setT, getT]; exact getT_setT_ne (by omega)
theorem length_setT : ∀ (l : List AV) (n : Nat) (v : AV), (setT l n v).length = l.length
  | [], _, _ => rfl
  | _ :: _, 0, _ => rfl
  | x :: r, n + 1, v => by simp [setT, length_setT r n v]
theorem getT_oob : ∀ {l : List AV} {n : Nat}, l.length ≤ n → getT l n = .junk
  | [], _, _ => rfl
  | _ :: _, 0, h => by simp at h
  | x :: r, n + 1, h => by simp only [getT]; exact getT_oob (by simpa using h)
theorem getT_eq : ∀ (l : List AV) (n : Nat), getT l n = (l[n]?).getD .junk
  | [], n => by simp [getT]
  | x :: _, 0 => rfl
  | x :: r, n + 1 => by simp [getT, getT_eq r n]

/-! ### what stays -/
theorem Taken.congr {μ μ' : Nat → Value} {H : AHeap} (h : ∀ b B, getH H b = some B → μ' b = μ b) {k : Nat} : Taken μ' H k ↔ Taken μ H k := by
  constructor
  · rintro ⟨b, B, hb, hk⟩; exact ⟨b, B, hb, by rw [← h b B hb]; exact hk⟩
  · rintro ⟨b, B, hb, hk⟩; exact ⟨b, B, hb, by rw [h b B hb]; exact hk⟩

/-- A value's reading is carried on. -/
theorem Rep.keep {μ μ' : Nat → Value} {H H' : AHeap} {w w' : World} {ok ok' : Nat → Prop} (hlen : H.length ≤ H'.length)
    (hold : ∀ b B', b < H.length → getH H' b = some B' → μ' b = μ b ∧ ∃ B, getH H b = some B ∧ sameKind B B')
    (hk : ∀ k, ok k → ok' k ∧ w'.heap[k]? = w.heap[k]?) {x : AV} {v : Value} (h : Rep μ H w ok x v) : Rep μ' H' w' ok' x v := by
  have live : ∀ {b : Nat} {B : Blk}, getH H b = some B → (getH H' b = none ∧ b < H'.length) ∨ ∃ B', getH H' b = some B' ∧ μ' b = μ b ∧ sameKind B B' := by
    intro b B hb
    have hlt := getH_lt hb
    cases h' : getH H' b with
    | none => exact .inl ⟨rfl, Nat.lt_of_lt_of_le hlt hlen⟩
    | some B' =>
      obtain ⟨e, B0, h0, s⟩ := hold b B' hlt h'
      rw [hb] at h0
      cases h0
      exact .inr ⟨B', rfl, e, s⟩
  induction h with
  | fz h => exact .fz (h.move hk)
  | agg hl _ h1 ih => exact .agg hl ih h1
  | own h hv h1 =>
    rcases live h with ⟨hn, hb⟩ | ⟨B', hB', e, s⟩
    · exact .dead rfl hb hn h1
    · cases B' with
      | var => cases s
      | obj => cases s
      | row => exact .own hB' (hv.trans e.symm) h1
  | ob h hv h1 =>
    rcases live h with ⟨hn, hb⟩ | ⟨B', hB', e, s⟩
    · exact .dead rfl hb hn h1
    · cases B' with
      | var => cases s
      | row => cases s
      | obj => exact .ob hB' (hv.trans e.symm) h1
  | vw h hm hc hA =>
    rcases live h with ⟨hn, hb⟩ | ⟨B', hB', e, s⟩
    · exact .dead rfl hb hn rfl
    · cases B' with
      | var => cases s
      | obj => cases s
      | row ty sz els =>
        obtain ⟨rfl, rfl, hl⟩ := s
        exact .vw hB' (hl ▸ hm) hc (fun h0 => by rw [e]; exact hA h0)
  | ptr h hg =>
    rcases live h with ⟨hn, hb⟩ | ⟨B', hB', e, s⟩
    · exact .dead rfl hb hn rfl
    · cases B' with
      | row => cases s
      | obj => cases s
      | var ty cells => exact .ptr hB' (by rw [e]; exact hg)
  | ep h hi hg =>
    rcases live h with ⟨hn, hb⟩ | ⟨B', hB', e, s⟩
    · exact .dead rfl hb hn rfl
    · cases B' with
      | var => cases s
      | obj => cases s
      | row ty sz els =>
        obtain ⟨rfl, rfl, hl⟩ := s
        exact .ep hB' (hl ▸ hi) (by rw [e]; exact hg)
  | fp U hok hcell hrep =>
    refine .fp U (hk _ hok).1 (fun j f hf => ?_) (fun j f hf => (hrep j f hf).move hk)
    rw [← hcell j f hf]
    refine World.cell?_of_block ?_
    rw [show (Addr.add _ j).block = _ from by unfold Addr.add; split <;> rfl]
    exact (hk _ hok).2
  | ifc _ ih => exact .ifc ih
  | fn ha hc _ _ ih ih' => exact .fn ha hc ih ih'
  | tup hl _ ih => exact .tup hl ih
  | dead hx hb h h1 =>
    refine .dead hx (Nat.lt_of_lt_of_le hb hlen) ?_ h1
    cases h' : getH H' _ with
    | none => rfl
    | some B' =>
      obtain ⟨_, B0, h0, _⟩ := hold _ B' hb h'
      rw [h] at h0
      cases h0
  | junk => exact .junk

end Go.Proofs.Ai
