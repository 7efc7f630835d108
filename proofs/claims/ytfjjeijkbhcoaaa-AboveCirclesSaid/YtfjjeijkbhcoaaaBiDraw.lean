/- The abstract machine, 16: regions of open order: an invariant over the listed set; what waits for what. The abstract machine, 17: the front of a region of open order. The abstract machine, 18: one operation of the front, whichever is listed. The abstract machine, 19: regions of open order are sound. -/
import Derived.Test.YtfjjeijkbhcoaaaBiRun1
set_option linter.unusedVariables false
set_option linter.unusedSimpArgs false
namespace Go.Proofs.Ai
open Go

section
variable {P : Program} {ops : Array Oper} {Q : Exit → Act → World → Prop}

def Direct (ops : Array Oper) (L : Nat → Bool) (i : Nat) : Prop := ∀ o, ops[i]? = some o → ∀ e ∈ o.after.toList, Region.binds .any e = true → L e.on = true
def Closed (ops : Array Oper) (L : Nat → Bool) : Prop := ∀ i, L i = true → i < ops.size ∧ Direct ops L i
def Down (ops : Array Oper) : Prop := ∀ i o, ops[i]? = some o → ∀ e ∈ o.after.toList, Region.binds .any e = true → e.on < i
def put1 (L : Nat → Bool) (i : Nat) : Nat → Bool := fun j => j == i || L j

theorem mem_ready_iff {listed : Array Bool} {i : Nat} : i ∈ Region.ready .any ops listed ↔ i < ops.size ∧ listed.getD i true = false ∧ ∃ o, ops[i]? = some o ∧ ∀ e ∈ o.after.toList, Region.binds .any e = true → listed.getD e.on false = true := by
  unfold Region.ready
  simp only [List.mem_filter, List.mem_range]
  constructor
  · rintro ⟨h1, h2⟩
    simp only [Bool.and_eq_true, Bool.not_eq_true'] at h2
    refine ⟨h1, h2.1, ops[i], Array.getElem?_eq_getElem h1, fun e he hb => ?_⟩
    have := h2.2
    simp only [Array.getElem?_eq_getElem h1, Option.map_some, Option.getD_some, Array.all_eq_true'] at this
    have := this e (Array.mem_toList_iff.1 he)
    simpa [hb] using this
  · rintro ⟨h1, h2, o, ho, h3⟩
    refine ⟨h1, ?_⟩
    simp only [h2, ho, Option.map_some, Option.getD_some, Bool.not_false, Bool.true_and, Array.all_eq_true']
    intro e he
    cases hb : Region.binds .any e with
    | false => rfl
    | true => simp [h3 e (Array.mem_toList_iff.2 he) hb]

theorem getD_set1 {listed : Array Bool} {i j : Nat} (h : i < listed.size) : (listed.setIfInBounds i true).getD j false = put1 (fun j => listed.getD j false) i j := by
  unfold put1
  by_cases hj : j = i
  · subst hj; simp [Array.getD_eq_getD_getElem?, h]
  · have hj' : ¬ i = j := fun e => hj e.symm
    simp [Array.getD_eq_getD_getElem?, Array.getElem?_setIfInBounds_ne hj', hj]

theorem wpAny_inv (hdown : Down ops) (I : (Nat → Bool) → Act → World → Prop)
    (step : ∀ L a w i, I L a w → Closed ops L → i < ops.size → L i = false → Direct ops L i → wpOp P ops Q i (I (put1 L i)) a w)
    (fin : ∀ L a w, I L a w → (∀ i, L i = true ↔ i < ops.size) → Q .normal a w) :
    ∀ (fuel : Nat) (listed : Array Bool) (a : Act) (w : World), listed.size = ops.size → listed.toList.count false = fuel → Closed ops (fun j => listed.getD j false) → I (fun j => listed.getD j false) a w → wpAny P .any ops Q fuel listed a w := by
  have lt : ∀ (listed : Array Bool), listed.size = ops.size → ∀ i, listed.getD i false = true → i < ops.size := by
    intro listed hs i hi
    rcases Nat.lt_or_ge i listed.size with h | h
    · omega
    · simp [Array.getD_eq_getD_getElem?, Array.getElem?_eq_none h] at hi
  have done : ∀ (listed : Array Bool), listed.size = ops.size → Region.ready .any ops listed = [] → ∀ i, listed.getD i false = true ↔ i < ops.size := by
    intro listed hs hr i
    refine ⟨lt listed hs i, ?_⟩
    induction i using Nat.strongRecOn with
    | _ i ih =>
      intro hi
      cases h : listed.getD i false with
      | true => rfl
      | false =>
        have : i ∈ Region.ready .any ops listed := mem_ready_iff.2 ⟨hi, by
          have hi' : i < listed.size := by omega
          simpa [Array.getD_eq_getD_getElem?, hi'] using h, ops[i], Array.getElem?_eq_getElem hi, fun e he hb => by
          have hlt := hdown i ops[i] (Array.getElem?_eq_getElem hi) e he hb
          exact ih e.on hlt (by omega)⟩
        rw [hr] at this
        cases this
  intro fuel
  induction fuel with
  | zero =>
    intro listed a w hs hcnt hcl hI
    have hall : ∀ i, listed.getD i false = true ↔ i < ops.size := by
      intro i
      refine ⟨lt listed hs i, fun hi => ?_⟩
      have hi' : i < listed.size := by omega
      have hm : listed[i] ∈ listed.toList := by simp
      have := List.count_eq_zero.1 hcnt
      cases h : listed[i] with
      | true => simp [Array.getD_eq_getD_getElem?, hi', h]
      | false => rw [h] at hm; exact absurd hm this
    refine ⟨?_, fin _ a w hI hall⟩
    apply List.eq_nil_iff_forall_not_mem.2
    intro i hi
    obtain ⟨h1, h2, _⟩ := mem_ready_iff.1 hi
    have := (hall i).2 h1
    have hi' : i < listed.size := by omega
    simp [Array.getD_eq_getD_getElem?, hi'] at this h2
    rw [this] at h2; cases h2
  | succ fuel ih =>
    intro listed a w hs hcnt hcl hI
    refine ⟨fun hr => fin _ a w hI (done listed hs hr), fun i hi => ?_⟩
    obtain ⟨h1, h2, o, ho, h3⟩ := mem_ready_iff.1 hi
    have hi' : i < listed.size := by omega
    have hun : listed.getD i false = false := by simpa [Array.getD_eq_getD_getElem?, hi'] using h2
    have hdir : Direct ops (fun j => listed.getD j false) i := fun o' ho' e he hb => by
      rw [ho] at ho'; cases ho'; exact h3 e he hb
    refine wpOp_mono (fun a' w' hI' => ?_) (step _ a w i hI hcl h1 hun hdir)
    have heq : (fun j => (listed.setIfInBounds i true).getD j false) = put1 (fun j => listed.getD j false) i := funext fun j => getD_set1 hi'
    refine ih _ a' w' (by simpa using hs) ?_ ?_ (by rw [heq]; exact hI')
    · rw [Array.toList_setIfInBounds, List.count_set (by simpa using hi')]
      have : listed.toList[i] = false := by simpa [Array.getD_eq_getD_getElem?, hi'] using h2
      simp [this, hcnt]
    · rw [heq]
      intro j hj
      unfold put1 at hj
      simp only [Bool.or_eq_true, beq_iff_eq] at hj
      have up : Direct ops (fun j => listed.getD j false) j → Direct ops (put1 (fun j => listed.getD j false) i) j := fun hd o ho e he hb => by
        simp only [put1, Bool.or_eq_true]; exact .inr (hd o ho e he hb)
      rcases hj with rfl | hj
      · exact ⟨h1, up hdir⟩
      · exact ⟨(hcl j hj).1, up (hcl j hj).2⟩

/-! ### what waits for what -/
def wait1 (acc : List Nat) (o : Oper) : Nat := o.after.toList.foldl (fun s e => if Region.binds .any e then s ||| 2 ^ e.on ||| acc.getD e.on 0 else s) 0
def waitsFrom (acc : List Nat) : List Oper → List Nat
  | [] => acc
  | o :: r => waitsFrom (acc ++ [wait1 acc o]) r
theorem waits_eq (l : List Oper) : waits l = waitsFrom [] l := by
  have : ∀ (l : List Oper) (acc : List Nat), l.foldl (init := acc) (fun acc o => acc ++ [o.after.toList.foldl (fun s e => if Region.binds .any e then s ||| 2 ^ e.on ||| acc.getD e.on 0 else s) 0]) = waitsFrom acc l := by
    intro l
    induction l with
    | nil => intro acc; rfl
    | cons o r ih => intro acc; exact ih _
  exact this l []
theorem waitsFrom_old : ∀ (l : List Oper) (acc : List Nat) (i : Nat), i < acc.length → (waitsFrom acc l).getD i 0 = acc.getD i 0
  | [], acc, i, h => rfl
  | o :: r, acc, i, h => by
    simp only [waitsFrom]
    rw [waitsFrom_old r _ i (by simp; omega)]
    simp [List.getD_eq_getElem?_getD, List.getElem?_append_left h]
theorem waitsFrom_at : ∀ (l : List Oper) (acc : List Nat) (i : Nat) (o : Oper), l[i]? = some o → ∃ pre : List Nat, pre.length = acc.length + i ∧ (waitsFrom acc l).getD (acc.length + i) 0 = wait1 pre o ∧ ∀ j, j < acc.length + i → pre.getD j 0 = (waitsFrom acc l).getD j 0
  | [], acc, i, o, h => by simp at h
  | x :: r, acc, 0, o, h => by
    simp at h
    subst h
    refine ⟨acc, rfl, ?_, fun j hj => ?_⟩
    · simp only [waitsFrom, Nat.add_zero]
      rw [waitsFrom_old r _ _ (by simp)]
      simp [List.getD_eq_getElem?_getD]
    · rw [waitsFrom_old _ _ j (by omega)]
  | x :: r, acc, i + 1, o, h => by
    obtain ⟨pre, h1, h2, h3⟩ := waitsFrom_at r (acc ++ [wait1 acc x]) i o (by simpa using h)
    have e : (acc ++ [wait1 acc x]).length + i = acc.length + (i + 1) := by simp; omega
    rw [e] at h1 h2 h3
    exact ⟨pre, h1, h2, h3⟩

theorem wait1_bit {acc : List Nat} {o : Oper} {j : Nat} (h : (wait1 acc o).testBit j = true) : ∃ e ∈ o.after.toList, Region.binds .any e = true ∧ (j = e.on ∨ (acc.getD e.on 0).testBit j = true) := by
  unfold wait1 at h
  have : ∀ (es : List Edge) (s : Nat), (es.foldl (fun s e => if Region.binds .any e then s ||| 2 ^ e.on ||| acc.getD e.on 0 else s) s).testBit j = true → s.testBit j = true ∨ ∃ e ∈ es, Region.binds .any e = true ∧ (j = e.on ∨ (acc.getD e.on 0).testBit j = true) := by
    intro es
    induction es with
    | nil => intro s h; exact .inl h
    | cons e r ih =>
      intro s h
      simp only [List.foldl_cons] at h
      rcases ih _ h with h | ⟨e', he', h'⟩
      · split at h
        · rename_i hb
          simp only [Nat.testBit_or, Bool.or_eq_true] at h
          rcases h with (h | h) | h
          · exact .inl h
          · rw [Nat.testBit_two_pow] at h
            exact .inr ⟨e, List.mem_cons_self, hb, .inl (by simpa using (of_decide_eq_true h).symm)⟩
          · exact .inr ⟨e, List.mem_cons_self, hb, .inr h⟩
        · exact .inl h
      · exact .inr ⟨e', List.mem_cons_of_mem _ he', h'⟩
  rcases this _ _ h with h | h
  · simp at h
  · exact h

/-- Whatever is waited for is listed. -/
theorem waits_listed (hdown : Down ops) {L : Nat → Bool} (hL : Closed ops L) : ∀ (i : Nat), i < ops.size → Direct ops L i → ∀ j, ((waits ops.toList).getD i 0).testBit j = true → L j = true := by
  intro i
  induction i using Nat.strongRecOn with
  | _ i ih =>
    intro hi hd j hj
    obtain ⟨pre, h1, h2, h3⟩ := waitsFrom_at ops.toList [] i ops[i] (by simp [hi])
    simp only [List.length_nil, Nat.zero_add] at h1 h2 h3
    rw [waits_eq, h2] at hj
    obtain ⟨e, he, hb, h⟩ := wait1_bit hj
    have hlt := hdown i ops[i] (Array.getElem?_eq_getElem hi) e he hb
    have hon := hd ops[i] (Array.getElem?_eq_getElem hi) e he hb
    rcases h with rfl | h
    · exact hon
    · rw [h3 _ hlt, ← waits_eq] at h
      exact ih e.on hlt (by omega) (hL _ hon).2 j h

theorem waits_lt (hdown : Down ops) {i j : Nat} (hi : i < ops.size) (h : ((waits ops.toList).getD i 0).testBit j = true) : j < i := by
  have := waits_listed hdown (L := fun k => decide (k < i)) (fun k hk => ?_) i hi (fun o ho e he hb => by simpa using hdown i o ho e he hb) j h
  · simpa using this
  · have hk' : k < i := by simpa using hk
    exact ⟨by omega, fun o ho e he hb => by have := hdown k o ho e he hb; simp; omega⟩

theorem tailFrom_le (ws : List Nat) : ∀ n, tailFrom ws n ≤ n
  | 0 => Nat.le_refl _
  | n + 1 => by
    unfold tailFrom
    split
    · exact Nat.le_succ_of_le (tailFrom_le ws n)
    · exact Nat.le_refl _
theorem tailFrom_bits (ws : List Nat) : ∀ (n i : Nat), tailFrom ws n ≤ i → i < n → ∀ j, j < i → (ws.getD i 0).testBit j = true
  | 0, i, _, h => by omega
  | n + 1, i, h, hi => by
    unfold tailFrom at h
    split at h
    · rename_i hc
      rcases Nat.lt_or_ge i n with hlt | hge
      · exact tailFrom_bits ws n i h hlt
      · obtain rfl : i = n := by omega
        intro j hj
        have h1 : (ws.getD i 0 % 2 ^ i).testBit j = (2 ^ i - 1).testBit j := by rw [hc]
        rw [Nat.testBit_mod_two_pow, Nat.testBit_two_pow_sub_one] at h1
        simpa [hj] using h1
    · omega

/-! ### temporaries and blocks of a listed set -/
theorem tmpsAt_length (p : Nat → Bool) : ∀ (d : List (Nat × Option Tmp × AV)) (ts : List AV), (tmpsAt p ts d).length = ts.length
  | [], ts => rfl
  | (j, x, v) :: r, ts => by
    simp only [tmpsAt]
    rw [tmpsAt_length p r]
    split
    · exact putT_length _ _ _
    · rfl
theorem tmpsAt_app (p : Nat → Bool) : ∀ (d d' : List (Nat × Option Tmp × AV)) (ts : List AV), tmpsAt p ts (d ++ d') = tmpsAt p (tmpsAt p ts d) d'
  | [], d', ts => rfl
  | (j, x, v) :: r, d', ts => by simp only [List.cons_append, tmpsAt]; exact tmpsAt_app p r d' _
theorem tmpsAt_eq {p q : Nat → Bool} {t : Nat} : ∀ (d : List (Nat × Option Tmp × AV)) (ts ts' : List AV), (∀ e ∈ d, p e.1 ≠ q e.1 → e.2.1 ≠ some t) → ts.length = ts'.length → getT ts t = getT ts' t → getT (tmpsAt p ts d) t = getT (tmpsAt q ts' d) t
  | [], ts, ts', _, _, h => h
  | (j, x, v) :: r, ts, ts', hd, hl, h => by
    simp only [tmpsAt]
    refine tmpsAt_eq r _ _ (fun e he => hd e (List.mem_cons_of_mem _ he)) (by split <;> split <;> simp [putT_length, hl]) ?_
    by_cases hx : x = some t
    · have hpq : p j = q j := by
        by_cases h' : p j = q j
        · exact h'
        · exact absurd hx (hd _ List.mem_cons_self h')
      rw [hpq]
      split
      · rw [putT_getT, putT_getT, hl, h]
      · exact h
    · have e1 : ∀ (ts : List AV), getT (putT ts x v) t = getT ts t := fun ts => by rw [putT_getT, if_neg (fun hh => hx hh.1)]
      split <;> split <;> first | exact h | (simp only [e1]; exact h)
theorem tmpsAt_off {q : Nat → Bool} : ∀ (d : List (Nat × Option Tmp × AV)) (ts : List AV), (∀ e ∈ d, q e.1 = false) → tmpsAt q ts d = ts
  | [], ts, _ => rfl
  | (j, x, v) :: r, ts, hd => by
    simp only [tmpsAt, hd _ List.mem_cons_self]
    exact tmpsAt_off r ts (fun e he => hd e (List.mem_cons_of_mem _ he))
theorem tmpsAt_congr {p q : Nat → Bool} : ∀ (d : List (Nat × Option Tmp × AV)) (ts : List AV), (∀ e ∈ d, p e.1 = q e.1) → tmpsAt p ts d = tmpsAt q ts d
  | [], ts, _ => rfl
  | (j, x, v) :: r, ts, hd => by
    simp only [tmpsAt, hd _ List.mem_cons_self]
    exact tmpsAt_congr r _ (fun e he => hd e (List.mem_cons_of_mem _ he))
theorem tmpsAt_mem {p : Nat → Bool} {t : Nat} : ∀ (d : List (Nat × Option Tmp × AV)) (ts : List AV), getT (tmpsAt p ts d) t = getT ts t ∨ ∃ e ∈ d, p e.1 = true ∧ getT (tmpsAt p ts d) t = e.2.2 ∧ e.2.1 = some t
  | [], ts => .inl rfl
  | (j, x, v) :: r, ts => by
    simp only [tmpsAt]
    rcases tmpsAt_mem r (if p j = true then putT ts x v else ts) with h | ⟨e, he, h⟩
    · by_cases hp : p j = true
      · rw [if_pos hp] at h ⊢
        rw [putT_getT] at h
        split at h
        · rename_i hx
          exact .inr ⟨(j, x, v), List.mem_cons_self, hp, h, hx.1⟩
        · exact .inl h
      · rw [if_neg hp] at h ⊢
        exact .inl h
    · exact .inr ⟨e, List.mem_cons_of_mem _ he, h⟩
theorem maskT_get (ks : List Tmp) : ∀ (l : List AV) (n t : Nat), getT (maskT ks n l) t = if ks.contains (n + t) then getT l t else .junk
  | [], n, t => by simp [maskT, getT]
  | x :: r, n, 0 => by simp [maskT, getT]
  | x :: r, n, t + 1 => by
    simp only [maskT, getT]
    rw [maskT_get ks r (n + 1) t]
    rw [show n + 1 + t = n + (t + 1) from by omega]

theorem heapAt_length (p : Nat → Bool) (H : AHeap) (made : List (Nat × Blk)) : (heapAt p H made).length = H.length + made.length := by simp [heapAt]
theorem getH_eq : ∀ (H : AHeap) (b : Nat), getH H b = (H[b]?).join
  | [], b => by simp [getH]
  | x :: _, 0 => by simp [getH]
  | x :: r, b + 1 => by simp only [getH, getH_eq r b]; simp
theorem heapAt_get {p : Nat → Bool} {H : AHeap} {made : List (Nat × Blk)} {c : Nat} {B : Blk} (h : getH (heapAt p H made) c = some B) : (c < H.length ∧ getH H c = some B) ∨ ∃ j k, c = H.length + k ∧ made[k]? = some (j, B) ∧ p j = true := by
  unfold heapAt at h
  rcases Nat.lt_or_ge c H.length with hc | hc
  · rw [getH_append_old hc] at h; exact .inl ⟨hc, h⟩
  · rw [getH_append_new hc, getH_eq, List.getElem?_map] at h
    cases hm : made[c - H.length]? with
    | none => simp [hm] at h
    | some q =>
      obtain ⟨j, B'⟩ := q
      simp only [hm, Option.map_some, Option.join_some] at h
      split at h
      · rename_i hp
        cases h
        exact .inr ⟨j, c - H.length, by omega, hm, hp⟩
      · cases h
theorem heapAt_old {p : Nat → Bool} {H : AHeap} {made : List (Nat × Blk)} {c : Nat} (hc : c < H.length) : getH (heapAt p H made) c = getH H c := getH_append_old hc
theorem heapAt_new {p : Nat → Bool} {H : AHeap} {made : List (Nat × Blk)} {j k : Nat} {B : Blk} (h : made[k]? = some (j, B)) (hp : p j = true) : getH (heapAt p H made) (H.length + k) = some B := by
  unfold heapAt
  rw [getH_append_new (by omega), getH_eq, List.getElem?_map, show H.length + k - H.length = k from by omega, h]
  simp [hp]
theorem heapAt_congr {p q : Nat → Bool} {H : AHeap} {made : List (Nat × Blk)} (h : ∀ e ∈ made, p e.1 = q e.1) : heapAt p H made = heapAt q H made := by
  unfold heapAt
  congr 1
  apply List.map_congr_left
  intro e he
  rw [h e he]
theorem setH_mid : ∀ (A C : AHeap) (x v : Option Blk), setH (A ++ x :: C) A.length v = A ++ v :: C
  | [], C, x, v => rfl
  | y :: A, C, x, v => by simp only [List.cons_append, List.length_cons, setH, setH_mid A C x v]
theorem getH_mid : ∀ (A C : AHeap) (x : Option Blk), getH (A ++ x :: C) A.length = x
  | [], C, x => rfl
  | y :: A, C, x => by simp only [List.cons_append, List.length_cons, getH, getH_mid A C x]
end
end Go.Proofs.Ai
set_option linter.unusedVariables false
set_option linter.unusedSimpArgs false
namespace Go.Proofs.Ai
open Go

section
variable {P : Program} {T : Tab} {call : CallF} {ops : Array Oper}

/-- The blocks of a listed set. -/
def hAt (s : St) (p : Nat → Bool) (F : Front) : AHeap := heapAt p s.heap F.made
def dOf (ops : Array Oper) (i : Nat) : Nat → Bool := ((waits ops.toList).getD i 0).testBit

/-- Shape of one step of the front. -/
theorem front1_shape {ws : List Nat} {s : St} {F F' : Front} {i : Nat} {o : Oper} (h : front1 P T call ops ws s F i o = some F') :
    ∃ v nm, F'.done = F.done ++ [(i, o.dst, v)] ∧ F'.made = F.made ++ nm ∧ (nm = [] ∨ ∃ B, nm = [(i, B)]) ∧ (All F'.cond → All F.cond) := by
  unfold front1 at h
  simp only at h
  split at h
  · cases h
  · cases h; exact ⟨_, [], rfl, by simp, .inl rfl, id⟩
  · split at h
    · split at h
      · cases h; exact ⟨_, [], rfl, by simp, .inl rfl, fun hc => (All_app.1 hc).2⟩
      · cases h
    · split at h
      · cases h; exact ⟨_, _, rfl, rfl, .inr ⟨_, rfl⟩, fun hc => (All_app.1 hc).2⟩
      · cases h
    · split at h
      · split at h
        · cases h; exact ⟨_, [], rfl, by simp, .inl rfl, fun hc => (All_app.1 hc).2⟩
        · cases h
      · cases h
    · cases h

/-- All steps of the front. -/
structure Fronts (P : Program) (T : Tab) (call : CallF) (ops : Array Oper) (s : St) (m : Nat) (g : Nat → Front) : Prop where
  zero : g 0 = { done := [], made := [], hints := s.hints, cond := s.cond }
  step : ∀ i, i < m → ∃ o, ops[i]? = some o ∧ front1 P T call ops (waits ops.toList) s (g i) i o = some (g (i + 1))
  le : m ≤ ops.size

theorem frontRun_chain {ws : List Nat} {s : St} : ∀ (os : List Oper) (i0 : Nat) (F F' : Front), frontRun P T call ops ws s i0 os F = some F' → ∃ g : Nat → Front, g i0 = F ∧ g (i0 + os.length) = F' ∧
    ∀ k, k < os.length → ∃ o, os[k]? = some o ∧ front1 P T call ops ws s (g (i0 + k)) (i0 + k) o = some (g (i0 + k + 1))
  | [], i0, F, F', h => by simp [frontRun] at h; subst h; exact ⟨fun _ => F, rfl, rfl, fun k hk => by simp at hk⟩
  | o :: r, i0, F, F', h => by
    simp only [frontRun] at h
    split at h
    · rename_i F1 h1
      obtain ⟨g, g1, g2, g3⟩ := frontRun_chain r (i0 + 1) F1 F' h
      refine ⟨fun i => if i = i0 then F else g i, by simp, ?_, fun k hk => ?_⟩
      · have : ¬ i0 + (o :: r).length = i0 := by simp
        simp only [this, if_false]
        rw [← g2]; congr 1; simp; omega
      · cases k with
        | zero =>
          refine ⟨o, rfl, ?_⟩
          have : ¬ i0 + 0 + 1 = i0 := by omega
          simp only [Nat.add_zero, if_true, this, if_false]
          rw [show i0 + 1 = i0 + 1 from rfl, g1]
          simpa using h1
        | succ k =>
          obtain ⟨o', ho, hf⟩ := g3 k (by simpa using hk)
          refine ⟨o', by simpa using ho, ?_⟩
          have a1 : ¬ i0 + (k + 1) = i0 := by omega
          have a2 : ¬ i0 + (k + 1) + 1 = i0 := by omega
          simp only [a1, a2, if_false]
          rw [show i0 + (k + 1) = i0 + 1 + k from by omega]
          exact hf
    · cases h

theorem drawOK_spec (h : drawOK ops = true) : Down ops ∧ ∀ i j oi oj, ops[i]? = some oi → ops[j]? = some oj → j < i → conflicts ops oi oj = true → dOf ops i j = true := by
  unfold drawOK at h
  simp only [List.all_eq_true, List.mem_range] at h
  refine ⟨fun i o ho e he hb => ?_, fun i j oi oj hi hj hlt hcf => ?_⟩
  · have hi : i < ops.size := (Array.getElem?_eq_some_iff.1 ho).1
    have := h i hi
    simp only [ho, Bool.and_eq_true, List.all_eq_true] at this
    have := this.1.1 e he
    simp [hb] at this
    exact this
  · have hi' : i < ops.size := (Array.getElem?_eq_some_iff.1 hi).1
    have := h i hi'
    simp only [hi, Bool.and_eq_true, List.all_eq_true, List.mem_range] at this
    have := this.2 j hlt
    simp only [hj, hcf, Bool.not_true, Bool.false_or] at this
    exact this

namespace Fronts
variable {s : St} {m : Nat} {g : Nat → Front} (hF : Fronts P T call ops s m g)
include hF

theorem rest {i j : Nat} (hij : i ≤ j) (hj : j ≤ m) : ∃ d nm, (g j).done = (g i).done ++ d ∧ (g j).made = (g i).made ++ nm ∧ (∀ e ∈ d, i ≤ e.1 ∧ e.1 < j) ∧ (∀ e ∈ nm, i ≤ e.1 ∧ e.1 < j) ∧ (All (g j).cond → All (g i).cond) := by
  induction j with
  | zero =>
    obtain rfl : i = 0 := by omega
    exact ⟨[], [], by simp, by simp, by simp, by simp, id⟩
  | succ j ih =>
    rcases Nat.lt_or_ge i (j + 1) with hlt | hge
    · obtain ⟨d, nm, h1, h2, h3, h4, h5⟩ := ih (by omega) (by omega)
      obtain ⟨o, ho, hf⟩ := hF.step j (by omega)
      obtain ⟨v, nm', e1, e2, e3, e4⟩ := front1_shape hf
      refine ⟨d ++ [(j, o.dst, v)], nm ++ nm', by rw [e1, h1]; simp, by rw [e2, h2]; simp, ?_, ?_, fun hc => h5 (e4 hc)⟩
      · intro e he
        rcases List.mem_append.1 he with he | he
        · have := h3 e he; omega
        · simp at he; subst he; simp; omega
      · intro e he
        rcases List.mem_append.1 he with he | he
        · have := h4 e he; omega
        · rcases e3 with rfl | ⟨B, rfl⟩
          · cases he
          · simp at he; subst he; simp; omega
    · obtain rfl : i = j + 1 := by omega
      exact ⟨[], [], by simp, by simp, by simp, by simp, id⟩
theorem lt {i : Nat} (hi : i ≤ m) : (∀ e ∈ (g i).done, e.1 < i) ∧ ∀ e ∈ (g i).made, e.1 < i := by
  obtain ⟨d, nm, h1, h2, h3, h4, _⟩ := hF.rest (Nat.zero_le i) hi
  rw [hF.zero] at h1 h2
  simp at h1 h2
  rw [h1, h2]
  exact ⟨fun e he => (h3 e he).2, fun e he => (h4 e he).2⟩
end Fronts

/-- What a value laid speaks of: what was live; the new block. -/
def VOK (H : AHeap) (n : Prop) (v : AV) : Prop := ∀ p : Nat → Bool, (∀ c, liveIn H c = true → p c = true) → (n → p H.length = true) → refsIn p v = true
def BOK (ops : Array Oper) (s : St) (g : Nat → Front) (j : Nat) (B : Blk) : Prop := refsInB (liveIn (hAt s (dOf ops j) (g j))) (some B) = true

theorem Fronts.val {s : St} {m : Nat} {g : Nat → Front} (hF : Fronts P T call ops s m g) {j : Nat} (hj : j < m) : ∃ o v nm, ops[j]? = some o ∧ (g (j + 1)).done = (g j).done ++ [(j, o.dst, v)] ∧ (g (j + 1)).made = (g j).made ++ nm ∧ (nm = [] ∨ ∃ B, nm = [(j, B)] ∧ BOK ops s g j B) ∧ VOK (hAt s (dOf ops j) (g j)) (nm ≠ []) v := by
  obtain ⟨o, ho, h⟩ := hF.step j hj
  refine ⟨o, ?_⟩
  unfold front1 at h
  simp only at h
  generalize g (j + 1) = F' at h ⊢
  split at h
  · cases h
  · cases h; exact ⟨.tup [], [], ho, rfl, by simp, .inl rfl, fun p _ _ => rfl⟩
  · split at h
    · split at h
      · rename_i v hs c _ hv
        cases h; exact ⟨v, [], ho, rfl, by simp, .inl rfl, fun p hp _ => refsIn_mono hp _ hv⟩
      · cases h
    · split at h
      · rename_i B hs c _ hB
        cases h
        refine ⟨_, _, ho, rfl, rfl, .inr ⟨B, rfl, hB⟩, fun p _ hp => ?_⟩
        have := hp (by simp)
        cases B <;> exact this
      · cases h
    · split at h
      · split at h
        · rename_i R _ hc
          simp only [Bool.and_eq_true] at hc
          cases h; exact ⟨R.r, [], ho, rfl, by simp, .inl rfl, fun p hp _ => refsIn_mono (fun c hc => by cases hc) _ hc.2⟩
        · cases h
      · cases h
    · cases h
end
end Go.Proofs.Ai
set_option linter.unusedVariables false
set_option linter.unusedSimpArgs false
namespace Go.Proofs.Ai
open Go

section
variable {P : Program} {T : Tab} {call : CallF} {ops : Array Oper}
namespace Fronts
variable {s : St} {m : Nat} {g : Nat → Front} (hF : Fronts P T call ops s m g)
include hF

theorem done_val : ∀ i, i ≤ m → ∀ e ∈ (g i).done, e.1 < i ∧ ∃ o nm, ops[e.1]? = some o ∧ e.2.1 = o.dst ∧ (g (e.1 + 1)).made = (g e.1).made ++ nm ∧ (nm = [] ∨ ∃ B, nm = [(e.1, B)]) ∧ VOK (hAt s (dOf ops e.1) (g e.1)) (nm ≠ []) e.2.2 := by
  intro i
  induction i with
  | zero => intro _ e he; rw [hF.zero] at he; cases he
  | succ i ih =>
    intro hi e he
    obtain ⟨o, v, nm, ho, f1, f2, f3, f4⟩ := hF.val (j := i) (by omega)
    rw [f1] at he
    rcases List.mem_append.1 he with he | he
    · obtain ⟨h1, h2⟩ := ih (by omega) e he
      exact ⟨by omega, h2⟩
    · simp at he
      subst he
      exact ⟨Nat.lt_succ_self i, o, nm, ho, rfl, f2, f3.imp id (fun ⟨B, h, _⟩ => ⟨B, h⟩), f4⟩
theorem made_val : ∀ i, i ≤ m → ∀ e ∈ (g i).made, e.1 < i ∧ BOK ops s g e.1 e.2 := by
  intro i
  induction i with
  | zero => intro _ e he; rw [hF.zero] at he; cases he
  | succ i ih =>
    intro hi e he
    obtain ⟨o, v, nm, ho, f1, f2, f3, f4⟩ := hF.val (j := i) (by omega)
    rw [f2] at he
    rcases List.mem_append.1 he with he | he
    · obtain ⟨h1, h2⟩ := ih (by omega) e he
      exact ⟨by omega, h2⟩
    · rcases f3 with rfl | ⟨B, rfl, hB⟩
      · cases he
      · simp at he; subst he; exact ⟨Nat.lt_succ_self i, hB⟩
theorem made_len {i j : Nat} (hij : i ≤ j) (hj : j ≤ m) : (g i).made.length ≤ (g j).made.length := by
  obtain ⟨d, nm, _, h, _⟩ := hF.rest hij hj
  rw [h]; simp
theorem made_get {i j : Nat} (hij : i ≤ j) (hj : j ≤ m) {k : Nat} {e : Nat × Blk} (h : (g i).made[k]? = some e) : (g j).made[k]? = some e := by
  obtain ⟨d, nm, _, h', _⟩ := hF.rest hij hj
  rw [h', List.getElem?_append_left (List.getElem?_eq_some_iff.1 h).1]; exact h
end Fronts

structure FrontInv (X : Nat → Prop) (ops : Array Oper) (s : St) (m : Nat) (g : Nat → Front) (μ0 : Nat → Value) (w0 : World) (L : Nat → Bool) (a : Act) (w : World) : Prop where
  sub : ∀ i, L i = true → i < m
  st : ∃ μ, Rel X μ (hAt s L (g m)) w ∧ (∀ t, Rep μ (hAt s L (g m)) w (Fz X μ (hAt s L (g m)) w) (getT (tmpsAt L s.tmps (g m).done) t) (a.tmps.getD t undef)) ∧ Keep s.heap.length μ0 s.heap w0 μ (hAt s L (g m)) w
  size : a.tmps.size = s.tmps.length
  dfr : a.defers = []

/-- What the state before the region speaks of. -/
structure Init (s : St) : Prop where
  tmps : ∀ t, refsIn (fun c => decide (c < s.heap.length)) (getT s.tmps t) = true
  blk : ∀ c ty cells, getH s.heap c = some (.var ty cells) → refsInL (fun c => decide (c < s.heap.length)) cells = true

theorem RelS.init {X : Nat → Prop} {μ : Nat → Value} {s : St} {a : Act} {w : World} (h : RelS X μ s a w) : Init s := by
  refine ⟨fun t => (h.ctx.tmps t).refs, fun c ty cells hc => ?_⟩
  obtain ⟨g, cur, _, _, _, hcell⟩ := h.ctx.rel.blk c _ hc
  exact (refsInL_iff _).2 fun i x hx => (hcell i x hx).1.refs

theorem liveIn_iff {H : AHeap} {c : Nat} : liveIn H c = true ↔ ∃ B, getH H c = some B := by
  unfold liveIn; cases getH H c <;> simp
theorem liveIn_lt {H : AHeap} {c : Nat} (h : liveIn H c = true) : c < H.length := by
  obtain ⟨B, hB⟩ := liveIn_iff.1 h; exact getH_lt hB

theorem Made.brep' {μ μ' : Nat → Value} {H H' : AHeap} {w w' : World} {ok ok' : Nat → Prop} {u : Value} {B : Blk} {b : Nat} {p : Nat → Bool} (h : Made μ H w ok w' u B) (hp : refsInB p (some B) = true) (hu : μ' b = u)
    (hx : ∀ x v, refsIn p x = true → Rep μ H w ok x v → Rep μ' H' w' ok' x v) (hf : ∀ f v, RepF w ok f v → RepF w' ok' f v) : BRep μ' H' w' ok' b B := by
  cases B with
  | var ty cells =>
    obtain ⟨g, cur, e, hg, hcs, hcell⟩ := h
    exact ⟨g, cur, hu.trans e, hg, hcs, fun i x hx' => ⟨hx _ _ ((refsInL_iff p).1 hp i x hx') (hcell i x hx').1, (hcell i x hx').2⟩⟩
  | row ty sz els =>
    obtain ⟨h1, h2, vals, ho, hv⟩ := h
    exact ⟨h1, h2, vals, by rw [hu]; exact ho, fun i j x f hx' hf' => hf _ _ (hv i j x f hx' hf')⟩
  | obj o => obtain ⟨g, e, hg⟩ := h; exact ⟨g, by rw [hu]; exact e, hg⟩

theorem Keep.fill {X : Nat → Prop} {μ : Nat → Value} {H : AHeap} {w w' : World} {u : Value} {B : Blk} {b N : Nat} (hb : getH H b = none) (hlt : b < H.length) (e : Ext w w') (hu : ∀ k, blkOf u = some k → w.heap.size ≤ k) (hN : N ≤ b) :
    Keep N μ H w (upd μ b u) (setH H b (some B)) w' := by
  refine ⟨e.size, e.os, e.tape, e.output, fun k hk _ => e.heap k hk, fun k hk hn => ?_, by rw [length_setH]; omega, fun c B' hc h' => ?_⟩
  · rintro ⟨c, B', hc, e'⟩
    rcases fill_get hb hlt hc with ⟨rfl, _⟩ | ⟨hcb, hc'⟩
    · rw [upd_self] at e'
      have := hu k e'
      omega
    · rw [upd_ne hcb] at e'
      exact hn ⟨c, B', hc', e'⟩
  · have hcb : c ≠ b := by omega
    rcases fill_get hb hlt h' with ⟨rfl, _⟩ | ⟨_, hc'⟩
    · exact absurd rfl hcb
    · exact ⟨upd_ne hcb, B', hc', sameKind.refl _⟩

theorem front_step {Q : Exit → Act → World → Prop} {X : Nat → Prop} {s : St} {m : Nat} {g : Nat → Front} (hF : Fronts P T call ops s m g) (hT : TabOK P T) (hcall : CallOK P call) (hdraw : drawOK ops = true) (hs : Init s) (hcond : All (g m).cond)
    {μ0 : Nat → Value} {w0 : World} {L : Nat → Bool} {a : Act} {w : World} {i : Nat} (hI : FrontInv X ops s m g μ0 w0 L a w) (hcl : Closed ops L) (hi : i < m) (hLi : L i = false) (hdir : Direct ops L i) :
    wpOp P ops Q i (FrontInv X ops s m g μ0 w0 (put1 L i)) a w := by
  obtain ⟨hdown, hconf⟩ := drawOK_spec hdraw
  obtain ⟨o, ho, hf⟩ := hF.step i hi
  have hisz : i < ops.size := (Array.getElem?_eq_some_iff.1 ho).1
  have hDL : ∀ j, dOf ops i j = true → L j = true := waits_listed hdown hcl i hisz hdir
  have hDlt : ∀ j, dOf ops i j = true → j < i := fun j hj => waits_lt hdown hisz hj
  have hLw : ∀ j, L j = true → ∀ k, dOf ops j k = true → L k = true := fun j hj => waits_listed hdown hcl j (hcl j hj).1 (hcl j hj).2
  obtain ⟨d, nm, e1, e2, hd, hnm, hcnd⟩ := hF.rest (i := i + 1) (j := m) hi (Nat.le_refl _)
  obtain ⟨μ, hR, hTm, hK⟩ := hI.st
  have hdst : ∀ e ∈ (g m).done, ∃ o', ops[e.1]? = some o' ∧ e.2.1 = o'.dst := fun e he => by
    obtain ⟨_, o', _, h1, h2, _⟩ := hF.done_val m (Nat.le_refl _) e he
    exact ⟨o', h1, h2⟩
  -- blocks
  have hleft : Left (hAt s (dOf ops i) (g i)) (hAt s L (g m)) := by
    refine ⟨by simp only [hAt, heapAt_length]; have := hF.made_len (Nat.le_of_lt hi) (Nat.le_refl _); omega, fun c B hc => ?_⟩
    rcases heapAt_get hc with ⟨h1, h2⟩ | ⟨j, k, rfl, h2, h3⟩
    · exact (heapAt_old h1).trans h2
    · exact heapAt_new (hF.made_get (Nat.le_of_lt hi) (Nat.le_refl _) h2) (hDL j h3)
  have hlen : (hAt s (dOf ops i) (g i)).length = s.heap.length + (g i).made.length := heapAt_length _ _ _
  have hblk1 : ∀ c ty cells, getH (hAt s (dOf ops i) (g i)) c = some (.var ty cells) → refsInL (fun c => decide (c < (hAt s (dOf ops i) (g i)).length)) cells = true := by
    intro c ty cells hc
    rcases heapAt_get hc with ⟨h1, h2⟩ | ⟨j, k, rfl, h2, h3⟩
    · refine refsInL_mono (fun c hc => ?_) _ (hs.blk c ty cells h2)
      simp only [decide_eq_true_eq] at hc ⊢; omega
    · obtain ⟨hj, hB⟩ := hF.made_val i (Nat.le_of_lt hi) _ (List.mem_of_getElem? h2)
      refine refsInL_mono (fun c hc => ?_) _ hB
      have := liveIn_lt hc
      simp only [hAt, heapAt_length] at this
      have := hF.made_len (i := j) (j := i) (Nat.le_of_lt hj) (Nat.le_of_lt hi)
      simp only [decide_eq_true_eq]; omega
  have hctxR := hR.drop hleft hblk1
  have h1cell : ∀ b B, getH (hAt s L (g m)) b = some B → (μ b).oneCell' = true := fun b B hb => (hR.blk b B hb).one
  -- temporaries
  have hval : ∀ t, (looks ops o).contains t = true → getT (tmpsAt (dOf ops i) s.tmps (g i).done) t = getT (tmpsAt L s.tmps (g m).done) t := by
    intro t ht
    have h0 : tmpsAt (dOf ops i) s.tmps (g m).done = tmpsAt (dOf ops i) s.tmps (g i).done := by
      obtain ⟨d', _, e', _, hd', _⟩ := hF.rest (i := i) (j := m) (Nat.le_of_lt hi) (Nat.le_refl _)
      rw [e', tmpsAt_app, tmpsAt_off d' _ (fun e he => ?_)]
      cases hh : dOf ops i e.1 with
      | false => rfl
      | true => have := hDlt _ hh; have := hd' e he; omega
    rw [← h0]
    refine tmpsAt_eq _ _ _ (fun e he hne hx => hne ?_) rfl rfl
    obtain ⟨o', ho', hdst'⟩ := hdst e he
    rw [hdst'] at hx
    cases hLe : L e.1 with
    | false =>
      cases hh : dOf ops i e.1 with
      | false => rfl
      | true => rw [hDL _ hh] at hLe; cases hLe
    | true =>
      rcases Nat.lt_trichotomy e.1 i with hlt | heq | hgt
      · exact hconf i e.1 o o' ho ho' hlt (by simp only [conflicts, hx, ht]; simp)
      · rw [heq, hLi] at hLe; cases hLe
      · have := hconf e.1 i o' o ho' ho hgt (by simp only [conflicts, hx, ht]; simp)
        have := hLw _ hLe i this
        rw [hLi] at this; cases this
  have hrefs1 : ∀ t, refsIn (fun c => decide (c < (hAt s (dOf ops i) (g i)).length)) (getT (tmpsAt (dOf ops i) s.tmps (g i).done) t) = true := by
    intro t
    rcases tmpsAt_mem (p := dOf ops i) (t := t) (g i).done s.tmps with h | ⟨e, he, _, h, _⟩
    · rw [h]
      refine refsIn_mono (fun c hc => ?_) _ (hs.tmps t)
      simp only [decide_eq_true_eq] at hc ⊢; omega
    · rw [h]
      obtain ⟨hj, o', nm', _, _, hm', _, hv⟩ := hF.done_val i (Nat.le_of_lt hi) e he
      have hle := hF.made_len (i := e.1 + 1) (j := i) hj (Nat.le_of_lt hi)
      rw [hm'] at hle
      simp only [List.length_append] at hle
      refine hv _ (fun c hc => ?_) (fun hn => ?_)
      · have := liveIn_lt hc
        simp only [hAt, heapAt_length] at this
        simp only [decide_eq_true_eq]; omega
      · have : 0 < nm'.length := List.length_pos_iff.2 hn
        simp only [hAt, heapAt_length, decide_eq_true_eq]; omega
  have hctx : Ctx (aside X μ (hAt s (dOf ops i) (g i)) (hAt s L (g m))) μ (hAt s (dOf ops i) (g i)) w (maskT (looks ops o) 0 (tmpsAt (dOf ops i) s.tmps (g i).done)) a := by
    refine ⟨hctxR, fun t => ?_⟩
    rw [maskT_get, Nat.zero_add]
    split
    · rename_i ht
      have h1 := hTm t
      have h2 := hrefs1 t
      rw [hval t ht] at h2 ⊢
      exact (h1.drop hleft h1cell h2).okIff (fun k hk => (aside_fz hleft k).2 hk)
    · exact .junk
  -- behind it
  have hdone : ∀ {v : AV} {nm1 : List (Nat × Blk)}, (g (i + 1)).done = (g i).done ++ [(i, o.dst, v)] → (g (i + 1)).made = (g i).made ++ nm1 → (nm1 = [] ∨ ∃ B, nm1 = [(i, B)]) →
      (∀ t, getT (tmpsAt (put1 L i) s.tmps (g m).done) t = if o.dst = some t ∧ t < s.tmps.length then v else getT (tmpsAt L s.tmps (g m).done) t) ∧
      (nm1 = [] → hAt s (put1 L i) (g m) = hAt s L (g m)) ∧
      (∀ B, nm1 = [(i, B)] → hAt s (put1 L i) (g m) = setH (hAt s L (g m)) (s.heap.length + (g i).made.length) (some B) ∧ getH (hAt s L (g m)) (s.heap.length + (g i).made.length) = none ∧ s.heap.length + (g i).made.length < (hAt s L (g m)).length) := by
    intro v nm1 f1 f2 f3
    have hne : ∀ e : Nat × Blk, e.1 < i ∨ i + 1 ≤ e.1 → put1 L i e.1 = L e.1 := fun e he => by
      have : e.1 ≠ i := by omega
      simp [put1, this]
    have hlt1 := (hF.lt (Nat.le_of_lt hi)).2
    refine ⟨fun t => ?_, fun hn => ?_, fun B hB => ?_⟩
    · by_cases ht : o.dst = some t
      · rw [e1, f1, List.append_assoc, List.singleton_append, tmpsAt_app]
        simp only [tmpsAt]
        have hpi : put1 L i i = true := by simp [put1]
        rw [if_pos hpi]
        have h1 := tmpsAt_eq (p := put1 L i) (q := fun _ => false) (t := t) d (putT (tmpsAt (put1 L i) s.tmps (g i).done) o.dst v) (putT (tmpsAt (put1 L i) s.tmps (g i).done) o.dst v) (fun e he hne' hx => by
          have hge := (hd e he).1
          have hLe : L e.1 = true := by
            have h' : put1 L i e.1 = true := by cases hh : put1 L i e.1 with | true => rfl | false => exact absurd hh hne'
            have : e.1 ≠ i := by omega
            simpa [put1, this] using h'
          obtain ⟨o', ho', hdst'⟩ := hdst e (by rw [e1]; exact List.mem_append_right _ he)
          rw [hdst'] at hx
          have := hconf e.1 i o' o ho' ho (by omega) (by simp only [conflicts, hx, ht]; simp)
          have := hLw _ hLe i this
          rw [hLi] at this; cases this) rfl rfl
        rw [h1, tmpsAt_off d _ (fun e he => rfl), putT_getT, tmpsAt_length]
        by_cases hlt : t < s.tmps.length
        · rw [if_pos ⟨ht, hlt⟩, if_pos ⟨ht, hlt⟩]
        · rw [if_neg (fun h => hlt h.2), if_neg (fun h => hlt h.2), getT_oob (by rw [tmpsAt_length]; exact Nat.le_of_not_lt hlt), getT_oob (by rw [tmpsAt_length]; exact Nat.le_of_not_lt hlt)]
      · rw [if_neg (fun h => ht h.1)]
        refine tmpsAt_eq _ _ _ (fun e he hne' hx => ?_) rfl rfl
        obtain ⟨o', ho', hdst'⟩ := hdst e he
        by_cases hei : e.1 = i
        · rw [hei, ho] at ho'
          cases ho'
          rw [hdst'] at hx
          exact ht hx
        · exact hne' (by simp [put1, hei])
    · subst hn
      refine heapAt_congr (fun e he => hne e ?_)
      rw [e2, f2, List.append_nil] at he
      rcases List.mem_append.1 he with h | h
      · exact .inl (hlt1 e h)
      · exact .inr (hnm e h).1
    · subst hB
      have hm' : (g m).made = (g i).made ++ (i, B) :: nm := by rw [e2, f2]; simp
      have hmap : ∀ p : Nat → Bool, hAt s p (g m) = (s.heap ++ (g i).made.map fun q => if p q.1 then some q.2 else none) ++ (if p i then some B else none) :: nm.map fun q => if p q.1 then some q.2 else none := fun p => by
        simp only [hAt, heapAt, hm', List.map_append, List.map_cons, List.append_assoc]
      have hl : (s.heap ++ (g i).made.map fun q => if L q.1 then some q.2 else none).length = s.heap.length + (g i).made.length := by simp
      refine ⟨?_, ?_, ?_⟩
      · rw [hmap L, ← hl, setH_mid, hmap (put1 L i)]
        have a1 : ((g i).made.map fun q => if put1 L i q.1 then some q.2 else none) = (g i).made.map fun q => if L q.1 then some q.2 else none := List.map_congr_left fun e he => by rw [hne e (.inl (hlt1 e he))]
        have a2 : (nm.map fun q => if put1 L i q.1 then some q.2 else none) = nm.map fun q => if L q.1 then some q.2 else none := List.map_congr_left fun e he => by rw [hne e (.inr (hnm e he).1)]
        rw [a1, a2]
        simp [put1]
      · rw [hmap L, ← hl, getH_mid]
        simp [hLi]
      · rw [hmap L, List.length_append, hl]; simp
  have hclose : ∀ {v : AV} {nm1 : List (Nat × Blk)} {u : Value} {μ' : Nat → Value} {w' : World}, (g (i + 1)).done = (g i).done ++ [(i, o.dst, v)] → (g (i + 1)).made = (g i).made ++ nm1 → (nm1 = [] ∨ ∃ B, nm1 = [(i, B)]) →
      Rel X μ' (hAt s (put1 L i) (g m)) w' → (∀ t, Rep μ' (hAt s (put1 L i) (g m)) w' (Fz X μ' (hAt s (put1 L i) (g m)) w') (getT (tmpsAt L s.tmps (g m).done) t) (a.tmps.getD t undef)) →
      Rep μ' (hAt s (put1 L i) (g m)) w' (Fz X μ' (hAt s (put1 L i) (g m)) w') v u → Keep s.heap.length μ (hAt s L (g m)) w μ' (hAt s (put1 L i) (g m)) w' → FrontInv X ops s m g μ0 w0 (put1 L i) (a.put o.dst u) w' := by
    intro v nm1 u μ' w' f1 f2 f3 r1 r2 r3 r4
    obtain ⟨q1, _, _⟩ := hdone f1 f2 f3
    refine ⟨fun j hj => ?_, ⟨μ', r1, fun t => ?_, hK.trans r4⟩, by rw [put_size]; exact hI.size, by rw [put_dfr]; exact hI.dfr⟩
    · simp only [put1, Bool.or_eq_true, beq_iff_eq] at hj
      rcases hj with rfl | hj
      · exact hi
      · exact hI.sub j hj
    · rw [q1 t, put_getD, hI.size]
      split
      · exact r3
      · exact r2 t
  have hKlen : s.heap.length ≤ (hAt s L (g m)).length := by simp only [hAt, heapAt_length]; omega
  -- the step
  unfold front1 at hf
  simp only at hf
  have hmask : tmpsAt ((waits ops.toList).getD i 0).testBit s.tmps (g i).done = tmpsAt (dOf ops i) s.tmps (g i).done := rfl
  have hheap : heapAt ((waits ops.toList).getD i 0).testBit s.heap (g i).made = hAt s (dOf ops i) (g i) := rfl
  rw [hmask, hheap] at hf
  have hc1 : All (g (i + 1)).cond := hcnd hcond
  split at hf
  · cases hf
  · rename_i hw
    have hwant := want_ok hctx.tmps hw
    simp only [wpOp, ho, hwant]
    have f1 : (g (i + 1)).done = (g i).done ++ [(i, o.dst, .tup [])] := by rw [← Option.some.inj hf]
    have f2 : (g (i + 1)).made = (g i).made ++ [] := by rw [← Option.some.inj hf]; simp
    have hh := (hdone f1 f2 (.inl rfl)).2.1 rfl
    refine hclose f1 f2 (.inl rfl) (by rw [hh]; exact hR) (by rw [hh]; exact hTm) rep_undef (by rw [hh]; exact Keep.refl hKlen)
  · rename_i hw
    have hwant := want_ok hctx.tmps hw
    simp only [wpOp, ho, hwant, if_true]
    refine .inl ?_
    have post := aop_ok (base := s.base) hctx hT o (g i).hints
    split at hf
    · rename_i v hs' c heq
      split at hf
      · rename_i hv
        rw [heq] at post
        have f1 : (g (i + 1)).done = (g i).done ++ [(i, o.dst, v)] := by rw [← Option.some.inj hf]
        have f2 : (g (i + 1)).made = (g i).made ++ [] := by rw [← Option.some.inj hf]; simp
        have hcc : All c := by rw [← Option.some.inj hf] at hc1; exact (All_app.1 hc1).1
        obtain ⟨u, p1, p2⟩ := post hcc
        have hh := (hdone f1 f2 (.inl rfl)).2.1 rfl
        unfold Oper.wp
        rw [p1]
        exact hclose f1 f2 (.inl rfl) (by rw [hh]; exact hR) (by rw [hh]; exact hTm) (by rw [hh]; exact (p2.okIff (fun k hk => (aside_fz hleft k).1 hk)).lift hleft hv) (by rw [hh]; exact Keep.refl hKlen)
      · cases hf
    · rename_i B hs' c heq
      split at hf
      · rename_i hv
        rw [heq] at post
        have f1 : (g (i + 1)).done = (g i).done ++ [(i, o.dst, newV (hAt s (dOf ops i) (g i)).length B)] := by rw [← Option.some.inj hf]
        have f2 : (g (i + 1)).made = (g i).made ++ [(i, B)] := by rw [← Option.some.inj hf]
        have hcc : All c := by rw [← Option.some.inj hf] at hc1; exact (All_app.1 hc1).1
        obtain ⟨u, w', p1, p2, p3, p4⟩ := post hcc
        simp only [killAll] at p4
        obtain ⟨hh, hnone, hplt⟩ := (hdone f1 f2 (.inr ⟨B, rfl⟩)).2.2 B rfl
        have hpos : (g m).made[(g i).made.length]? = some (i, B) := by
          rw [e2, f2, List.append_assoc, List.getElem?_append_right (Nat.le_refl _)]; simp
        -- nobody listed speaks of the new place
        have hfresh : ∀ j, L j = true → ∀ c, liveIn (hAt s (dOf ops j) (g j)) c = true → c ≠ s.heap.length + (g i).made.length := by
          intro j hj c hc heq'
          subst heq'
          obtain ⟨B', hB'⟩ := liveIn_iff.1 hc
          have hjm := hI.sub j hj
          rcases heapAt_get hB' with ⟨h1, _⟩ | ⟨j', k, hk, h2, h3⟩
          · omega
          · obtain rfl : k = (g i).made.length := by omega
            have := hF.made_get (Nat.le_of_lt hjm) (Nat.le_refl _) h2
            rw [hpos] at this
            simp only [Option.some.injEq, Prod.mk.injEq] at this
            have := hLw j hj j' h3
            rw [← ‹i = j' ∧ B = B'›.1, hLi] at this
            cases this
        have hrefs2 : ∀ t, refsIn (fun c => c != s.heap.length + (g i).made.length) (getT (tmpsAt L s.tmps (g m).done) t) = true := by
          intro t
          rcases tmpsAt_mem (p := L) (t := t) (g m).done s.tmps with h | ⟨e, he, hLe, h, _⟩
          · rw [h]
            refine refsIn_mono (fun c hc => ?_) _ (hs.tmps t)
            simp only [decide_eq_true_eq] at hc
            simp only [bne_iff_ne, ne_eq]; omega
          · rw [h]
            obtain ⟨hj, o', nm', _, _, hm', hnm', hv'⟩ := hF.done_val m (Nat.le_refl _) e he
            refine hv' _ (fun c hc => by simpa using hfresh e.1 hLe c hc) (fun hn => ?_)
            rcases hnm' with rfl | ⟨B', rfl⟩
            · exact absurd rfl hn
            · simp only [hAt, heapAt_length, bne_iff_ne, ne_eq]
              intro heq'
              have h1 : (g (e.1 + 1)).made[(g e.1).made.length]? = some (e.1, B') := by rw [hm']; simp
              have h2 := hF.made_get (i := e.1 + 1) (j := m) hj (Nat.le_refl _) h1
              rw [show (g e.1).made.length = (g i).made.length from by omega, hpos] at h2
              simp only [Option.some.injEq, Prod.mk.injEq] at h2
              rw [← h2.1, hLi] at hLe
              cases hLe
        have hblk2 : ∀ c ty cells, getH (hAt s L (g m)) c = some (.var ty cells) → refsInL (fun c => c != s.heap.length + (g i).made.length) cells = true := by
          intro c ty cells hc
          rcases heapAt_get hc with ⟨h1, h2⟩ | ⟨j, k, rfl, h2, h3⟩
          · refine refsInL_mono (fun c hc => ?_) _ (hs.blk c ty cells h2)
            simp only [decide_eq_true_eq] at hc
            simp only [bne_iff_ne, ne_eq]; omega
          · obtain ⟨hj, hB⟩ := hF.made_val m (Nat.le_refl _) _ (List.mem_of_getElem? h2)
            exact refsInL_mono (fun c hc => by simpa using hfresh j h3 c hc) _ hB
        have hmv := fill_fz (X := X) (μ := μ) (B := B) hnone hplt p2 p3
        have hup : ∀ x v, refsIn (liveIn (hAt s (dOf ops i) (g i))) x = true → Rep μ (hAt s (dOf ops i) (g i)) w (Fz (aside X μ (hAt s (dOf ops i) (g i)) (hAt s L (g m))) μ (hAt s (dOf ops i) (g i)) w) x v →
            Rep (upd μ (s.heap.length + (g i).made.length) u) (setH (hAt s L (g m)) (s.heap.length + (g i).made.length) (some B)) w' (Fz X (upd μ (s.heap.length + (g i).made.length) u) (setH (hAt s L (g m)) (s.heap.length + (g i).made.length) (some B)) w') x v := by
          intro x v hx hr
          refine ((hr.okIff (fun k hk => (aside_fz hleft k).1 hk)).lift hleft hx).fill hnone hplt hmv (refsIn_mono (fun c hc => ?_) _ hx)
          have := liveIn_lt hc
          rw [hlen] at this
          simp only [bne_iff_ne, ne_eq]; omega
        have hBR := p4.brep' (μ' := upd μ (s.heap.length + (g i).made.length) u) (b := s.heap.length + (g i).made.length) hv (upd_self _ _ _) hup (fun f v hf => hf.move (fun k hk => hmv k ((aside_fz hleft k).1 hk)))
        have hRel := hR.fill hnone hplt p2 p3 hblk2 hBR
        unfold Oper.wp
        rw [p1]
        refine hclose (μ' := upd μ (s.heap.length + (g i).made.length) u) f1 f2 (.inr ⟨B, rfl⟩) (by rw [hh]; exact hRel) (fun t => by rw [hh]; exact (hTm t).fill hnone hplt hmv (hrefs2 t)) ?_ (by rw [hh]; exact Keep.fill (X := X) hnone hplt p2 p3 (Nat.le_add_right _ _))
        rw [hh, hlen]
        exact p4.newV (getH_setH_self hplt) (upd_self _ _ _)
      · cases hf
    · rename_i f args heq
      split at hf
      · rename_i R hcl'
        split at hf
        · rename_i hq
          simp only [Bool.and_eq_true] at hq
          rw [heq] at post
          obtain ⟨hent, hcalls⟩ := hcall _ _ _ _ _ hcl'
          obtain ⟨vs, p1, p2, p3⟩ := post hent
          have f1 : (g (i + 1)).done = (g i).done ++ [(i, o.dst, R.r)] := by rw [← Option.some.inj hf]
          have f2 : (g (i + 1)).made = (g i).made ++ [] := by rw [← Option.some.inj hf]; simp
          have hcc : All R.c := by rw [← Option.some.inj hf] at hc1; exact (All_app.1 hc1).1
          have hh := (hdone f1 f2 (.inl rfl)).2.1 rfl
          unfold Oper.wp
          rw [p1, Oper.upon_enter]
          refine (hcalls _ μ w vs hcc hctxR p2 p3).mono (fun e w' he => ?_)
          cases e with
          | returned v =>
            obtain ⟨μ', h4, h5⟩ := he
            obtain ⟨q1, q2, q3, q4⟩ := h5 hq.1.1
            obtain ⟨g1, g2, g3, g4, g5⟩ := h4 []
            rw [q1, q2, q3] at g4
            simp only [killAll] at g4
            refine hclose f1 f2 (.inl rfl) (by rw [hh]; exact hR.ext q4) (by rw [hh]; exact fun t => (hTm t).ext q4) ?_ (by rw [hh]; exact Keep.ext q4 hKlen)
            rw [hh]
            exact (g4.okIff (fun k hk => (aside_fz hleft k).1 hk)).lift hleft (refsIn_mono (fun c hc => by cases hc) _ hq.2)
          | panicked c => exact he.elim
          | outgrown => exact he.elim
        · cases hf
      · cases hf
    · cases hf
end
end Go.Proofs.Ai
set_option linter.unusedVariables false
set_option linter.unusedSimpArgs false
namespace Go.Proofs.Ai
open Go

section
variable {P : Program} {T : Tab} {call : CallF} {ops : Array Oper}

theorem Closed.empty : Closed ops (fun _ => false) := fun i h => by cases h

theorem draw_ok (hT : TabOK P T) (hcall : CallOK P call) (hm : P.follows .mixedOrders = true) : DrawOK P T call := by
  intro id ops s s' h hc
  unfold adraw at h
  split at h
  · rename_i hdraw
    simp only at h
    split at h
    · rename_i F hF
      obtain ⟨hdown, hconf⟩ := drawOK_spec hdraw
      generalize hmm : tailFrom (waits ops.toList) ops.size = m at *
      have hle : m ≤ ops.size := hmm ▸ tailFrom_le _ _
      obtain ⟨g, g1, g2, g3⟩ := frontRun_chain _ _ _ _ hF
      have hlen : (ops.toList.take m).length = m := by rw [List.length_take]; simp only [Array.length_toList]; omega
      rw [hlen] at g2 g3
      simp only [Nat.zero_add] at g2 g3
      have hFr : Fronts P T call ops s m g := ⟨g1, fun i hi => by
        obtain ⟨o, ho, hf⟩ := g3 i hi
        rw [List.getElem?_take, if_pos hi] at ho
        exact ⟨o, by simpa using ho, hf⟩, hle⟩
      have hbits : ∀ i, m ≤ i → i < ops.size → ∀ j, j < i → dOf ops i j = true := fun i h1 h2 => tailFrom_bits _ _ _ (by rw [hmm]; exact h1) h2
      -- the tail's states
      let s0 : St := { s with tmps := tmpsAt (fun _ => true) s.tmps F.done, heap := heapAt (fun _ => true) s.heap F.made, hints := F.hints, cond := F.cond }
      have htail : ∀ (l : List Nat) (os : List Oper), l.map (ops[·]?) = os.map some → ∀ (s s' : St), aops P T call ops os s = some s' → All s'.cond → All s.cond ∧ s'.base = s.base := fun l os hl s s' h hc => by
        obtain ⟨a1, a2, _⟩ := aops_ok (Q := fun _ _ _ => True) hT hcall l os hl s s' h hc
        exact ⟨a1, a2⟩
      have hlist : ∀ k, k ≤ ops.size → (List.range' k (ops.size - k)).map (ops[·]?) = (ops.toList.drop k).map some := by
        intro k hk
        apply List.ext_getElem?
        intro i
        simp only [List.getElem?_map, List.getElem?_drop]
        rcases Nat.lt_or_ge i (ops.size - k) with hi | hi
        · have hi' : k + i < ops.size := by omega
          simp [List.getElem?_range', hi, hi']
        · have hi' : ops.size ≤ k + i := by omega
          rw [List.getElem?_eq_none (by simpa using hi), List.getElem?_eq_none (by simpa using hi')]
          rfl
      obtain ⟨c0, b0⟩ := htail _ _ (hlist m hle) s0 s' h hc
      have hgm : All (g m).cond := by rw [g2]; exact c0
      have hcs : All s.cond := by
        obtain ⟨_, _, _, _, _, _, h5⟩ := hFr.rest (Nat.zero_le m) (Nat.le_refl _)
        have := h5 hgm
        rw [hFr.zero] at this
        exact this
      refine ⟨hcs, b0, fun X μ0 a0 w0 hR0 Q hQ => wp_region_any hm ?_⟩
      have hinit := hR0.init
      -- the invariant
      let IT : (Nat → Bool) → Act → World → Prop := fun L a w => ∃ k sk μ, m ≤ k ∧ k ≤ ops.size ∧ (∀ j, L j = true ↔ j < k) ∧ aops P T call ops (ops.toList.drop k) sk = some s' ∧ sk.base = s.base ∧ RelS X μ sk a w ∧ Keep s.base μ0 s.heap w0 μ sk.heap w
      have conv : ∀ L a w, FrontInv X ops s m g μ0 w0 L a w → (∀ j, L j = true ↔ j < m) → IT L a w := by
        intro L a w hI hL
        obtain ⟨μ, hR, hTm, hK⟩ := hI.st
        have e1 : hAt s L (g m) = s0.heap := by
          show heapAt L s.heap (g m).made = heapAt (fun _ => true) s.heap F.made
          rw [g2]
          exact heapAt_congr fun e he => (hL e.1).2 ((hFr.lt (Nat.le_refl m)).2 e (by rw [g2]; exact he))
        have e2 : tmpsAt L s.tmps (g m).done = s0.tmps := by
          show _ = tmpsAt (fun _ => true) s.tmps F.done
          rw [g2]
          exact tmpsAt_congr _ _ fun e he => (hL e.1).2 ((hFr.lt (Nat.le_refl m)).1 e (by rw [g2]; exact he))
        rw [e1] at hR hTm hK
        rw [e2] at hTm
        refine ⟨m, s0, μ, Nat.le_refl _, hle, hL, h, rfl, ⟨⟨hR, hTm⟩, ?_, hI.dfr, ?_⟩, hK.mono hR0.base⟩
        · rw [← e2, tmpsAt_length]; exact hI.size
        · exact Nat.le_trans hR0.base hK.len
      have tstep : ∀ L a w i, IT L a w → Closed ops L → i < ops.size → L i = false → Direct ops L i → wpOp P ops Q i (IT (put1 L i)) a w := by
        intro L a w i hI hcl hi hLi hdir
        obtain ⟨k, sk, μ, hk1, hk2, hL, hrun, hbase, hR, hK⟩ := hI
        have hik : i = k := by
          have h1 : ¬ i < k := fun hh => by rw [(hL i).2 hh] at hLi; cases hLi
          rcases Nat.lt_or_ge k i with hlt | hge
          · have := waits_listed hdown hcl i hi hdir k (hbits i (by omega) hi k hlt)
            have := (hL k).1 this
            omega
          · omega
        subst hik
        have hdrop : ops.toList.drop i = ops[i] :: ops.toList.drop (i + 1) := by
          rw [List.drop_eq_getElem_cons (by simpa using hi)]
          simp
        rw [hdrop, aops_step] at hrun
        split at hrun
        · rename_i s1 h1
          obtain ⟨c1, b1⟩ := htail _ _ (hlist (i + 1) (by omega)) s1 s' hrun hc
          obtain ⟨_, b2, r⟩ := astep_ok (Q := Q) hT hcall (Array.getElem?_eq_getElem hi) h1 c1
          refine r X μ a w hR _ (fun μ1 a1 w1 hR1 k1 => ⟨i + 1, s1, μ1, by omega, by omega, fun j => ?_, hrun, b2.trans hbase, hR1, ?_⟩)
          · simp only [put1, Bool.or_eq_true, beq_iff_eq, hL j]; omega
          · rw [hbase] at k1
            exact hK.trans k1
        · cases hrun
      refine wpAny_inv hdown (fun L a w => FrontInv X ops s m g μ0 w0 L a w ∨ IT L a w) ?_ ?_ ops.size (Array.replicate ops.size false) a0 _ (by simp) (by simp) ?_ ?_
      · intro L a w i hI hcl hi hLi hdir
        rcases hI with hI | hI
        · rcases Nat.lt_or_ge i m with him | him
          · exact wpOp_mono (fun _ _ h => .inl h) (front_step hFr hT hcall hdraw hinit hgm hI hcl him hLi hdir)
          · have hall := fun j hj => waits_listed hdown hcl i hi hdir j (hbits i him hi j hj)
            have hLm : ∀ j, L j = true ↔ j < m := fun j => ⟨hI.sub j, fun hj => hall j (by omega)⟩
            exact wpOp_mono (fun _ _ h => .inr h) (tstep L a w i (conv L a w hI hLm) hcl hi hLi hdir)
        · exact wpOp_mono (fun _ _ h => .inr h) (tstep L a w i hI hcl hi hLi hdir)
      · intro L a w hI hall
        have fin : IT L a w → Q .normal a w := by
          rintro ⟨k, sk, μ, hk1, hk2, hL, hrun, hbase, hR, hK⟩
          have hk : k = ops.size := by
            rcases Nat.lt_or_ge k ops.size with hlt | hge
            · have := (hL k).1 ((hall k).2 hlt); omega
            · omega
          rw [hk, List.drop_of_length_le (by simp)] at hrun
          simp only [aops, Option.some.injEq] at hrun
          subst hrun
          exact hQ μ a w hR hK
        rcases hI with hI | hI
        · have hLm : ∀ j, L j = true ↔ j < m := fun j => ⟨hI.sub j, fun hj => (hall j).2 (by omega)⟩
          exact fin (conv L a w hI hLm)
        · exact fin hI
      · have : (fun j => (Array.replicate ops.size false).getD j false) = fun _ => false := by
          funext j
          simp only [Array.getD_eq_getD_getElem?, Array.getElem?_replicate]
          split <;> rfl
        rw [this]
        exact Closed.empty
      · have : (fun j => (Array.replicate ops.size false).getD j false) = fun _ => false := by
          funext j
          simp only [Array.getD_eq_getD_getElem?, Array.getElem?_replicate]
          split <;> rfl
        rw [this]
        refine .inl ⟨fun i hi => (by cases hi), ⟨μ0, ?_⟩, hR0.size, hR0.dfr⟩
        have hE := Ext.drew w0
        have hleft : Left s.heap (hAt s (fun _ => false) (g m)) := ⟨by simp [hAt, heapAt_length], fun b B hb => by
          rw [hAt, heapAt_old (getH_lt hb)]; exact hb⟩
        have hsame : ∀ c B, getH (hAt s (fun _ => false) (g m)) c = some B → getH s.heap c = some B := fun c B hb => by
          rcases heapAt_get hb with ⟨_, h2⟩ | ⟨j, k, _, _, h3⟩
          · exact h2
          · cases h3
        have hold : ∀ b B', b < s.heap.length → getH (hAt s (fun _ => false) (g m)) b = some B' → μ0 b = μ0 b ∧ ∃ B, getH s.heap b = some B ∧ sameKind B B' := fun b B' _ hb => ⟨rfl, B', hsame b B' hb, sameKind.refl _⟩
        have htk : ∀ k, Taken μ0 (hAt s (fun _ => false) (g m)) k → Taken μ0 s.heap k := fun k ⟨b, B, hb, e⟩ => ⟨b, B, hsame b B hb, e⟩
        have hfz : ∀ k, Fz X μ0 s.heap w0 k → Fz X μ0 (hAt s (fun _ => false) (g m)) { w0 with drawn := w0.drawn + 1 } k ∧ ({ w0 with drawn := w0.drawn + 1 } : World).heap[k]? = w0.heap[k]? := fun k hk => ⟨⟨hk.1, hk.2.1, fun ht => hk.2.2 (htk k ht)⟩, rfl⟩
        have hrep : ∀ x v, Rep μ0 s.heap w0 (Fz X μ0 s.heap w0) x v → Rep μ0 (hAt s (fun _ => false) (g m)) { w0 with drawn := w0.drawn + 1 } (Fz X μ0 (hAt s (fun _ => false) (g m)) { w0 with drawn := w0.drawn + 1 }) x v := fun x v hx => hx.keep hleft.1 hold hfz
        refine ⟨⟨hR0.ctx.rel.xlt, fun b B k hb e => hR0.ctx.rel.notX b B k (hsame b B hb) e, fun b b' B B' k hb hb' e e' => hR0.ctx.rel.dis b b' B B' k (hsame _ _ hb) (hsame _ _ hb') e e', fun b B hb => ?_⟩, fun t => ?_, ?_⟩
        · have hB := hR0.ctx.rel.blk b B (hsame b B hb)
          cases B with
          | var ty cells =>
            obtain ⟨g', cur, q1, q2, q3, q4⟩ := hB
            exact ⟨g', cur, q1, q2, q3, fun i x hx => ⟨hrep _ _ (q4 i x hx).1, (q4 i x hx).2⟩⟩
          | row ty sz els =>
            obtain ⟨q1, q2, vals, q3, q4⟩ := hB
            exact ⟨q1, q2, vals, q3, fun i j x f hx hf => (q4 i j x f hx hf).move hfz⟩
          | obj o => exact BRep.objMove hB rfl (fun _ _ => rfl)
        · rw [tmpsAt_off _ _ (fun _ _ => rfl)]
          exact hrep _ _ (hR0.ctx.tmps t)
        · exact ⟨Nat.le_refl _, rfl, ⟨rfl, Nat.le_succ _⟩, rfl, fun _ _ _ => rfl, fun k _ hn ht => hn (htk k ht), hleft.1, hold⟩
    · cases h
  · cases h
end
end Go.Proofs.Ai
