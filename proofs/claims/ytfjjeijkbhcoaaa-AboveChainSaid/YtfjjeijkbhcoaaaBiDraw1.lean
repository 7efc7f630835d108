/- The abstract machine, 16: regions of open order: an invariant over the listed set; what waits for what. -/
import Derived.Test.YtfjjeijkbhcoaaaBiRun1
set_option linter.unusedVariables false
set_option linter.unusedSimpArgs false
namespace Go.Proofs.Ai
open Go

section
variable {P : Program} {ops : Array Oper} {Q : Exit → Act → World → Prop}

def Direct (ops : Array Oper) (L : Nat → Bool) (i : Nat) : Prop := ∀ o, ops[i]? = some o → ∀ e ∈ o.after.toList, Region.binds .any e = true → L e.on = true
def Closed (ops : Array Oper) (L : Nat → Bool) : Prop := ∀ i, L i = true → i < ops.size ∧ Direct ops L i
def Down (ops : Array Oper) : Prop := ∀ i o, ops[i]? = some o → ∀ e ∈ o.after.toList, Region.binds .any e = true → e.on < i
def put1 (L : Nat → Bool) (i : Nat) : Nat → Bool := fun j => j == i || L j

theorem mem_ready_iff {listed : Array Bool} {i : Nat} : i ∈ Region.ready .any ops listed ↔ i < ops.size ∧ listed.getD i true = false ∧ ∃ o, ops[i]? = some o ∧ ∀ e ∈ o.after.toList, Region.binds .any e = true → listed.getD e.on false = true := by
  unfold Region.ready
  simp only [List.mem_filter, List.mem_range]
  constructor
  · rintro ⟨h1, h2⟩
    simp only [Bool.and_eq_true, Bool.not_eq_true'] at h2
    refine ⟨h1, h2.1, ops[i], Array.getElem?_eq_getElem h1, fun e he hb => ?_⟩
    have := h2.2
    simp only [Array.getElem?_eq_getElem h1, Option.map_some, Option.getD_some, Array.all_eq_true'] at this
    have := this e (Array.mem_toList_iff.1 he)
    simpa [hb] using this
  · rintro ⟨h1, h2, o, ho, h3⟩
    refine ⟨h1, ?_⟩
    simp only [h2, ho, Option.map_some, Option.getD_some, Bool.not_false, Bool.true_and, Array.all_eq_true']
    intro e he
    cases hb : Region.binds .any e with
    | false => rfl
    | true => simp [h3 e (Array.mem_toList_iff.2 he) hb]

theorem getD_set1 {listed : Array Bool} {i j : Nat} (h : i < listed.size) : (listed.setIfInBounds i true).getD j false = put1 (fun j => listed.getD j false) i j := by
  unfold put1
  by_cases hj : j = i
  · subst hj; simp [Array.getD_eq_getD_getElem?, h]
  · have hj' : ¬ i = j := fun e => hj e.symm
    simp [Array.getD_eq_getD_getElem?, Array.getElem?_setIfInBounds_ne hj', hj]

theorem wpAny_inv (hdown : Down ops) (I : (Nat → Bool) → Act → World → Prop)
    (step : ∀ L a w i, I L a w → Closed ops L → i < ops.size → L i = false → Direct ops L i → wpOp P ops Q i (I (put1 L i)) a w)
    (fin : ∀ L a w, I L a w → (∀ i, L i = true ↔ i < ops.size) → Q .normal a w) :
    ∀ (fuel : Nat) (listed : Array Bool) (a : Act) (w : World), listed.size = ops.size → listed.toList.count false = fuel → Closed ops (fun j => listed.getD j false) → I (fun j => listed.getD j false) a w → wpAny P .any ops Q fuel listed a w := by
  have lt : ∀ (listed : Array Bool), listed.size = ops.size → ∀ i, listed.getD i false = true → i < ops.size := by
    intro listed hs i hi
    rcases Nat.lt_or_ge i listed.size with h | h
    · omega
    · simp [Array.getD_eq_getD_getElem?, Array.getElem?_eq_none h] at hi
  have done : ∀ (listed : Array Bool), listed.size = ops.size → Region.ready .any ops listed = [] → ∀ i, listed.getD i false = true ↔ i < ops.size := by
    intro listed hs hr i
    refine ⟨lt listed hs i, ?_⟩
    induction i using Nat.strongRecOn with
    | _ i ih =>
      intro hi
      cases h : listed.getD i false with
      | true => rfl
      | false =>
        have : i ∈ Region.ready .any ops listed := mem_ready_iff.2 ⟨hi, by
          have hi' : i < listed.size := by omega
          simpa [Array.getD_eq_getD_getElem?, hi'] using h, ops[i], Array.getElem?_eq_getElem hi, fun e he hb => by
          have hlt := hdown i ops[i] (Array.getElem?_eq_getElem hi) e he hb
          exact ih e.on hlt (by omega)⟩
        rw [hr] at this
        cases this
  intro fuel
  induction fuel with
  | zero =>
    intro listed a w hs hcnt hcl hI
    have hall : ∀ i, listed.getD i false = true ↔ i < ops.size := by
      intro i
      refine ⟨lt listed hs i, fun hi => ?_⟩
      have hi' : i < listed.size := by omega
      have hm : listed[i] ∈ listed.toList := by simp
      have := List.count_eq_zero.1 hcnt
      cases h : listed[i] with
      | true => simp [Array.getD_eq_getD_getElem?, hi', h]
      | false => rw [h] at hm; exact absurd hm this
    refine ⟨?_, fin _ a w hI hall⟩
    apply List.eq_nil_iff_forall_not_mem.2
    intro i hi
    obtain ⟨h1, h2, _⟩ := mem_ready_iff.1 hi
    have := (hall i).2 h1
    have hi' : i < listed.size := by omega
    simp [Array.getD_eq_getD_getElem?, hi'] at this h2
    rw [this] at h2; cases h2
  | succ fuel ih =>
    intro listed a w hs hcnt hcl hI
    refine ⟨fun hr => fin _ a w hI (done listed hs hr), fun i hi => ?_⟩
    obtain ⟨h1, h2, o, ho, h3⟩ := mem_ready_iff.1 hi
    have hi' : i < listed.size := by omega
    have hun : listed.getD i false = false := by simpa [Array.getD_eq_getD_getElem?, hi'] using h2
    have hdir : Direct ops (fun j => listed.getD j false) i := fun o' ho' e he hb => by
      rw [ho] at ho'; cases ho'; exact h3 e he hb
    refine wpOp_mono (fun a' w' hI' => ?_) (step _ a w i hI hcl h1 hun hdir)
    have heq : (fun j => (listed.setIfInBounds i true).getD j false) = put1 (fun j => listed.getD j false) i := funext fun j => getD_set1 hi'
    refine ih _ a' w' (by simpa using hs) ?_ ?_ (by rw [heq]; exact hI')
    · rw [Array.toList_setIfInBounds, List.count_set (by simpa using hi')]
      have : listed.toList[i] = false := by simpa [Array.getD_eq_getD_getElem?, hi'] using h2
      simp [this, hcnt]
    · rw [heq]
      intro j hj
      unfold put1 at hj
      simp only [Bool.or_eq_true, beq_iff_eq] at hj
      have up : Direct ops (fun j => listed.getD j false) j → Direct ops (put1 (fun j => listed.getD j false) i) j := fun hd o ho e he hb => by
        simp only [put1, Bool.or_eq_true]; exact .inr (hd o ho e he hb)
      rcases hj with rfl | hj
      · exact ⟨h1, up hdir⟩
      · exact ⟨(hcl j hj).1, up (hcl j hj).2⟩

/-! ### what waits for what -/
def wait1 (acc : List Nat) (o : Oper) : Nat := o.after.toList.foldl (fun s e => if Region.binds .any e then s ||| 2 ^ e.on ||| acc.getD e.on 0 else s) 0
def waitsFrom (acc : List Nat) : List Oper → List Nat
  | [] => acc
  | o :: r => waitsFrom (acc ++ [wait1 acc o]) r
theorem waits_eq (l : List Oper) : waits l = waitsFrom [] l := by
  have : ∀ (l : List Oper) (acc : List Nat), l.foldl (init := acc) (fun acc o => acc ++ [o.after.toList.foldl (fun s e => if Region.binds .any e then s ||| 2 ^ e.on ||| acc.getD e.on 0 else s) 0]) = waitsFrom acc l := by
    intro l
    induction l with
    | nil => intro acc; rfl
    | cons o r ih => intro acc; exact ih _
  exact this l []
theorem waitsFrom_old : ∀ (l : List Oper) (acc : List Nat) (i : Nat), i < acc.length → (waitsFrom acc l).getD i 0 = acc.getD i 0
  | [], acc, i, h => rfl
  | o :: r, acc, i, h => by
    simp only [waitsFrom]
    rw [waitsFrom_old r _ i (by simp; omega)]
    simp [List.getD_eq_getElem?_getD, List.getElem?_append_left h]
theorem waitsFrom_at : ∀ (l : List Oper) (acc : List Nat) (i : Nat) (o : Oper), l[i]? = some o → ∃ pre : List Nat, pre.length = acc.length + i ∧ (waitsFrom acc l).getD (acc.length + i) 0 = wait1 pre o ∧ ∀ j, j < acc.length + i → pre.getD j 0 = (waitsFrom acc l).getD j 0
  | [], acc, i, o, h => by simp at h
  | x :: r, acc, 0, o, h => by
    simp at h
    subst h
    refine ⟨acc, rfl, ?_, fun j hj => ?_⟩
    · simp only [waitsFrom, Nat.add_zero]
      rw [waitsFrom_old r _ _ (by simp)]
      simp [List.getD_eq_getElem?_getD]
    · rw [waitsFrom_old _ _ j (by omega)]
  | x :: r, acc, i + 1, o, h => by
    obtain ⟨pre, h1, h2, h3⟩ := waitsFrom_at r (acc ++ [wait1 acc x]) i o (by simpa using h)
    have e : (acc ++ [wait1 acc x]).length + i = acc.length + (i + 1) := by simp; omega
    rw [e] at h1 h2 h3
    exact ⟨pre, h1, h2, h3⟩

theorem wait1_bit {acc : List Nat} {o : Oper} {j : Nat} (h : (wait1 acc o).testBit j = true) : ∃ e ∈ o.after.toList, Region.binds .any e = true ∧ (j = e.on ∨ (acc.getD e.on 0).testBit j = true) := by
  unfold wait1 at h
  have : ∀ (es : List Edge) (s : Nat), (es.foldl (fun s e => if Region.binds .any e then s ||| 2 ^ e.on ||| acc.getD e.on 0 else s) s).testBit j = true → s.testBit j = true ∨ ∃ e ∈ es, Region.binds .any e = true ∧ (j = e.on ∨ (acc.getD e.on 0).testBit j = true) := by
    intro es
    induction es with
    | nil => intro s h; exact .inl h
    | cons e r ih =>
      intro s h
      simp only [List.foldl_cons] at h
      rcases ih _ h with h | ⟨e', he', h'⟩
      · split at h
        · rename_i hb
          simp only [Nat.testBit_or, Bool.or_eq_true] at h
          rcases h with (h | h) | h
          · exact .inl h
          · rw [Nat.testBit_two_pow] at h
            exact .inr ⟨e, List.mem_cons_self, hb, .inl (by simpa using (of_decide_eq_true h).symm)⟩
          · exact .inr ⟨e, List.mem_cons_self, hb, .inr h⟩
        · exact .inl h
      · exact .inr ⟨e', List.mem_cons_of_mem _ he', h'⟩
  rcases this _ _ h with h | h
  · simp at h
  · exact h

/-- Whatever is waited for is listed. -/
theorem waits_listed (hdown : Down ops) {L : Nat → Bool} (hL : Closed ops L) : ∀ (i : Nat), i < ops.size → Direct ops L i → ∀ j, ((waits ops.toList).getD i 0).testBit j = true → L j = true := by
  intro i
  induction i using Nat.strongRecOn with
  | _ i ih =>
    intro hi hd j hj
    obtain ⟨pre, h1, h2, h3⟩ := waitsFrom_at ops.toList [] i ops[i] (by simp [hi])
    simp only [List.length_nil, Nat.zero_add] at h1 h2 h3
    rw [waits_eq, h2] at hj
    obtain ⟨e, he, hb, h⟩ := wait1_bit hj
    have hlt := hdown i ops[i] (Array.getElem?_eq_getElem hi) e he hb
    have hon := hd ops[i] (Array.getElem?_eq_getElem hi) e he hb
    rcases h with rfl | h
    · exact hon
    · rw [h3 _ hlt, ← waits_eq] at h
      exact ih e.on hlt (by omega) (hL _ hon).2 j h

theorem waits_lt (hdown : Down ops) {i j : Nat} (hi : i < ops.size) (h : ((waits ops.toList).getD i 0).testBit j = true) : j < i := by
  have := waits_listed hdown (L := fun k => decide (k < i)) (fun k hk => ?_) i hi (fun o ho e he hb => by simpa using hdown i o ho e he hb) j h
  · simpa using this
  · have hk' : k < i := by simpa using hk
    exact ⟨by omega, fun o ho e he hb => by have := hdown k o ho e he hb; simp; omega⟩

theorem tailFrom_le (ws : List Nat) : ∀ n, tailFrom ws n ≤ n
  | 0 => Nat.le_refl _
  | n + 1 => by
    unfold tailFrom
    split
    · exact Nat.le_succ_of_le (tailFrom_le ws n)
    · exact Nat.le_refl _
theorem tailFrom_bits (ws : List Nat) : ∀ (n i : Nat), tailFrom ws n ≤ i → i < n → ∀ j, j < i → (ws.getD i 0).testBit j = true
  | 0, i, _, h => by omega
  | n + 1, i, h, hi => by
    unfold tailFrom at h
    split at h
    · rename_i hc
      rcases Nat.lt_or_ge i n with hlt | hge
      · exact tailFrom_bits ws n i h hlt
      · obtain rfl : i = n := by omega
        intro j hj
        have h1 : (ws.getD i 0 % 2 ^ i).testBit j = (2 ^ i - 1).testBit j := by rw [hc]
        rw [Nat.testBit_mod_two_pow, Nat.testBit_two_pow_sub_one] at h1
        simpa [hj] using h1
    · omega

/-! ### temporaries and blocks of a listed set -/
theorem tmpsAt_length (p : Nat → Bool) : ∀ (d : List (Nat × Option Tmp × AV)) (ts : List AV), (tmpsAt p ts d).length = ts.length
  | [], ts => rfl
  | (j, x, v) :: r, ts => by
    simp only [tmpsAt]
    rw [tmpsAt_length p r]
    split
    · exact putT_length _ _ _
    · rfl
theorem tmpsAt_app (p : Nat → Bool) : ∀ (d d' : List (Nat × Option Tmp × AV)) (ts : List AV), tmpsAt p ts (d ++ d') = tmpsAt p (tmpsAt p ts d) d'
  | [], d', ts => rfl
  | (j, x, v) :: r, d', ts => by simp only [List.cons_append, tmpsAt]; exact tmpsAt_app p r d' _
theorem tmpsAt_eq {p q : Nat → Bool} {t : Nat} : ∀ (d : List (Nat × Option Tmp × AV)) (ts ts' : List AV), (∀ e ∈ d, p e.1 ≠ q e.1 → e.2.1 ≠ some t) → ts.length = ts'.length → getT ts t = getT ts' t → getT (tmpsAt p ts d) t = getT (tmpsAt q ts' d) t
  | [], ts, ts', _, _, h => h
  | (j, x, v) :: r, ts, ts', hd, hl, h => by
    simp only [tmpsAt]
    refine tmpsAt_eq r _ _ (fun e he => hd e (List.mem_cons_of_mem _ he)) (by split <;> split <;> simp [putT_length, hl]) ?_
    by_cases hx : x = some t
    · have hpq : p j = q j := by
        by_cases h' : p j = q j
        · exact h'
        · exact absurd hx (hd _ List.mem_cons_self h')
      rw [hpq]
      split
      · rw [putT_getT, putT_getT, hl, h]
      · exact h
    · have e1 : ∀ (ts : List AV), getT (putT ts x v) t = getT ts t := fun ts => by rw [putT_getT, if_neg (fun hh => hx hh.1)]
      split <;> split <;> first | exact h | (simp only [e1]; exact h)
theorem tmpsAt_off {q : Nat → Bool} : ∀ (d : List (Nat × Option Tmp × AV)) (ts : List AV), (∀ e ∈ d, q e.1 = false) → tmpsAt q ts d = ts
  | [], ts, _ => rfl
  | (j, x, v) :: r, ts, hd => by
    simp only [tmpsAt, hd _ List.mem_cons_self]
    exact tmpsAt_off r ts (fun e he => hd e (List.mem_cons_of_mem _ he))
theorem tmpsAt_congr {p q : Nat → Bool} : ∀ (d : List (Nat × Option Tmp × AV)) (ts : List AV), (∀ e ∈ d, p e.1 = q e.1) → tmpsAt p ts d = tmpsAt q ts d
  | [], ts, _ => rfl
  | (j, x, v) :: r, ts, hd => by
    simp only [tmpsAt, hd _ List.mem_cons_self]
    exact tmpsAt_congr r _ (fun e he => hd e (List.mem_cons_of_mem _ he))
theorem tmpsAt_mem {p : Nat → Bool} {t : Nat} : ∀ (d : List (Nat × Option Tmp × AV)) (ts : List AV), getT (tmpsAt p ts d) t = getT ts t ∨ ∃ e ∈ d, p e.1 = true ∧ getT (tmpsAt p ts d) t = e.2.2 ∧ e.2.1 = some t
  | [], ts => .inl rfl
  | (j, x, v) :: r, ts => by
    simp only [tmpsAt]
    rcases tmpsAt_mem r (if p j = true then putT ts x v else ts) with h | ⟨e, he, h⟩
    · by_cases hp : p j = true
      · rw [if_pos hp] at h ⊢
        rw [putT_getT] at h
        split at h
        · rename_i hx
          exact .inr ⟨(j, x, v), List.mem_cons_self, hp, h, hx.1⟩
        · exact .inl h
      · rw [if_neg hp] at h ⊢
        exact .inl h
    · exact .inr ⟨e, List.mem_cons_of_mem _ he, h⟩
theorem maskT_get (ks : List Tmp) : ∀ (l : List AV) (n t : Nat), getT (maskT ks n l) t = if ks.contains (n + t) then getT l t else .junk
  | [], n, t => by simp [maskT, getT]
  | x :: r, n, 0 => by simp [maskT, getT]
  | x :: r, n, t + 1 => by
    simp only [maskT, getT]
    rw [maskT_get ks r (n + 1) t]
    rw [show n + 1 + t = n + (t + 1) from by omega]

theorem heapAt_length (p : Nat → Bool) (H : AHeap) (made : List (Nat × Blk)) : (heapAt p H made).length = H.length + made.length := by simp [heapAt]
theorem getH_eq : ∀ (H : AHeap) (b : Nat), getH H b = (H[b]?).join
  | [], b => by simp [getH]
  | x :: _, 0 => by simp [getH]
  | x :: r, b + 1 => by simp only [getH, getH_eq r b]; simp
theorem heapAt_get {p : Nat → Bool} {H : AHeap} {made : List (Nat × Blk)} {c : Nat} {B : Blk} (h : getH (heapAt p H made) c = some B) : (c < H.length ∧ getH H c = some B) ∨ ∃ j k, c = H.length + k ∧ made[k]? = some (j, B) ∧ p j = true := by
  unfold heapAt at h
  rcases Nat.lt_or_ge c H.length with hc | hc
  · rw [getH_append_old hc] at h; exact .inl ⟨hc, h⟩
  · rw [getH_append_new hc, getH_eq, List.getElem?_map] at h
    cases hm : made[c - H.length]? with
    | none => simp [hm] at h
    | some q =>
      obtain ⟨j, B'⟩ := q
      simp only [hm, Option.map_some, Option.join_some] at h
      split at h
      · rename_i hp
        cases h
        exact .inr ⟨j, c - H.length, by omega, hm, hp⟩
      · cases h
theorem heapAt_old {p : Nat → Bool} {H : AHeap} {made : List (Nat × Blk)} {c : Nat} (hc : c < H.length) : getH (heapAt p H made) c = getH H c := getH_append_old hc
theorem heapAt_new {p : Nat → Bool} {H : AHeap} {made : List (Nat × Blk)} {j k : Nat} {B : Blk} (h : made[k]? = some (j, B)) (hp : p j = true) : getH (heapAt p H made) (H.length + k) = some B := by
  unfold heapAt
  rw [getH_append_new (by omega), getH_eq, List.getElem?_map, show H.length + k - H.length = k from by omega, h]
  simp [hp]
theorem heapAt_congr {p q : Nat → Bool} {H : AHeap} {made : List (Nat × Blk)} (h : ∀ e ∈ made, p e.1 = q e.1) : heapAt p H made = heapAt q H made := by
  unfold heapAt
  congr 1
  apply List.map_congr_left
  intro e he
  rw [h e he]
theorem setH_mid : ∀ (A C : AHeap) (x v : Option Blk), setH (A ++ x :: C) A.length v = A ++ v :: C
  | [], C, x, v => rfl
  | y :: A, C, x, v => by simp only [List.cons_append, List.length_cons, setH, setH_mid A C x v]
theorem getH_mid : ∀ (A C : AHeap) (x : Option Blk), getH (A ++ x :: C) A.length = x
  | [], C, x => rfl
  | y :: A, C, x => by simp only [List.cons_append, List.length_cons, getH, getH_mid A C x]
end
end Go.Proofs.Ai
