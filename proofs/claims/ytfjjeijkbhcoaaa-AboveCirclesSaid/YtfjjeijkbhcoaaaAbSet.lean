/- Contracts: plain values are held against one another; a set of them is made. -/
import Derived.Test.YtfjjeijkbhcoaaaAbRaw
set_option linter.unusedVariables false
set_option linter.unusedSimpArgs false
namespace Go.Proofs.Ai
open Go

abbrev vL (k : Int) (b : Bool) (n : Int) (s : ByteArray) (u : Uid) : List FV := valF (.mk k b n s u [])
abbrev vA (k : Int) (b : Bool) (n : Int) (s : ByteArray) (u : Uid) : AV := valV (.mk k b n s u [])
def lessP : Val → Val → Bool
  | .mk k b n s u _, .mk _ b' n' s' u' _ => if k = 1 then !b && b' else if k = 2 then decide (n < n') else if k = 3 then ltS s s' else ltU u u'
def sameP : Val → Val → Bool
  | .mk k b n s u _, .mk k' b' n' s' u' _ => k == k' && b == b' && n == n' && s == s' && (u.1 == u'.1 && u.2 == u'.2)

set_option maxRecDepth 100000 in
theorem less53 (k : Int) (b b' : Bool) (n n' : Int) (s s' : ByteArray) (u u' : Uid) (hk : 1 ≤ k ∧ k ≤ 4) : PureAt Try.prog 53 [vA k b n s u, vA k b' n' s' u'] (.boo (lessP (.mk k b n s u []) (.mk k b' n' s' u' []))) true := by
  refine PureAt.scalar ?_
  have hcs : k = 1 ∨ k = 2 ∨ k = 3 ∨ k = 4 := by omega
  rcases hcs with rfl | rfl | rfl | rfl
  · cases b with
    | true =>
      have hrun : callC Γf1 Δnil 53 [vA 1 true n s u, vA 1 b' n' s' u'] [] = some (.boo false, true, []) := by kernel_rfl
      exact pure_run Γf1_ok Δnil_ok hrun trivial
    | false =>
      have hrun : callC Γf1 Δnil 53 [vA 1 false n s u, vA 1 b' n' s' u'] [] = some (.boo b', true, []) := by kernel_rfl
      exact pure_run Γf1_ok Δnil_ok hrun trivial
  · have hrun : callC Γf1 Δnil 53 [vA 2 b n s u, vA 2 b' n' s' u'] [] = some (.boo (decide (n < n')), true, []) := by kernel_rfl
    exact pure_run Γf1_ok Δnil_ok hrun trivial
  · have hrun : callC Γf1 Δnil 53 [vA 3 b n s u, vA 3 b' n' s' u'] [] = some (.boo (ltS s s'), true, []) := by kernel_rfl
    exact pure_run Γf1_ok Δnil_ok hrun trivial
  · have hrun : callC Γf1 Δnil 53 [vA 4 b n s u, vA 4 b' n' s' u'] [] = some (.boo (ltU (u.1, u.2) (u'.1, u'.2)), true, []) := by kernel_rfl
    exact pure_run Γf1_ok Δnil_ok hrun trivial

abbrev neqC (x v : Bool) : Prop := Value.bool x = .bool v
set_option maxRecDepth 100000 in
theorem same52 (k k' : Int) (b b' : Bool) (n n' : Int) (s s' : ByteArray) (u u' : Uid) : PureAt Try.prog 52 [vA k b n s u, vA k' b' n' s' u'] (.boo (sameP (.mk k b n s u []) (.mk k' b' n' s' u' []))) true := by
  refine PureAt.scalar ?_
  have hs : (s.toList == s'.toList) = (s == s') := eq_toList s s'
  show PureAt Try.prog 52 _ (.boo (k == k' && b == b' && n == n' && s == s' && (u.1 == u'.1 && u.2 == u'.2))) false
  rw [← hs]
  cases h1 : k == k' with
  | false =>
    have hrun : callC Γf1 Δnil 52 [vA k b n s u, vA k' b' n' s' u'] [.is .neq (.bool true)] = some (.boo false, true, [neqC (k != k') true]) := by kernel_rfl
    exact pure_run Γf1_ok Δnil_ok hrun ⟨by simp [bne, h1], trivial⟩
  | true =>
    cases h2 : b == b' with
    | false =>
      have hrun : callC Γf1 Δnil 52 [vA k b n s u, vA k' b' n' s' u'] [.is .neq (.bool false), .is .neq (.bool true)] = some (.boo false, true, [neqC (!(b == b')) true, neqC (k != k') false]) := by kernel_rfl
      exact pure_run Γf1_ok Δnil_ok hrun ⟨by simp [h2], by simp [bne, h1], trivial⟩
    | true =>
      cases h3 : n == n' with
      | false =>
        have hrun : callC Γf1 Δnil 52 [vA k b n s u, vA k' b' n' s' u'] [.is .neq (.bool false), .is .neq (.bool false), .is .neq (.bool true)] = some (.boo false, true, [neqC (n != n') true, neqC (!(b == b')) false, neqC (k != k') false]) := by kernel_rfl
        exact pure_run Γf1_ok Δnil_ok hrun ⟨by simp [bne, h3], by simp [h2], by simp [bne, h1], trivial⟩
      | true =>
        cases h4 : s.toList == s'.toList with
        | false =>
          have hrun : callC Γf1 Δnil 52 [vA k b n s u, vA k' b' n' s' u'] [.is .neq (.bool false), .is .neq (.bool false), .is .neq (.bool false), .is .neq (.bool true)] = some (.boo false, true, [neqC (!(s.toList == s'.toList)) true, neqC (n != n') false, neqC (!(b == b')) false, neqC (k != k') false]) := by kernel_rfl
          exact pure_run Γf1_ok Δnil_ok hrun ⟨by simp only [neqC, h4]; rfl, by simp [bne, h3], by simp [h2], by simp [bne, h1], trivial⟩
        | true =>
          cases h5 : (u.1 == u'.1 && u.2 == u'.2) with
          | false =>
            have hrun : callC Γf1 Δnil 52 [vA k b n s u, vA k' b' n' s' u'] [.is .neq (.bool false), .is .neq (.bool false), .is .neq (.bool false), .is .neq (.bool false), .is .neq (.bool true)] = some (.boo false, true, [neqC (!(u.1 == u'.1 && u.2 == u'.2)) true, neqC (!(s.toList == s'.toList)) false, neqC (n != n') false, neqC (!(b == b')) false, neqC (k != k') false]) := by kernel_rfl
            exact pure_run Γf1_ok Δnil_ok hrun ⟨by simp only [neqC, h5]; rfl, by simp only [neqC, h4]; rfl, by simp [bne, h3], by simp [h2], by simp [bne, h1], trivial⟩
          | true =>
            have hrun : callC Γf1 Δnil 52 [vA k b n s u, vA k' b' n' s' u'] [.is .neq (.bool false), .is .neq (.bool false), .is .neq (.bool false), .is .neq (.bool false), .is .neq (.bool false)] = some (.boo true, true, [neqC (!(u.1 == u'.1 && u.2 == u'.2)) false, neqC (!(s.toList == s'.toList)) false, neqC (n != n') false, neqC (!(b == b')) false, neqC (k != k') false]) := by kernel_rfl
            exact pure_run Γf1_ok Δnil_ok hrun ⟨by simp only [neqC, h5]; rfl, by simp only [neqC, h4]; rfl, by simp [bne, h3], by simp [h2], by simp [bne, h1], trivial⟩

/-! ### something is put where it belongs -/
def seekI {α : Type} (p : α → Bool) (l : List α) : Nat := (l.takeWhile p).length
theorem seekI_le {α : Type} (p : α → Bool) (l : List α) : seekI p l ≤ l.length := List.Sublist.length_le (List.takeWhile_sublist p)
theorem seekI_lt {α : Type} {p : α → Bool} : ∀ {l : List α} {i : Nat} {x : α}, i < seekI p l → l[i]? = some x → p x = true
  | [], i, x, h, hx => by simp at hx
  | y :: l, i, x, h, hx => by
    unfold seekI at h
    rw [List.takeWhile_cons] at h
    cases hy : p y with
    | false => rw [hy] at h; simp at h
    | true =>
      rw [hy] at h
      cases i with
      | zero => simp at hx; rw [← hx]; exact hy
      | succ i => exact seekI_lt (l := l) (i := i) (by simpa [seekI] using h) (by simpa using hx)
theorem seekI_at {α : Type} {p : α → Bool} : ∀ {l : List α} {x : α}, l[seekI p l]? = some x → p x = false
  | [], x, hx => by simp [seekI] at hx
  | y :: l, x, hx => by
    unfold seekI at hx
    rw [List.takeWhile_cons] at hx
    cases hy : p y with
    | false => rw [hy] at hx; simp at hx; rw [← hx]; exact hy
    | true =>
      rw [hy] at hx
      exact seekI_at (l := l) (by simpa [seekI] using hx)
def hit {α : Type} (same : α → α → Bool) (l : List α) (j : Nat) (v : α) : Bool := match l[j]? with
  | some x => same x v
  | none => false
def insI {α : Type} (less same : α → α → Bool) (l : List α) (v : α) : List α :=
  bif hit same l (seekI (fun x => less x v) l) v then l else l.take (seekI (fun x => less x v) l) ++ v :: l.drop (seekI (fun x => less x v) l)
theorem insI_length {α : Type} (less same : α → α → Bool) (l : List α) (v : α) : (insI less same l v).length ≤ l.length + 1 := by
  unfold insI
  have := seekI_le (fun x => less x v) l
  generalize seekI (fun x => less x v) l = j at this
  cases hit same l j v with
  | true => rw [cond_true]; omega
  | false => rw [cond_false]; simp; omega
theorem insI_mem {α : Type} {less same : α → α → Bool} {l : List α} {v x : α} (h : x ∈ insI less same l v) : x ∈ l ∨ x = v := by
  unfold insI at h
  generalize seekI (fun x => less x v) l = j at h
  cases hh : hit same l j v with
  | true => rw [hh, cond_true] at h; exact .inl h
  | false =>
    rw [hh, cond_false] at h
    rcases List.mem_append.1 h with h | h
    · exact .inl (List.mem_of_mem_take h)
    · rcases List.mem_cons.1 h with h | h
      · exact .inr h
      · exact .inl (List.mem_of_mem_drop h)

/-! ### Set -/
def setV (vs : List Val) : List Val := vs.foldl (insI lessP sameP) []
def PlainK (k : Int) (v : Val) : Prop := ∃ b n s u, v = .mk k b n s u []
def Γw : PureT := fun f xs => match f, xs with
  | 53, [.agg [.fz (.sc (.int .i64 k)), .fz (.sc (.bool b)), .fz (.sc (.int .i64 n)), .fz (.sc (.string s)), .fz (.sc (.string c)), .fz (.sc (.string d)), .fz (.sl 7 [])],
      .agg [.fz (.sc (.int .i64 k')), .fz (.sc (.bool b')), .fz (.sc (.int .i64 n')), .fz (.sc (.string s')), .fz (.sc (.string c')), .fz (.sc (.string d')), .fz (.sl 7 [])]] => some (.boo (lessP (.mk k b n s (c, d) []) (.mk k' b' n' s' (c', d') [])), true, [1 ≤ k ∧ k ≤ 4 ∧ k' = k])
  | 52, [.agg [.fz (.sc (.int .i64 k)), .fz (.sc (.bool b)), .fz (.sc (.int .i64 n)), .fz (.sc (.string s)), .fz (.sc (.string c)), .fz (.sc (.string d)), .fz (.sl 7 [])],
      .agg [.fz (.sc (.int .i64 k')), .fz (.sc (.bool b')), .fz (.sc (.int .i64 n')), .fz (.sc (.string s')), .fz (.sc (.string c')), .fz (.sc (.string d')), .fz (.sl 7 [])]] => some (.boo (sameP (.mk k b n s (c, d) []) (.mk k' b' n' s' (c', d') [])), true, [])
  | _, _ => none
theorem Γw_ok : PureOK Try.prog Γw := by
  intro f xs r fresh c hg hc
  unfold Γw at hg
  split at hg
  · cases hg
    obtain ⟨⟨h1, h2, rfl⟩, _⟩ := hc
    exact less53 _ _ _ _ _ _ _ (_, _) (_, _) ⟨h1, h2⟩
  · cases hg
    exact same52 _ _ _ _ _ _ _ _ (_, _) (_, _)
  · cases hg
noncomputable abbrev L72 : Code := post 1 (bodyOf Try.f72)
noncomputable abbrev B72 : Code := cb (cb (cr (cl L72)))
noncomputable abbrev M72 : Code := post 1 (cr L72)
noncomputable abbrev O72 : Code := cb (cb (cr (cl M72)))
noncomputable abbrev K72 : Code := cb (cl (cr O72))
noncomputable abbrev I72 : Code := cb (cb (cl (cr K72)))
noncomputable abbrev R72 : Code := cr (cr K72)
abbrev z33 : List AV := [.int 0, .boo false, .int 0, .str noS, .str noS, .str noS, .fz nilF0]
abbrev H72 (out : List (List FV)) : AHeap := [some (.var 33 z33), some (.row 33 7 out)]
abbrev S72 (xs : List (List FV)) (i : Int) : St := stOf (sp 95 [(0, .fz (.sl 7 xs)), (2, .ptr 0 0), (4, .int i)]) [some (.var 33 z33)] 0
abbrev S72o (xs out : List (List FV)) (i : Int) : St := stOf (sp 95 [(0, .fz (.sl 7 xs)), (2, .ptr 0 0), (5, .own 1), (6, .int i)]) (H72 out) 0
abbrev S72i (xs out : List (List FV)) (i j : Int) : St := stOf (sp 95 [(0, .fz (.sl 7 xs)), (2, .ptr 0 0), (5, .own 1), (6, .int i), (7, .int j)]) (H72 out) 0

set_option maxRecDepth 100000 in
theorem inner72 (xs : List (List FV)) (out : List Val) (v : Val) (i : Nat) (k : Int) (hk : 1 ≤ k ∧ k ≤ 4) (hv : PlainK k v) (ho : ∀ x ∈ out, PlainK k x) (hx : xs[i]? = some (valF v)) (hl : out.length ≤ 100) :
    Tr Try.prog K72 (S72o xs (out.map valF) i) (blkPost 3 (fun e t => e = .normal ∧ t = S72o xs ((insI lessP sameP out v).map valF) i)) := by
  have hsz : szB 33 ≤ 1000 := by decide +kernel
  obtain ⟨b, n, s, u, rfl⟩ := hv
  have hxi : 0 ≤ (i : Int) ∧ xs[(i : Int).toNat]? = some (vL k b n s u) := ⟨by omega, by rw [Int.toNat_natCast]; exact hx⟩
  have hgo : ∀ (j : Nat) x, out[j]? = some x → (out.map valF)[j]? = some (valF x) := fun j x h => by rw [List.getElem?_map, h]; rfl
  have hle := seekI_le (fun x => lessP x (.mk k b n s u [])) out
  have hlt := @seekI_lt Val (fun x => lessP x (.mk k b n s u [])) out
  have hat := @seekI_at Val (fun x => lessP x (.mk k b n s u [])) out
  have hins : insI lessP sameP out (.mk k b n s u []) = bif hit sameP out (seekI (fun x => lessP x (.mk k b n s u [])) out) (.mk k b n s u []) then out else out.take (seekI (fun x => lessP x (.mk k b n s u [])) out) ++ .mk k b n s u [] :: out.drop (seekI (fun x => lessP x (.mk k b n s u [])) out) := rfl
  generalize seekI (fun x => lessP x (.mk k b n s u [])) out = q at hle hlt hat hins
  have hXl : (out.map valF).length = out.length := by simp
  have hfin : (out.take q ++ .mk k b n s u [] :: out.drop q).map valF = ([] ++ (out.map valF).take q ++ [vL k b n s u]) ++ ((out.map valF).drop q).take (((out.map valF).length : Int) - (q : Int)).toNat := by
    rw [List.take_of_length_le (l := (out.map valF).drop q) (by simp)]
    simp
  generalize hX : out.map valF = X at hgo hXl hfin
  refine tr_pre Γw_ok Δnil_ok 1 (hs := []) (ks := [0, 2, 5, 6, 7]) (kills := []) (N := 2) (ts := (S72i xs X i 0).tmps) (H := H72 X) (cs := []) (by kernel_rfl) trivial ?_
  refine Tr.loopAt (fun (j : Nat) t => t = S72i xs X i j ∧ j ≤ q) (fun j => q - j) (fun t => t = S72i xs X i q) (id := 4) (B := I72) (C := R72) (by kernel_rfl) (i := 0) ⟨rfl, Nat.zero_le _⟩ ?_ ?_
  · rintro j t ⟨rfl, hj⟩
    by_cases hjl : j < out.length
    · have hy : out[j]? = some out[j] := List.getElem?_eq_getElem hjl
      generalize hye : out[j] = y at hy
      obtain ⟨b', n', s', u', rfl⟩ := ho y (List.mem_of_getElem? hy)
      have hc1 : X[(j : Int).toNat]? = some (vL k b' n' s' u') := by rw [Int.toNat_natCast]; exact hgo j _ hy
      have hc2 : 0 ≤ (j : Int) ∧ (j : Int) < (X.length : Int) := ⟨by omega, by omega⟩
      have hc3 : Value.bool (decide ((j : Int) < (X.length : Int))) = .bool true := by congr 1; rw [decide_eq_true_iff]; omega
      by_cases hjq : j < q
      · have hl1 : lessP (.mk k b' n' s' u' []) (.mk k b n s u []) = true := hlt hjq hy
        have hrun : rT Γw Δnil I72 (S72i xs X i j) [.is .lss (.bool true), .ok, .el (vL k b' n' s' u'), .el (vL k b n s u), .br true, .br true] [0, 2, 5, 6, 7] [] 2 = some (.normal, (S72i xs X i (IntKind.i64.wrap ((j : Int) + 1))).tmps, H72 X,
          [lessP (.mk k b' n' s' (u'.1, u'.2) []) (.mk k b n s (u.1, u.2) []) = true, true = true, 1 ≤ k ∧ k ≤ 4 ∧ k = k, 0 ≤ (i : Int) ∧ xs[(i : Int).toNat]? = some (vL k b n s u), X[(j : Int).toNat]? = some (vL k b' n' s' u'), 0 ≤ (j : Int) ∧ (j : Int) < (X.length : Int), Value.bool (decide ((j : Int) < (X.length : Int))) = .bool true]) := by kernel_rfl
        refine tr_run Γw_ok Δnil_ok hrun ⟨hl1, rfl, ⟨hk.1, hk.2, rfl⟩, hxi, hc1, hc2, hc3, trivial⟩ ⟨j + 1, ⟨?_, by omega⟩, by show q - (j + 1) < q - j; omega⟩
        rw [step1 (by omega)]; rfl
      · have hjq' : j = q := by omega
        subst hjq'
        have hl1 : lessP (.mk k b' n' s' u' []) (.mk k b n s u []) = false := hat hy
        have hrun : rT Γw Δnil I72 (S72i xs X i j) [.is .lss (.bool true), .ok, .el (vL k b' n' s' u'), .el (vL k b n s u), .br true, .br false] [0, 2, 5, 6, 7] [] 2 = some (.exit 4, (S72i xs X i j).tmps, H72 X,
          [lessP (.mk k b' n' s' (u'.1, u'.2) []) (.mk k b n s (u.1, u.2) []) = false, true = true, 1 ≤ k ∧ k ≤ 4 ∧ k = k, 0 ≤ (i : Int) ∧ xs[(i : Int).toNat]? = some (vL k b n s u), X[(j : Int).toNat]? = some (vL k b' n' s' u'), 0 ≤ (j : Int) ∧ (j : Int) < (X.length : Int), Value.bool (decide ((j : Int) < (X.length : Int))) = .bool true]) := by kernel_rfl
        exact tr_run Γw_ok Δnil_ok hrun ⟨hl1, rfl, ⟨hk.1, hk.2, rfl⟩, hxi, hc1, hc2, hc3, trivial⟩ ⟨rfl, rfl⟩
    · have hjq' : j = q := by omega
      subst hjq'
      have hc3 : Value.bool (decide ((j : Int) < (X.length : Int))) = .bool false := by congr 1; rw [decide_eq_false_iff_not]; omega
      have hrun : rT Γw Δnil I72 (S72i xs X i j) [.is .lss (.bool false)] [0, 2, 5, 6, 7] [] 2 = some (.exit 4, (S72i xs X i j).tmps, H72 X, [Value.bool (decide ((j : Int) < (X.length : Int))) = .bool false]) := by kernel_rfl
      exact tr_run Γw_ok Δnil_ok hrun ⟨hc3, trivial⟩ ⟨rfl, rfl⟩
  · rintro t rfl _
    have hlen1 : (([] : List (List FV)).length + (X.take q).length) * szB 33 ≤ 140737488355328 ∧ ([] : List (List FV)).length + (X.take q).length ≤ 140737488355328 := by
      have h1 : (([] : List (List FV)).length + (X.take q).length) ≤ 100 := by simp; omega
      have := Nat.mul_le_mul h1 hsz
      omega
    have hlen2 : (([] ++ X.take q).length + 1) * szB 33 ≤ 140737488355328 ∧ ([] ++ X.take q).length + 1 ≤ 140737488355328 := by
      have h1 : ([] ++ X.take q).length + 1 ≤ 101 := by simp; omega
      have := Nat.mul_le_mul h1 hsz
      omega
    have hlen3 : (([] ++ X.take q ++ [vL k b n s u]).length + ((X.drop q).take ((X.length : Int) - (q : Int)).toNat).length) * szB 33 ≤ 140737488355328 ∧ ([] ++ X.take q ++ [vL k b n s u]).length + ((X.drop q).take ((X.length : Int) - (q : Int)).toNat).length ≤ 140737488355328 := by
      have h1 : ([] ++ X.take q ++ [vL k b n s u]).length + ((X.drop q).take ((X.length : Int) - (q : Int)).toNat).length ≤ 201 := by simp; omega
      have := Nat.mul_le_mul h1 hsz
      omega
    have hs1 : 0 ≤ (0 : Int) ∧ (0 : Int) ≤ (q : Int) ∧ (q : Int) ≤ (X.length : Int) := by omega
    have hs2 : 0 ≤ (q : Int) ∧ (q : Int) ≤ (X.length : Int) ∧ (X.length : Int) ≤ (X.length : Int) := by omega
    by_cases hql : q < out.length
    · have hy : out[q]? = some out[q] := List.getElem?_eq_getElem hql
      generalize hye : out[q] = y at hy
      obtain ⟨b', n', s', u', rfl⟩ := ho y (List.mem_of_getElem? hy)
      have hc1 : X[(q : Int).toNat]? = some (vL k b' n' s' u') := by rw [Int.toNat_natCast]; exact hgo q _ hy
      have hc2 : 0 ≤ (q : Int) ∧ (q : Int) < (X.length : Int) := ⟨by omega, by omega⟩
      have hc3 : Value.bool (decide ((q : Int) < (X.length : Int))) = .bool true := by congr 1; rw [decide_eq_true_iff]; omega
      have hhit : hit sameP out q (.mk k b n s u []) = sameP (.mk k b' n' s' u' []) (.mk k b n s u []) := by unfold hit; rw [hy]
      rw [hhit] at hins
      cases hsm : sameP (.mk k b' n' s' u' []) (.mk k b n s u []) with
      | true =>
        rw [hsm, cond_true] at hins
        have hrun : rT Γw Δnil R72 (S72i xs X i q) [.is .lss (.bool true), .ok, .el (vL k b' n' s' u'), .el (vL k b n s u), .br true, .br true] [0, 2, 5, 6] [] 2 = some (.exit 3, (S72o xs X i).tmps, H72 X,
          [sameP (.mk k b' n' s' (u'.1, u'.2) []) (.mk k b n s (u.1, u.2) []) = true, true = true, 0 ≤ (i : Int) ∧ xs[(i : Int).toNat]? = some (vL k b n s u), X[(q : Int).toNat]? = some (vL k b' n' s' u'), 0 ≤ (q : Int) ∧ (q : Int) < (X.length : Int), Value.bool (decide ((q : Int) < (X.length : Int))) = .bool true]) := by kernel_rfl
        refine tr_run Γw_ok Δnil_ok hrun ⟨hsm, rfl, hxi, hc1, hc2, hc3, trivial⟩ ?_
        show blkPost 3 _ (.exit 3) _
        simp only [blkPost, if_true]
        rw [hins, hX]
        exact ⟨trivial, rfl⟩
      | false =>
        rw [hsm, cond_false] at hins
        have hrun : rT Γw Δnil R72 (S72i xs X i q) [.is .lss (.bool true), .ok, .el (vL k b' n' s' u'), .el (vL k b n s u), .br true, .br false, .ok, .ok, .el (vL k b n s u), .ok, .ok, .ok] [0, 2, 5, 6] [1] 3 =
          some (.normal, sp 95 [(0, .fz (.sl 7 xs)), (2, .ptr 0 0), (5, .own 2), (6, .int i)], [some (.var 33 z33), none, some (.row 33 7 (([] ++ X.take q ++ [vL k b n s u]) ++ (X.drop q).take ((X.length : Int) - (q : Int)).toNat))],
          [(([] ++ X.take q ++ [vL k b n s u]).length + ((X.drop q).take ((X.length : Int) - (q : Int)).toNat).length) * szB 33 ≤ 140737488355328 ∧ ([] ++ X.take q ++ [vL k b n s u]).length + ((X.drop q).take ((X.length : Int) - (q : Int)).toNat).length ≤ 140737488355328,
            0 ≤ (q : Int) ∧ (q : Int) ≤ (X.length : Int) ∧ (X.length : Int) ≤ (X.length : Int), (([] ++ X.take q).length + 1) * szB 33 ≤ 140737488355328 ∧ ([] ++ X.take q).length + 1 ≤ 140737488355328, 0 ≤ (i : Int) ∧ xs[(i : Int).toNat]? = some (vL k b n s u),
            (([] : List (List FV)).length + (X.take q).length) * szB 33 ≤ 140737488355328 ∧ ([] : List (List FV)).length + (X.take q).length ≤ 140737488355328, 0 ≤ (0 : Int) ∧ (0 : Int) ≤ (q : Int) ∧ (q : Int) ≤ (X.length : Int),
            sameP (.mk k b' n' s' (u'.1, u'.2) []) (.mk k b n s (u.1, u.2) []) = false, true = true, 0 ≤ (i : Int) ∧ xs[(i : Int).toNat]? = some (vL k b n s u), X[(q : Int).toNat]? = some (vL k b' n' s' u'), 0 ≤ (q : Int) ∧ (q : Int) < (X.length : Int), Value.bool (decide ((q : Int) < (X.length : Int))) = .bool true]) := by kernel_rfl
        refine tr_runM Γw_ok Δnil_ok (b := 1) (n := 2) (N' := 2) (ts' := (S72o xs (([] ++ X.take q ++ [vL k b n s u]) ++ (X.drop q).take ((X.length : Int) - (q : Int)).toNat) i).tmps) (H' := H72 (([] ++ X.take q ++ [vL k b n s u]) ++ (X.drop q).take ((X.length : Int) - (q : Int)).toNat)) hrun ⟨hlen3, hs2, hlen2, hxi, hlen1, hs1, hsm, rfl, hxi, hc1, hc2, hc3, trivial⟩ (by kernel_rfl) ?_
        show _ ∧ _
        rw [hins, hfin]
        exact ⟨rfl, rfl⟩
    · have hc3 : Value.bool (decide ((q : Int) < (X.length : Int))) = .bool false := by congr 1; rw [decide_eq_false_iff_not]; omega
      have hhit : hit sameP out q (.mk k b n s u []) = false := by unfold hit; rw [List.getElem?_eq_none (by omega)]
      rw [hhit, cond_false] at hins
      have hrun : rT Γw Δnil R72 (S72i xs X i q) [.is .lss (.bool false), .ok, .ok, .el (vL k b n s u), .ok, .ok, .ok] [0, 2, 5, 6] [1] 3 =
        some (.normal, sp 95 [(0, .fz (.sl 7 xs)), (2, .ptr 0 0), (5, .own 2), (6, .int i)], [some (.var 33 z33), none, some (.row 33 7 (([] ++ X.take q ++ [vL k b n s u]) ++ (X.drop q).take ((X.length : Int) - (q : Int)).toNat))],
        [(([] ++ X.take q ++ [vL k b n s u]).length + ((X.drop q).take ((X.length : Int) - (q : Int)).toNat).length) * szB 33 ≤ 140737488355328 ∧ ([] ++ X.take q ++ [vL k b n s u]).length + ((X.drop q).take ((X.length : Int) - (q : Int)).toNat).length ≤ 140737488355328,
          0 ≤ (q : Int) ∧ (q : Int) ≤ (X.length : Int) ∧ (X.length : Int) ≤ (X.length : Int), (([] ++ X.take q).length + 1) * szB 33 ≤ 140737488355328 ∧ ([] ++ X.take q).length + 1 ≤ 140737488355328, 0 ≤ (i : Int) ∧ xs[(i : Int).toNat]? = some (vL k b n s u),
          (([] : List (List FV)).length + (X.take q).length) * szB 33 ≤ 140737488355328 ∧ ([] : List (List FV)).length + (X.take q).length ≤ 140737488355328, 0 ≤ (0 : Int) ∧ (0 : Int) ≤ (q : Int) ∧ (q : Int) ≤ (X.length : Int),
          Value.bool (decide ((q : Int) < (X.length : Int))) = .bool false]) := by kernel_rfl
      refine tr_runM Γw_ok Δnil_ok (b := 1) (n := 2) (N' := 2) (ts' := (S72o xs (([] ++ X.take q ++ [vL k b n s u]) ++ (X.drop q).take ((X.length : Int) - (q : Int)).toNat) i).tmps) (H' := H72 (([] ++ X.take q ++ [vL k b n s u]) ++ (X.drop q).take ((X.length : Int) - (q : Int)).toNat)) hrun ⟨hlen3, hs2, hlen2, hxi, hlen1, hs1, hc3, trivial⟩ (by kernel_rfl) ?_
      show _ ∧ _
      rw [hins, hfin]
      exact ⟨rfl, rfl⟩

theorem setV_fold (vs : List Val) (i : Nat) (v : Val) (h : vs[i]? = some v) : setV (vs.take (i + 1)) = insI lessP sameP (setV (vs.take i)) v := by
  unfold setV
  rw [List.take_add_one, h]
  simp
theorem setV_mem : ∀ (vs : List Val) (x : Val), x ∈ setV vs → x ∈ vs := by
  intro vs
  have : ∀ (vs acc : List Val) (x : Val), x ∈ vs.foldl (insI lessP sameP) acc → x ∈ acc ∨ x ∈ vs := by
    intro vs
    induction vs with
    | nil => intro acc x h; exact .inl h
    | cons v vs ih =>
      intro acc x h
      rcases ih _ x h with h | h
      · rcases insI_mem h with h | rfl
        · exact .inl h
        · exact .inr List.mem_cons_self
      · exact .inr (List.mem_cons_of_mem _ h)
  intro x h
  rcases this vs [] x h with h | h
  · cases h
  · exact h
theorem setV_length (vs : List Val) : (setV vs).length ≤ vs.length := by
  have : ∀ (vs acc : List Val), (vs.foldl (insI lessP sameP) acc).length ≤ acc.length + vs.length := by
    intro vs
    induction vs with
    | nil => intro acc; simp
    | cons v vs ih =>
      intro acc
      have h1 := ih (insI lessP sameP acc v)
      have h2 := insI_length lessP sameP acc v
      simp only [List.foldl_cons, List.length_cons]
      omega
  have := this vs []
  simpa [setV] using this

set_option maxRecDepth 100000 in
theorem set_tr (vs : List Val) (k : Int) (hk : 1 ≤ k ∧ k ≤ 4) (hv : ∀ v ∈ vs, PlainK k v) (hl : vs.length ≤ 8) :
    FunTr Try.prog 72 [.fz (.sl 7 (vs.map valF))] [] 0 (fun r1 H1 => snapR H1 r1 = some (.tup [valV (.mk 5 false 0 noS noU (setV vs)), .int 0])) := by
  have hXl : (vs.map valF).length = vs.length := by simp
  have hXg : ∀ (i : Nat) v, vs[i]? = some v → (vs.map valF)[i]? = some (valF v) := fun i v h => by rw [List.getElem?_map, h]; rfl
  generalize vs.map valF = X at hXl hXg
  refine fun_of_tr Try.func72 (c := bodyOf Try.f72) (by kernel_rfl) (Nat.le_refl _) ?_
  refine tr_pre Γw_ok Δnil_ok 1 (hs := []) (ks := [0, 2]) (kills := []) (N := 1) (ts := sp 95 [(0, .fz (.sl 7 X)), (2, .ptr 0 0)]) (H := [some (.var 33 z33)]) (cs := []) (by kernel_rfl) trivial ?_
  refine Tr.rangeAt (fun (i : Nat) t => t = S72 X i ∧ i ≤ vs.length) (fun i => vs.length - i) (fun t => t = S72 X vs.length) (id := 0) (A := cl (cl L72)) (B := B72) (C := cr L72) (by kernel_rfl)
    (tr_run Γw_ok Δnil_ok (hs := []) (ks := [0, 2, 4]) (kills := []) (N := 1) (e := .normal) (ts := (S72 X 0).tmps) (H := [some (.var 33 z33)]) (cs := []) (by kernel_rfl) trivial ⟨rfl, 0, rfl, Nat.zero_le _⟩) ?_ ?_
  · rintro i t ⟨rfl, hi⟩
    by_cases hlt : i < vs.length
    · have hx : vs[i]? = some vs[i] := List.getElem?_eq_getElem hlt
      generalize hye : vs[i] = y at hx
      obtain ⟨b, n, s, u, rfl⟩ := hv y (List.mem_of_getElem? hx)
      have h0 : 0 < vs.length := by omega
      have hx0 : vs[0]? = some vs[0] := List.getElem?_eq_getElem h0
      generalize hye0 : vs[0] = y0 at hx0
      obtain ⟨b', n', s', u', rfl⟩ := hv y0 (List.mem_of_getElem? hx0)
      have hc1 : 0 ≤ (i : Int) ∧ X[(i : Int).toNat]? = some (vL k b n s u) := ⟨by omega, by rw [Int.toNat_natCast]; exact hXg i _ hx⟩
      have hc2 : 0 ≤ (0 : Int) ∧ X[(0 : Int).toNat]? = some (vL k b' n' s' u') := ⟨by omega, hXg 0 _ hx0⟩
      have hk5 : Value.bool (k == 5) = .bool false := by
        have : (k == 5) = false := by rw [beq_eq_false_iff_ne]; omega
        rw [this]
      have hrun : rT Γw Δnil B72 (S72 X i) [.br true, .el (vL k b n s u), .is .eql (.bool false), .el (vL k b n s u), .el (vL k b' n' s' u'), .br false, .br false] [0, 2, 4] [] 1 = some (.normal, (S72 X (IntKind.i64.wrap ((i : Int) + 1))).tmps, [some (.var 33 z33)],
        [(k != k) = false, false = false, 0 ≤ (0 : Int) ∧ X[(0 : Int).toNat]? = some (vL k b' n' s' u'), 0 ≤ (i : Int) ∧ X[(i : Int).toNat]? = some (vL k b n s u), Value.bool (k == 5) = .bool false, 0 ≤ (i : Int) ∧ X[(i : Int).toNat]? = some (vL k b n s u), decide ((i : Int) < (X.length : Int)) = true]) := by kernel_rfl
      refine tr_run Γw_ok Δnil_ok hrun ⟨by simp, rfl, hc2, hc1, hk5, hc1, by simp; omega, trivial⟩ ⟨i + 1, ⟨?_, by omega⟩, by show vs.length - (i + 1) < vs.length - i; omega⟩
      rw [step1 (by omega)]; rfl
    · have hil : i = vs.length := by omega
      subst hil
      have hrun : rT Γw Δnil B72 (S72 X vs.length) [.br false] [0, 2, 4] [] 1 = some (.exit 0, (S72 X vs.length).tmps, [some (.var 33 z33)], [decide ((vs.length : Int) < (X.length : Int)) = false]) := by kernel_rfl
      exact tr_run Γw_ok Δnil_ok hrun ⟨by simp; omega, trivial⟩ ⟨rfl, rfl⟩
  · rintro t rfl _
    refine tr_pre Γw_ok Δnil_ok 1 (hs := []) (ks := [0, 2, 5]) (kills := []) (N := 2) (ts := sp 95 [(0, .fz (.sl 7 X)), (2, .ptr 0 0), (5, .own 1)]) (H := H72 []) (cs := []) (by kernel_rfl) trivial ?_
    refine Tr.rangeAt (fun (i : Nat) t => t = S72o X ((setV (vs.take i)).map valF) i ∧ i ≤ vs.length) (fun i => vs.length - i) (fun t => t = S72o X ((setV vs).map valF) vs.length) (id := 2) (A := cl (cl M72)) (B := O72) (C := cr M72) (by kernel_rfl)
      (tr_run Γw_ok Δnil_ok (hs := []) (ks := [0, 2, 5, 6]) (kills := []) (N := 2) (e := .normal) (ts := (S72o X [] 0).tmps) (H := H72 []) (cs := []) (by kernel_rfl) trivial ⟨rfl, 0, rfl, Nat.zero_le _⟩) ?_ ?_
    · rintro i t ⟨rfl, hi⟩
      by_cases hlt : i < vs.length
      · have hx : vs[i]? = some vs[i] := List.getElem?_eq_getElem hlt
        generalize hye : vs[i] = y at hx
        have hfold := setV_fold vs i y hx
        have hy := hv y (List.mem_of_getElem? hx)
        have ho : ∀ x ∈ setV (vs.take i), PlainK k x := fun x hx => hv x (List.mem_of_mem_take (setV_mem _ x hx))
        have hol : (setV (vs.take i)).length ≤ 100 := by have := setV_length (vs.take i); simp at this; omega
        generalize setV (vs.take i) = out at hfold ho hol
        have hin := inner72 X out y i k hk hy ho (hXg i y hx) hol
        rw [← hfold] at hin
        generalize out.map valF = O at hin
        generalize hZ : (setV (vs.take (i + 1))).map valF = Z at hin
        refine tr_pre Γw_ok Δnil_ok 1 (hs := [.br true]) (ks := [0, 2, 5, 6]) (kills := []) (N := 2) (ts := (S72o X O i).tmps) (H := H72 O) (cs := [decide ((i : Int) < (X.length : Int)) = true]) (by kernel_rfl) ⟨by simp; omega, trivial⟩ ?_
        refine Tr.seq (R1 := fun e t => e = .normal ∧ t = S72o X Z i) (Tr.block hin) (fun t h _ => ?_) (fun e t he h => absurd h.1 he)
        rw [h.2]
        have hrun : rT Γw Δnil (cr (cr O72)) (S72o X Z i) [] [0, 2, 5, 6] [] 2 = some (.normal, (S72o X Z (IntKind.i64.wrap ((i : Int) + 1))).tmps, H72 Z, []) := by kernel_rfl
        refine tr_run Γw_ok Δnil_ok hrun trivial ⟨i + 1, ⟨?_, by omega⟩, by show vs.length - (i + 1) < vs.length - i; omega⟩
        rw [step1 (by omega), hZ]; rfl
      · have hil : i = vs.length := by omega
        subst hil
        rw [List.take_length]
        generalize (setV vs).map valF = O
        have hrun : rT Γw Δnil O72 (S72o X O vs.length) [.br false] [0, 2, 5, 6] [] 2 = some (.exit 2, (S72o X O vs.length).tmps, H72 O, [decide ((vs.length : Int) < (X.length : Int)) = false]) := by kernel_rfl
        exact tr_run Γw_ok Δnil_ok hrun ⟨by simp; omega, trivial⟩ ⟨rfl, rfl⟩
    · rintro t rfl _
      have hsl := setV_length vs
      have hvf : valF (.mk 5 false 0 noS noU (setV vs)) = [.int 5, .boo false, .int 0, .str noS, .str noS, .str noS, .sl 7 ((setV vs).map valF)] := by simp [valF, valsF_map]
      have hvv : valV (.mk 5 false 0 noS noU (setV vs)) = .agg ([.int 5, .boo false, .int 0, .str noS, .str noS, .str noS, .sl 7 ((setV vs).map valF)].map AV.fz) := by rw [valV, hvf]
      rw [hvv]
      have hol : ((setV vs).map valF).length ≤ 8 := by simp; omega
      generalize (setV vs).map valF = O at hol
      have hrun : rT Γw Δnil (cr M72) (S72o X O vs.length) [.br false] [2, 3] [] 2 = some (.ret, sp 95 [(2, .ptr 0 0), (3, .int 0)], [some (.var 33 [.int 5, .boo false, .int 0, .str noS, .str noS, .str noS, .own 1]), some (.row 33 7 O)], [decide ((O.length : Int) > 8) = false]) := by kernel_rfl
      exact tr_run Γw_ok Δnil_ok hrun ⟨by simp; omega, trivial⟩ ⟨.tup [.agg [.int 5, .boo false, .int 0, .str noS, .str noS, .str noS, .own 1], .int 0], by kernel_rfl, by show snapR _ _ = _; kernel_rfl⟩
theorem c72 (vs : List Val) (k : Int) (hk : 1 ≤ k ∧ k ≤ 4) (hv : ∀ v ∈ vs, PlainK k v) (hl : vs.length ≤ 8) : PureAt Try.prog 72 [.fz (.sl 7 (vs.map valF))] (.tup [valV (.mk 5 false 0 noS noU (setV vs)), .int 0]) false := pureAt_of_fun (set_tr vs k hk hv hl)
end Go.Proofs.Ai
