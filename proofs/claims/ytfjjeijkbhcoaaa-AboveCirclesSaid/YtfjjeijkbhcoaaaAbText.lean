/- Contracts: texts of numbers. -/
import Derived.Test.YtfjjeijkbhcoaaaAbWithin
set_option linter.unusedVariables false
set_option linter.unusedSimpArgs false
namespace Go.Proofs.Ai
open Go

abbrev FV.i32 (r : Int) : FV := .sc (.int .i32 r)
abbrev AV.i32 (r : Int) : AV := .fz (.i32 r)
def isR (r : Int) : Prop := 0 ≤ r ∧ r ≤ 1114111 ∧ (r < 55296 ∨ 57343 < r)
set_option maxRecDepth 100000 in
theorem c144 (r : Int) (h : isR r) : PureAt Try.prog 144 [.i32 r] (.boo true) true := by
  refine PureAt.scalar ?_
  obtain ⟨h0, h1, h2⟩ := h
  by_cases h3 : r < 55296
  · have hrun : callC Γnil Δnil 144 [.i32 r] [.is .geq (.bool true), .is .leq (.bool true), .is .lss (.bool true)] = some (.boo true, true, [Value.bool (decide (r < 55296)) = .bool true, Value.bool (decide (r ≤ 1114111)) = .bool true, Value.bool (decide (r ≥ 0)) = .bool true]) := by kernel_rfl
    exact pure_run Γnil_ok Δnil_ok hrun ⟨by simp [h3], by simp [h1], by simp; omega, trivial⟩
  · have h4 : r > 57343 := by omega
    have hrun : callC Γnil Δnil 144 [.i32 r] [.is .geq (.bool true), .is .leq (.bool true), .is .lss (.bool false), .is .gtr (.bool true)] = some (.boo true, true, [Value.bool (decide (r > 57343)) = .bool true, Value.bool (decide (r < 55296)) = .bool false, Value.bool (decide (r ≤ 1114111)) = .bool true, Value.bool (decide (r ≥ 0)) = .bool true]) := by kernel_rfl
    exact pure_run Γnil_ok Δnil_ok hrun ⟨by simp [h4], by simp [h3], by simp [h1], by simp; omega, trivial⟩

/-! ### a rune as bytes -/
abbrev bF (n : Int) : List FV := [.sc (.int .u8 n)]
def u8or (c : Int) (x : Int) : Int := IntKind.u8.wrap ((BitVec.ofInt IntKind.u8.bits c ||| BitVec.ofInt IntKind.u8.bits x).toNat : Nat)
def lo6 (x : Int) : Int := u8or 128 (IntKind.u8.wrap (IntKind.i32.wrap ((BitVec.ofInt IntKind.i32.bits x &&& BitVec.ofInt IntKind.i32.bits 63).toNat : Nat)))
def shR (r : Int) (k : Int) : Int := r.fdiv (2 ^ min (Int.toNat k) IntKind.i32.bits)
def putB (r : Int) : List (List FV) := if r < 128 then [bF (IntKind.u8.wrap r)] else if r < 2048 then [bF (u8or 192 (IntKind.u8.wrap (shR r 6))), bF (lo6 r)]
  else if r < 65536 then [bF (u8or 224 (IntKind.u8.wrap (shR r 12))), bF (lo6 (shR r 6)), bF (lo6 r)] else [bF (u8or 240 (IntKind.u8.wrap (shR r 18))), bF (lo6 (shR r 12)), bF (lo6 (shR r 6)), bF (lo6 r)]
theorem putB_length (r : Int) : (putB r).length ≤ 4 := by 
  unfold putB
  by_cases h1 : r < 128
  · rw [if_pos h1]; simp
  · by_cases h2 : r < 2048
    · rw [if_neg h1, if_pos h2]; simp
    · by_cases h3 : r < 65536
      · rw [if_neg h1, if_neg h2, if_pos h3]; simp
      · rw [if_neg h1, if_neg h2, if_neg h3]; simp
theorem putB_bytes (r : Int) : (bytesF (putB r)).isSome = true := by unfold putB; repeat' (first | split | rfl)

set_option maxRecDepth 100000 in
theorem put_tr (r : Int) (X : List (List FV)) (hX : X.length ≤ 1000000) : FunTr Try.prog 145 [.own 0, .i32 r] [some (.row 5 1 X)] 0 (fun r1 H' => ∃ j, r1 = .own j ∧ getH H' j = some (.row 5 1 (X ++ putB r))) := by
  have hsz : szB 5 ≤ 10 := by decide +kernel
  have hl : ∀ k, k ≤ 4 → (X.length + k) * szB 5 ≤ 140737488355328 ∧ X.length + k ≤ 140737488355328 := fun k hk => by
    have := Nat.mul_le_mul (show X.length + k ≤ 1000004 by omega) hsz
    omega
  refine fun_of_tr Try.func145 (c := bodyOf Try.f145) (by kernel_rfl) (Nat.zero_le _) ?_
  by_cases h1 : r < 128
  · have hrun : rT Γnil Δnil (bodyOf Try.f145) (startSt Try.f145 [.own 0, .i32 r] [some (.row 5 1 X)] 0) [.br true, .ok] [4] [] 2 = some (.ret, sp 67 [(4, .own 0)], [some (.row 5 1 (X ++ [bF (IntKind.u8.wrap r)])), some (.row 5 1 [])],
      [(X.length + 1) * szB 5 ≤ 140737488355328 ∧ X.length + 1 ≤ 140737488355328, decide (r < 128) = true]) := by kernel_rfl
    refine tr_run Γnil_ok Δnil_ok hrun ⟨hl 1 (by omega), by simp [h1], trivial⟩ ⟨.own 0, by kernel_rfl, 0, rfl, ?_⟩
    rw [putB, if_pos h1]; rfl
  · by_cases h2 : r < 2048
    · have hrun : rT Γnil Δnil (bodyOf Try.f145) (startSt Try.f145 [.own 0, .i32 r] [some (.row 5 1 X)] 0) [.br false, .br true, .ok] [4] [] 2 = some (.ret, sp 67 [(4, .own 0)], [some (.row 5 1 (X ++ [bF (u8or 192 (IntKind.u8.wrap (shR r 6))), bF (lo6 r)])), some (.row 5 1 [])],
        [(X.length + 2) * szB 5 ≤ 140737488355328 ∧ X.length + 2 ≤ 140737488355328, decide (r < 2048) = true, decide (r < 128) = false]) := by kernel_rfl
      refine tr_run Γnil_ok Δnil_ok hrun ⟨hl 2 (by omega), by simp [h2], by simp [h1], trivial⟩ ⟨.own 0, by kernel_rfl, 0, rfl, ?_⟩
      rw [putB, if_neg h1, if_pos h2]; rfl
    · by_cases h3 : r < 65536
      · have hrun : rT Γnil Δnil (bodyOf Try.f145) (startSt Try.f145 [.own 0, .i32 r] [some (.row 5 1 X)] 0) [.br false, .br false, .br true, .ok] [4] [] 2 = some (.ret, sp 67 [(4, .own 0)], [some (.row 5 1 (X ++ [bF (u8or 224 (IntKind.u8.wrap (shR r 12))), bF (lo6 (shR r 6)), bF (lo6 r)])), some (.row 5 1 [])],
          [(X.length + 3) * szB 5 ≤ 140737488355328 ∧ X.length + 3 ≤ 140737488355328, decide (r < 65536) = true, decide (r < 2048) = false, decide (r < 128) = false]) := by kernel_rfl
        refine tr_run Γnil_ok Δnil_ok hrun ⟨hl 3 (by omega), by simp [h3], by simp [h2], by simp [h1], trivial⟩ ⟨.own 0, by kernel_rfl, 0, rfl, ?_⟩
        rw [putB, if_neg h1, if_neg h2, if_pos h3]; rfl
      · have hrun : rT Γnil Δnil (bodyOf Try.f145) (startSt Try.f145 [.own 0, .i32 r] [some (.row 5 1 X)] 0) [.br false, .br false, .br false, .ok] [4] [] 2 = some (.ret, sp 67 [(4, .own 0)], [some (.row 5 1 (X ++ [bF (u8or 240 (IntKind.u8.wrap (shR r 18))), bF (lo6 (shR r 12)), bF (lo6 (shR r 6)), bF (lo6 r)])), some (.row 5 1 [])],
          [(X.length + 4) * szB 5 ≤ 140737488355328 ∧ X.length + 4 ≤ 140737488355328, decide (r < 65536) = false, decide (r < 2048) = false, decide (r < 128) = false]) := by kernel_rfl
        refine tr_run Γnil_ok Δnil_ok hrun ⟨hl 4 (by omega), by simp [h3], by simp [h2], by simp [h1], trivial⟩ ⟨.own 0, by kernel_rfl, 0, rfl, ?_⟩
        rw [putB, if_neg h1, if_neg h2, if_neg h3]; rfl

/-! ### runes as a text -/
def runeOf : List FV → Int
  | [.sc (.int .i32 r)] => r
  | _ => 0
def RunesOK (X : List (List FV)) : Prop := (∀ x ∈ X, ∃ r, x = [.i32 r] ∧ isR r) ∧ X.length ≤ 1000
def rowT (X : List (List FV)) : List (List FV) := X.flatMap fun x => putB (runeOf x)
theorem rowT_length : ∀ X : List (List FV), (rowT X).length ≤ X.length * 4
  | [] => by simp [rowT]
  | x :: r => by
    have := rowT_length r
    have := putB_length (runeOf x)
    simp only [rowT, List.flatMap_cons, List.length_append, List.length_cons] at *
    omega
theorem bytesF_cons (x : List FV) (X : List (List FV)) : (bytesF (x :: X)).isSome = true ↔ (∃ n, x = bF n) ∧ (bytesF X).isSome = true := by
  constructor
  · intro h
    unfold bytesF at h
    split at h
    · rename_i heq; cases heq
    · rename_i n r heq
      simp only [List.cons.injEq] at heq
      obtain ⟨rfl, rfl⟩ := heq
      split at h
      · rename_i l hl
        exact ⟨⟨n, rfl⟩, by rw [hl]; rfl⟩
      · cases h
    · cases h
  · rintro ⟨⟨n, rfl⟩, h⟩
    obtain ⟨l, hl⟩ := Option.isSome_iff_exists.1 h
    simp [bytesF, hl]
theorem bytesF_append : ∀ {X Y : List (List FV)}, (bytesF X).isSome = true → (bytesF Y).isSome = true → (bytesF (X ++ Y)).isSome = true
  | [], Y, _, h => h
  | x :: X, Y, h1, h2 => by
    rw [List.cons_append, bytesF_cons]
    rw [bytesF_cons] at h1
    exact ⟨h1.1, bytesF_append h1.2 h2⟩
theorem rowT_bytes : ∀ X : List (List FV), (bytesF (rowT X)).isSome = true
  | [] => rfl
  | x :: r => by
    have := rowT_bytes r
    simp only [rowT, List.flatMap_cons] at *
    exact bytesF_append (putB_bytes _) this

def Γr : PureT := fun f xs => match f, xs with
  | 144, [.fz (.sc (.int .i32 r))] => some (.boo true, true, [isR r])
  | _, _ => none
theorem Γr_ok : PureOK Try.prog Γr := by
  intro f xs r fresh c hg hc
  unfold Γr at hg
  split at hg
  · cases hg; exact c144 _ hc.1
  · cases hg
def Δr : HeapT := fun f l H => match f, l, H with
  | 145, [.own 0, .fz (.sc (.int .i32 r))], [some (.row 5 1 X)] => some (.own 1, [none, some (.row 5 1 (X ++ putB r))], [X.length ≤ 1000000])
  | _, _, _ => none
theorem Δr_ok : HeapOK Try.prog Δr := by
  intro f l H r H' c h hc
  unfold Δr at h
  split at h
  · cases h
    exact heapAt_row1 (put_tr _ _ hc.1) (H := [some (.row 5 1 _)]) (b := 0) rfl
  · cases h

noncomputable abbrev L116 : Code := post 2 (bodyOf Try.f116)
noncomputable abbrev B116 : Code := cb (cb (cr (cl L116)))
abbrev S116 (X out : List (List FV)) (i : Int) : St := stOf (sp 26 [(0, .fz (.sl 1 X)), (4, .own 0), (5, .int i)]) [some (.row 5 1 out)] 0
theorem rowT_succ {X : List (List FV)} {i : Nat} {r : Int} (h : X[i]? = some [.i32 r]) : rowT (X.take (i + 1)) = rowT (X.take i) ++ putB r := by
  rw [List.take_add_one, h]
  simp [rowT, runeOf]
theorem step1 {i : Nat} (h : i ≤ 1000000) : IntKind.i64.wrap ((i : Int) + 1) = ((i + 1 : Nat) : Int) := by rw [IntWalk.i64_in _ (by omega)]; omega

set_option maxRecDepth 100000 in
theorem of_tr (X : List (List FV)) (h : RunesOK X) : FunTr Try.prog 116 [.fz (.sl 1 X)] [] 0 (fun r1 H1 => snapR H1 r1 = some (.tup [.str (bytesS (rowT X)), .int 0])) := by
  obtain ⟨hr, hl⟩ := h
  refine fun_of_tr Try.func116 (c := bodyOf Try.f116) (by kernel_rfl) (Nat.le_refl _) ?_
  refine tr_pre Γr_ok Δr_ok 2 (hs := []) (ks := [0, 4]) (kills := []) (N := 1) (ts := sp 26 [(0, .fz (.sl 1 X)), (4, .own 0)]) (H := [some (.row 5 1 [])]) (cs := []) (by kernel_rfl) trivial ?_
  refine Tr.rangeAt (fun (i : Nat) t => t = S116 X (rowT (X.take i)) i ∧ i ≤ X.length) (fun i => X.length - i) (fun t => t = S116 X (rowT X) X.length) (id := 0) (A := cl (cl L116)) (B := B116) (C := cr L116) (by kernel_rfl)
    (tr_run Γr_ok Δr_ok (hs := []) (ks := [0, 4, 5]) (kills := []) (N := 1) (e := .normal) (ts := (S116 X [] 0).tmps) (H := [some (.row 5 1 [])]) (cs := []) (by kernel_rfl) trivial ⟨rfl, 0, rfl, Nat.zero_le _⟩) ?_ ?_
  · rintro i t ⟨rfl, hi⟩
    by_cases hlt : i < X.length
    · have hx : X[i]? = some X[i] := List.getElem?_eq_getElem hlt
      obtain ⟨r, hxr, hir⟩ := hr _ (List.getElem_mem hlt)
      rw [hxr] at hx
      have hs := rowT_succ hx
      have hol : (rowT (X.take i)).length ≤ 1000000 := by
        have := rowT_length (X.take i)
        simp only [List.length_take] at this
        omega
      generalize rowT (X.take i) = out at hs hol
      have hc : 0 ≤ (i : Int) ∧ X[(i : Int).toNat]? = some [.i32 r] := ⟨by omega, by rw [Int.toNat_natCast]; exact hx⟩
      have hrun : rT Γr Δr B116 (S116 X out i) [.br true, .el [.i32 r], .el [.i32 r]] [0, 4, 5] [] 2 = some (.normal, sp 26 [(0, .fz (.sl 1 X)), (4, .own 1), (5, .int (IntKind.i64.wrap ((i : Int) + 1)))], [none, some (.row 5 1 (out ++ putB r))],
        [out.length ≤ 1000000, 0 ≤ (i : Int) ∧ X[(i : Int).toNat]? = some [.i32 r], isR r, 0 ≤ (i : Int) ∧ X[(i : Int).toNat]? = some [.i32 r], decide ((i : Int) < (X.length : Int)) = true]) := by kernel_rfl
      refine tr_runM Γr_ok Δr_ok (b := 0) (n := 1) (N' := 1) (ts' := (S116 X (out ++ putB r) (IntKind.i64.wrap ((i : Int) + 1))).tmps) (H' := [some (.row 5 1 (out ++ putB r))]) hrun ⟨hol, hc, hir, hc, by simp; omega, trivial⟩ (by kernel_rfl) ⟨i + 1, ⟨?_, by omega⟩, by show X.length - (i + 1) < X.length - i; omega⟩
      rw [step1 (by omega), hs]
      rfl
    · have hil : i = X.length := by omega
      subst hil
      rw [List.take_length]
      generalize rowT X = out
      have hrun : rT Γr Δr B116 (S116 X out X.length) [.br false] [0, 4, 5] [] 1 = some (.exit 0, (S116 X out X.length).tmps, [some (.row 5 1 out)], [decide ((X.length : Int) < (X.length : Int)) = false]) := by kernel_rfl
      exact tr_run Γr_ok Δr_ok hrun ⟨by simp, trivial⟩ ⟨rfl, rfl⟩
  · rintro t rfl _
    have hb := rowT_bytes X
    generalize rowT X = out at hb
    have hrun : rT Γr Δr (cr L116) (S116 X out X.length) [.cut] [2, 3] [] 1 = some (.ret, sp 26 [(2, .str (bytesS out)), (3, .int 0)], [some (.row 5 1 out)], [(bytesF out).isSome = true]) := by kernel_rfl
    exact tr_run Γr_ok Δr_ok hrun ⟨hb, trivial⟩ ⟨.tup [.str (bytesS out), .int 0], by kernel_rfl, by show snapR _ _ = _; kernel_rfl⟩
theorem c116 (X : List (List FV)) (h : RunesOK X) : PureAt Try.prog 116 [.fz (.sl 1 X)] (.tup [.str (bytesS (rowT X)), .int 0]) true := PureAt.scalarA rfl (pureAt_of_fun (of_tr X h))

/-! ### numbers as a text -/
def someR : List Int := [97, 98, 42, 34, 92, 10, 9, 1, 31, 127, 128, 233, 2047, 2048, 8364, 55295, 57344, 65533, 65535, 65536, 128512, 1114111]
abbrev intF (n : Int) : List FV := [.int n]
def pickR (x : Int) : Int := someR.getD (x % 22).toNat 0
def runesN (l : List Int) : List (List FV) := l.map fun x => [.i32 (pickR x)]
/-- The text that some numbers come to. -/
def ofS (l : List Int) : ByteArray := bytesS (rowT (runesN (l.take 40)))
theorem pickR_ok (x : Int) : isR (pickR x) ∧ someR[(x % 22).toNat]? = some (pickR x) := by
  have h0 := Int.emod_nonneg x (show (22 : Int) ≠ 0 by omega)
  have h1 := Int.emod_lt_of_pos x (show (0 : Int) < 22 by omega)
  have hall : ∀ k, k < 22 → (decide (0 ≤ someR.getD k 0) && decide (someR.getD k 0 ≤ 1114111) && (decide (someR.getD k 0 < 55296) || decide (57343 < someR.getD k 0))) = true ∧ someR[k]? = some (someR.getD k 0) := by decide
  have := hall (x % 22).toNat (by omega)
  unfold pickR isR
  simp only [Bool.and_eq_true, Bool.or_eq_true, decide_eq_true_eq] at this
  exact ⟨⟨this.1.1.1, this.1.1.2, this.1.2⟩, this.2⟩
theorem runesN_ok (l : List Int) (h : l.length ≤ 1000) : RunesOK (runesN l) := by
  refine ⟨fun x hx => ?_, by simpa [runesN] using h⟩
  obtain ⟨y, _, rfl⟩ := List.mem_map.1 hx
  exact ⟨_, rfl, (pickR_ok y).1⟩
def Γo : PureT := fun f xs => match f, xs with
  | 115, [.fz (.sc (.int .i64 a)), .fz (.sc (.int .i64 n))] => some (.int (a % n), true, [0 < n ∧ n ≤ 1000000000000])
  | 116, [.fz (.sl 1 X)] => some (.tup [.str (bytesS (rowT X)), .int 0], true, [RunesOK X])
  | _, _ => none
theorem Γo_ok : PureOK Try.prog Γo := by
  intro f xs r fresh c hg hc
  unfold Γo at hg
  split at hg
  · cases hg; exact c115 _ _ hc.1
  · cases hg; exact c116 _ hc.1
  · cases hg

noncomputable abbrev L74 : Code := post 3 (bodyOf Try.f74)
noncomputable abbrev B74 : Code := cb (cb (cr (cl L74)))
abbrev row22 : List (List FV) := someR.map fun r => [.i32 r]
abbrev S74 (X out : List (List FV)) (i : Int) : St := stOf (sp 38 [(0, .fz (.sl 1 X)), (3, .own 0), (4, .own 1), (5, .int i)]) [some (.row 21 1 row22), some (.row 21 1 out)] 0
theorem runesN_succ {l : List Int} {i : Nat} {x : Int} (h : l[i]? = some x) : runesN (l.take (i + 1)) = runesN (l.take i) ++ [[.i32 (pickR x)]] := by
  rw [List.take_add_one, h]
  simp [runesN]

set_option maxRecDepth 100000 in
theorem texts_tr (l : List Int) : FunTr Try.prog 74 [.fz (.sl 1 (l.map intF))] [] 0 (fun r1 H1 => snapR H1 r1 = some (.str (ofS l))) := by
  have hsz : szB 21 ≤ 10 := by decide +kernel
  have hXl : (l.map intF).length = l.length := by simp
  have hXg : ∀ (i : Nat) x, l[i]? = some x → (l.map intF)[i]? = some [.int x] := fun i x hx => by rw [List.getElem?_map, hx]; rfl
  generalize l.map intF = X at hXl hXg
  refine fun_of_tr Try.func74 (c := bodyOf Try.f74) (by kernel_rfl) (Nat.le_refl _) ?_
  refine tr_pre Γo_ok Δnil_ok 3 (hs := []) (ks := [0, 3, 4]) (kills := []) (N := 2) (ts := sp 38 [(0, .fz (.sl 1 X)), (3, .own 0), (4, .own 1)]) (H := [some (.row 21 1 row22), some (.row 21 1 [])]) (cs := []) (by kernel_rfl) trivial ?_
  refine Tr.rangeAt (fun (i : Nat) t => t = S74 X (runesN (l.take i)) i ∧ i ≤ min l.length 40) (fun i => min l.length 40 - i) (fun t => ∃ i, t = S74 X (runesN (l.take 40)) i) (id := 0) (A := cl (cl L74)) (B := B74) (C := cr L74) (by kernel_rfl)
    (tr_run Γo_ok Δnil_ok (hs := []) (ks := [0, 3, 4, 5]) (kills := []) (N := 2) (e := .normal) (ts := (S74 X [] 0).tmps) (H := [some (.row 21 1 row22), some (.row 21 1 [])]) (cs := []) (by kernel_rfl) trivial ⟨rfl, 0, rfl, Nat.zero_le _⟩) ?_ ?_
  · rintro i t ⟨rfl, hi⟩
    by_cases hlt : i < l.length
    · have hd : decide ((i : Int) < (X.length : Int)) = true := by rw [decide_eq_true_iff]; omega
      by_cases h40 : i < 40
      · have hx : l[i]? = some l[i] := List.getElem?_eq_getElem hlt
        generalize l[i] = x at hx
        have hs := runesN_succ hx
        have hol : (runesN (l.take i)).length ≤ 40 := by simp [runesN]; omega
        obtain ⟨_, hp⟩ := pickR_ok x
        have h0 := Int.emod_nonneg x (show (22 : Int) ≠ 0 by omega)
        have h1 := Int.emod_lt_of_pos x (show (0 : Int) < 22 by omega)
        generalize runesN (l.take i) = out at hs hol
        have hrun : rT Γo Δnil B74 (S74 X out i) [.is .lss (.bool true), .is .lss (.bool true), .el [.int x], .ok, .el [.i32 (pickR x)], .ok] [0, 3, 4, 5] [] 2 = some (.normal, (S74 X (out ++ [[.i32 (pickR x)]]) (IntKind.i64.wrap ((i : Int) + 1))).tmps, [some (.row 21 1 row22), some (.row 21 1 (out ++ [[.i32 (pickR x)]]))],
          [(out.length + 1) * szB 21 ≤ 140737488355328 ∧ out.length + 1 ≤ 140737488355328, row22[(x % (row22.length : Int)).toNat]? = some [.i32 (pickR x)], 0 ≤ x % (row22.length : Int) ∧ x % (row22.length : Int) < (row22.length : Int), 0 < (row22.length : Int) ∧ (row22.length : Int) ≤ 1000000000000,
            0 ≤ (i : Int) ∧ X[(i : Int).toNat]? = some [.int x], Value.bool (decide ((i : Int) < 40)) = .bool true, Value.bool (decide ((i : Int) < (X.length : Int))) = .bool true]) := by kernel_rfl
        refine tr_run Γo_ok Δnil_ok hrun ⟨?_, ?_, ⟨h0, h1⟩, by decide, ⟨by omega, by rw [Int.toNat_natCast]; exact hXg i x hx⟩, by simp; omega, by rw [hd], trivial⟩ ⟨i + 1, ⟨?_, by omega⟩, by show min l.length 40 - (i + 1) < min l.length 40 - i; omega⟩
        · have := Nat.mul_le_mul (show out.length + 1 ≤ 41 by omega) hsz
          omega
        · show (someR.map fun r => [FV.i32 r])[(x % 22).toNat]? = _
          rw [List.getElem?_map, hp]
          rfl
        · rw [step1 (by omega), hs]
          rfl
      · have hi40 : i = 40 := by omega
        subst hi40
        generalize runesN (l.take 40) = out
        have hrun : rT Γo Δnil B74 (S74 X out (40 : Nat)) [.is .lss (.bool true), .is .lss (.bool false)] [0, 3, 4, 5] [] 2 = some (.exit 0, (S74 X out (40 : Nat)).tmps, [some (.row 21 1 row22), some (.row 21 1 out)], [Value.bool (decide (((40 : Nat) : Int) < 40)) = .bool false, Value.bool (decide (((40 : Nat) : Int) < (X.length : Int))) = .bool true]) := by kernel_rfl
        exact tr_run Γo_ok Δnil_ok hrun ⟨by simp, by rw [hd], trivial⟩ ⟨rfl, _, rfl⟩
    · have hil : i = l.length := by omega
      have hd : decide ((i : Int) < (X.length : Int)) = false := by rw [decide_eq_false_iff_not]; omega
      have ht : l.take i = l.take 40 := by rw [hil, List.take_length, List.take_of_length_le (by omega)]
      rw [ht]
      generalize runesN (l.take 40) = out
      have hrun : rT Γo Δnil B74 (S74 X out i) [.is .lss (.bool false)] [0, 3, 4, 5] [] 2 = some (.exit 0, (S74 X out i).tmps, [some (.row 21 1 row22), some (.row 21 1 out)], [Value.bool (decide ((i : Int) < (X.length : Int))) = .bool false]) := by kernel_rfl
      exact tr_run Γo_ok Δnil_ok hrun ⟨by rw [hd], trivial⟩ ⟨rfl, _, rfl⟩
  · rintro t ⟨i, rfl⟩ _
    have hok := runesN_ok (l.take 40) (by simp; omega)
    unfold ofS
    generalize runesN (l.take 40) = out at hok
    have hrun : rT Γo Δnil (cr L74) (S74 X out i) [] [2] [] 2 = some (.ret, sp 38 [(2, .str (bytesS (rowT out)))], [some (.row 21 1 row22), some (.row 21 1 out)], [RunesOK out]) := by kernel_rfl
    exact tr_run Γo_ok Δnil_ok hrun ⟨hok, trivial⟩ ⟨.str (bytesS (rowT out)), by kernel_rfl, by show snapR _ _ = _; kernel_rfl⟩
theorem c74 (l : List Int) : PureAt Try.prog 74 [.fz (.sl 1 (l.map intF))] (.str (ofS l)) true := PureAt.scalar (pureAt_of_fun (texts_tr l))

/-! ### a text of at most thirty runes -/
def intOf : List FV → Int
  | [.sc (.int .i64 n)] => n
  | _ => 0
def IntRow (X : List (List FV)) : Prop := ∃ l : List Int, X = l.map intF
theorem intOf_map (l : List Int) : (l.map intF).map intOf = l := by
  rw [List.map_map]
  have : (intOf ∘ intF) = id := by funext n; rfl
  rw [this, List.map_id]
def Γs : PureT := fun f xs => match f, xs with
  | 74, [.fz (.sl 1 X)] => some (.str (ofS (X.map intOf)), true, [IntRow X])
  | _, _ => none
theorem Γs_ok : PureOK Try.prog Γs := by
  intro f xs r fresh c hg hc
  unfold Γs at hg
  split at hg
  · cases hg
    obtain ⟨⟨l, rfl⟩, _⟩ := hc
    rw [intOf_map]
    exact c74 l
  · cases hg
def idS (l : List Int) : ByteArray := if l.length > 30 then ofS (l.take 30) else ofS l
set_option maxRecDepth 100000 in
theorem c95 (l : List Int) : PureAt Try.prog 95 [.fz (.sl 1 (l.map intF))] (.str (idS l)) true := by
  refine PureAt.scalar ?_
  have hXl : (l.map intF).length = l.length := by simp
  have hX : IntRow (l.map intF) := ⟨l, rfl⟩
  have hX2 : IntRow ((l.map intF).take 30) := ⟨l.take 30, by rw [List.map_take]⟩
  have hm := intOf_map l
  have hm2 : ((l.map intF).take 30).map intOf = l.take 30 := by rw [← List.map_take, intOf_map]
  generalize l.map intF = X at hXl hX hX2 hm hm2
  by_cases h : l.length > 30
  · have hrun : callC Γs Δnil 95 [.fz (.sl 1 X)] [.br true, .ok] = some (.str (ofS ((X.take 30).map intOf)), true, [IntRow (X.take 30), 0 ≤ (0 : Int) ∧ (0 : Int) ≤ (30 : Int) ∧ (30 : Int) ≤ (X.length : Int), decide ((X.length : Int) > 30) = true]) := by kernel_rfl
    rw [hm2] at hrun
    unfold idS
    rw [if_pos h]
    exact pure_run Γs_ok Δnil_ok hrun ⟨hX2, by omega, by simp; omega, trivial⟩
  · have hrun : callC Γs Δnil 95 [.fz (.sl 1 X)] [.br false] = some (.str (ofS (X.map intOf)), true, [IntRow X, decide ((X.length : Int) > 30) = false]) := by kernel_rfl
    rw [hm] at hrun
    unfold idS
    rw [if_neg h]
    exact pure_run Γs_ok Δnil_ok hrun ⟨hX, by simp; omega, trivial⟩
end Go.Proofs.Ai
