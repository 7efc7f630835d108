/- Contracts: an entity apart is the same entity; an entity is found among entities. -/
import Derived.Test.YtfjjeijkbhcoaaaAbTwin
set_option linter.unusedVariables false
set_option linter.unusedSimpArgs false
namespace Go.Proofs.Ai
open Go

/-! ### rows copied -/
theorem clone120 (xs : List (List FV)) (hl : xs.length ≤ 1000000) : FunTr Try.prog 120 [.fz (.sl 2 xs)] [] 0 (fun r H => ∃ b, r = .own b ∧ getH H b = some (.row 25 2 xs)) := by
  refine FunTr.bySlice (fun A c hx => fun_of_tr Try.func120 (c := bodyOf Try.f120) (by kernel_rfl) (Nat.le_refl _) ?_) (fun hx => fun_of_tr Try.func120 (c := bodyOf Try.f120) (by kernel_rfl) (Nat.le_refl _) ?_)
  · subst hx
    cases A with
    | none =>
      have h : rT Γnil Δnil (bodyOf Try.f120) (startSt Try.f120 [.fz (.sc (.slice none 0 c))] [] 0) [] [2] [] 2 = some (.ret, sp 8 [(2, .own 1)], [some (.row 25 2 []), some (.row 25 2 [])], []) := by kernel_rfl
      exact tr_run Γnil_ok Δnil_ok h trivial ⟨.own 1, by kernel_rfl, 1, rfl, rfl⟩
    | some a =>
      have h : rT Γnil Δnil (bodyOf Try.f120) (startSt Try.f120 [.fz (.sc (.slice (some a) 0 c))] [] 0) [] [2] [] 2 = some (.ret, sp 8 [(2, .own 1)], [some (.row 25 2 []), some (.row 25 2 [])], []) := by kernel_rfl
      exact tr_run Γnil_ok Δnil_ok h trivial ⟨.own 1, by kernel_rfl, 1, rfl, rfl⟩
  · cases xs with
    | nil => exact absurd rfl hx
    | cons x xs =>
      have h : rT Γnil Δnil (bodyOf Try.f120) (startSt Try.f120 [.fz (.sl 2 (x :: xs))] [] 0) [.ok] [2] [] 2 = some (.ret, sp 8 [(2, .own 1)], [some (.row 25 2 []), some (.row 25 2 (x :: xs))],
        [(([] : List (List FV)).length + (x :: xs).length) * szB 25 ≤ 140737488355328 ∧ ([] : List (List FV)).length + (x :: xs).length ≤ 140737488355328]) := by kernel_rfl
      refine tr_run Γnil_ok Δnil_ok h ⟨⟨?_, ?_⟩, trivial⟩ ⟨.own 1, by kernel_rfl, 1, rfl, rfl⟩
      · have : szB 25 ≤ 1000 := by decide +kernel
        have := Nat.mul_le_mul (show ([] : List (List FV)).length + (x :: xs).length ≤ 1000000 by simpa using hl) this
        omega
      · simp at hl ⊢; omega
theorem clone121 (xs : List (List FV)) (hl : xs.length ≤ 1000000) : FunTr Try.prog 121 [.fz (.sl 4 xs)] [] 0 (fun r H => ∃ b, r = .own b ∧ getH H b = some (.row 29 4 xs)) := by
  refine FunTr.bySlice (fun A c hx => fun_of_tr Try.func121 (c := bodyOf Try.f121) (by kernel_rfl) (Nat.le_refl _) ?_) (fun hx => fun_of_tr Try.func121 (c := bodyOf Try.f121) (by kernel_rfl) (Nat.le_refl _) ?_)
  · subst hx
    cases A with
    | none =>
      have h : rT Γnil Δnil (bodyOf Try.f121) (startSt Try.f121 [.fz (.sc (.slice none 0 c))] [] 0) [] [2] [] 2 = some (.ret, sp 8 [(2, .own 1)], [some (.row 29 4 []), some (.row 29 4 [])], []) := by kernel_rfl
      exact tr_run Γnil_ok Δnil_ok h trivial ⟨.own 1, by kernel_rfl, 1, rfl, rfl⟩
    | some a =>
      have h : rT Γnil Δnil (bodyOf Try.f121) (startSt Try.f121 [.fz (.sc (.slice (some a) 0 c))] [] 0) [] [2] [] 2 = some (.ret, sp 8 [(2, .own 1)], [some (.row 29 4 []), some (.row 29 4 [])], []) := by kernel_rfl
      exact tr_run Γnil_ok Δnil_ok h trivial ⟨.own 1, by kernel_rfl, 1, rfl, rfl⟩
  · cases xs with
    | nil => exact absurd rfl hx
    | cons x xs =>
      have h : rT Γnil Δnil (bodyOf Try.f121) (startSt Try.f121 [.fz (.sl 4 (x :: xs))] [] 0) [.ok] [2] [] 2 = some (.ret, sp 8 [(2, .own 1)], [some (.row 29 4 []), some (.row 29 4 (x :: xs))],
        [(([] : List (List FV)).length + (x :: xs).length) * szB 29 ≤ 140737488355328 ∧ ([] : List (List FV)).length + (x :: xs).length ≤ 140737488355328]) := by kernel_rfl
      refine tr_run Γnil_ok Δnil_ok h ⟨⟨?_, ?_⟩, trivial⟩ ⟨.own 1, by kernel_rfl, 1, rfl, rfl⟩
      · have : szB 29 ≤ 1000 := by decide +kernel
        have := Nat.mul_le_mul (show ([] : List (List FV)).length + (x :: xs).length ≤ 1000000 by simpa using hl) this
        omega
      · simp at hl ⊢; omega
theorem clone123 (xs : List (List FV)) (hl : xs.length ≤ 1000000) : FunTr Try.prog 123 [.fz (.sl 8 xs)] [] 0 (fun r H => ∃ b, r = .own b ∧ getH H b = some (.row 35 8 xs)) := by
  refine FunTr.bySlice (fun A c hx => fun_of_tr Try.func123 (c := bodyOf Try.f123) (by kernel_rfl) (Nat.le_refl _) ?_) (fun hx => fun_of_tr Try.func123 (c := bodyOf Try.f123) (by kernel_rfl) (Nat.le_refl _) ?_)
  · subst hx
    cases A with
    | none =>
      have h : rT Γnil Δnil (bodyOf Try.f123) (startSt Try.f123 [.fz (.sc (.slice none 0 c))] [] 0) [] [2] [] 2 = some (.ret, sp 8 [(2, .own 1)], [some (.row 35 8 []), some (.row 35 8 [])], []) := by kernel_rfl
      exact tr_run Γnil_ok Δnil_ok h trivial ⟨.own 1, by kernel_rfl, 1, rfl, rfl⟩
    | some a =>
      have h : rT Γnil Δnil (bodyOf Try.f123) (startSt Try.f123 [.fz (.sc (.slice (some a) 0 c))] [] 0) [] [2] [] 2 = some (.ret, sp 8 [(2, .own 1)], [some (.row 35 8 []), some (.row 35 8 [])], []) := by kernel_rfl
      exact tr_run Γnil_ok Δnil_ok h trivial ⟨.own 1, by kernel_rfl, 1, rfl, rfl⟩
  · cases xs with
    | nil => exact absurd rfl hx
    | cons x xs =>
      have h : rT Γnil Δnil (bodyOf Try.f123) (startSt Try.f123 [.fz (.sl 8 (x :: xs))] [] 0) [.ok] [2] [] 2 = some (.ret, sp 8 [(2, .own 1)], [some (.row 35 8 []), some (.row 35 8 (x :: xs))],
        [(([] : List (List FV)).length + (x :: xs).length) * szB 35 ≤ 140737488355328 ∧ ([] : List (List FV)).length + (x :: xs).length ≤ 140737488355328]) := by kernel_rfl
      refine tr_run Γnil_ok Δnil_ok h ⟨⟨?_, ?_⟩, trivial⟩ ⟨.own 1, by kernel_rfl, 1, rfl, rfl⟩
      · have : szB 35 ≤ 1000 := by decide +kernel
        have := Nat.mul_le_mul (show ([] : List (List FV)).length + (x :: xs).length ≤ 1000000 by simpa using hl) this
        omega
      · simp at hl ⊢; omega
def Δcl : HeapT := fun f l H => match f, l with
  | 120, [.fz (.sl 2 xs)] => some (.own H.length, H ++ [some (.row 25 2 xs)], [xs.length ≤ 1000000])
  | 121, [.fz (.sl 4 xs)] => some (.own H.length, H ++ [some (.row 29 4 xs)], [xs.length ≤ 1000000])
  | 123, [.fz (.sl 8 xs)] => some (.own H.length, H ++ [some (.row 35 8 xs)], [xs.length ≤ 1000000])
  | _, _ => none
theorem Δcl_ok : HeapOK Try.prog Δcl := by
  intro f l H r H' c h hc
  unfold Δcl at h
  split at h
  · cases h; exact heapAt_push rfl rfl (clone120 _ hc.1)
  · cases h; exact heapAt_push rfl rfl (clone121 _ hc.1)
  · cases h; exact heapAt_push rfl rfl (clone123 _ hc.1)
  · cases h

/-! ### entities -/
structure EntD where
  u : Uid
  ps : List Uid
  ats : List (ByteArray × Val)
abbrev attrF (a : ByteArray × Val) : List FV := .str a.1 :: valF a.2
abbrev entF (e : EntD) : List FV := [.str e.u.1, .str e.u.2, .sl 2 (e.ps.map uidF), .sl 8 (e.ats.map attrF)]
def entOK (e : EntD) : Prop := e.ps.length ≤ 1000000 ∧ e.ats.length ≤ 1000000 ∧ ∀ a ∈ e.ats, valOK a.2
abbrev entV (e : EntD) : AV := .agg ((entF e).map AV.fz)

def Γv : PureT := fun f xs => match f, xs with
  | 118, [.agg cells] => some (.agg cells, false, [∃ v, valOK v ∧ .agg cells = valV v])
  | _, _ => none
theorem Γv_ok : PureOK Try.prog Γv := by
  intro f xs r fresh c hg hc
  unfold Γv at hg
  split at hg
  · cases hg
    obtain ⟨v, hv, e⟩ := hc.1
    rw [e]
    exact c118 v hv
  · cases hg

noncomputable abbrev L83 : Code := post 3 (bodyOf Try.f83)
noncomputable abbrev B83 : Code := cb (cb (cr (cl L83)))
abbrev zeroEnt : List AV := [.str ⟨#[]⟩, .str ⟨#[]⟩, .fz (.sc (.slice none 0 0)), .fz (.sc (.slice none 0 0))]
abbrev H83 (u : Uid) (ps ats : List (List FV)) : AHeap := [some (.var 29 [.str u.1, .str u.2, .own 2, .own 3]), some (.var 29 zeroEnt), some (.row 25 2 ps), some (.row 35 8 ats)]
abbrev S83 (u : Uid) (ps ats : List (List FV)) (i : Int) : St := stOf (sp 31 [(1, .ptr 0 0), (2, .ptr 1 0), (14, .own 3), (15, .int ats.length), (16, .int i)]) (H83 u ps ats) 0

theorem twin_raw (u : Uid) (ps : List (List FV)) (l : List (ByteArray × Val)) (hp : ps.length ≤ 1000000) (hl : l.length ≤ 1000000) (hv : ∀ a ∈ l, valOK a.2) :
    PureAt Try.prog 83 [.agg [.str u.1, .str u.2, .fz (.sl 2 ps), .fz (.sl 8 (l.map attrF))]] (.agg [.str u.1, .str u.2, .fz (.sl 2 ps), .fz (.sl 8 (l.map attrF))]) false := by
  have hlen : (l.map attrF).length = l.length := by simp
  generalize hxs : l.map attrF = xs at hlen
  refine pureAt_of_fun (fun_of_tr Try.func83 (c := bodyOf Try.f83) (by kernel_rfl) (Nat.le_refl _) ?_)
  refine tr_pre Γv_ok Δcl_ok 3 (hs := []) (ks := [1, 2]) (kills := []) (N := 4) (ts := sp 31 [(1, .ptr 0 0), (2, .ptr 1 0)]) (H := H83 u ps xs) (cs := [xs.length ≤ 1000000, ps.length ≤ 1000000]) (by kernel_rfl) ⟨by omega, hp, trivial⟩ ?_
  refine Tr.rangeAt (fun (i : Nat) t => t = S83 u ps xs i ∧ i ≤ l.length) (fun i => l.length - i) (fun t => t = S83 u ps xs l.length) (id := 0) (A := cl (cl L83)) (B := B83) (C := cr L83) (by kernel_rfl)
    (tr_run Γv_ok Δcl_ok (hs := []) (ks := [1, 2, 14, 15, 16]) (kills := []) (N := 4) (e := .normal) (ts := (S83 u ps xs 0).tmps) (H := H83 u ps xs) (cs := []) (by kernel_rfl) trivial ⟨rfl, 0, rfl, Nat.zero_le _⟩) ?_ ?_
  · rintro i t ⟨rfl, hi⟩
    by_cases hlt : i < l.length
    · obtain ⟨a, ha⟩ : ∃ a, l[i]? = some a := ⟨l[i], List.getElem?_eq_getElem hlt⟩
      have hx : xs[i]? = some (attrF a) := by rw [← hxs, List.getElem?_map, ha]; rfl
      have hva := hv a (List.mem_of_getElem? ha)
      obtain ⟨nm, v⟩ := a
      cases v with | mk k' b' n' s' u' l' =>
      have hrun : rT Γv Δcl B83 (S83 u ps xs i) [.br true, .ok, .el (attrF (nm, .mk k' b' n' s' u' l')), .ok, .el (attrF (nm, .mk k' b' n' s' u' l'))] [1, 2, 14, 15, 16] [] 4 =
          some (.normal, sp 31 [(1, .ptr 0 0), (2, .ptr 1 0), (14, .own 3), (15, .int xs.length), (16, .int (IntKind.i64.wrap ((i : Int) + 1)))],
            H83 u ps (xs.set (i : Int).toNat (attrF (nm, .mk k' b' n' s' u' l'))),
            [xs[(i : Int).toNat]? = some (attrF (nm, .mk k' b' n' s' u' l')), 0 ≤ (i : Int) ∧ (i : Int) < (xs.length : Int), ∃ v, valOK v ∧ valV (.mk k' b' n' s' u' l') = valV v,
              xs[(i : Int).toNat]? = some (attrF (nm, .mk k' b' n' s' u' l')), 0 ≤ (i : Int) ∧ (i : Int) < (xs.length : Int), decide ((i : Int) < (xs.length : Int)) = true]) := by kernel_rfl
      refine tr_run Γv_ok Δcl_ok hrun ⟨by simpa using hx, ⟨by omega, by omega⟩, ⟨_, hva, rfl⟩, by simpa using hx, ⟨by omega, by omega⟩, by simp; omega, trivial⟩ ?_
      rw [Int.toNat_natCast, set_self hx, IntWalk.i64_in _ (by omega)]
      exact ⟨i + 1, ⟨rfl, by omega⟩, by show l.length - (i + 1) < l.length - i; omega⟩
    · have hil : i = l.length := by omega
      subst hil
      have hrun : rT Γv Δcl B83 (S83 u ps xs l.length) [.br false] [1, 2, 14, 15, 16] [] 4 =
          some (.exit 0, (S83 u ps xs l.length).tmps, H83 u ps xs, [decide ((l.length : Int) < (xs.length : Int)) = false]) := by kernel_rfl
      exact tr_run Γv_ok Δcl_ok hrun ⟨by simp; omega, trivial⟩ ⟨rfl, rfl⟩
  · rintro t rfl _
    have hrun : rT Γv Δcl (cr L83) (S83 u ps xs l.length) [] [2] [] 4 = some (.ret, sp 31 [(2, .ptr 1 0)],
        [some (.var 29 [.str u.1, .str u.2, .own 2, .own 3]), some (.var 29 [.str u.1, .str u.2, .own 2, .own 3]), some (.row 25 2 ps), some (.row 35 8 xs)], []) := by kernel_rfl
    exact tr_run Γv_ok Δcl_ok hrun trivial ⟨.agg [.str u.1, .str u.2, .own 2, .own 3], by kernel_rfl, by show snapR _ _ = _; kernel_rfl⟩
theorem c83 (e : EntD) (h : entOK e) : PureAt Try.prog 83 [entV e] (entV e) false := twin_raw e.u (e.ps.map uidF) e.ats (by simpa using h.1) h.2.1 h.2.2
end Go.Proofs.Ai
