/- The abstract machine, 22: a call that may write into some rows alone; its result, a row, is theirs from now on. -/
import Derived.Test.YtfjjeijkbhcoaaaBiTr
set_option linter.unusedVariables false
set_option linter.unusedSimpArgs false
namespace Go.Proofs.Ai
open Go

def deadAll : AHeap → List Nat → AHeap
  | H, [] => H
  | H, b :: r => deadAll (setH H b none) r
theorem deadAll_length : ∀ (bs : List Nat) (H : AHeap), (deadAll H bs).length = H.length
  | [], H => rfl
  | b :: r, H => by simp only [deadAll]; rw [deadAll_length r, length_setH]
theorem getH_dead (H : AHeap) (b c : Nat) : getH (setH H b none) c = if c = b then none else getH H c := by
  by_cases hc : c = b
  · subst hc
    rw [if_pos rfl]
    rcases Nat.lt_or_ge c H.length with h | h
    · exact getH_setH_self h
    · cases h' : getH (setH H c none) c with
      | none => rfl
      | some B => have := getH_lt h'; rw [length_setH] at this; omega
  · rw [if_neg hc, getH_setH_ne hc]
theorem deadAll_get : ∀ (bs : List Nat) (H : AHeap) (c : Nat), getH (deadAll H bs) c = if c ∈ bs then none else getH H c
  | [], H, c => by simp [deadAll]
  | b :: r, H, c => by
    simp only [deadAll]
    rw [deadAll_get r, getH_dead]
    by_cases h1 : c ∈ r
    · simp [h1]
    · by_cases h2 : c = b <;> simp [h1, h2]

/-- The named rows alone. -/
def pickH (H : AHeap) (bs : List Nat) : AHeap := bs.map (getH H)
def pickV (μ : Nat → Value) (bs : List Nat) : Nat → Value := fun i => μ (bs.getD i 0)
theorem pickH_get {H : AHeap} {bs : List Nat} {i : Nat} {B : Blk} (h : getH (pickH H bs) i = some B) : ∃ b, bs[i]? = some b ∧ getH H b = some B := by
  unfold pickH at h
  rw [getH_eq, List.getElem?_map] at h
  cases hb : bs[i]? with
  | none => rw [hb] at h; cases h
  | some b => rw [hb] at h; exact ⟨b, rfl, h⟩

section
variable {X : Nat → Prop} {μ : Nat → Value} {H : AHeap} {w w' : World} {bs : List Nat}

theorem pick_taken {k : Nat} (h : Taken (pickV μ bs) (pickH H bs) k) : ∃ b ∈ bs, ∃ B, getH H b = some B ∧ blkOf (μ b) = some k := by
  obtain ⟨i, B, hi, e⟩ := h
  obtain ⟨b, hb, hB⟩ := pickH_get hi
  exact ⟨b, List.mem_of_getElem? hb, B, hB, by simpa [pickV, List.getD_eq_getElem?_getD, hb] using e⟩
theorem pick_fz (h : Rel X μ H w) {k : Nat} (hk : Fz X μ H w k) : Fz (shut X μ H bs) (pickV μ bs) (pickH H bs) w k := by
  refine ⟨hk.1, ?_, ?_⟩
  · rintro (hX | ⟨b, B, hb, e, _⟩)
    · exact hk.2.1 hX
    · exact hk.2.2 ⟨b, B, hb, e⟩
  · intro ht
    obtain ⟨b, _, B, hb, e⟩ := pick_taken ht
    exact hk.2.2 ⟨b, B, hb, e⟩
theorem Rel.pick (h : Rel X μ H w) (hnd : bs.Nodup) (hrow : ∀ b ∈ bs, ∃ ty sz els, getH H b = some (.row ty sz els)) : Rel (shut X μ H bs) (pickV μ bs) (pickH H bs) w := by
  have hv : ∀ {i b : Nat}, bs[i]? = some b → pickV μ bs i = μ b := fun hb => by simp [pickV, List.getD_eq_getElem?_getD, hb]
  refine ⟨fun k hk => shut_lt h hk, fun i B k hi e => ?_, fun i j B B' k hi hj e e' => ?_, fun i B hi => ?_⟩
  · obtain ⟨b, hb, hB⟩ := pickH_get hi
    rw [hv hb] at e
    rintro (hX | ⟨b', B', hb', e', hn⟩)
    · exact h.notX b B k hB e hX
    · have := h.dis b b' _ _ k hB hb' e e'
      subst this
      exact hn (List.mem_of_getElem? hb)
  · obtain ⟨b, hb, hB⟩ := pickH_get hi
    obtain ⟨b', hb', hB'⟩ := pickH_get hj
    rw [hv hb] at e
    rw [hv hb'] at e'
    have := h.dis b b' _ _ k hB hB' e e'
    subst this
    have h1 : i < bs.length := (List.getElem?_eq_some_iff.1 hb).1
    exact (List.getElem?_inj h1 hnd).1 (hb.trans hb'.symm)
  · obtain ⟨b, hb, hB⟩ := pickH_get hi
    obtain ⟨ty, sz, els, hr⟩ := hrow b (List.mem_of_getElem? hb)
    rw [hB] at hr
    cases hr
    obtain ⟨q1, q2, vals, q3, q4⟩ := h.blk b _ hB
    exact ⟨q1, q2, vals, by rw [hv hb]; exact q3, fun i j x f hx hf => (q4 i j x f hx hf).okIff (fun k hk => pick_fz h hk)⟩

/-- Back from such a call. -/
theorem Rel.unpick (h : Rel X μ H w) {μ' : Nat → Value} {Hs : AHeap} (hR : Rel (shut X μ H bs) μ' Hs w') (hK : Keep 0 (pickV μ bs) (pickH H bs) w μ' Hs w') {j : Nat} {ty sz : Nat} {els : List (List FV)} (hj : getH Hs j = some (.row ty sz els)) :
    Rel X (upd μ H.length (μ' j)) (deadAll H bs ++ [some (.row ty sz els)]) w' ∧ Keep H.length μ H w (upd μ H.length (μ' j)) (deadAll H bs ++ [some (.row ty sz els)]) w' ∧
      Rep (upd μ H.length (μ' j)) (deadAll H bs ++ [some (.row ty sz els)]) w' (Fz X (upd μ H.length (μ' j)) (deadAll H bs ++ [some (.row ty sz els)]) w') (.own H.length) (μ' j) := by
  have hlen := deadAll_length bs H
  have hget : ∀ {c : Nat} {B : Blk}, getH (deadAll H bs ++ [some (.row ty sz els)]) c = some B → (c < H.length ∧ c ∉ bs ∧ getH H c = some B) ∨ (c = H.length ∧ B = .row ty sz els) := by
    intro c B hc
    rcases getH_push hc with ⟨hlt, hc'⟩ | ⟨rfl, rfl⟩
    · rw [deadAll_get] at hc'
      split at hc'
      · cases hc'
      · rename_i hn; exact .inl ⟨by omega, hn, hc'⟩
    · exact .inr ⟨hlen, rfl⟩
  have hself : getH (deadAll H bs ++ [some (.row ty sz els)]) H.length = some (.row ty sz els) := by
    have := getH_last (deadAll H bs) (.row ty sz els); rwa [hlen] at this
  -- the others' memory
  have hoth : ∀ {b : Nat} {B : Blk} {k : Nat}, b ∉ bs → getH H b = some B → blkOf (μ b) = some k → ¬ Taken (pickV μ bs) (pickH H bs) k := by
    intro b B k hb hB e ht
    obtain ⟨b', hm, B', hB', e'⟩ := pick_taken ht
    have := h.dis b b' _ _ k hB hB' e e'
    subst this
    exact hb hm
  have hfree : ∀ {k : Nat}, k < w.heap.size → ¬ Taken μ H k → ¬ Taken (pickV μ bs) (pickH H bs) k := by
    intro k hk hn ht
    obtain ⟨b', hm, B', hB', e'⟩ := pick_taken ht
    exact hn ⟨b', B', hB', e'⟩
  have hnew : ∀ {k : Nat}, blkOf (μ' j) = some k → Taken μ' Hs k := fun e => ⟨j, _, hj, e⟩
  have hfz : ∀ k, Fz X μ H w k → Fz X (upd μ H.length (μ' j)) (deadAll H bs ++ [some (.row ty sz els)]) w' k ∧ w'.heap[k]? = w.heap[k]? := by
    intro k hk
    have h1 := hfree hk.1 hk.2.2
    refine ⟨⟨Nat.lt_of_lt_of_le hk.1 hK.size, hk.2.1, ?_⟩, hK.heap k hk.1 h1⟩
    rintro ⟨c, B, hc, e⟩
    rcases hget hc with ⟨hlt, hn, hc'⟩ | ⟨rfl, _⟩
    · rw [upd_ne (by omega)] at e
      exact hk.2.2 ⟨c, B, hc', e⟩
    · rw [upd_self] at e
      exact hK.free k hk.1 h1 (hnew e)
  have hold : ∀ c B', c < H.length → getH (deadAll H bs ++ [some (.row ty sz els)]) c = some B' → upd μ H.length (μ' j) c = μ c ∧ ∃ B, getH H c = some B ∧ sameKind B B' := by
    intro c B' hc hg
    rcases hget hg with ⟨_, _, hc'⟩ | ⟨rfl, _⟩
    · exact ⟨upd_ne (by omega), B', hc', sameKind.refl _⟩
    · omega
  have hrep : ∀ x v, Rep μ H w (Fz X μ H w) x v → Rep (upd μ H.length (μ' j)) (deadAll H bs ++ [some (.row ty sz els)]) w' (Fz X (upd μ H.length (μ' j)) (deadAll H bs ++ [some (.row ty sz els)]) w') x v :=
    fun x v hx => hx.keep (by simp [hlen]) hold hfz
  have hone : (μ' j).oneCell' = true := (hR.blk j _ hj).one
  refine ⟨⟨fun k hk => Nat.lt_of_lt_of_le (h.xlt k hk) hK.size, fun c B k hc e => ?_, fun c c' B B' k hc hc' e e' => ?_, fun c B hc => ?_⟩, ⟨hK.size, hK.os, hK.tape, hK.output, fun k hk hn => hK.heap k hk (hfree hk hn), fun k hk hn => ?_, by simp [hlen], hold⟩, .own hself (by rw [upd_self]) hone⟩
  · rcases hget hc with ⟨hlt, hn, hc'⟩ | ⟨rfl, _⟩
    · rw [upd_ne (by omega)] at e; exact h.notX c B k hc' e
    · rw [upd_self] at e
      exact fun hX => hR.notX j _ k hj e (.inl hX)
  · rcases hget hc with ⟨hlt, hn, h1⟩ | ⟨rfl, _⟩ <;> rcases hget hc' with ⟨hlt', hn', h2⟩ | ⟨rfl, _⟩
    · rw [upd_ne (by omega)] at e e'; exact h.dis c c' _ _ k h1 h2 e e'
    · rw [upd_ne (by omega)] at e
      rw [upd_self] at e'
      exact absurd (.inr ⟨c, B, h1, e, hn⟩) (hR.notX j _ k hj e')
    · rw [upd_self] at e
      rw [upd_ne (by omega)] at e'
      exact absurd (.inr ⟨c', B', h2, e', hn'⟩) (hR.notX j _ k hj e)
    · rfl
  · rcases hget hc with ⟨hlt, hn, h1⟩ | ⟨rfl, rfl⟩
    · have hB := h.blk c B h1
      have hmv : ∀ k, blkOf (μ c) = some k → w'.heap[k]? = w.heap[k]? := fun k hk => hK.heap k (h.lt h1 hk) (hoth hn h1 hk)
      cases B with
      | var cty cells =>
        obtain ⟨g, cur, q1, q2, q3, q4⟩ := hB
        exact ⟨g, cur, by rw [upd_ne (by omega)]; exact q1, (hmv g (by rw [q1]; rfl)).trans q2, q3, fun i x hx => ⟨hrep _ _ (q4 i x hx).1, (q4 i x hx).2⟩⟩
      | row cty csz cels =>
        obtain ⟨q1, q2, vals, q3, q4⟩ := hB
        exact ⟨q1, q2, vals, by rw [upd_ne (by omega)]; exact ownsRow_move q3 hmv, fun i j x f hx hf => (q4 i j x f hx hf).move hfz⟩
      | obj o => exact BRep.objMove hB (upd_ne (by omega)) hmv
    · obtain ⟨q1, q2, vals, q3, q4⟩ := hR.blk j _ hj
      refine ⟨q1, q2, vals, by rw [upd_self]; exact q3, fun i j' x f hx hf => (q4 i j' x f hx hf).okIff (fun k hk => ⟨hk.1, fun hX => hk.2.1 (.inl hX), ?_⟩)⟩
      rintro ⟨c, B', hc, e⟩
      rcases hget hc with ⟨hlt, hn, h1⟩ | ⟨rfl, _⟩
      · rw [upd_ne (by omega)] at e
        exact hk.2.1 (.inr ⟨c, B', h1, e, hn⟩)
      · rw [upd_self] at e
        exact hk.2.2 (hnew e)
  · rintro ⟨c, B, hc, e⟩
    rcases hget hc with ⟨hlt, hnb, h1⟩ | ⟨rfl, _⟩
    · rw [upd_ne (by omega)] at e
      exact hn ⟨c, B, h1, e⟩
    · rw [upd_self] at e
      exact hK.free k hk (hfree hk hn) (hnew e)
end

theorem own_inv {μ : Nat → Value} {H : AHeap} {w : World} {ok : Nat → Prop} {d t s : Nat} {e : List (List FV)} {v : Value} (hd : getH H d = some (.row t s e)) (h : Rep μ H w ok (.own d) v) : v = μ d ∧ v.oneCell' = true := by
  cases h with
  | own _ hv h1 => exact ⟨hv, h1⟩
  | dead hx _ hn _ => simp [refOf] at hx; subst hx; rw [hd] at hn; cases hn
/-- A call with one own row and a scalar, and an own row for a result. -/
theorem heapAt_row1 {P : Program} {f : FuncId} {v0 : Value} {tb sb ty sz : Nat} {eb els : List (List FV)} (h : FunTr P f [.own 0, .sc v0] [some (.row tb sb eb)] 0 (fun r H' => ∃ j, r = .own j ∧ getH H' j = some (.row ty sz els)))
    {H : AHeap} {b : Nat} (hb : getH H b = some (.row tb sb eb)) : HeapAt P f [.own b, .sc v0] H (.own H.length) (setH H b none ++ [some (.row ty sz els)]) := by
  intro X μ w vs hR hsz hargs
  obtain ⟨e0, o0⟩ := own_inv hb (hargs 0 _ rfl)
  obtain ⟨e1, h1⟩ := rep_sc_inv (hargs 1 _ rfl)
  have hpick := hR.pick (bs := [b]) (by simp) (fun d hd => by simp at hd; subst hd; exact ⟨_, _, _, hb⟩)
  have hp : pickH H [b] = [some (.row tb sb eb)] := by simp [pickH, hb]
  rw [hp] at hpick
  refine (h _ _ w vs hpick hsz (fun i x hx => ?_)).mono (fun e w' he => ?_)
  · match i with
    | 0 => simp at hx; subst hx; exact .own rfl e0 o0
    | 1 => simp at hx; subst hx; rw [e1]; exact rep_sc h1
    | i + 2 => simp at hx
  · cases e with
    | returned v =>
      obtain ⟨r, H', μ', ⟨j, rfl, hj⟩, r1, r2, r3⟩ := he
      obtain ⟨rfl, _⟩ := own_inv hj r3
      rw [← hp] at r2
      obtain ⟨u1, u2, u3⟩ := hR.unpick (bs := [b]) r1 r2 hj
      exact ⟨_, u1, u2, u3⟩
    | panicked c => exact he
    | outgrown => exact he
/-- .. with two own rows and a scalar between them. -/
theorem heapAt_row2 {P : Program} {f : FuncId} {v0 : Value} {tb sb tc sc ty sz : Nat} {eb ec els : List (List FV)} (h : FunTr P f [.own 0, .sc v0, .own 1] [some (.row tb sb eb), some (.row tc sc ec)] 0 (fun r H' => ∃ j, r = .own j ∧ getH H' j = some (.row ty sz els)))
    {H : AHeap} {b c : Nat} (hb : getH H b = some (.row tb sb eb)) (hc : getH H c = some (.row tc sc ec)) (hbc : b ≠ c) : HeapAt P f [.own b, .sc v0, .own c] H (.own H.length) (setH (setH H b none) c none ++ [some (.row ty sz els)]) := by
  intro X μ w vs hR hsz hargs
  obtain ⟨e0, o0⟩ := own_inv hb (hargs 0 _ rfl)
  obtain ⟨e1, h1⟩ := rep_sc_inv (hargs 1 _ rfl)
  obtain ⟨e2, o2⟩ := own_inv hc (hargs 2 _ rfl)
  have hpick := hR.pick (bs := [b, c]) (by simpa using hbc) (fun d hd => by
    simp at hd; rcases hd with rfl | rfl
    · exact ⟨_, _, _, hb⟩
    · exact ⟨_, _, _, hc⟩)
  have hp : pickH H [b, c] = [some (.row tb sb eb), some (.row tc sc ec)] := by simp [pickH, hb, hc]
  rw [hp] at hpick
  refine (h _ _ w vs hpick hsz (fun i x hx => ?_)).mono (fun e w' he => ?_)
  · match i with
    | 0 => simp at hx; subst hx; exact .own rfl e0 o0
    | 1 => simp at hx; subst hx; rw [e1]; exact rep_sc h1
    | 2 => simp at hx; subst hx; exact .own rfl e2 o2
    | i + 3 => simp at hx
  · cases e with
    | returned v =>
      obtain ⟨r, H', μ', ⟨j, rfl, hj⟩, r1, r2, r3⟩ := he
      obtain ⟨rfl, _⟩ := own_inv hj r3
      rw [← hp] at r2
      obtain ⟨u1, u2, u3⟩ := hR.unpick (bs := [b, c]) r1 r2 hj
      exact ⟨_, u1, u2, u3⟩
    | panicked c => exact he
    | outgrown => exact he
/-- A call with two rows and a scalar between them (slices.Insert of one): by a run with these rows alone. -/
theorem rows_call {P : Program} {T : Tab} {call : CallF} (hT : TabOK P T) (hcall : CallOK P call) (hm : P.follows .mixedOrders = true) {n : Nat} {f : FuncId} {H : AHeap} {b c : Nat} {v0 : Value} {hs : List Hint} {tb sb tc sc : Nat} {eb ec : List (List FV)}
    (hb : getH H b = some (.row tb sb eb)) (hc : getH H c = some (.row tc sc ec)) (hbc : b ≠ c) {j : Nat} {s' : St} {ty sz : Nat} {els : List (List FV)}
    (hrun : runBody P T call n f [.own 0, .sc v0, .own 1] [some (.row tb sb eb), some (.row tc sc ec)] 0 hs = some (.own j, s')) (hcond : All s'.cond) (hj : getH s'.heap j = some (.row ty sz els))
    {X : Nat → Prop} {μ : Nat → Value} {w : World} {vs : Array Value} (hR : Rel X μ H w) (hsz : vs.size = 3) (hargs : ∀ (i : Nat) (x : AV), [AV.own b, .sc v0, .own c][i]? = some x → Rep μ H w (Fz X μ H w) x (vs.getD i undef)) :
    Calls P f vs w (onReturn fun v w' => ∃ μ', Rel X μ' (setH (setH H b none) c none ++ [some (.row ty sz els)]) w' ∧ Keep H.length μ H w μ' (setH (setH H b none) c none ++ [some (.row ty sz els)]) w' ∧
      Rep μ' (setH (setH H b none) c none ++ [some (.row ty sz els)]) w' (Fz X μ' (setH (setH H b none) c none ++ [some (.row ty sz els)]) w') (.own H.length) v) := by
  have own : ∀ {d : Nat} {t s : Nat} {e : List (List FV)} {v : Value}, getH H d = some (.row t s e) → Rep μ H w (Fz X μ H w) (.own d) v → v = μ d ∧ v.oneCell' = true := by
    intro d t s e v hd h
    cases h with
    | own _ hv h1 => exact ⟨hv, h1⟩
    | dead hx _ hn _ => simp [refOf] at hx; subst hx; rw [hd] at hn; cases hn
  obtain ⟨e0, o0⟩ := own hb (hargs 0 _ rfl)
  obtain ⟨e1, h1⟩ := rep_sc_inv (hargs 1 _ rfl)
  obtain ⟨e2, o2⟩ := own hc (hargs 2 _ rfl)
  have hpick := hR.pick (bs := [b, c]) (by simpa using hbc) (fun d hd => by
    simp at hd; rcases hd with rfl | rfl
    · exact ⟨_, _, _, hb⟩
    · exact ⟨_, _, _, hc⟩)
  have hp : pickH H [b, c] = [some (.row tb sb eb), some (.row tc sc ec)] := by simp [pickH, hb, hc]
  rw [hp] at hpick
  refine (runBody_ok hT hcall hm (Nat.zero_le _) hrun hcond hpick hsz (fun i x hx => ?_)).mono (fun e w' he => ?_)
  · match i with
    | 0 => simp at hx; subst hx; exact .own rfl e0 o0
    | 1 => simp at hx; subst hx; rw [e1]; exact rep_sc h1
    | 2 => simp at hx; subst hx; exact .own rfl e2 o2
    | i + 3 => simp at hx
  · cases e with
    | returned v =>
      obtain ⟨μ', r1, r2, r3⟩ := he
      have hv : v = μ' j := by
        cases r3 with
        | own _ hv _ => exact hv
        | dead hx _ hn _ => simp [refOf] at hx; subst hx; rw [hj] at hn; cases hn
      subst hv
      rw [← hp] at r2
      obtain ⟨u1, u2, u3⟩ := hR.unpick (bs := [b, c]) r1 r2 hj
      exact ⟨_, u1, u2, u3⟩
    | panicked c => exact he
    | outgrown => exact he
end Go.Proofs.Ai
