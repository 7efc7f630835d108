/- The abstract machine, 10: operations: two operands, conversions. -/
import Derived.Test.YtfjjeijkbhcoaaaBiOps3
import Derived.Laws.BytesArg
set_option linter.unusedVariables false
set_option linter.unusedSimpArgs false
namespace Go.Proofs.Ai
open Go

structure TabOK (P : Program) (T : Tab) : Prop where
  meth : ∀ t m f, T.meth t m = some f → ∀ (x : Value) (w : World), (method (P.types.size + Made.depth) t x m).run P w = .ok (f, x) w
  eql : ∀ t, T.eqs t = true → ∀ (x y : Operand) (a b c d : ByteArray) (w : World), (do eqGuard .eql t x y (.agg #[.string a, .string b]) (.agg #[.string c, .string d]); binOp .eql t (.agg #[.string a, .string b]) (.agg #[.string c, .string d]) : Sem Value).run P w = .ok (.bool (a == c && b == d)) w
  sets : ∀ t, T.sets t = true → ∃ k e fs, P.underlying t = some (.map k e) ∧ P.underlying k = some (.struct fs) ∧ zeroOf P e = some (.bool false) ∧ (∀ q a b (w : World), (Instr.checkKey q 10000 k (.agg #[.string a, .string b])).run P w = .ok () w) ∧
    ∀ a b c d (w : World), (Op.equal k (.agg #[.string a, .string b]) (.agg #[.string c, .string d])).run P w = .ok (a == c && b == d) w
  neq : ∀ t, T.eqs t = true → ∀ (x y : Operand) (a b c d : ByteArray) (w : World), (do eqGuard .neq t x y (.agg #[.string a, .string b]) (.agg #[.string c, .string d]); binOp .neq t (.agg #[.string a, .string b]) (.agg #[.string c, .string d]) : Sem Value).run P w = .ok (.bool !(a == c && b == d)) w

section
variable {X : Nat → Prop} {μ : Nat → Value} {H : AHeap} {w : World} {P : Program} {T : Tab}

theorem rep_ifc_inv {ok : Nat → Prop} {t : TypeId} {x : AV} {u : Value} (h : Rep μ H w ok (.ifc t x) u) : ∃ v, u = .iface t v ∧ Rep μ H w ok x v := by
  cases h with
  | ifc h => exact ⟨_, rfl, h⟩
  | dead hx => simp [refOf] at hx
theorem rep_agg_inv {ok : Nat → Prop} {l : List AV} {u : Value} (h : Rep μ H w ok (.agg l) u) : ∃ vs : Array Value, u = .agg vs ∧ vs.size = l.length ∧ (∀ (i : Nat) (x : AV), l[i]? = some x → Rep μ H w ok x (vs.getD i undef)) ∧ (∀ i, i < vs.size → (vs.getD i undef).oneCell' = true) := by
  cases h with
  | agg hl h h1 => exact ⟨_, rfl, hl, h, h1⟩
  | dead hx => simp [refOf] at hx
theorem rep_pair_inv {ok : Nat → Prop} {a b : ByteArray} {u : Value} (h : Rep μ H w ok (.agg [.fz (.sc (.string a)), .fz (.sc (.string b))]) u) : u = .agg #[.string a, .string b] := by
  obtain ⟨vs, rfl, hl, hv, _⟩ := rep_agg_inv h
  have h0 := (rep_sc_inv (hv 0 _ rfl)).1
  have h1 := (rep_sc_inv (hv 1 _ rfl)).1
  congr 1
  apply Array.ext
  · simpa using hl
  · intro i hi hi'
    match i with
    | 0 => simpa [Array.getD_eq_getD_getElem?, hi] using h0
    | 1 => simpa [Array.getD_eq_getD_getElem?, hi] using h1
    | i + 2 => simp at hi'; omega
theorem toList_getD (vs : Array Value) (i : Nat) : vs.toList.getD i undef = vs.getD i undef := by simp [List.getD_eq_getElem?_getD, Array.getD_eq_getD_getElem?]

theorem sbin_run {op : BinOp} {a b v : Value} (h : sbin op a b = some v) (hb : ∀ p q, ¬ (a = .bool p ∧ b = .bool q)) {t : TypeId} (x y : Operand) : (do eqGuard op t x y a b; binOp op t a b : Sem Value).run P w = .ok v w ∧ v.oneCell' = true := by
  cases a <;> cases b <;> try (simp [sbin] at h; done)
  · exact absurd ⟨rfl, rfl⟩ (hb _ _)
  · rename_i k n k' m
    by_cases hs : op = .shl ∨ op = .shr
    · rcases hs with rfl | rfl
      · simp only [sbin] at h
        split at h
        · rename_i h0
          have h1 : ¬ m < 0 := by omega
          simp at h; subst h
          simp [eqGuard, binOp, Op.shift, h1, Value.oneCell']
        · cases h
      · simp only [sbin] at h
        split at h
        · rename_i h0
          have h1 : ¬ m < 0 := by omega
          simp at h; subst h
          simp [eqGuard, binOp, Op.shift, h1, Value.oneCell']
        · cases h
    · by_cases hk : k = k'
      · subst hk
        cases op <;> simp [sbin] at h hs <;> subst h <;> simp [eqGuard, binOp, Op.intArith, Op.intCmp, Op.intBits, Value.oneCell']
      · cases op <;> simp [sbin, hk] at h hs
  · rename_i s u
    simp only [sbin] at h
    cases op <;> simp at h <;> subst h <;> simp [eqGuard, binOp, Op.stringOp, Value.oneCell']

theorem run_eq_bool {t : TypeId} (ht : P.underlying t = some .bool) (x y : Operand) (p q : Bool) : (do eqGuard .eql t x y (.bool p) (.bool q); binOp .eql t (.bool p) (.bool q) : Sem Value).run P w = .ok (.bool (p == q)) w := by
  have : ∀ d, (Op.equalIn (d + 1) t (.bool p) (.bool q)).run P w = .ok (p == q) w := fun d => by simp [Op.equalIn, run_underlying ht]
  have h2 : (Op.equal t (.bool p) (.bool q)).run P w = .ok (p == q) w := this 9999
  simp [eqGuard, binOp, h2]
theorem run_ne_bool {t : TypeId} (ht : P.underlying t = some .bool) (x y : Operand) (p q : Bool) : (do eqGuard .neq t x y (.bool p) (.bool q); binOp .neq t (.bool p) (.bool q) : Sem Value).run P w = .ok (.bool !(p == q)) w := by
  have : ∀ d, (Op.equalIn (d + 1) t (.bool p) (.bool q)).run P w = .ok (p == q) w := fun d => by simp [Op.equalIn, run_underlying ht]
  have h2 : (Op.equal t (.bool p) (.bool q)).run P w = .ok (p == q) w := this 9999
  simp [eqGuard, binOp, h2]
theorem run_eq_nil {t tt : TypeId} {ms : Array (String × TypeId)} (ht : P.underlying t = some (.interface ms)) (x y : Operand) (v : Value) : (do eqGuard .eql t x y (.iface tt v) .nilIface; binOp .eql t (.iface tt v) .nilIface : Sem Value).run P w = .ok (.bool false) w := by
  have : ∀ d, (Op.equalIn (d + 1) t (.iface tt v) .nilIface).run P w = .ok false w := fun d => by simp [Op.equalIn, run_underlying ht]
  have h2 : (Op.equal t (.iface tt v) .nilIface).run P w = .ok false w := this 9999
  simp [eqGuard, binOp, h2]
theorem run_ne_nil {t tt : TypeId} {ms : Array (String × TypeId)} (ht : P.underlying t = some (.interface ms)) (x y : Operand) (v : Value) : (do eqGuard .neq t x y (.iface tt v) .nilIface; binOp .neq t (.iface tt v) .nilIface : Sem Value).run P w = .ok (.bool true) w := by
  have : ∀ d, (Op.equalIn (d + 1) t (.iface tt v) .nilIface).run P w = .ok false w := fun d => by simp [Op.equalIn, run_underlying ht]
  have h2 : (Op.equal t (.iface tt v) .nilIface).run P w = .ok false w := this 9999
  simp [eqGuard, binOp, h2]

theorem run_eq_nilSlice {t e : TypeId} (ht : P.underlying t = some (.slice e)) (x y : Operand) (A : Option Addr) (n c : Nat) : (do eqGuard .eql t x y (.slice A n c) (.slice none 0 0); binOp .eql t (.slice A n c) (.slice none 0 0) : Sem Value).run P w = .ok (.bool A.isNone) w := by
  have : ∀ d, (Op.equalIn (d + 1) t (.slice A n c) (.slice none 0 0)).run P w = .ok A.isNone w := fun d => by cases A <;> simp [Op.equalIn, run_underlying ht]
  have h2 : (Op.equal t (.slice A n c) (.slice none 0 0)).run P w = .ok A.isNone w := this 9999
  simp [eqGuard, binOp, h2]
theorem run_ne_nilSlice {t e : TypeId} (ht : P.underlying t = some (.slice e)) (x y : Operand) (A : Option Addr) (n c : Nat) : (do eqGuard .neq t x y (.slice A n c) (.slice none 0 0); binOp .neq t (.slice A n c) (.slice none 0 0) : Sem Value).run P w = .ok (.bool !A.isNone) w := by
  have : ∀ d, (Op.equalIn (d + 1) t (.slice A n c) (.slice none 0 0)).run P w = .ok A.isNone w := fun d => by cases A <;> simp [Op.equalIn, run_underlying ht]
  have h2 : (Op.equal t (.slice A n c) (.slice none 0 0)).run P w = .ok A.isNone w := this 9999
  simp [eqGuard, binOp, h2]

theorem nilA_spec (h : Rel X μ H w) {x : AV} {u : Value} (hx : Rep μ H w (Fz X μ H w) x u) {b : Bool} (hl : nilA H x = some b) : ∃ A n c, u = .slice A n c ∧ A.isNone = b := by
  unfold nilA at hl
  split at hl
  · cases hl
    obtain ⟨rfl, _⟩ := rep_sc_inv hx
    exact ⟨_, _, _, rfl, rfl⟩
  · cases hl
    cases hx with
    | fz hf => cases hf with
      | sl U hc hok hsz hcell hrep => exact ⟨_, _, _, rfl, rfl⟩
    | dead hx => simp [refOf] at hx
  · split at hl
    · rename_i hb
      cases hl
      cases hx with
      | own hb' hv h1 =>
        rw [hb] at hb'
        cases hb'
        obtain ⟨_, _, vals, ho, _⟩ := h.blk _ _ hb
        rw [hv]
        rcases ho.2 with ⟨_, hn⟩ | ⟨g, cap, cur, e, _⟩
        · simp at hn
        · rw [e]; exact ⟨_, _, _, rfl, rfl⟩
      | dead hx _ hd _ => simp [refOf] at hx; subst hx; rw [hb] at hd; cases hd
    · cases hl
  · cases hl

theorem valO_inv {hs hs' : List Hint} {y : Option AV} {v : AV} {c : List Prop} (h : valO hs y = .val v hs' c) : y = some v := by
  cases y with
  | none => simp [valO] at h
  | some z => simp [valO] at h; rw [h.1]

theorem bin_ok (h : Rel X μ H w) (hT : TabOK P T) {op : BinOp} {t : TypeId} {hs hs' : List Hint} {x y v : AV} {c : List Prop} {a b : Value} (ox oy : Operand)
    (hx : Rep μ H w (Fz X μ H w) x a) (hy : Rep μ H w (Fz X μ H w) y b) (hl : binA P T H op t hs x y = .val v hs' c) (hc : All c) : ∃ u, (do eqGuard op t ox oy a b; binOp op t a b : Sem Value).run P w = .ok u w ∧ Rep μ H w (Fz X μ H w) v u := by
  unfold binA at hl
  split at hl
  · obtain ⟨rfl, _⟩ := rep_sc_inv hy
    split at hl
    · rename_i e bb ht hn
      simp only [AR.val.injEq] at hl
      obtain ⟨rfl, rfl, rfl⟩ := hl
      obtain ⟨A, n, c, rfl, hA⟩ := nilA_spec h hx hn
      exact ⟨_, run_eq_nilSlice ht ox oy A n c, by rw [hA]; exact rep_sc rfl⟩
    · rename_i e bb ht hn
      simp only [AR.val.injEq] at hl
      obtain ⟨rfl, rfl, rfl⟩ := hl
      obtain ⟨A, n, c, rfl, hA⟩ := nilA_spec h hx hn
      exact ⟨_, run_ne_nilSlice ht ox oy A n c, by rw [hA]; exact rep_sc rfl⟩
    · cases hl
  · rename_i a' b'
    obtain ⟨rfl, hoa⟩ := rep_sc_inv hx
    obtain ⟨rfl, hob⟩ := rep_sc_inv hy
    split at hl
    · rename_i k n k' m
      split at hl
      · rename_i hk
        subst hk
        split at hl
        · rename_i r c0 hchk
          simp only [AR.val.injEq] at hl
          obtain ⟨rfl, rfl, rfl⟩ := hl
          have hm := chk_spec hchk hc
          exact ⟨_, by simp [eqGuard, binOp, Op.intDiv, hm], rep_sc rfl⟩
        · cases hl
      · cases hl
    · rename_i k n k' m
      split at hl
      · rename_i hk
        subst hk
        split at hl
        · rename_i r c0 hchk
          simp only [AR.val.injEq] at hl
          obtain ⟨rfl, rfl, rfl⟩ := hl
          have hm := chk_spec hchk hc
          exact ⟨_, by simp [eqGuard, binOp, Op.intDiv, hm], rep_sc rfl⟩
        · cases hl
      · cases hl
    · rename_i s u
      split at hl
      · rename_i r c0 hchk
        simp only [AR.val.injEq] at hl
        obtain ⟨rfl, rfl, rfl⟩ := hl
        have hm := chk_spec hchk hc
        refine ⟨_, ?_, rep_sc rfl⟩
        have : ¬ (((s.size + u.size : Nat) : Int) > IntKind.i64.max) := by
          have : IntKind.i64.max = 9223372036854775807 := by decide
          rw [this]; omega
        simp only [eqGuard, binOp, Op.stringOp]
        rw [if_neg this]
        simp
      · cases hl
    · rename_i p q
      split at hl
      · rename_i ht
        simp only [AR.val.injEq] at hl
        obtain ⟨rfl, rfl, rfl⟩ := hl
        exact ⟨_, run_eq_bool ht ox oy p q, rep_sc rfl⟩
      · cases hl
    · rename_i p q
      split at hl
      · rename_i ht
        simp only [AR.val.injEq] at hl
        obtain ⟨rfl, rfl, rfl⟩ := hl
        exact ⟨_, run_ne_bool ht ox oy p q, rep_sc rfl⟩
      · cases hl
    · cases hl
    · rename_i h1 h2 h3 h4 h5 h6
      have := valO_inv hl
      obtain ⟨v', hv', rfl⟩ := Option.map_eq_some_iff.1 this
      obtain ⟨hr, ho⟩ := sbin_run (P := P) (w := w) (t := t) hv' (fun p q hpq => by obtain ⟨rfl, rfl⟩ := hpq; first | exact h1 _ _ rfl rfl | exact h2 _ _ rfl rfl | exact h3 _ _ rfl rfl | exact h4 _ _ rfl rfl | exact h5 _ _ rfl rfl | exact h6 _ _ rfl rfl | exact absurd rfl (h1 _ _ rfl) | (simp [sbin] at hv'; done) | (cases op <;> simp_all [sbin])) ox oy
      exact ⟨_, hr, rep_sc ho⟩
  · rename_i l l'
    split at hl
    · rename_i he
      have pair : ∀ {bb : Bool}, eqCells l l' = some bb → ∃ p q r t, a = .agg #[.string p, .string q] ∧ b = .agg #[.string r, .string t] ∧ bb = (p == r && q == t) := by
        intro bb hq
        unfold eqCells at hq
        split at hq
        · cases hq
          exact ⟨_, _, _, _, rep_pair_inv hx, rep_pair_inv hy, rfl⟩
        · cases hq
      split at hl
      · rename_i bb hq
        simp only [AR.val.injEq] at hl
        obtain ⟨rfl, rfl, rfl⟩ := hl
        obtain ⟨p, q, r, t', rfl, rfl, rfl⟩ := pair hq
        exact ⟨_, hT.eql t he ox oy p q r t' w, rep_sc rfl⟩
      · rename_i bb hq
        simp only [AR.val.injEq] at hl
        obtain ⟨rfl, rfl, rfl⟩ := hl
        obtain ⟨p, q, r, t', rfl, rfl, rfl⟩ := pair hq
        exact ⟨_, hT.neq t he ox oy p q r t' w, rep_sc rfl⟩
      · cases hl
    · cases hl
  · obtain ⟨v0, rfl, _⟩ := rep_ifc_inv hx
    obtain ⟨rfl, _⟩ := rep_sc_inv hy
    split at hl
    · rename_i ms ht
      simp only [AR.val.injEq] at hl
      obtain ⟨rfl, rfl, rfl⟩ := hl
      exact ⟨_, run_eq_nil ht ox oy v0, rep_sc rfl⟩
    · rename_i ms ht
      simp only [AR.val.injEq] at hl
      obtain ⟨rfl, rfl, rfl⟩ := hl
      exact ⟨_, run_ne_nil ht ox oy v0, rep_sc rfl⟩
    · cases hl
  · cases hl

/-! ### conversions -/
theorem bytesF_spec : ∀ {els : List (List FV)} {l : List Int}, bytesF els = some l → l.length = els.length ∧ ∀ i, i < els.length → els[i]? = some [.sc (.int .u8 (l.getD i 0))]
  | [], l, h => by simp [bytesF] at h; subst h; simp
  | x :: r, l, h => by
    unfold bytesF at h
    split at h
    · rename_i heq; cases heq
    · rename_i n r' heq
      simp only [List.cons.injEq] at heq
      obtain ⟨rfl, rfl⟩ := heq
      split at h
      · rename_i l' hl'
        cases h
        obtain ⟨h1, h2⟩ := bytesF_spec hl'
        refine ⟨by simp [h1], fun i hi => ?_⟩
        cases i with
        | zero => rfl
        | succ i => simpa using h2 i (by simpa using hi)
      · cases h
    · cases h

theorem conv_ok (h : Rel X μ H w) {src dst : TypeId} {hs hs' : List Hint} {x v : AV} {c : List Prop} {a : Value} (hx : Rep μ H w (Fz X μ H w) x a) (hl : convA P H src dst hs x = .val v hs' c) : ∃ u, (convert src dst a).run P w = .ok u w ∧ Rep μ H w (Fz X μ H w) v u := by
  unfold convA at hl
  split at hl
  · rename_i k0 k k1 n h1 h2
    obtain ⟨rfl, _⟩ := rep_sc_inv hx
    simp only [AR.val.injEq] at hl
    obtain ⟨rfl, rfl, rfl⟩ := hl
    exact ⟨_, by simp [convert, run_underlying h1, run_underlying h2, Conv.intToInt], rep_sc rfl⟩
  · rename_i s h1 h2
    obtain ⟨rfl, _⟩ := rep_sc_inv hx
    simp only [AR.val.injEq] at hl
    obtain ⟨rfl, rfl, rfl⟩ := hl
    exact ⟨_, by simp [convert, run_underlying h1, run_underlying h2], rep_sc rfl⟩
  · rename_i e h1 h2
    split at hl
    · rename_i he
      split at hl
      · rename_i els hels
        split at hl
        · rename_i l hbl
          simp only [AR.val.injEq] at hl
          obtain ⟨rfl, rfl, rfl⟩ := hl
          obtain ⟨A, cc, vals, R⟩ := els_read h hx hels
          obtain ⟨hlen, hb⟩ := bytesF_spec hbl
          have hcell : ∀ ad, A = some ad → ∀ i, i < els.length → w.cell? (ad.add i) = some (.int .u8 (l.getD i 0)) := by
            intro ad ha i hi
            have hx1 := hb i hi
            have hrep := R.reps i 0 _ _ hx1 rfl
            have hvl : i < vals.length := by rw [R.len]; omega
            have hvv : vals.getD (i * 1 + 0) undef = .int .u8 (l.getD i 0) := by
              generalize vals.getD (i * 1 + 0) undef = z at hrep
              cases hrep with
              | sc _ => rfl
            refine R.cells ad ha i _ ?_
            simp only [Nat.mul_one, Nat.add_zero, List.getD_eq_getElem?_getD, List.getElem?_eq_getElem hvl, Option.getD_some] at hvv
            rw [List.getElem?_eq_getElem hvl, hvv]
            simp [List.getD_eq_getElem?_getD]
          refine ⟨_, ?_, rep_sc rfl⟩
          rw [R.val]
          cases A with
          | none =>
            have h0 := R.none rfl
            subst h0
            obtain rfl := List.eq_nil_of_length_eq_zero hlen
            exact run_convert_bytes_nil w src e h1 he _ _ dst h2
          | some ad =>
            rcases Nat.eq_zero_or_pos els.length with h0 | h0
            · have : els = [] := List.eq_nil_of_length_eq_zero h0
              subst this
              obtain rfl := List.eq_nil_of_length_eq_zero hlen
              simp [convert, run_underlying h1, run_underlying h2, run_underlying he, Conv.bytesToString, loadCells, loadCellsFrom]
              rfl
            · have hsp : ad.spot = none := by
                have := hcell ad rfl 0 h0
                rw [add_zero] at this
                unfold World.cell? at this
                split at this
                · split at this
                  · cases this
                  · rename_i hs; simpa using hs
                · cases this
              obtain ⟨b, off, spot⟩ := ad
              simp only at hsp
              subst hsp
              have := run_convert_bytes_arg w src e h1 he b off els.length cc l hlen (fun i hi => by rw [← add_none]; exact hcell _ rfl i hi) dst h2
              exact this
        · cases hl
      · cases hl
    · cases hl
  · cases hl

/-! ### a byte of a string -/
theorem run_index_string {t : TypeId} (ht : P.underlying t = some .string) {s : ByteArray} {k : IntKind} {i : Int} (h0 : 0 ≤ i) (h1 : i < (s.size : Int)) : (Instr.index t (.string s) (.int k i)).run P w = .ok (.int .u8 (s.data.toList.getD i.toNat 0).toNat) w := by
  have hlt : i.toNat < s.size := by omega
  have e : s[i.toNat]? = some (s[i.toNat]'hlt) := by simp [hlt]
  have e2 : s.data.toList.getD i.toNat 0 = s[i.toNat]'hlt := by
    rw [List.getD_eq_getElem?_getD, List.getElem?_eq_getElem (by simpa using hlt)]
    rfl
  rw [e2]
  simp [Instr.index, asIntOf, run_underlying ht, h0, e]
end
end Go.Proofs.Ai
