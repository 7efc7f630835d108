/- The abstract machine at this program: its methods, its struct types. -/
import Derived.Test.YtfjjeijkbhcoaaaBiRows
import Derived.Test.YtfjjeijkbhcoaaaProg
import Derived.KernelRfl
import Derived.Laws.StructEq
set_option linter.unusedVariables false
set_option linter.unusedSimpArgs false
namespace Go.Proofs.Ai
open Go

theorem meth176c (x : Value) (w : World) : (method (Try.prog.types.size + Made.depth) 176 x "chancel/value.check").run Try.prog w = .ok (236, x) w := by kernel_rfl
theorem equal25 (a b c d : ByteArray) (w : World) : (Op.equal 25 (.agg #[.string a, .string b]) (.agg #[.string c, .string d])).run Try.prog w = .ok (a == c && b == d) w := by
  have hu : Try.prog.underlying 25 = some (.struct (Try.prog.fieldsOf 25)) := by kernel_rfl
  have hu9 : Try.prog.underlying 9 = some .string := by kernel_rfl
  show (Op.equalIn (9999 + 1) 25 _ _).run Try.prog w = _
  rw [run_equalIn_struct (P := Try.prog) w 9999 25 _ _ hu (by kernel_rfl)]
  have he : ∀ (a b : ByteArray), (Op.equalIn 9999 9 (.string a) (.string b)).run Try.prog w = .ok (a == b) w := fun a b => by
    have : ∀ n, (Op.equalIn (n + 1) 9 (.string a) (.string b)).run Try.prog w = .ok (a == b) w := fun n => by simp [Op.equalIn, run_underlying hu9]
    exact this 9998
  have hf : ∃ f g, (Try.prog.fieldsOf 25).toList = [f, g] ∧ f.name = "Type" ∧ g.name = "Id" ∧ f.type = 9 ∧ g.type = 9 ∧ f.offset = 0 ∧ g.offset = 1 := by
    refine ⟨(Try.prog.fieldsOf 25).toList[0]!, (Try.prog.fieldsOf 25).toList[1]!, ?_, ?_, ?_, ?_, ?_, ?_, ?_⟩ <;> kernel_rfl
  obtain ⟨f, g, e, hn1, hn2, ht1, ht2, ho1, ho2⟩ := hf
  rw [e]
  have hp : ∀ (p q : ByteArray), (part 9 #[.string p, .string q] 0).run Try.prog w = .ok (.string p) w ∧ (part 9 #[.string p, .string q] 1).run Try.prog w = .ok (.string q) w := fun p q => ⟨by kernel_rfl, by kernel_rfl⟩
  have n1 : ¬ f.name = "_" := by rw [hn1]; decide
  have n2 : ¬ g.name = "_" := by rw [hn2]; decide
  simp only [Op.eqFields, ne_eq, n1, n2, not_false_eq_true, if_true, ht1, ht2, ho1, ho2, Sem.run_bind, (hp a b).1, (hp c d).1, (hp a b).2, (hp c d).2, Result.andThen_ok, he]
  cases hab : (a == c)
  · simp
  · simp only [Bool.not_true, Bool.false_eq_true, if_false, Sem.run_bind, (hp a b).2, (hp c d).2, Result.andThen_ok, he]
    cases hbd : (b == d) <;> simp

def T1 : Tab where
  eqs := fun t => t == 25
  meth := fun t m => match t, m with
    | 176, "chancel/value.check" => some 236
    | 176, "chancel/value.compare" => some 237
    | 176, "chancel/value.text" => some 238
    | 177, "chancel/value.check" => some 239
    | 177, "chancel/value.compare" => some 240
    | 177, "chancel/value.text" => some 241
    | 178, "chancel/value.check" => some 245
    | 178, "chancel/value.compare" => some 246
    | 178, "chancel/value.text" => some 247
    | 150, "chancel/value.check" => some 212
    | 150, "chancel/value.compare" => some 107
    | 150, "chancel/value.text" => some 213
    | 141, "chancel/value.check" => some 200
    | 141, "chancel/value.compare" => some 201
    | 141, "chancel/value.text" => some 202
    | _, _ => none
  keep := fun f => f == 81 || f == 120 || f == 121 || f == 123
  sets := fun t => t == 122

theorem guard25 (op : BinOp) (x y : Operand) (a b c d : ByteArray) (w : World) : (eqGuard op 25 x y (.agg #[.string a, .string b]) (.agg #[.string c, .string d])).run Try.prog w = .ok () w := by
  cases op <;> kernel_rfl

theorem check25 (q : Bool) (a b : ByteArray) (w : World) : (Instr.checkKey q 10000 25 (.agg #[.string a, .string b])).run Try.prog w = .ok () w := by kernel_rfl
theorem T1_ok : TabOK Try.prog T1 := by
  refine ⟨fun t m f h x w => ?_, fun t ht x y a b c d w => ?_, fun t ht => ?_, fun t ht x y a b c d w => ?_⟩
  · simp only [T1] at h
    split at h <;> first | (cases h; done) | (simp only [Option.some.injEq] at h; subst h; kernel_rfl)
  · have : t = 25 := by simpa [T1] using ht
    subst this
    rw [Sem.run_bind, guard25]
    simp only [Result.andThen_ok, binOp, Sem.run_bind, equal25, Sem.run_pure]
  · have : t = 122 := by simpa [T1] using ht
    subst this
    exact ⟨25, 4, Try.prog.fieldsOf 25, by kernel_rfl, by kernel_rfl, by kernel_rfl, check25, fun a b c d w => equal25 a b c d w⟩
  · have : t = 25 := by simpa [T1] using ht
    subst this
    rw [Sem.run_bind, guard25]
    simp only [Result.andThen_ok, binOp, Sem.run_bind, equal25, Sem.run_pure]
end Go.Proofs.Ai
