/- Two regions compared by == and !=. -/
import Derived.Test.YtgmodadgmnfhgaaRg1
import Derived.Laws.StructEq
namespace Go.Proofs.Ytgmodadgmnfhgaa
open Go.RowKit
theorem reg_fields : (Try.prog.fieldsOf 31).toList.map (fun f => (f.name == "_", f.type, f.offset)) = [(false, 3, 0), (false, 3, 1), (false, 3, 2), (false, 3, 3), (false, 3, 4), (false, 3, 5), (false, 3, 6), (false, 9, 7)] := by kernel_rfl
theorem neq_reg (a b : Reg) (w : World) : (binOp .neq 31 (regV a) (regV b)).run Try.prog w = .ok (.bool (!decide (a = b))) w := by
  rw [run_neq_struct, run_equalIn_agg w 9999 _ _ _ (by kernel_rfl) (by kernel_rfl)]
  have h := reg_fields
  generalize (Try.prog.fieldsOf 31).toList = fs at *
  have hl : fs.length = 8 := by
    have := congrArg List.length h
    rw [List.length_map] at this
    exact this
  match fs, hl, h with
  | [f0, f1, f2, f3, f4, f5, f6, f7], _, h =>
    simp only [List.map_cons, List.map_nil, List.cons.injEq, Prod.mk.injEq, and_true] at h
    obtain ⟨⟨n0, t0, o0⟩, ⟨n1, t1, o1⟩, ⟨n2, t2, o2⟩, ⟨n3, t3, o3⟩, ⟨n4, t4, o4⟩, ⟨n5, t5, o5⟩, ⟨n6, t6, o6⟩, ⟨n7, t7, o7⟩⟩ := h
    have q : ∀ f : Field, (f.name == "_") = false → f.name ≠ "_" := fun f h e => by rw [e] at h; simp at h
    have hi := Try.underlying3
    have hs := Try.underlying9
    simp only [Op.eqFields, if_pos (q f0 n0), if_pos (q f1 n1), if_pos (q f2 n2), if_pos (q f3 n3), if_pos (q f4 n4), if_pos (q f5 n5), if_pos (q f6 n6), if_pos (q f7 n7), t0, t1, t2, t3, t4, t5, t6, t7, o0, o1, o2, o3, o4, o5, o6, o7]
    simp [go_sem, part]
    have e := @Reg.ext_iff' a b
    rw [ByteArray.toList_eq, ByteArray.toList_eq]
    repeat' split
    all_goals simp_all
theorem guard_reg (a b : Reg) (op : BinOp) (x y : Operand) (w : World) : (eqGuard op 31 x y (regV a) (regV b)).run Try.prog w = .ok () w := run_eqGuard_agg w op _ x y _ _ (by kernel_rfl)
end Go.Proofs.Ytgmodadgmnfhgaa
