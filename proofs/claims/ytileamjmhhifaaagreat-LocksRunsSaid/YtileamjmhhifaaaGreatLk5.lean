/-
  Layer 9 (locks): names as keys of a map; the table in memory.
-/
import Derived.Test.YtileamjmhhifaaaGreatLk4w
import Derived.Laws.StructEq
import Derived.WideKeyRuns
namespace Go.Proofs.YtileamjmhhifaaaGreat
open Go.RowKit Go.Joins
set_option linter.unusedVariables false
set_option linter.unusedSimpArgs false

/-- a name: store and item -/
structure Nm where
  s : Int
  i : ByteArray
deriving DecidableEq
instance : Inhabited Nm := ⟨⟨0, ByteArray.empty⟩⟩
def Nm.v (n : Nm) : Value := .agg #[.int .i64 n.s, .string n.i]
theorem Nm.v_inj {a b : Nm} (h : a.v = b.v) : a = b := by
  cases a; cases b
  simp only [Nm.v, Value.agg.injEq] at h
  have h1 := congrArg Array.toList h
  simp at h1
  simp [h1.1, h1.2]
theorem toList_ext {a b : ByteArray} (h : a.toList = b.toList) : a = b := by
  rw [ByteArray.toList_eq, ByteArray.toList_eq] at h
  cases a; cases b
  simp at h
  rw [h]
def Nm.eqB (a b : Nm) : Bool := a.s == b.s && a.i.toList == b.i.toList
theorem Nm.eqB_iff {a b : Nm} : a.eqB b = true ↔ a = b := by
  unfold Nm.eqB
  rw [Bool.and_eq_true, beq_iff_eq, beq_iff_eq]
  constructor
  · rintro ⟨h1, h2⟩
    cases a; cases b
    simp only at h1 h2
    rw [h1, toList_ext h2]
  · rintro rfl; exact ⟨rfl, rfl⟩
theorem run_equalIn_nm (a b : Nm) (w : World) : (Op.equalIn 10000 31 a.v b.v).run Tryz.prog w = .ok (a.eqB b) w := by
  have u3 := Tryz.underlying3
  have u9 := Tryz.underlying9
  have hS : Tryz.prog.underlying 31 = some (.struct (Tryz.prog.fieldsOf 31)) := by kernel_rfl
  have hp : Tryz.prog.stoodInHeld 31 = false := by kernel_rfl
  have a3 := Tryz.isAgg3
  have a9 := Tryz.isAgg9
  unfold Nm.v
  rw [show (10000 : Nat) = 9999 + 1 from rfl, run_equalIn_agg w 9999 31 _ _ hS hp]
  simp only [Program.fieldsOf, Tryz.underlying31]
  go_simp
  unfold Nm.eqB
  by_cases h1 : a.s = b.s
  · by_cases h2 : a.i.toList = b.i.toList
    · simp [h1, h2]
    · simp [h1, h2]
  · simp [h1]
@[go_sem] theorem run_equal_nm (a b : Nm) (w : World) : (Op.equal 31 a.v b.v).run Tryz.prog w = .ok (a.eqB b) w := run_equalIn_nm a b w
theorem run_checkKey_i (e : Bool) (n : Nat) (a : Int) (w : World) : (Instr.checkKey e (n + 1) 3 (.int .i64 a)).run Tryz.prog w = .ok () w := by
  rw [Instr.checkKey]; simp [run_underlying Tryz.underlying3]
theorem run_checkKey_s (e : Bool) (n : Nat) (a : ByteArray) (w : World) : (Instr.checkKey e (n + 1) 9 (.string a)).run Tryz.prog w = .ok () w := by
  rw [Instr.checkKey]; simp [run_underlying Tryz.underlying9]
theorem run_checkKey_nm (e : Bool) (a : Nm) (w : World) : (Instr.checkKey e 10000 31 a.v).run Tryz.prog w = .ok () w := by
  have c1 := fun w => run_checkKey_i e 9998 a.s w
  have c2 := fun w => run_checkKey_s e 9998 a.i w
  have a3 := Tryz.isAgg3
  have a9 := Tryz.isAgg9
  unfold Nm.v
  rw [show (10000 : Nat) = 9999 + 1 from rfl, Instr.checkKey]
  simp only [Sem.run_bind, run_underlying Tryz.underlying31, Result.andThen_ok, ← Array.forIn_toList, List.forIn_cons, List.forIn_nil]
  go_simp
theorem find_nm (k : Nm) : ∀ (es : List MapEntry) (M : List (Nm × Value)) (i : Nat) (w : World), es.map (fun e => (e.key, e.val)) = M.map (fun x => (x.1.v, x.2)) →
    (Instr.findAsking 31 k.v es i).run Tryz.prog w = .ok (findK k M i) w
  | [], [], i, w, _ => rfl
  | e :: es, x :: M, i, w, h => by
    simp only [List.map_cons, List.cons.injEq, Prod.mk.injEq] at h
    obtain ⟨⟨h1, h2⟩, h3⟩ := h
    have ih := find_nm k es M (i + 1) w h3
    simp only [Instr.findAsking, h1, Sem.run_bind, run_equal_nm, Result.andThen_ok, Sem.run_ite, findK]
    by_cases hk : k = x.1
    · rw [if_pos (Nm.eqB_iff.2 hk), if_pos hk, h2]; rfl
    · rw [if_neg (fun e => hk (Nm.eqB_iff.1 e)), if_neg hk]; exact ih
  | [], _ :: _, _, _, h => by simp at h
  | _ :: _, [], _, _, h => by simp at h
theorem keyLaw_nm : KeyLaw Nm.v Tryz.prog 31 where
  inj := fun a b h => Nm.v_inj h
  check := fun b k w => run_checkKey_nm b k w
  find := fun k es M w h => by rw [run_findKey_eq w (by kernel_rfl)]; exact find_nm k es M 0 w h
  stays := fun k => by simp [Instr.sameBits, Nm.v, beq_toListBytes]
end Go.Proofs.YtileamjmhhifaaaGreat
