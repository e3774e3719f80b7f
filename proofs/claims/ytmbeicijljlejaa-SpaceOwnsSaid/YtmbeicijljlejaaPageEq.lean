/-
  Pages compared as values ('==' and '!=' of api.Page).
-/
import Derived.Test.YtmbeicijljlejaaPage0
import Derived.ChangeKeysEq
namespace Go.Proofs.Ytmbeicijljlejaa
open Go.RowKit Go.Joins
set_option linter.unusedVariables false
set_option linter.unusedSimpArgs false

def cellEq (a b : Int) (x y : ByteArray) : Bool := (a == b) && (x.toList == y.toList)
def pgEq (p q : Pg) : Bool := (p.k == q.k) && ((p.l == q.l) && ((p.s == q.s) && ((p.n == q.n) && (cellEq p.a0 q.a0 p.d0 q.d0 && (cellEq p.a1 q.a1 p.d1 q.d1 && (cellEq p.a2 q.a2 p.d2 q.d2 && (cellEq p.a3 q.a3 p.d3 q.d3 && (cellEq p.a4 q.a4 p.d4 q.d4 && cellEq p.a5 q.a5 p.d5 q.d5))))))))

theorem cellEq_iff (a b : Int) (x y : ByteArray) : cellEq a b x y = true ↔ a = b ∧ x = y := by
  unfold cellEq
  simp only [Bool.and_eq_true, beq_iff_eq, ByteArray.toList_eq, Array.toList_inj]
  exact and_congr_right fun _ => ⟨fun h => by cases x; cases y; cases h; rfl, fun h => by rw [h]⟩
theorem pgEq_iff (p q : Pg) : pgEq p q = true ↔ p = q := by
  cases p; cases q
  simp only [pgEq, Bool.and_eq_true, cellEq_iff, beq_iff_eq, Pg.mk.injEq]
  exact ⟨fun ⟨h1, h2, h3, h4, ⟨a, b⟩, ⟨c, d⟩, ⟨e, f⟩, ⟨g, h⟩, ⟨i, j⟩, k, l⟩ => ⟨h1, h2, h3, h4, a, b, c, d, e, f, g, h, i, j, k, l⟩, fun ⟨h1, h2, h3, h4, a, b, c, d, e, f, g, h, i, j, k, l⟩ => ⟨h1, h2, h3, h4, ⟨a, b⟩, ⟨c, d⟩, ⟨e, f⟩, ⟨g, h⟩, ⟨i, j⟩, k, l⟩⟩
theorem pgEq_self (p : Pg) : pgEq p p = true := (pgEq_iff p p).2 rfl
theorem pgEq_false {p q : Pg} (h : p ≠ q) : pgEq p q = false := by
  cases hh : pgEq p q with
  | false => rfl
  | true => exact absurd ((pgEq_iff p q).1 hh) h

theorem eqF_cons {d : Nat} {xs ys : Array Value} {f : Field} {fs : List Field} {a a' : Value} {b c : Bool} {w : World} (hn : f.name ≠ "_") (h1 : (part f.type xs f.offset).run Try.prog w = .ok a w) (h2 : (part f.type ys f.offset).run Try.prog w = .ok a' w)
    (h3 : (Op.equalIn d f.type a a').run Try.prog w = .ok b w) (h4 : (Op.eqFields d xs ys fs).run Try.prog w = .ok c w) : (Op.eqFields d xs ys (f :: fs)).run Try.prog w = .ok (b && c) w := by
  simp only [Op.eqFields, hn, ne_eq, not_false_eq_true, if_true, Sem.run_bind, h1, h2, h3, Result.andThen_ok]
  cases b
  · rfl
  · exact h4
theorem eqF_nil {d : Nat} {xs ys : Array Value} {w : World} : (Op.eqFields d xs ys []).run Try.prog w = .ok true w := rfl
theorem eqI_cons {d c' : Nat} {e : TypeId} {xs ys : Array Value} {i : Nat} {is : List Nat} {a a' : Value} {b c : Bool} {w : World} (h1 : (part e xs (i * c')).run Try.prog w = .ok a w) (h2 : (part e ys (i * c')).run Try.prog w = .ok a' w)
    (h3 : (Op.equalIn d e a a').run Try.prog w = .ok b w) (h4 : (Op.eqItems d e c' xs ys is).run Try.prog w = .ok c w) : (Op.eqItems d e c' xs ys (i :: is)).run Try.prog w = .ok (b && c) w := by
  simp only [Op.eqItems, Sem.run_bind, h1, h2, h3, Result.andThen_ok]
  cases b
  · rfl
  · exact h4
theorem eqI_nil {d c' : Nat} {e : TypeId} {xs ys : Array Value} {w : World} : (Op.eqItems d e c' xs ys []).run Try.prog w = .ok true w := rfl

theorem run_eq_cell (d : Nat) (a b : Int) (x y : ByteArray) (w : World) : (Op.equalIn (d + 2) 47 (.agg #[.int .i64 a, .string x]) (.agg #[.int .i64 b, .string y])).run Try.prog w = .ok (cellEq a b x y) w := by
  rw [run_equalIn_agg w (d + 1) 47 _ _ (by kernel_rfl) (by kernel_rfl)]
  simp only [Program.fieldsOf, Try.underlying47]
  have p0 : ∀ (v u : Value), (part 3 #[v, u] 0).run Try.prog w = .ok v w := fun v u => by kernel_rfl
  have p1 : ∀ (v u : Value), (part 9 #[v, u] 1).run Try.prog w = .ok u w := fun v u => by kernel_rfl
  have e0 := run_equalIn_int (P := Try.prog) w d 3 .i64 .i64 a b Try.underlying3
  have e1 := run_equalIn_string (P := Try.prog) w d 9 x y Try.underlying9
  have hh : cellEq a b x y = ((a == b) && ((x.toList == y.toList) && true)) := by simp [cellEq]
  rw [hh]
  exact eqF_cons (by decide) (p0 _ _) (p0 _ _) e0 (eqF_cons (by decide) (p1 _ _) (p1 _ _) e1 eqF_nil)

def pgA (p : Pg) : Array Value := #[.int .i64 p.a0, .string p.d0, .int .i64 p.a1, .string p.d1, .int .i64 p.a2, .string p.d2, .int .i64 p.a3, .string p.d3, .int .i64 p.a4, .string p.d4, .int .i64 p.a5, .string p.d5]
theorem run_eq_cells (p q : Pg) (w : World) : (Op.equalIn 9999 48 (.agg (pgA p)) (.agg (pgA q))).run Try.prog w = .ok (cellEq p.a0 q.a0 p.d0 q.d0 && (cellEq p.a1 q.a1 p.d1 q.d1 && (cellEq p.a2 q.a2 p.d2 q.d2 && (cellEq p.a3 q.a3 p.d3 q.d3 && (cellEq p.a4 q.a4 p.d4 q.d4 && cellEq p.a5 q.a5 p.d5 q.d5))))) w := by
  obtain ⟨i, hi⟩ : ∃ i, Try.prog.info? 47 = some i := info_of_underlying Try.underlying47
  have ea := run_equalIn_array (P := Try.prog) w 9998 (e := 47) (i := i) (pgA p) (pgA q) Try.underlying48 hi
  have hc2 : Try.prog.cellsOf 47 = 2 := by kernel_rfl
  rw [hc2] at ea
  refine ea.trans ?_
  have c0 : ∀ p : Pg, (part 47 (pgA p) (0 * 2)).run Try.prog w = .ok (.agg #[.int .i64 p.a0, .string p.d0]) w := fun _ => by kernel_rfl
  have c1 : ∀ p : Pg, (part 47 (pgA p) (1 * 2)).run Try.prog w = .ok (.agg #[.int .i64 p.a1, .string p.d1]) w := fun _ => by kernel_rfl
  have c2 : ∀ p : Pg, (part 47 (pgA p) (2 * 2)).run Try.prog w = .ok (.agg #[.int .i64 p.a2, .string p.d2]) w := fun _ => by kernel_rfl
  have c3 : ∀ p : Pg, (part 47 (pgA p) (3 * 2)).run Try.prog w = .ok (.agg #[.int .i64 p.a3, .string p.d3]) w := fun _ => by kernel_rfl
  have c4 : ∀ p : Pg, (part 47 (pgA p) (4 * 2)).run Try.prog w = .ok (.agg #[.int .i64 p.a4, .string p.d4]) w := fun _ => by kernel_rfl
  have c5 : ∀ p : Pg, (part 47 (pgA p) (5 * 2)).run Try.prog w = .ok (.agg #[.int .i64 p.a5, .string p.d5]) w := fun _ => by kernel_rfl
  have hk := fun a b x y => run_eq_cell 9996 a b x y w
  have h := eqI_cons (i := 0) (c0 p) (c0 q) (hk _ _ _ _) (eqI_cons (i := 1) (c1 p) (c1 q) (hk _ _ _ _) (eqI_cons (i := 2) (c2 p) (c2 q) (hk _ _ _ _) (eqI_cons (i := 3) (c3 p) (c3 q) (hk _ _ _ _) (eqI_cons (i := 4) (c4 p) (c4 q) (hk _ _ _ _) (eqI_cons (i := 5) (c5 p) (c5 q) (hk _ _ _ _) eqI_nil)))))
  rw [Bool.and_true] at h
  exact h

theorem run_eq_page (p q : Pg) (w : World) : (Op.equalIn 10000 50 p.v q.v).run Try.prog w = .ok (pgEq p q) w := by
  unfold Pg.v
  rw [show (10000 : Nat) = 9999 + 1 from rfl, run_equalIn_agg w 9999 50 _ _ (by kernel_rfl) (by kernel_rfl)]
  simp only [Program.fieldsOf, Try.underlying50]
  have p0 : ∀ (p : Pg), (part 3 p.cs 0).run Try.prog w = .ok (.int .i64 p.k) w := fun p => by kernel_rfl
  have p1 : ∀ (p : Pg), (part 3 p.cs 1).run Try.prog w = .ok (.int .i64 p.l) w := fun p => by kernel_rfl
  have p2 : ∀ (p : Pg), (part 3 p.cs 2).run Try.prog w = .ok (.int .i64 p.s) w := fun p => by kernel_rfl
  have p3 : ∀ (p : Pg), (part 3 p.cs 3).run Try.prog w = .ok (.int .i64 p.n) w := fun p => by kernel_rfl
  have p4 : ∀ (p : Pg), (part 48 p.cs 4).run Try.prog w = .ok (.agg (pgA p)) w := fun p => by kernel_rfl
  have e := fun a b => run_equalIn_int (P := Try.prog) w 9998 3 .i64 .i64 a b Try.underlying3
  have hh : pgEq p q = ((p.k == q.k) && ((p.l == q.l) && ((p.s == q.s) && ((p.n == q.n) && ((cellEq p.a0 q.a0 p.d0 q.d0 && (cellEq p.a1 q.a1 p.d1 q.d1 && (cellEq p.a2 q.a2 p.d2 q.d2 && (cellEq p.a3 q.a3 p.d3 q.d3 && (cellEq p.a4 q.a4 p.d4 q.d4 && cellEq p.a5 q.a5 p.d5 q.d5))))) && true))))) := by rw [Bool.and_true]; rfl
  rw [hh]
  exact eqF_cons (by decide) (p0 p) (p0 q) (e _ _) (eqF_cons (by decide) (p1 p) (p1 q) (e _ _) (eqF_cons (by decide) (p2 p) (p2 q) (e _ _) (eqF_cons (by decide) (p3 p) (p3 q) (e _ _) (eqF_cons (by decide) (p4 p) (p4 q) (run_eq_cells p q w) eqF_nil))))

theorem eqGuardPg : Try.prog.eqGuardType Try.prog.depth 50 = false := by kernel_rfl
@[go_sem] theorem run_eqGuard_page (op : BinOp) (x y : Operand) (p q : Pg) (w : World) : (eqGuard op 50 x y p.v q.v).run Try.prog w = .ok () w := run_eqGuard_agg w op 50 x y p.cs q.cs eqGuardPg
def neqPg (p q : Pg) : Bool := !pgEq p q
@[go_sem] theorem run_neq_page (p q : Pg) (w : World) : (Go.binOp .neq 50 p.v q.v).run Try.prog w = .ok (.bool (!pgEq p q)) w := by
  have h := run_neq_struct (P := Try.prog) w 50 p.cs q.cs
  have e := run_eq_page p q w
  unfold Pg.v at e ⊢
  rw [h, e]
  rfl
@[go_sem] theorem run_eql_page (p q : Pg) (w : World) : (Go.binOp .eql 50 p.v q.v).run Try.prog w = .ok (.bool (pgEq p q)) w := by
  have h := run_eql_struct (P := Try.prog) w 50 p.cs q.cs
  have e := run_eq_page p q w
  unfold Pg.v at e ⊢
  rw [h, e]
  rfl
end Go.Proofs.Ytmbeicijljlejaa
