/-
  Several texts in one: Tree10, Undo.
-/
import Derived.Test.YtljommhbhpappaaTree9
import Derived.Test.YtljommhbhpappaaPkLob
import Derived.Test.YtljommhbhpappaaPkIdx
import Derived.Deep.RegionHeld3
import Derived.OneCell
namespace Go.Proofs.Ytljommhbhpappaa
/-!
  Layer 16 (tree): keys to be kept, copied.
-/
section
open Go.RowKit Go.Joins
set_option linter.unusedVariables false
set_option linter.unusedSimpArgs false

@[go_sem] theorem run_nil_slice (l c : Nat) (w : World) : (binOp .eql 27 (.slice none l c) (.slice none 0 0)).run Try.prog w = .ok (.bool true) w := by kernel_rfl
@[go_sem] theorem run_some_slice (a : Addr) (l c : Nat) (w : World) : (binOp .eql 27 (.slice (some a) l c) (.slice none 0 0)).run Try.prog w = .ok (.bool false) w := by kernel_rfl

theorem add_at (b j : Nat) : (⟨b, 0, none⟩ : Addr).add j = ⟨b, j, none⟩ := by
  cases j <;> simp [Addr.add]
theorem own_str {w : World} {base : Nat} {v : Value} {kp : List ByteArray} (h : w.ownsRow base 9 1 v kp.length (kp.map .string)) (hne : kp ≠ []) (hl : kp.length ≤ 2000000) :
    ∃ g cap, v = .slice (some ⟨g, 0, none⟩) kp.length cap ∧ base ≤ g ∧ g < w.heap.size ∧ StrAt w (some ⟨g, 0, none⟩) kp := by
  have hc := @World.ownsRow.cells _ _ _ _ _ _ _ h
  rcases h.2 with ⟨-, e⟩ | ⟨g, cap, cur, rfl, hb, hg, -⟩
  · exact absurd (List.length_eq_zero_iff.1 e) hne
  · have hlt := (Array.getElem?_eq_some_iff.1 hg).1
    refine ⟨g, cap, rfl, hb, hlt, hl, .inr ⟨g, rfl, hlt, fun i hi => ?_⟩⟩
    have := hc (g := g) rfl i (.string kp[i]) (by simp [hi])
    rwa [add_at] at this

/-- strings that stand in memory, wherever a slice points -/
def StrIn (w : World) (a : Option Addr) (I : List ByteArray) : Prop :=
  I.length ≤ 1999000 ∧ (I.length = 0 ∨ ∃ b off, a = some ⟨b, off, none⟩ ∧ b < w.heap.size ∧ ∀ (i : Nat) (h : i < I.length), w.cell? ⟨b, off + i, none⟩ = some (.string I[i]))
theorem StrIn.below {w w' : World} {a : Option Addr} {I : List ByteArray} (h : StrIn w a I) (hb : Below w.heap.size w w') : StrIn w' a I := by
  refine ⟨h.1, ?_⟩
  rcases h.2 with h0 | ⟨b, off, rfl, h1, h2⟩
  · exact .inl h0
  · exact .inr ⟨b, off, rfl, Nat.lt_of_lt_of_le h1 hb.size, fun i hi => (hb.cell (p := ⟨b, off + i, none⟩) h1).trans (h2 i hi)⟩
theorem StrAt.in {w : World} {a : Option Addr} {I : List ByteArray} (h : StrAt w a I) (hl : I.length ≤ 1999000) : StrIn w a I := by
  refine ⟨hl, ?_⟩
  rcases h.2 with h0 | ⟨b, rfl, h1, h2⟩
  · exact .inl h0
  · exact .inr ⟨b, 0, rfl, h1, fun i hi => by rw [Nat.zero_add]; exact h2 i hi⟩
set_option maxHeartbeats 2000000 in
set_option maxRecDepth 100000 in
theorem sclone_any (ka : Option Addr) (kc : Nat) (kp : List ByteArray) (w : World) (h : StrIn w ka kp) :
    Calls Try.prog 80 #[.slice ka kp.length kc] w fun e w' => ∃ v, e = .returned v ∧ w'.ownsRow w.heap.size 9 1 v kp.length (kp.map .string) ∧ Below w.heap.size w w' := by
  obtain ⟨i0, hi, hz0, hz1, hz2⟩ := info_parts infoStr17
  have HK := Lib.hid h
  have hlen := h.1
  cases ka with
  | none =>
    have hkp : kp = [] := by
      rcases h.2 with e | ⟨b, off, e, -⟩
      · exact List.length_eq_zero_iff.1 e
      · cases e
    subst hkp
    clear h
    go_enter Try.func80, Try.ntmps80
    go_wp2_with fail
    go_ret
    exact ⟨_, rfl, World.ownsRow_nil _ _ _ _, Below.refl _ _⟩
  | some a =>
    have hnews : ∀ (j : Nat) (u : Value), (kp.map Value.string)[j]? = some u → (w.alloc (.cells #[] 9)).cell? (a.add j) = some u := by
      intro j u hj
      rcases h.2 with e | ⟨b, off, e, hlt, hc⟩
      · have : kp = [] := List.length_eq_zero_iff.1 e
        subst this; simp at hj
      · cases e
        rw [List.getElem?_map] at hj
        cases hkj : kp[j]? with
        | none => rw [hkj] at hj; cases hj
        | some x =>
          rw [hkj] at hj
          obtain ⟨h1, h2⟩ := List.getElem?_eq_some_iff.1 hkj
          have h3 := hc j h1
          rw [h2] at h3
          have h4 : (w.alloc (.cells #[] 9)).cell? ⟨b, off + j, none⟩ = some (.string x) := (((Below.refl w.heap.size w).alloc (Nat.le_refl _) _).cell (p := ⟨b, off + j, none⟩) hlt).trans h3
          simp only [Option.map_some, Option.some.injEq] at hj
          subst hj
          rw [Addr.add_lit]; exact h4
    clear h
    have B0 : Hid (Below w.heap.size w (w.alloc (.cells #[] 9))) := Lib.hid ((Below.refl _ _).alloc (Nat.le_refl _) _)
    have HN := Lib.hid hnews
    clear hnews
    go_enter Try.func80, Try.ntmps80
    go_wp2_with (at_builtin; refine wpList_append_own _ rfl _ _ 27 rfl w.heap.size 9 i0 _ 1 16 Try.underlying27 hi hz0 hz1 hz2 rfl (by decide) _ 0 [] rfl (World.ownsRow_made w #[] 0 (Nat.le_refl _) (by simp [maxLen]) rfl) a kp.length kc (kp.map Value.string) rfl (by simp) HN.out ?c2 ?c3 ?c4 ?c5 ?_)
    case c2 => intro u hu; obtain ⟨x, -, rfl⟩ := List.mem_map.1 hu; simp [Value.oneCell']
    case c3 => simp only [maxLen]; omega
    case c4 => omega
    case c5 => first | omega | (simp; omega) | simp
    intro v' w5 hown' hgrow _
    have hb5 : Below w.heap.size w w5 := B0.out.grown hgrow (by simp) (fun q hq => by simp [Value.ownBlock] at hq; omega)
    go_wp2_with fail
    go_ret
    exact ⟨v', rfl, by simpa using hown', hb5⟩
end

/-!
  Undos as values.
-/
section
open Go.RowKit Go.Joins
set_option linter.unusedVariables false
set_option linter.unusedSimpArgs false

/-- an undo -/
structure Un where
  kind : Int := 0
  store : Int := 0
  page : Int := 0
  slot : Int := 0
  key : ByteArray := ByteArray.empty
  st : Int := 0
  d : ByteArray := ByteArray.empty
def Un.cs (u : Un) : Array Value := #[.int .i64 u.kind, .int .i64 u.store, .int .i64 u.page, .int .i64 u.slot, .string u.key, .int .i64 u.st, .string u.d]
def Un.v (u : Un) : Value := .agg u.cs
def Un.zero : Un := {}
@[go_sem] theorem Un.size_cs (u : Un) : u.cs.size = 7 := rfl
@[go_sem] theorem Un.cells_v (u : Un) : u.v.cells = u.cs := rfl
def loadUn (a : Value) : Sem Value := Instr.loadAt 86 a
def storeUn (a v : Value) : Sem Unit := Instr.storeAt 86 a v
def allocUn : Sem Value := Instr.alloc 86 true (.tuple #[])
def boxUn (v : Value) : Sem Value := Instr.box 86 v
def buildUn (parts : Array (Nat × Value)) : Sem Value := Instr.build 86 parts
@[go_sem ↓] theorem loadUn_eq (a : Value) : Instr.loadAt 86 a = loadUn a := rfl
@[go_sem ↓] theorem storeUn_eq (a v : Value) : Instr.storeAt 86 a v = storeUn a v := rfl
@[go_sem ↓] theorem allocUn_eq : Instr.alloc 86 true (.tuple #[]) = allocUn := rfl
@[go_sem ↓] theorem boxUn_eq (v : Value) : Instr.box 86 v = boxUn v := rfl
@[go_sem ↓] theorem buildUn_eq (parts : Array (Nat × Value)) : Instr.build 86 parts = buildUn parts := rfl
@[go_sem] theorem run_allocUn (w : World) : allocUn.run Try.prog w = .ok (.pointer (some ⟨w.heap.size, 0, none⟩)) (w.alloc (.cells Un.zero.cs 86)) := by kernel_rfl
@[go_sem] theorem run_boxUn (w : World) (u : Un) : (boxUn u.v).run Try.prog w = .ok (.pointer (some ⟨w.heap.size, 0, none⟩)) (w.alloc (.cells u.cs 86)) := by kernel_rfl
@[go_sem] theorem run_buildUn0 (w : World) : (buildUn #[]).run Try.prog w = .ok Un.zero.v w := by kernel_rfl
@[go_sem] theorem run_buildUnK (w : World) (k st : Int) (key : ByteArray) : (buildUn #[(0, .int .i64 k), (1, .int .i64 st), (4, .string key)]).run Try.prog w = .ok (Un.v { kind := k, store := st, key := key }) w := by kernel_rfl
@[go_sem] theorem run_buildUnC (w : World) (k st a : Int) (key d : ByteArray) : (buildUn #[(0, .int .i64 k), (1, .int .i64 st), (4, .string key), (5, .agg #[.int .i64 a, .string d])]).run Try.prog w = .ok (Un.v { kind := k, store := st, key := key, st := a, d := d }) w := by kernel_rfl
theorem sizeUn : (Try.prog.info? 86).map (·.size) = some 7 := by kernel_rfl
def row7 (o : Option (Array Value)) : Bool := match o with | some c => c.size == 7 | none => false
@[go_sem] theorem row7_un (u : Un) : row7 (some u.cs) = true := rfl
@[go_sem] theorem run_storeUn (w : World) (n : Nat) (u : Un) (h : row7 (rowAt w n) = true) : (storeUn (.pointer (some ⟨n, 0, none⟩)) u.v).run Try.prog w = .ok () (w.setRow n u.cs) := by
  have hv : (storeVar 86 ⟨n, 0, none⟩ u.v).run Try.prog w = .ok () (w.setRow n u.cs) := by
    cases hr : rowAt w n with
    | none => rw [hr] at h; cases h
    | some cc =>
      rw [hr] at h
      obtain ⟨t, ht⟩ := rowAt_heap hr
      have hs : cc.size = 7 := by simpa [row7] using h
      have hst := run_storeCells_at Try.prog n 0 t u.cs.toList 0 cc w ht (by simp [hs, Un.size_cs]) (by intro x hx; simp [Un.cs] at hx; rcases hx with rfl | rfl | rfl | rfl | rfl | rfl | rfl <;> rfl)
      have e : cc.toList.drop (0 + 0 + u.cs.toList.length) = [] := by simp [hs, Un.size_cs]
      rw [e] at hst
      cases hq : Try.prog.info? 86 with
      | none => have := sizeUn; simp [hq] at this
      | some i =>
        have hi : i.size = 7 := by have := sizeUn; simpa [hq] using this
        simp only [List.take_zero, List.nil_append, List.append_nil, Nat.add_zero, Array.toArray_toList] at hst
        simp [storeVar, Sem.run_bind, sizeOf, typeInfo, hq, hi, Un.cells_v, Un.size_cs, hst]
  simp only [storeUn, Instr.storeAt, Instr.sureAddr, Sem.run_bind, Sem.run_pure, Result.andThen_ok, hv]
theorem run_loadUnRow (w : World) (n : Nat) (u : Un) (h : rowAt w n = some u.cs) : (loadVar 86 ⟨n, 0, none⟩).run Try.prog w = .ok u.v w := by
  obtain ⟨t, ht⟩ := rowAt_heap h
  exact run_loadVar_row w n t 86 u.cs (0, 0) _ ht Try.underlying86 rfl (by rw [sizeUn, Un.size_cs])
@[go_sem] theorem run_loadUn (w : World) (n : Nat) (h : row7 (rowAt w n) = true) : (loadUn (.pointer (some ⟨n, 0, none⟩))).run Try.prog w = .ok (.agg ((rowAt w n).getD #[])) w := by
  cases hr : rowAt w n with
  | none => rw [hr] at h; cases h
  | some c =>
    rw [hr] at h
    obtain ⟨t, ht⟩ := rowAt_heap hr
    have hs : c.size = 7 := by simpa [row7] using h
    have := run_loadVar_row w n t 86 c (0, 0) _ ht Try.underlying86 rfl (by rw [sizeUn, hs])
    simp only [loadUn, Instr.loadAt, Instr.sureAddr, Sem.run_bind, Sem.run_pure, Result.andThen_ok, this]
    rfl
@[go_sem] theorem Un.agg_cs (u : Un) : Value.agg u.cs = u.v := rfl
@[go_sem] theorem Un.getD_cs (u : Un) : (some u.cs).getD #[] = u.cs := rfl

/-- the end of a function that hands back an undo and a number -/
theorem ret_un {fn : Func} {R : Ending → World → Prop} {a : Act} {w : World} {pt v : Tmp} (h : fn.results = #[.cell pt 86, .tmp v]) (hd : a.defers = []) (n : Nat) (p : Un) (hp : a.tmps.getD pt undef = .pointer (some ⟨n, 0, none⟩)) (hr : rowAt w n = some p.cs)
    (hR : R (.returned (.tuple #[p.v, a.tmps.getD v undef])) w) : bodyPost Try.prog fn R .ret a w := by
  refine bodyPost_ret ?_ hd hR
  rw [results_cell_tmp h, hp]
  simp only [asAddr, Sem.run_pure, Result.andThen_ok, run_loadUnRow w n p hr]
end
end Go.Proofs.Ytljommhbhpappaa
