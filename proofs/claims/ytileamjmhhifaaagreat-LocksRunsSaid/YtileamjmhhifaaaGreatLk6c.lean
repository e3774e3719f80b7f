/-
  Layer 9 (locks): slices.Clone of what follows the first wish.
-/
import Derived.Test.YtileamjmhhifaaaGreatLk5
namespace Go.Proofs.YtileamjmhhifaaaGreat
open Go.RowKit Go.Joins
set_option linter.unusedVariables false
set_option linter.unusedSimpArgs false

theorem infoWs : (Tryz.prog.info? 64).map (fun i => (i.zero, i.size, i.bytes)) = some (some (.agg #[.int .i64 0, .int .i64 0]), 2, 16) := by kernel_rfl
theorem infoHd : (Tryz.prog.info? 60).map (fun i => (i.zero, i.size, i.bytes)) = some (some (.agg #[.int .i64 0, .int .i64 0, .int .i64 0, .int .i64 0]), 4, 32) := by kernel_rfl
theorem info_parts {t : TypeId} {z : Value} {s b : Nat} (h : (Tryz.prog.info? t).map (fun i => (i.zero, i.size, i.bytes)) = some (some z, s, b)) : ∃ i, Tryz.prog.info? t = some i ∧ i.zero = some z ∧ i.size = s ∧ i.bytes = b := by
  cases hq : Tryz.prog.info? t with
  | none => rw [hq] at h; cases h
  | some i =>
    rw [hq] at h
    simp only [Option.map_some, Option.some.injEq, Prod.mk.injEq] at h
    exact ⟨i, rfl, h.1, h.2.1, h.2.2⟩
@[go_sem] theorem run_nil_wish (l c : Nat) (w : World) : (binOp .eql 55 (.slice none l c) (.slice none 0 0)).run Tryz.prog w = .ok (.bool true) w := by kernel_rfl
@[go_sem] theorem run_some_wish (a : Addr) (l c : Nat) (w : World) : (binOp .eql 55 (.slice (some a) l c) (.slice none 0 0)).run Tryz.prog w = .ok (.bool false) w := by kernel_rfl

set_option maxHeartbeats 2000000 in
set_option maxRecDepth 100000 in
/-- wishes wherever a slice points -/
theorem wclone_any (g off c : Nat) (W : List Ws) (w : World) (hg : g < w.heap.size) (hl : W.length ≤ 1000000) (hc : ∀ j u, (wsRow W)[j]? = some u → w.cell? ⟨g, off + j, none⟩ = some u) :
    Calls Tryz.prog 50 #[.slice (some ⟨g, off, none⟩) W.length c] w fun e w' => ∃ v, e = .returned v ∧ w'.ownsRow w.heap.size 64 2 v W.length (wsRow W) ∧ Below w.heap.size w w' := by
  obtain ⟨i0, hi, hz0, hz1, hz2⟩ := info_parts infoWs
  have hnews : ∀ (j : Nat) (u : Value), (wsRow W)[j]? = some u → (w.alloc (.cells #[] 64)).cell? ((⟨g, off, none⟩ : Addr).add j) = some u := by
    intro j u hj
    rw [Addr.add_lit]
    exact (((Below.refl w.heap.size w).alloc (Nat.le_refl _) (.cells #[] 64)).cell (p := ⟨g, off + j, none⟩) hg).trans (hc j u hj)
  have hone : ∀ u ∈ wsRow W, u.oneCell' = true := by
    intro u hu
    obtain ⟨x, -, hx⟩ := List.mem_flatMap.1 hu
    simp [Ws.l] at hx
    rcases hx with rfl | rfl <;> rfl
  have hlen := wsRow_len W
  have B0 : Hid (Below w.heap.size w (w.alloc (.cells #[] 64))) := Lib.hid ((Below.refl _ _).alloc (Nat.le_refl _) _)
  have HN := Lib.hid hnews
  have HL := Lib.hid hlen
  clear hnews hc hlen
  go_enter Tryz.func50, Tryz.ntmps50
  go_wp2_with (at_builtin; refine wpList_append_own _ rfl _ _ 55 rfl w.heap.size 64 i0 _ 2 16 Tryz.underlying55 hi hz0 hz1 hz2 rfl (by decide) _ 0 [] rfl (World.ownsRow_made w #[] 0 (Nat.le_refl _) (by simp [maxLen]) rfl) ⟨g, off, none⟩ W.length c (wsRow W) rfl HL.out HN.out hone ?c3 ?c4 ?c5 ?_)
  case c3 => simp only [maxLen]; omega
  case c4 => omega
  case c5 => first | omega | (simp; omega) | simp
  intro v' w5 hown' hgrow _
  have hb5 : Below w.heap.size w w5 := B0.out.grown hgrow (by simp) (fun q hq => by simp [Value.ownBlock] at hq; omega)
  go_wp2_with fail
  go_ret
  exact ⟨v', rfl, by simpa using hown', hb5⟩
end Go.Proofs.YtileamjmhhifaaaGreat
