/-
  Layer 9 (locks): the walk of the document's All.
-/
import Derived.Test.YtileamjmhhifaaaGreatLd8
import Derived.Test.YtileamjmhhifaaaGreatLd7
import Derived.Test.YtileamjmhhifaaaGreatLq5
import Derived.Deep.RegionHeldLaw
import Derived.Deep.AppendLies
namespace Go.Proofs.YtileamjmhhifaaaGreat
open Go.RowKit Go.Joins Go.Sort Go.Shelf
set_option linter.unusedVariables false
set_option linter.unusedSimpArgs false

theorem befB_iff (a b : Dr) : befB a b = true ↔ befP a b := by
  unfold befB befP ltN
  by_cases h1 : a.n.s = b.n.s
  · rw [if_pos h1]
    by_cases h2 : a.n.i = b.n.i
    · rw [if_pos h2]
      have hn : a.n = b.n := by
        cases ha : a.n; cases hb : b.n
        rw [ha, hb] at h1 h2
        simp only at h1 h2
        rw [h1, h2]
      have hs : ¬ (a.n.s < b.n.s ∨ a.n.s = b.n.s ∧ KLt a.n.i b.n.i) := by
        rintro (h | ⟨-, h⟩)
        · omega
        · exact h.ne h2
      by_cases am : a.m = 0
      · by_cases bm : b.m = 0
        · rw [if_pos ⟨fun _ => bm, fun _ => am⟩, if_pos am, decide_eq_true_iff]
          constructor
          · exact fun h => .inr ⟨hn, .inr (.inr ⟨am, bm, h⟩)⟩
          · rintro (h | ⟨-, ⟨h, -⟩ | ⟨h, -⟩ | ⟨-, -, h⟩⟩)
            · exact absurd h hs
            · exact absurd am h
            · exact absurd am h
            · exact h
        · rw [if_neg fun h => bm (h.1 am), decide_eq_true_iff]
          constructor
          · exact fun h => absurd am h
          · rintro (h | ⟨-, ⟨h, -⟩ | ⟨h, -⟩ | ⟨-, h, -⟩⟩)
            · exact absurd h hs
            · exact h
            · exact h
            · exact absurd h bm
      · by_cases bm : b.m = 0
        · rw [if_neg fun h => am (h.2 bm), decide_eq_true_iff]
          exact ⟨fun h => .inr ⟨hn, .inl ⟨am, bm⟩⟩, fun _ => am⟩
        · rw [if_pos ⟨fun h => absurd h am, fun h => absurd h bm⟩, if_neg am, decide_eq_true_iff]
          constructor
          · exact fun h => .inr ⟨hn, .inr (.inl ⟨am, bm, h⟩)⟩
          · rintro (h | ⟨-, ⟨-, h⟩ | ⟨-, -, h⟩ | ⟨h, -⟩⟩)
            · exact absurd h hs
            · exact absurd h bm
            · exact h
            · exact absurd h am
    · rw [if_neg h2, decide_eq_true_iff]
      constructor
      · exact fun h => .inl (.inr ⟨h1, h⟩)
      · rintro ((h | ⟨-, h⟩) | ⟨h, -⟩)
        · omega
        · exact h
        · exact absurd (by rw [h]) h2
  · rw [if_neg h1, decide_eq_true_iff]
    constructor
    · exact fun h => .inl (.inl h)
    · rintro ((h | ⟨h, -⟩) | ⟨h, -⟩)
      · exact h
      · exact absurd h h1
      · exact absurd (by rw [h]) h1
/-- rows laid one by one at their places, as the code does it -/
inductive SortsB (R : List Dr) : Nat → List Dr → Prop
  | nil : SortsB R 0 []
  | ins {i k : Nat} {L : List Dr} (h : SortsB R i L) (hi : i < R.length) (hk : k ≤ L.length) (h1 : ∀ j, j < k → ∀ h : j < L.length, befB L[j] R[i] = true) (h2 : ∀ h : k < L.length, befB L[k] R[i] = false) : SortsB R (i + 1) (insAt L k R[i])
theorem SortsB.len {R : List Dr} {i : Nat} {L : List Dr} (h : SortsB R i L) : L.length = i := by
  induction h with
  | nil => rfl
  | ins _ _ hk _ _ ih => rw [insAt_len _ hk, ih]
theorem SortsB.sorts {R : List Dr} {T : Int} (ho : DOk R T) {i : Nat} {L : List Dr} (h : SortsB R i L) : SortsD R i L := by
  induction h with
  | nil => exact .nil R
  | ins _ hi hk h1 h2 ih => exact ih.ins ho hi hk (fun j hj hl => (befB_iff _ _).1 (h1 j hj hl)) fun hl e => (by
      have := h2 hl
      rw [(befB_iff _ _).2 e] at this; cases this)
theorem app_slice {α : Type} (enc : α → List Value) (k by' : Nat) (ty ts : TypeId) (z : Value) (hk : ∀ x, (enc x).length = k) (h1 : ∀ x, ∀ v ∈ enc x, v.oneCell' = true) (hu : Tryz.prog.underlying ts = some (.slice ty)) (hin : (Tryz.prog.info? ty).map (fun i => (i.zero, i.size, i.bytes)) = some (some z, k, by')) (hzs : z.cells.size = k) (hk0 : 0 < k) (hby : by' ≤ 100)
    {w : World} {ops : Array Oper} {rest : List Oper} {o : Oper} {a : Act} {Q : Exit → Act → World → Prop} (hgd : o.guard = none) (s x : Operand)
    (ho : o.op = .call { callee := .builtin .append, args := #[s, x], argTypes := #[ts, ts] })
    (base : Nat) (v : Value) (L K : List α) (a2 : Option Addr) (n2 c2 : Nat) (hs : a.eval s = v) (hown : w.ownsRow base ty k v L.length (L.flatMap enc)) (hx : a.eval x = .slice a2 n2 c2) (hn2 : n2 = K.length)
    (hc : (a2 = none ∧ K = [] ∧ c2 = 0) ∨ ∃ p, a2 = some p ∧ ∀ j u, (K.flatMap enc)[j]? = some u → w.cell? (p.add j) = some u)
    (hl : L.length ≤ 10000000000) (hkl : K.length ≤ 10000000000) (hbase : base ≤ w.heap.size)
    (h : ∀ v' w', w'.ownsRow base ty k v' (L ++ K).length ((L ++ K).flatMap enc) → w.grownBy w' v.ownBlock → wpList Tryz.prog ops Q rest (a.put o.dst v') w') : wpList Tryz.prog ops Q (o :: rest) a w := by
  obtain ⟨i0, hi, hz0, hz1, hz2⟩ := info_parts hin
  subst hn2
  rcases hc with ⟨rfl, rfl, rfl⟩ | ⟨p, rfl, hp⟩
  · refine wpList_append_own_none hgd s x _ ho base ty i0 k hu hi v L.length (L.flatMap enc) hs hown hx (h v w ?_ ⟨rfl, rfl, rfl, Nat.le_refl _, fun _ _ _ => rfl⟩)
    simpa using hown
  · have hone : ∀ u ∈ K.flatMap enc, u.oneCell' = true := fun u hu => by
      obtain ⟨p, -, hp⟩ := List.mem_flatMap.1 hu
      exact h1 p u hp
    have hbl : (L.length + K.length) * by' ≤ 20000000000 * 100 := Nat.mul_le_mul (by omega) hby
    refine wpList_append_own w hgd s x _ ho base ty i0 z k by' hu hi hz0 hz1 hz2 hzs hk0 v L.length (L.flatMap enc) hs hown p K.length c2 (K.flatMap enc) hx (flat_len hk K) hp hone (by simp only [maxLen]; omega) (by omega) hbase fun v' w' h2 h3 _ => h v' w' (by rw [List.flatMap_append, List.length_append]; exact h2) h3
theorem flat_take9 {α : Type} {enc : α → List Value} {k : Nat} (hk : ∀ x, (enc x).length = k) (L : List α) (n : Nat) (hn : n ≤ L.length) : (L.take n).flatMap enc = (L.flatMap enc).take (n * k) := by
  have h : L.flatMap enc = (L.take n).flatMap enc ++ (L.drop n).flatMap enc := by rw [← List.flatMap_append, List.take_append_drop]
  have hl : ((L.take n).flatMap enc).length = n * k := by rw [flat_len hk, List.length_take, Nat.min_eq_left hn]
  rw [h, ← hl, List.take_left]
theorem flat_drop9 {α : Type} {enc : α → List Value} {k : Nat} (hk : ∀ x, (enc x).length = k) (L : List α) (n : Nat) (hn : n ≤ L.length) : (L.drop n).flatMap enc = (L.flatMap enc).drop (n * k) := by
  have h : L.flatMap enc = (L.take n).flatMap enc ++ (L.drop n).flatMap enc := by rw [← List.flatMap_append, List.take_append_drop]
  have hl : ((L.take n).flatMap enc).length = n * k := by rw [flat_len hk, List.length_take, Nat.min_eq_left hn]
  rw [h, ← hl, List.drop_left]
/-- the cells of a row's beginning and of its end -/
theorem own_head {α : Type} {enc : α → List Value} {k : Nat} (hk : ∀ x, (enc x).length = k) {w : World} {B g n c : Nat} {ty : TypeId} {L : List α} (h : w.ownsRow B ty k (.slice (some ⟨g, 0, none⟩) n c) L.length (L.flatMap enc)) (m : Nat) (hm : m ≤ L.length) : ∀ j u, ((L.take m).flatMap enc)[j]? = some u → w.cell? ((⟨g, 0, none⟩ : Addr).add j) = some u := fun j u hj => by
  refine h.cells (g := g) rfl j u ?_
  rw [flat_take9 hk L m hm, List.getElem?_take] at hj
  split at hj
  · exact hj
  · cases hj
theorem own_tail {α : Type} {enc : α → List Value} {k : Nat} (hk : ∀ x, (enc x).length = k) {w : World} {B g n c : Nat} {ty : TypeId} {L : List α} (h : w.ownsRow B ty k (.slice (some ⟨g, 0, none⟩) n c) L.length (L.flatMap enc)) (m : Nat) (hm : m ≤ L.length) : ∀ j u, ((L.drop m).flatMap enc)[j]? = some u → w.cell? ((⟨g, m * k, none⟩ : Addr).add j) = some u := fun j u hj => by
  rw [flat_drop9 hk L m hm, List.getElem?_drop] at hj
  have := h.cells (g := g) rfl (m * k + j) u hj
  rw [Addr.add_lit] at this ⊢
  simpa [Nat.zero_add] using this
theorem own_ins {w : World} {B n k : Nat} {v : Value} {L : List Dr} {r : Dr} {xs : List Value} (hk : k ≤ L.length) (h : w.ownsRow B 69 6 v n xs) (hn : n = L.length + 1) (hx : xs = (insAt L k r).flatMap Dr.l) : w.ownsRow B 69 6 v (insAt L k r).length ((insAt L k r).flatMap Dr.l) := by
  rw [insAt_len _ hk, ← hn, ← hx]; exact h
theorem cell_same9 {w w' : World} {g i : Nat} (h : w'.heap[g]? = w.heap[g]?) (_ : Unit) : w'.cell? ⟨g, i, none⟩ = w.cell? ⟨g, i, none⟩ := by unfold World.cell?; simp only [h]
def hoT (L : List Dr) (k : Nat) : List Ho := (L.take k).map hoD
theorem hoT_len (L : List Dr) (k : Nat) (hk : k ≤ L.length) : (hoT L k).length = k := by unfold hoT; rw [List.length_map, List.length_take]; omega
theorem hoT_succ (L : List Dr) (k : Nat) (hk : k < L.length) : hoT L (k + 1) = hoT L k ++ [hoD L[k]] := by unfold hoT; rw [List.take_succ_eq_append_getElem hk, List.map_append]; rfl
theorem hoT_all (L : List Dr) : hoT L L.length = L.map hoD := by unfold hoT; rw [List.take_length]
section
variable {w : World} {B tb : Nat} {rv : Value} {R : List Dr} {T : Int}
set_option maxHeartbeats 16000000 in
set_option maxRecDepth 100000 in
theorem dall_any (h : DAt w B tb rv R T) (hl : R.length ≤ 1000) :
    Calls Tryz.prog 16 #[.pointer (some ⟨tb, 0, none⟩)] w fun e w' => ∃ v L, e = .returned v ∧ SortsB R R.length L ∧ w'.ownsRow w.heap.size 80 5 v (L.map hoD).length ((L.map hoD).flatMap hoL) ∧ Below w.heap.size w w' := by
  obtain ⟨a, c, rfl, ha⟩ := h.form
  have HD := Lib.hid h
  have HLR := Lib.hid hl
  have htb0 := (Array.getElem?_eq_some_iff.1 h.at_).1
  clear h
  go_enter Tryz.func16, Tryz.ntmps16
  go_wp2_with fail
  go_loopw [3, 4] (fun tl ti wr => ∃ (i : Nat) (L : List Dr), i ≤ R.length ∧ ti = .int .i64 i ∧ SortsB R i L ∧ wr.ownsRow w.heap.size 69 6 tl L.length (L.flatMap Dr.l) ∧ Below w.heap.size w wr) (fun _ ti _ => R.length - (intOf ti).toNat)
  case atStart => exact ⟨0, [], by omega, rfl, .nil, ⟨rfl, .inl ⟨rfl, rfl⟩⟩, Below.refl _ _⟩
  case round =>
    obtain ⟨i, L, hi, rfl, hs, ho, hb⟩ := hrel
    obtain ⟨wo, rfl⟩ : ∃ wo : World, wo = wr := ⟨_, rfl⟩
    obtain ⟨al, cl, rfl, hcl, hml, hal⟩ := own_cap ho
    have HS := Lib.hid hs
    have HO := Lib.hid ho
    have HB := Lib.hid hb
    have HDo := Lib.hid (HD.out.below hb)
    have hLl := hs.len
    have hz := hb.size
    have c0 := HDo.out.hd
    have hLl2 : L.length ≤ 1000 := by omega
    have HLL := Lib.hid hLl
    clear hs ho hb hml
    by_cases hlt : i < R.length
    · obtain ⟨g, rfl, hBg, hgl⟩ := ha (by omega)
      have hik : (i : Int) < (R.length : Int) := by omega
      have hi0 : (0 : Int) ≤ (i : Int) := by omega
      have HLT : Hid (i < R.length ∧ R.length ≤ 1000) := Lib.hid ⟨hlt, hl⟩
      have hRc := fun (W : World) (hW : Below wo.heap.size wo W) (q : Nat) (u : Value) (hu : R[i].l[q]? = some u) => (HDo.out.below hW).cell i q hlt u hu
      have HRC := Lib.hid hRc
      have hIns := fun (k : Nat) (hk : k ≤ L.length) h1 h2 => SortsB.ins (k := k) HS.out hlt hk h1 h2
      have HIns := Lib.hid hIns
      have hbefa := fun (z : Dr) (W : World) => bef_any z R[i] W
      have HBef := Lib.hid hbefa
      clear hRc hIns hbefa
      obtain ⟨r, hr⟩ : ∃ r, R[i] = r := ⟨_, rfl⟩
      rw [hr] at HRC HBef HIns
      clear hr hLl
      obtain ⟨⟨rs, ri⟩, rx, rm, rw', rt⟩ := r
      go_wp2_with fail
      go_loopw [5] (fun tk wr => ∃ k, k ≤ L.length ∧ tk = .int .i64 (k : Nat) ∧ (∀ j, j < k → ∀ h : j < L.length, befB L[j] ⟨⟨rs, ri⟩, rx, rm, rw', rt⟩ = true) ∧ Gr wo wr) (fun tk _ => L.length - (intOf tk).toNat)
      case atStart => exact ⟨0, by omega, rfl, fun j hj => by omega, Gr.refl _⟩
      case round =>
        obtain ⟨k, hk, rfl, hall, hgi⟩ := hrel
        obtain ⟨wi, rfl⟩ : ∃ wi : World, wi = wr := ⟨_, rfl⟩
        have HK := Lib.hid hk
        have HAll := Lib.hid hall
        clear hall
        by_cases hlt2 : k < L.length
        · obtain ⟨gl, rfl, hgl1, hgl2⟩ := hal.resolve_left (by omega)
          have hbs := HAll.out
          have hgw : gl < wi.heap.size := by have := hgi.below.size; omega
          have hgw2 : g < wi.heap.size := by have := hgi.below.size; omega
          have htw2 : tb < wi.heap.size := by have := hgi.below.size; omega
          have hOi := own_keep HO.out fun g hg => hgi.below.block g (HO.out.lt g hg).2
          have hLc : ∀ q u, L[k].l[q]? = some u → wi.cell? ⟨gl, k * 6 + q, none⟩ = some u := fun q u hu => by
            have hq : q < 6 := (List.getElem?_eq_some_iff.1 hu).1
            have := hOi.cells (g := gl) rfl (k * 6 + q) u ((drRow_get L k q hlt2 hq).trans hu)
            rw [Addr.add_lit] at this
            simpa using this
          have hl0 := fun n os => cell_grown (a := ⟨gl, k * 6 + 0, none⟩) hgw (hLc 0 _ rfl) n os
          have hr0 := fun n os => cell_grown (a := ⟨g, i * 6 + 0, none⟩) hgw2 (HRC.out wi hgi.below 0 _ rfl) n os
          have hl1 := fun n os => cell_grown (a := ⟨gl, k * 6 + 1, none⟩) hgw (hLc 1 _ rfl) n os
          have hr1 := fun n os => cell_grown (a := ⟨g, i * 6 + 1, none⟩) hgw2 (HRC.out wi hgi.below 1 _ rfl) n os
          have hl2 := fun n os => cell_grown (a := ⟨gl, k * 6 + 2, none⟩) hgw (hLc 2 _ rfl) n os
          have hr2 := fun n os => cell_grown (a := ⟨g, i * 6 + 2, none⟩) hgw2 (HRC.out wi hgi.below 2 _ rfl) n os
          have hl3 := fun n os => cell_grown (a := ⟨gl, k * 6 + 3, none⟩) hgw (hLc 3 _ rfl) n os
          have hr3 := fun n os => cell_grown (a := ⟨g, i * 6 + 3, none⟩) hgw2 (HRC.out wi hgi.below 3 _ rfl) n os
          have hl4 := fun n os => cell_grown (a := ⟨gl, k * 6 + 4, none⟩) hgw (hLc 4 _ rfl) n os
          have hr4 := fun n os => cell_grown (a := ⟨g, i * 6 + 4, none⟩) hgw2 (HRC.out wi hgi.below 4 _ rfl) n os
          have hl5 := fun n os => cell_grown (a := ⟨gl, k * 6 + 5, none⟩) hgw (hLc 5 _ rfl) n os
          have hr5 := fun n os => cell_grown (a := ⟨g, i * 6 + 5, none⟩) hgw2 (HRC.out wi hgi.below 5 _ rfl) n os
          simp only [Nat.add_zero] at hl0 hr0
          have ht0 := fun n os => cell_grown (a := ⟨tb, 0, none⟩) htw2 (HDo.out.below hgi.below).hd n os
          have hnx : ∀ q, befB L[k] ⟨⟨rs, ri⟩, rx, rm, rw', rt⟩ = q → (q = true → ∀ j, j < k + 1 → ∀ h : j < L.length, befB L[j] ⟨⟨rs, ri⟩, rx, rm, rw', rt⟩ = true) ∧ (q = false → ∀ h : k < L.length, befB L[k] ⟨⟨rs, ri⟩, rx, rm, rw', rt⟩ = false) := fun q hq => ⟨fun e j hj hjl => by
            by_cases e2 : j = k
            · subst e2; exact hq.trans e
            · exact HAll.out j (by omega) hjl, fun e _ => hq.trans e⟩
          have hbf := fun n os => Calls.grown_of ((HBef.out L[k] (grow (wi.drewN n) os)).mono fun e w' h => ⟨h.1, h.2⟩)
          have HNX := Lib.hid hnx
          have hkI : (k : Int) < (L.length : Int) := by omega
          have hk0 : (0 : Int) ≤ (k : Int) := by omega
          have HLT2 : Hid (k < L.length ∧ L.length ≤ 1000) := Lib.hid ⟨hlt2, hLl2⟩
          have HGI := Lib.hid hgi
          clear hLc hOi hbs hnx hgi
          generalize L[k] = z at *
          obtain ⟨⟨zs, zi⟩, zx, zm, zw, zt⟩ := z
          simp only [Dr.cs] at hbf
          obtain ⟨q, hq⟩ : ∃ q, befB ⟨⟨zs, zi⟩, zx, zm, zw, zt⟩ ⟨⟨rs, ri⟩, rx, rm, rw', rt⟩ = q := ⟨_, rfl⟩
          have HQ := Lib.hid (HNX.out q hq)
          rw [hq] at hbf
          have HBf := Lib.hid hbf
          clear hbf hq HNX
          go_wp2_with fail
          have hmix : Tryz.prog.follows .mixedOrders = true := by kernel_rfl
          refine wp_region_quiet_grown hmix (by kernel_rfl) ?_
          clear hmix
          iterate 16 (with_reducible refine wpQuiet_step (fun K hK => ?_); go_simp; with_reducible refine hK _ ?_; clear hK K)
          with_reducible refine wpQuiet_step (fun K hK => ?_)
          go_simp
          apply Exists.intro
          refine ⟨fun _ => ?_, hK _ ?_⟩
          exact HBf.out _ _
          clear hK K
          iterate 1 (with_reducible refine wpQuiet_step (fun K hK => ?_); go_simp; with_reducible refine hK _ ?_; clear hK K)
          with_reducible refine wpQuiet_nil ?_
          with_reducible intro _ hw'
          obtain ⟨⟨nq, osq⟩, hw''⟩ := hw'
          subst hw''
          have HG : Hid (Gr wo (grow (wi.drewN nq) osq)) := Lib.hid (HGI.out.trans ⟨nq, osq, rfl⟩)
          clear hl0 hr0 hl1 hr1 hl2 hr2 hl3 hr3 hl4 hr4 hl5 hr5 ht0 HBf hgw hgw2 htw2
          cases q with
          | true =>
            go_wp2_with fail
            exact ⟨⟨k + 1, by have := HLT2.out; omega, by have := HLT2.out; go_num, HQ.out.1 rfl, HG.out⟩, by have := HLT2.out; simp [intOf]; omega⟩
          | false =>
            have HStop := Lib.hid (HQ.out.2 rfl)
            clear HQ
            obtain ⟨WX, hWX⟩ : ∃ WX : World, WX = grow (wi.drewN nq) osq := ⟨_, rfl⟩
            rw [← hWX] at HG ⊢
            clear hWX
            have hkc : (k : Int) ≤ (cl : Int) := by omega
            have hkc2 : k ≠ cl := by omega
            have hLcl : (L.length : Int) ≤ (cl : Int) := by omega
            have HOW := Lib.hid (own_keep HO.out fun g hg => HG.out.below.block g (HO.out.lt g hg).2)
            have hzW := HG.out.below.size
            have HN1 : Hid (k = (L.take k).length) := Lib.hid <| by rw [List.length_take]; have := HK.out; omega
            have HN3 : Hid ((L.length - k) = (L.drop k).length) := Lib.hid <| by rw [List.length_drop]
            have hl1 : (L.take k).length ≤ 10000000000 := by rw [List.length_take]; omega
            have hl3 : (L.drop k).length ≤ 10000000000 := by rw [List.length_drop]; omega
            go_wp2_with (at_builtin; refine app_slice Dr.l 6 56 69 27 _ drl_len drl_one Tryz.underlying27 infoDr rfl (by decide) (by decide) rfl _ _ rfl WX.heap.size (.slice none 0 0) [] (L.take k) (some ⟨gl, 0, none⟩) k cl rfl ⟨rfl, .inl ⟨rfl, rfl⟩⟩ rfl HN1.out (.inr ⟨_, rfl, own_head drl_len HOW.out k HK.out⟩) (by simp) hl1 (Nat.le_refl _) ?_)
            intro v1 w1 ho1 hg1
            have HO1 : Hid (w1.ownsRow WX.heap.size 69 6 v1 (L.take k).length ((L.take k).flatMap Dr.l)) := Lib.hid (by rw [show (L.take k).length = k from by rw [List.length_take]; have := HK.out; omega]; simpa using ho1)
            have hb1 : Below WX.heap.size WX w1 := ⟨hg1.os, hg1.tape, hg1.output, hg1.size, fun q hq => hg1.block q hq (by simp [Value.ownBlock])⟩
            have HB1 := Lib.hid hb1
            have hbo1 : Below wo.heap.size wo w1 := HG.out.below.trans (hb1.mono hzW)
            have HBo1 := Lib.hid hbo1
            have HOW1 := Lib.hid (own_keep HOW.out fun g hg => hb1.block g (HOW.out.lt g hg).2)
            have d0 := (HDo.out.below hbo1).hd
            have r0 := HRC.out w1 hbo1 0 _ rfl
            have r1 := HRC.out w1 hbo1 1 _ rfl
            have r2 := HRC.out w1 hbo1 2 _ rfl
            have r3 := HRC.out w1 hbo1 3 _ rfl
            have r4 := HRC.out w1 hbo1 4 _ rfl
            have r5 := HRC.out w1 hbo1 5 _ rfl
            simp only [Nat.add_zero] at r0
            have hz1 := hb1.size
            have hba : Below w1.heap.size w1 (w1.alloc (.cells #[.int .i64 rs, .string ri, .int .i64 rx, .int .i64 rm, .int .i64 rw', .int .i64 rt] 69)) := (Below.refl _ _).alloc (Nat.le_refl _) _
            have ho1a := own_keep HO1.out fun g hg => hba.block g (HO1.out.lt g hg).2
            have HOW1a := Lib.hid (own_keep HOW1.out fun g hg => hba.block g (HOW1.out.lt g hg).2)
            have hon : (w1.alloc (.cells #[.int .i64 rs, .string ri, .int .i64 rx, .int .i64 rm, .int .i64 rw', .int .i64 rt] 69)).ownsRow w1.heap.size 69 6 (.slice (some ⟨w1.heap.size, 0, none⟩) 1 1) [(⟨⟨rs, ri⟩, rx, rm, rw', rt⟩ : Dr)].length ([(⟨⟨rs, ri⟩, rx, rm, rw', rt⟩ : Dr)].flatMap Dr.l) := own_one Dr.l 6 drl_len 69 w1 (⟨⟨rs, ri⟩, rx, rm, rw', rt⟩ : Dr)
            have hza : WX.heap.size ≤ (w1.alloc (.cells #[.int .i64 rs, .string ri, .int .i64 rx, .int .i64 rm, .int .i64 rw', .int .i64 rt] 69)).heap.size := by rw [World.size_alloc]; omega
            have HO1a := Lib.hid ho1a
            have HBa := Lib.hid hba
            have HZ1 := Lib.hid hz1
            have HZa := Lib.hid hza
            clear ho1 hg1 hb1 hbo1 hba hl1
            go_wp2_with (at_builtin; refine app_rows Dr.l 6 56 69 27 _ drl_len drl_one Tryz.underlying27 infoDr rfl (by decide) (by decide) rfl _ _ rfl WX.heap.size _ _ (.slice (some ⟨w1.heap.size, 0, none⟩) 1 1) (L.take k) [(⟨⟨rs, ri⟩, rx, rm, rw', rt⟩ : Dr)] rfl ho1a rfl hon (by rw [List.length_take]; omega) (by simp) hza ?_)
            intro v2 w2 ho2 hg2
            have HO2' : Hid (w2.ownsRow WX.heap.size 69 6 v2 (L.take k ++ [(⟨⟨rs, ri⟩, rx, rm, rw', rt⟩ : Dr)]).length ((L.take k ++ [(⟨⟨rs, ri⟩, rx, rm, rw', rt⟩ : Dr)]).flatMap Dr.l)) := Lib.hid (by rw [show (L.take k ++ [(⟨⟨rs, ri⟩, rx, rm, rw', rt⟩ : Dr)]).length = k + 1 from by rw [List.length_append, List.length_take]; have := HK.out; simp; omega]; simpa using ho2)
            have HB2 : Hid (Below WX.heap.size WX w2) := Lib.hid ((HB1.out.trans (HBa.out.mono HZ1.out)).grown hg2 HZa.out fun q hq => (HO1a.out.lt q hq).1)
            have HO2 := Lib.hid (own_keep HOW.out fun g hg => HB2.out.block g (HOW.out.lt g hg).2)
            have ho2' := HO2'.out
            have hz2 := HB2.out.size
            have hl2 : (L.take k ++ [(⟨⟨rs, ri⟩, rx, rm, rw', rt⟩ : Dr)]).length ≤ 10000000000 := by rw [List.length_append, List.length_take]; simp; omega
            clear ho2 hg2 ho1a hon hza d0 r0 r1 r2 r3 r4 r5
            go_wp2_with (at_builtin; refine app_slice Dr.l 6 56 69 27 _ drl_len drl_one Tryz.underlying27 infoDr rfl (by decide) (by decide) rfl _ _ rfl WX.heap.size _ (L.take k ++ [(⟨⟨rs, ri⟩, rx, rm, rw', rt⟩ : Dr)]) (L.drop k) (some ⟨gl, k * 6, none⟩) (L.length - k) (cl - k) rfl ho2' rfl HN3.out (.inr ⟨_, rfl, own_tail drl_len HO2.out k HK.out⟩) hl2 hl3 hz2 ?_)
            intro v3 w3 ho3 hg3
            have HO3 : Hid (w3.ownsRow w.heap.size 69 6 v3 (insAt L k (⟨⟨rs, ri⟩, rx, rm, rw', rt⟩ : Dr)).length ((insAt L k (⟨⟨rs, ri⟩, rx, rm, rw', rt⟩ : Dr)).flatMap Dr.l)) := Lib.hid (own_ins HK.out (own_mono9 ho3 (by have := HB.out.size; omega)) (by have := HK.out; first | (simp; done) | (simp; omega) | omega) (by simp [insAt]))
            have HB3 : Hid (Below w.heap.size w w3) := Lib.hid (HB.out.trans ((HG.out.below.trans ((HB2.out.grown hg3 HB2.out.size fun q hq => (HO2'.out.lt q hq).1).mono hzW)).mono HB.out.size))
            have HIk := Lib.hid (HIns.out k HK.out HAll.out HStop.out)
            clear ho3 hg3 ho2' hl2 hl3 hz2 hz1 hzW
            go_wp2_with fail
            exact ⟨⟨i + 1, insAt L k (⟨⟨rs, ri⟩, rx, rm, rw', rt⟩ : Dr), by have := HLT.out; omega, by have := HLT.out; go_num, HIk.out, HO3.out, HB3.out⟩, by have := HLT.out; simp [intOf]; omega⟩
        · have hkl : k = L.length := by omega
          have HStop : Hid (∀ h : k < L.length, befB L[k] ⟨⟨rs, ri⟩, rx, rm, rw', rt⟩ = false) := Lib.hid fun h => absurd h hlt2
          have HG := Lib.hid hgi
          clear hgi
          obtain ⟨WX0, hWX0⟩ : ∃ WX0 : World, WX0 = wi := ⟨_, rfl⟩
          clear hWX0 WX0
          have hkn : decide ((k : Int) < (L.length : Int)) = false := by simp; omega
          have hk0 : (0 : Int) ≤ (k : Int) := by omega
          have HKL := Lib.hid hkl
          have hkL : (k : Int) ≤ (L.length : Int) := by omega
          clear hkl
          go_wp2_with fail
          have hmix : Tryz.prog.follows .mixedOrders = true := by kernel_rfl
          refine wp_region_quiet_grown hmix (by kernel_rfl) ?_
          clear hmix
          iterate 5 (with_reducible refine wpQuiet_step (fun K hK => ?_); go_simp; with_reducible refine hK _ ?_; clear hK K)
          iterate 12 go_big_quiet_skip
          iterate 1 (with_reducible refine wpQuiet_step (fun K hK => ?_); go_simp; with_reducible refine hK _ ?_; clear hK K)
          with_reducible refine wpQuiet_nil ?_
          with_reducible intro _ hw'
          obtain ⟨⟨nq, osq⟩, hw''⟩ := hw'
          subst hw''
          have HG' : Hid (Gr wo (grow (wi.drewN nq) osq)) := Lib.hid (HG.out.trans ⟨nq, osq, rfl⟩)
          obtain ⟨WX, hWX⟩ : ∃ WX : World, WX = grow (wi.drewN nq) osq := ⟨_, rfl⟩
          rw [← hWX] at HG' ⊢
          clear hWX HG
          have HG := HG'
          clear HG'
          rcases hal with ⟨rfl, hl0, rfl⟩ | ⟨gl, rfl, hgl1, hgl2⟩
          · have hLn : L = [] := List.length_eq_zero_iff.1 hl0
            have hk00 : k = 0 := by have := HKL.out; omega
            subst hLn hk00
            clear hl0 hkn hk0 hkL
            have HOW := Lib.hid (own_keep HO.out fun g hg => HG.out.below.block g (HO.out.lt g hg).2)
            have hzW := HG.out.below.size
            have HN1 : Hid (0 = (([] : List Dr).take 0).length) := Lib.hid rfl
            have HN3 : Hid (0 = (([] : List Dr).drop 0).length) := Lib.hid rfl
            have hl1 : (([] : List Dr).take 0).length ≤ 10000000000 := by simp
            have hl3 : (([] : List Dr).drop 0).length ≤ 10000000000 := by simp
            go_wp2_with (at_builtin; refine app_slice Dr.l 6 56 69 27 _ drl_len drl_one Tryz.underlying27 infoDr rfl (by decide) (by decide) rfl _ _ rfl WX.heap.size (.slice none 0 0) [] (([] : List Dr).take 0) none 0 0 rfl ⟨rfl, .inl ⟨rfl, rfl⟩⟩ rfl HN1.out (.inl ⟨rfl, rfl, rfl⟩) (by simp) hl1 (Nat.le_refl _) ?_)
            intro v1 w1 ho1 hg1
            have HO1 : Hid (w1.ownsRow WX.heap.size 69 6 v1 (([] : List Dr).take 0).length ((([] : List Dr).take 0).flatMap Dr.l)) := Lib.hid (by simpa using ho1)
            have hb1 : Below WX.heap.size WX w1 := ⟨hg1.os, hg1.tape, hg1.output, hg1.size, fun q hq => hg1.block q hq (by simp [Value.ownBlock])⟩
            have HB1 := Lib.hid hb1
            have hbo1 : Below wo.heap.size wo w1 := HG.out.below.trans (hb1.mono hzW)
            have HBo1 := Lib.hid hbo1
            have HOW1 := Lib.hid (own_keep HOW.out fun g hg => hb1.block g (HOW.out.lt g hg).2)
            have d0 := (HDo.out.below hbo1).hd
            have r0 := HRC.out w1 hbo1 0 _ rfl
            have r1 := HRC.out w1 hbo1 1 _ rfl
            have r2 := HRC.out w1 hbo1 2 _ rfl
            have r3 := HRC.out w1 hbo1 3 _ rfl
            have r4 := HRC.out w1 hbo1 4 _ rfl
            have r5 := HRC.out w1 hbo1 5 _ rfl
            simp only [Nat.add_zero] at r0
            have hz1 := hb1.size
            have hba : Below w1.heap.size w1 (w1.alloc (.cells #[.int .i64 rs, .string ri, .int .i64 rx, .int .i64 rm, .int .i64 rw', .int .i64 rt] 69)) := (Below.refl _ _).alloc (Nat.le_refl _) _
            have ho1a := own_keep HO1.out fun g hg => hba.block g (HO1.out.lt g hg).2
            have HOW1a := Lib.hid (own_keep HOW1.out fun g hg => hba.block g (HOW1.out.lt g hg).2)
            have hon : (w1.alloc (.cells #[.int .i64 rs, .string ri, .int .i64 rx, .int .i64 rm, .int .i64 rw', .int .i64 rt] 69)).ownsRow w1.heap.size 69 6 (.slice (some ⟨w1.heap.size, 0, none⟩) 1 1) [(⟨⟨rs, ri⟩, rx, rm, rw', rt⟩ : Dr)].length ([(⟨⟨rs, ri⟩, rx, rm, rw', rt⟩ : Dr)].flatMap Dr.l) := own_one Dr.l 6 drl_len 69 w1 (⟨⟨rs, ri⟩, rx, rm, rw', rt⟩ : Dr)
            have hza : WX.heap.size ≤ (w1.alloc (.cells #[.int .i64 rs, .string ri, .int .i64 rx, .int .i64 rm, .int .i64 rw', .int .i64 rt] 69)).heap.size := by rw [World.size_alloc]; omega
            have HO1a := Lib.hid ho1a
            have HBa := Lib.hid hba
            have HZ1 := Lib.hid hz1
            have HZa := Lib.hid hza
            clear ho1 hg1 hb1 hbo1 hba hl1
            go_wp2_with (at_builtin; refine app_rows Dr.l 6 56 69 27 _ drl_len drl_one Tryz.underlying27 infoDr rfl (by decide) (by decide) rfl _ _ rfl WX.heap.size _ _ (.slice (some ⟨w1.heap.size, 0, none⟩) 1 1) (([] : List Dr).take 0) [(⟨⟨rs, ri⟩, rx, rm, rw', rt⟩ : Dr)] rfl ho1a rfl hon (by simp) (by simp) hza ?_)
            intro v2 w2 ho2 hg2
            have HO2' : Hid (w2.ownsRow WX.heap.size 69 6 v2 (([] : List Dr).take 0 ++ [(⟨⟨rs, ri⟩, rx, rm, rw', rt⟩ : Dr)]).length ((([] : List Dr).take 0 ++ [(⟨⟨rs, ri⟩, rx, rm, rw', rt⟩ : Dr)]).flatMap Dr.l)) := Lib.hid (by simpa using ho2)
            have HB2 : Hid (Below WX.heap.size WX w2) := Lib.hid ((HB1.out.trans (HBa.out.mono HZ1.out)).grown hg2 HZa.out fun q hq => (HO1a.out.lt q hq).1)
            have HO2 := Lib.hid (own_keep HOW.out fun g hg => HB2.out.block g (HOW.out.lt g hg).2)
            have ho2' := HO2'.out
            have hz2 := HB2.out.size
            have hl2 : (([] : List Dr).take 0 ++ [(⟨⟨rs, ri⟩, rx, rm, rw', rt⟩ : Dr)]).length ≤ 10000000000 := by simp
            clear ho2 hg2 ho1a hon hza d0 r0 r1 r2 r3 r4 r5
            go_wp2_with (at_builtin; refine app_slice Dr.l 6 56 69 27 _ drl_len drl_one Tryz.underlying27 infoDr rfl (by decide) (by decide) rfl _ _ rfl WX.heap.size _ (([] : List Dr).take 0 ++ [(⟨⟨rs, ri⟩, rx, rm, rw', rt⟩ : Dr)]) (([] : List Dr).drop 0) none 0 0 rfl ho2' rfl HN3.out (.inl ⟨rfl, rfl, rfl⟩) hl2 hl3 hz2 ?_)
            intro v3 w3 ho3 hg3
            have HO3 : Hid (w3.ownsRow w.heap.size 69 6 v3 (insAt ([] : List Dr) 0 (⟨⟨rs, ri⟩, rx, rm, rw', rt⟩ : Dr)).length ((insAt ([] : List Dr) 0 (⟨⟨rs, ri⟩, rx, rm, rw', rt⟩ : Dr)).flatMap Dr.l)) := Lib.hid (own_ins HK.out (own_mono9 ho3 (by have := HB.out.size; omega)) (by have := HK.out; first | (simp; done) | (simp; omega) | omega) (by simp [insAt]))
            have HB3 : Hid (Below w.heap.size w w3) := Lib.hid (HB.out.trans ((HG.out.below.trans ((HB2.out.grown hg3 HB2.out.size fun q hq => (HO2'.out.lt q hq).1).mono hzW)).mono HB.out.size))
            have HIk := Lib.hid (HIns.out 0 HK.out HAll.out HStop.out)
            clear ho3 hg3 ho2' hl2 hl3 hz2 hz1 hzW
            go_wp2_with fail
            exact ⟨⟨i + 1, insAt ([] : List Dr) 0 (⟨⟨rs, ri⟩, rx, rm, rw', rt⟩ : Dr), by have := HLT.out; omega, by have := HLT.out; go_num, HIk.out, HO3.out, HB3.out⟩, by have := HLT.out; simp [intOf]; omega⟩
          · by_cases hck : cl = k
            · subst hck
              have HDn : Hid (L.drop cl = []) := Lib.hid (by rw [HKL.out, List.drop_length])
              have hLcl : (L.length : Int) ≤ (cl : Int) := by omega
              have HOW := Lib.hid (own_keep HO.out fun g hg => HG.out.below.block g (HO.out.lt g hg).2)
              have hzW := HG.out.below.size
              have HN1 : Hid (cl = (L.take cl).length) := Lib.hid <| by rw [List.length_take]; have := HK.out; omega
              have HN3 : Hid (0 = (L.drop cl).length) := Lib.hid <| by rw [HDn.out]; rfl
              have hl1 : (L.take cl).length ≤ 10000000000 := by rw [List.length_take]; omega
              have hl3 : (L.drop cl).length ≤ 10000000000 := by rw [List.length_drop]; omega
              go_wp2_with (at_builtin; refine app_slice Dr.l 6 56 69 27 _ drl_len drl_one Tryz.underlying27 infoDr rfl (by decide) (by decide) rfl _ _ rfl WX.heap.size (.slice none 0 0) [] (L.take cl) (some ⟨gl, 0, none⟩) cl cl rfl ⟨rfl, .inl ⟨rfl, rfl⟩⟩ rfl HN1.out (.inr ⟨_, rfl, own_head drl_len HOW.out cl HK.out⟩) (by simp) hl1 (Nat.le_refl _) ?_)
              intro v1 w1 ho1 hg1
              have HO1 : Hid (w1.ownsRow WX.heap.size 69 6 v1 (L.take cl).length ((L.take cl).flatMap Dr.l)) := Lib.hid (by rw [show (L.take cl).length = cl from by rw [List.length_take]; have := HK.out; omega]; simpa using ho1)
              have hb1 : Below WX.heap.size WX w1 := ⟨hg1.os, hg1.tape, hg1.output, hg1.size, fun q hq => hg1.block q hq (by simp [Value.ownBlock])⟩
              have HB1 := Lib.hid hb1
              have hbo1 : Below wo.heap.size wo w1 := HG.out.below.trans (hb1.mono hzW)
              have HBo1 := Lib.hid hbo1
              have HOW1 := Lib.hid (own_keep HOW.out fun g hg => hb1.block g (HOW.out.lt g hg).2)
              have d0 := (HDo.out.below hbo1).hd
              have r0 := HRC.out w1 hbo1 0 _ rfl
              have r1 := HRC.out w1 hbo1 1 _ rfl
              have r2 := HRC.out w1 hbo1 2 _ rfl
              have r3 := HRC.out w1 hbo1 3 _ rfl
              have r4 := HRC.out w1 hbo1 4 _ rfl
              have r5 := HRC.out w1 hbo1 5 _ rfl
              simp only [Nat.add_zero] at r0
              have hz1 := hb1.size
              have hba : Below w1.heap.size w1 (w1.alloc (.cells #[.int .i64 rs, .string ri, .int .i64 rx, .int .i64 rm, .int .i64 rw', .int .i64 rt] 69)) := (Below.refl _ _).alloc (Nat.le_refl _) _
              have ho1a := own_keep HO1.out fun g hg => hba.block g (HO1.out.lt g hg).2
              have HOW1a := Lib.hid (own_keep HOW1.out fun g hg => hba.block g (HOW1.out.lt g hg).2)
              have hon : (w1.alloc (.cells #[.int .i64 rs, .string ri, .int .i64 rx, .int .i64 rm, .int .i64 rw', .int .i64 rt] 69)).ownsRow w1.heap.size 69 6 (.slice (some ⟨w1.heap.size, 0, none⟩) 1 1) [(⟨⟨rs, ri⟩, rx, rm, rw', rt⟩ : Dr)].length ([(⟨⟨rs, ri⟩, rx, rm, rw', rt⟩ : Dr)].flatMap Dr.l) := own_one Dr.l 6 drl_len 69 w1 (⟨⟨rs, ri⟩, rx, rm, rw', rt⟩ : Dr)
              have hza : WX.heap.size ≤ (w1.alloc (.cells #[.int .i64 rs, .string ri, .int .i64 rx, .int .i64 rm, .int .i64 rw', .int .i64 rt] 69)).heap.size := by rw [World.size_alloc]; omega
              have HO1a := Lib.hid ho1a
              have HBa := Lib.hid hba
              have HZ1 := Lib.hid hz1
              have HZa := Lib.hid hza
              clear ho1 hg1 hb1 hbo1 hba hl1
              go_wp2_with (at_builtin; refine app_rows Dr.l 6 56 69 27 _ drl_len drl_one Tryz.underlying27 infoDr rfl (by decide) (by decide) rfl _ _ rfl WX.heap.size _ _ (.slice (some ⟨w1.heap.size, 0, none⟩) 1 1) (L.take cl) [(⟨⟨rs, ri⟩, rx, rm, rw', rt⟩ : Dr)] rfl ho1a rfl hon (by rw [List.length_take]; omega) (by simp) hza ?_)
              intro v2 w2 ho2 hg2
              have HO2' : Hid (w2.ownsRow WX.heap.size 69 6 v2 (L.take cl ++ [(⟨⟨rs, ri⟩, rx, rm, rw', rt⟩ : Dr)]).length ((L.take cl ++ [(⟨⟨rs, ri⟩, rx, rm, rw', rt⟩ : Dr)]).flatMap Dr.l)) := Lib.hid (by rw [show (L.take cl ++ [(⟨⟨rs, ri⟩, rx, rm, rw', rt⟩ : Dr)]).length = cl + 1 from by rw [List.length_append, List.length_take]; have := HK.out; simp; omega]; simpa using ho2)
              have HB2 : Hid (Below WX.heap.size WX w2) := Lib.hid ((HB1.out.trans (HBa.out.mono HZ1.out)).grown hg2 HZa.out fun q hq => (HO1a.out.lt q hq).1)
              have HO2 := Lib.hid (own_keep HOW.out fun g hg => HB2.out.block g (HOW.out.lt g hg).2)
              have ho2' := HO2'.out
              have hz2 := HB2.out.size
              have hl2 : (L.take cl ++ [(⟨⟨rs, ri⟩, rx, rm, rw', rt⟩ : Dr)]).length ≤ 10000000000 := by rw [List.length_append, List.length_take]; simp; omega
              clear ho2 hg2 ho1a hon hza d0 r0 r1 r2 r3 r4 r5
              go_wp2_with (at_builtin; refine app_slice Dr.l 6 56 69 27 _ drl_len drl_one Tryz.underlying27 infoDr rfl (by decide) (by decide) rfl _ _ rfl WX.heap.size _ (L.take cl ++ [(⟨⟨rs, ri⟩, rx, rm, rw', rt⟩ : Dr)]) (L.drop cl) (some ⟨gl, 0, none⟩) 0 0 rfl ho2' rfl HN3.out (.inr ⟨_, rfl, fun j u hj => by rw [HDn.out] at hj; simp at hj⟩) hl2 hl3 hz2 ?_)
              intro v3 w3 ho3 hg3
              have HO3 : Hid (w3.ownsRow w.heap.size 69 6 v3 (insAt L cl (⟨⟨rs, ri⟩, rx, rm, rw', rt⟩ : Dr)).length ((insAt L cl (⟨⟨rs, ri⟩, rx, rm, rw', rt⟩ : Dr)).flatMap Dr.l)) := Lib.hid (own_ins HK.out (own_mono9 ho3 (by have := HB.out.size; omega)) (by have := HK.out; first | (simp; done) | (simp; omega) | omega) (by simp [insAt]))
              have HB3 : Hid (Below w.heap.size w w3) := Lib.hid (HB.out.trans ((HG.out.below.trans ((HB2.out.grown hg3 HB2.out.size fun q hq => (HO2'.out.lt q hq).1).mono hzW)).mono HB.out.size))
              have HIk := Lib.hid (HIns.out cl HK.out HAll.out HStop.out)
              clear ho3 hg3 ho2' hl2 hl3 hz2 hz1 hzW
              go_wp2_with fail
              exact ⟨⟨i + 1, insAt L cl (⟨⟨rs, ri⟩, rx, rm, rw', rt⟩ : Dr), by have := HLT.out; omega, by have := HLT.out; go_num, HIk.out, HO3.out, HB3.out⟩, by have := HLT.out; simp [intOf]; omega⟩
            · have hkc : (k : Int) ≤ (cl : Int) := by have := HKL.out; omega
              have hkc2 : k ≠ cl := fun e => hck e.symm
              have hLcl : (L.length : Int) ≤ (cl : Int) := by have := HKL.out; omega
              clear hck
              have HOW := Lib.hid (own_keep HO.out fun g hg => HG.out.below.block g (HO.out.lt g hg).2)
              have hzW := HG.out.below.size
              have HN1 : Hid (k = (L.take k).length) := Lib.hid <| by rw [List.length_take]; have := HK.out; omega
              have HN3 : Hid ((L.length - k) = (L.drop k).length) := Lib.hid <| by rw [List.length_drop]
              have hl1 : (L.take k).length ≤ 10000000000 := by rw [List.length_take]; omega
              have hl3 : (L.drop k).length ≤ 10000000000 := by rw [List.length_drop]; omega
              go_wp2_with (at_builtin; refine app_slice Dr.l 6 56 69 27 _ drl_len drl_one Tryz.underlying27 infoDr rfl (by decide) (by decide) rfl _ _ rfl WX.heap.size (.slice none 0 0) [] (L.take k) (some ⟨gl, 0, none⟩) k cl rfl ⟨rfl, .inl ⟨rfl, rfl⟩⟩ rfl HN1.out (.inr ⟨_, rfl, own_head drl_len HOW.out k HK.out⟩) (by simp) hl1 (Nat.le_refl _) ?_)
              intro v1 w1 ho1 hg1
              have HO1 : Hid (w1.ownsRow WX.heap.size 69 6 v1 (L.take k).length ((L.take k).flatMap Dr.l)) := Lib.hid (by rw [show (L.take k).length = k from by rw [List.length_take]; have := HK.out; omega]; simpa using ho1)
              have hb1 : Below WX.heap.size WX w1 := ⟨hg1.os, hg1.tape, hg1.output, hg1.size, fun q hq => hg1.block q hq (by simp [Value.ownBlock])⟩
              have HB1 := Lib.hid hb1
              have hbo1 : Below wo.heap.size wo w1 := HG.out.below.trans (hb1.mono hzW)
              have HBo1 := Lib.hid hbo1
              have HOW1 := Lib.hid (own_keep HOW.out fun g hg => hb1.block g (HOW.out.lt g hg).2)
              have d0 := (HDo.out.below hbo1).hd
              have r0 := HRC.out w1 hbo1 0 _ rfl
              have r1 := HRC.out w1 hbo1 1 _ rfl
              have r2 := HRC.out w1 hbo1 2 _ rfl
              have r3 := HRC.out w1 hbo1 3 _ rfl
              have r4 := HRC.out w1 hbo1 4 _ rfl
              have r5 := HRC.out w1 hbo1 5 _ rfl
              simp only [Nat.add_zero] at r0
              have hz1 := hb1.size
              have hba : Below w1.heap.size w1 (w1.alloc (.cells #[.int .i64 rs, .string ri, .int .i64 rx, .int .i64 rm, .int .i64 rw', .int .i64 rt] 69)) := (Below.refl _ _).alloc (Nat.le_refl _) _
              have ho1a := own_keep HO1.out fun g hg => hba.block g (HO1.out.lt g hg).2
              have HOW1a := Lib.hid (own_keep HOW1.out fun g hg => hba.block g (HOW1.out.lt g hg).2)
              have hon : (w1.alloc (.cells #[.int .i64 rs, .string ri, .int .i64 rx, .int .i64 rm, .int .i64 rw', .int .i64 rt] 69)).ownsRow w1.heap.size 69 6 (.slice (some ⟨w1.heap.size, 0, none⟩) 1 1) [(⟨⟨rs, ri⟩, rx, rm, rw', rt⟩ : Dr)].length ([(⟨⟨rs, ri⟩, rx, rm, rw', rt⟩ : Dr)].flatMap Dr.l) := own_one Dr.l 6 drl_len 69 w1 (⟨⟨rs, ri⟩, rx, rm, rw', rt⟩ : Dr)
              have hza : WX.heap.size ≤ (w1.alloc (.cells #[.int .i64 rs, .string ri, .int .i64 rx, .int .i64 rm, .int .i64 rw', .int .i64 rt] 69)).heap.size := by rw [World.size_alloc]; omega
              have HO1a := Lib.hid ho1a
              have HBa := Lib.hid hba
              have HZ1 := Lib.hid hz1
              have HZa := Lib.hid hza
              clear ho1 hg1 hb1 hbo1 hba hl1
              go_wp2_with (at_builtin; refine app_rows Dr.l 6 56 69 27 _ drl_len drl_one Tryz.underlying27 infoDr rfl (by decide) (by decide) rfl _ _ rfl WX.heap.size _ _ (.slice (some ⟨w1.heap.size, 0, none⟩) 1 1) (L.take k) [(⟨⟨rs, ri⟩, rx, rm, rw', rt⟩ : Dr)] rfl ho1a rfl hon (by rw [List.length_take]; omega) (by simp) hza ?_)
              intro v2 w2 ho2 hg2
              have HO2' : Hid (w2.ownsRow WX.heap.size 69 6 v2 (L.take k ++ [(⟨⟨rs, ri⟩, rx, rm, rw', rt⟩ : Dr)]).length ((L.take k ++ [(⟨⟨rs, ri⟩, rx, rm, rw', rt⟩ : Dr)]).flatMap Dr.l)) := Lib.hid (by rw [show (L.take k ++ [(⟨⟨rs, ri⟩, rx, rm, rw', rt⟩ : Dr)]).length = k + 1 from by rw [List.length_append, List.length_take]; have := HK.out; simp; omega]; simpa using ho2)
              have HB2 : Hid (Below WX.heap.size WX w2) := Lib.hid ((HB1.out.trans (HBa.out.mono HZ1.out)).grown hg2 HZa.out fun q hq => (HO1a.out.lt q hq).1)
              have HO2 := Lib.hid (own_keep HOW.out fun g hg => HB2.out.block g (HOW.out.lt g hg).2)
              have ho2' := HO2'.out
              have hz2 := HB2.out.size
              have hl2 : (L.take k ++ [(⟨⟨rs, ri⟩, rx, rm, rw', rt⟩ : Dr)]).length ≤ 10000000000 := by rw [List.length_append, List.length_take]; simp; omega
              clear ho2 hg2 ho1a hon hza d0 r0 r1 r2 r3 r4 r5
              go_wp2_with (at_builtin; refine app_slice Dr.l 6 56 69 27 _ drl_len drl_one Tryz.underlying27 infoDr rfl (by decide) (by decide) rfl _ _ rfl WX.heap.size _ (L.take k ++ [(⟨⟨rs, ri⟩, rx, rm, rw', rt⟩ : Dr)]) (L.drop k) (some ⟨gl, k * 6, none⟩) (L.length - k) (cl - k) rfl ho2' rfl HN3.out (.inr ⟨_, rfl, own_tail drl_len HO2.out k HK.out⟩) hl2 hl3 hz2 ?_)
              intro v3 w3 ho3 hg3
              have HO3 : Hid (w3.ownsRow w.heap.size 69 6 v3 (insAt L k (⟨⟨rs, ri⟩, rx, rm, rw', rt⟩ : Dr)).length ((insAt L k (⟨⟨rs, ri⟩, rx, rm, rw', rt⟩ : Dr)).flatMap Dr.l)) := Lib.hid (own_ins HK.out (own_mono9 ho3 (by have := HB.out.size; omega)) (by have := HK.out; first | (simp; done) | (simp; omega) | omega) (by simp [insAt]))
              have HB3 : Hid (Below w.heap.size w w3) := Lib.hid (HB.out.trans ((HG.out.below.trans ((HB2.out.grown hg3 HB2.out.size fun q hq => (HO2'.out.lt q hq).1).mono hzW)).mono HB.out.size))
              have HIk := Lib.hid (HIns.out k HK.out HAll.out HStop.out)
              clear ho3 hg3 ho2' hl2 hl3 hz2 hz1 hzW
              go_wp2_with fail
              exact ⟨⟨i + 1, insAt L k (⟨⟨rs, ri⟩, rx, rm, rw', rt⟩ : Dr), by have := HLT.out; omega, by have := HLT.out; go_num, HIk.out, HO3.out, HB3.out⟩, by have := HLT.out; simp [intOf]; omega⟩
    · have hie : i = R.length := by omega
      subst hie
      have HLn := Lib.hid hLl
      clear hLl
      go_wp2_with fail
      go_loopw [7, 8] (fun tv tk wr => ∃ (k : Nat), k ≤ L.length ∧ tk = .int .i64 k ∧ wr.ownsRow wo.heap.size 80 5 tv (hoT L k).length ((hoT L k).flatMap hoL) ∧ Below wo.heap.size wo wr) (fun _ tk _ => L.length - (intOf tk).toNat)
      case atStart => exact ⟨0, by omega, rfl, ⟨rfl, .inl ⟨rfl, rfl⟩⟩, Below.refl _ _⟩
      case round =>
        obtain ⟨k, hk, rfl, hoh, hbi⟩ := hrel
        obtain ⟨wi, rfl⟩ : ∃ wi : World, wi = wr := ⟨_, rfl⟩
        have HOH := Lib.hid hoh
        have HBI := Lib.hid hbi
        have hzi := hbi.size
        have hTl : (hoT L k).length ≤ 10000000000 := by rw [hoT_len L k hk]; omega
        have hOi := own_keep HO.out fun g hg => hbi.block g (HO.out.lt g hg).2
        clear hoh hbi
        by_cases hlt2 : k < L.length
        · obtain ⟨gl, rfl, hgl1, hgl2⟩ := hal.resolve_left (by omega)
          have hLc : ∀ q u, L[k].l[q]? = some u → wi.cell? ⟨gl, k * 6 + q, none⟩ = some u := fun q u hu => by
            have hq : q < 6 := (List.getElem?_eq_some_iff.1 hu).1
            have := hOi.cells (g := gl) rfl (k * 6 + q) u ((drRow_get L k q hlt2 hq).trans hu)
            rw [Addr.add_lit] at this
            simpa using this
          have HTs := Lib.hid (hoT_succ L k hlt2)
          have hkI : (k : Int) < (L.length : Int) := by omega
          have hk0 : (0 : Int) ≤ (k : Int) := by omega
          have HLT2 : Hid (k < L.length ∧ L.length ≤ 1000) := Lib.hid ⟨hlt2, hLl2⟩
          have hgw : gl < wi.heap.size := by omega
          have hownL := hOi
          have sa0 : wi.cell? ⟨gl, k * 6, none⟩ = some (.int .i64 L[k].n.s) := hLc 0 _ rfl
          have sa1 : wi.cell? ⟨gl, k * 6 + 1, none⟩ = some (.string L[k].n.i) := hLc 1 _ rfl
          have sa2 : wi.cell? ⟨gl, k * 6 + 2, none⟩ = some (.int .i64 L[k].x) := hLc 2 _ rfl
          have sa3 : wi.cell? ⟨gl, k * 6 + 3, none⟩ = some (.int .i64 L[k].m) := hLc 3 _ rfl
          have sa4 : wi.cell? ⟨gl, k * 6 + 4, none⟩ = some (.int .i64 L[k].w) := hLc 4 _ rfl
          clear hLc hOi
          generalize L[k] = z at *
          obtain ⟨⟨zs, zi⟩, zx, zm, zw, zt⟩ := z
          simp only [hoD] at HTs
          simp only at sa0 sa1 sa2 sa3 sa4
          have hsame : ∀ W : World, W.heap[gl]? = wi.heap[gl]? → W.cell? ⟨gl, k * 6, none⟩ = some (.int .i64 zs) ∧ W.cell? ⟨gl, k * 6 + 1, none⟩ = some (.string zi) ∧ W.cell? ⟨gl, k * 6 + 2, none⟩ = some (.int .i64 zx) ∧ W.cell? ⟨gl, k * 6 + 3, none⟩ = some (.int .i64 zm) ∧ W.cell? ⟨gl, k * 6 + 4, none⟩ = some (.int .i64 zw) := fun W h => ⟨(cell_same9 h ()).trans sa0, (cell_same9 h ()).trans sa1, (cell_same9 h ()).trans sa2, (cell_same9 h ()).trans sa3, (cell_same9 h ()).trans sa4⟩
          have hb1 : Below wi.heap.size wi (wi.alloc (.cells #[.int .i64 zs, .string zi, .int .i64 zx, .int .i64 zm, .int .i64 zw] 80)).drew := ((Below.refl _ _).alloc (Nat.le_refl _) _).drew
          have HSA : Hid (wi.cell? ⟨gl, k * 6, none⟩ = some (.int .i64 zs) ∧ wi.cell? ⟨gl, k * 6 + 1, none⟩ = some (.string zi) ∧ wi.cell? ⟨gl, k * 6 + 2, none⟩ = some (.int .i64 zx) ∧ wi.cell? ⟨gl, k * 6 + 3, none⟩ = some (.int .i64 zm) ∧ wi.cell? ⟨gl, k * 6 + 4, none⟩ = some (.int .i64 zw)) := Lib.hid ⟨sa0, sa1, sa2, sa3, sa4⟩
          have HSB : Hid (wi.drew.cell? ⟨gl, k * 6, none⟩ = some (.int .i64 zs) ∧ wi.drew.cell? ⟨gl, k * 6 + 1, none⟩ = some (.string zi) ∧ wi.drew.cell? ⟨gl, k * 6 + 2, none⟩ = some (.int .i64 zx) ∧ wi.drew.cell? ⟨gl, k * 6 + 3, none⟩ = some (.int .i64 zm) ∧ wi.drew.cell? ⟨gl, k * 6 + 4, none⟩ = some (.int .i64 zw)) := Lib.hid (hsame _ rfl)
          have HSC : Hid ((wi.alloc (.cells #[.int .i64 zs, .string zi, .int .i64 zx, .int .i64 zm, .int .i64 zw] 80)).drew.cell? ⟨gl, k * 6, none⟩ = some (.int .i64 zs) ∧ (wi.alloc (.cells #[.int .i64 zs, .string zi, .int .i64 zx, .int .i64 zm, .int .i64 zw] 80)).drew.cell? ⟨gl, k * 6 + 1, none⟩ = some (.string zi) ∧ (wi.alloc (.cells #[.int .i64 zs, .string zi, .int .i64 zx, .int .i64 zm, .int .i64 zw] 80)).drew.cell? ⟨gl, k * 6 + 2, none⟩ = some (.int .i64 zx) ∧ (wi.alloc (.cells #[.int .i64 zs, .string zi, .int .i64 zx, .int .i64 zm, .int .i64 zw] 80)).drew.cell? ⟨gl, k * 6 + 3, none⟩ = some (.int .i64 zm) ∧ (wi.alloc (.cells #[.int .i64 zs, .string zi, .int .i64 zx, .int .i64 zm, .int .i64 zw] 80)).drew.cell? ⟨gl, k * 6 + 4, none⟩ = some (.int .i64 zw)) := Lib.hid (hsame _ (hb1.block gl hgw))
          have hbX : Below wo.heap.size wo (wi.alloc (.cells #[.int .i64 zs, .string zi, .int .i64 zx, .int .i64 zm, .int .i64 zw] 80)).drew := HBI.out.trans (hb1.mono hzi)
          have HBX := Lib.hid hbX
          have hown : (wi.alloc (.cells #[.int .i64 zs, .string zi, .int .i64 zx, .int .i64 zm, .int .i64 zw] 80)).drew.ownsRow wo.heap.size 80 5 _ (hoT L k).length ((hoT L k).flatMap hoL) := own_keep HOH.out fun g hg => hb1.block g (HOH.out.lt g hg).2
          have HO1 := Lib.hid hown
          have HSD : Hid (∀ w9 : World, (wi.alloc (.cells #[.int .i64 zs, .string zi, .int .i64 zx, .int .i64 zm, .int .i64 zw] 80)).drew.grownBy w9 _ → w9.cell? ⟨gl, k * 6, none⟩ = some (.int .i64 zs) ∧ w9.cell? ⟨gl, k * 6 + 1, none⟩ = some (.string zi) ∧ w9.cell? ⟨gl, k * 6 + 2, none⟩ = some (.int .i64 zx) ∧ w9.cell? ⟨gl, k * 6 + 3, none⟩ = some (.int .i64 zm) ∧ w9.cell? ⟨gl, k * 6 + 4, none⟩ = some (.int .i64 zw)) := Lib.hid fun w9 hg => hsame w9 ((hg.block gl (by rw [show (wi.alloc (.cells #[.int .i64 zs, .string zi, .int .i64 zx, .int .i64 zm, .int .i64 zw] 80)).drew.heap.size = wi.heap.size + 1 from World.size_alloc _ _]; omega) fun e => by
            have h1 := (HO1.out.lt gl e.symm).1
            omega).trans (hb1.block gl hgw))
          have hnew : (wi.alloc (.cells #[.int .i64 zs, .string zi, .int .i64 zx, .int .i64 zm, .int .i64 zw] 80)).drew.heap[wi.heap.size]? = some (.cells #[.int .i64 zs, .string zi, .int .i64 zx, .int .i64 zm, .int .i64 zw] 80) := heap_alloc_new wi _
          obtain ⟨i0, hi', hz0, hza, hzb⟩ := info_parts infoHo
          have hone : ∀ u ∈ (#[.int .i64 zs, .string zi, .int .i64 zx, .int .i64 zm, .int .i64 zw] : Array Value).toList, u.oneCell' = true := hoL_one ⟨⟨zs, zi⟩, zx, zm, zw⟩
          have hz1 := hbX.size
          have hs1 : (wi.alloc (.cells #[.int .i64 zs, .string zi, .int .i64 zx, .int .i64 zm, .int .i64 zw] 80)).drew.heap.size = wi.heap.size + 1 := World.size_alloc _ _
          clear hb1 hbX hsame hownL
          go_upto_region 15 with fail
          first | (go_region_held_law (fun W => W.cell? ⟨gl, k * 6, none⟩ = some (.int .i64 zs) ∧ W.cell? ⟨gl, k * 6 + 1, none⟩ = some (.string zi) ∧ W.cell? ⟨gl, k * 6 + 2, none⟩ = some (.int .i64 zx) ∧ W.cell? ⟨gl, k * 6 + 3, none⟩ = some (.int .i64 zm) ∧ W.cell? ⟨gl, k * 6 + 4, none⟩ = some (.int .i64 zw)) (first | exact HSA.out | exact HSB.out | exact HSC.out | exact HS9.out) (first
            | (refine step_append_lies _ (by rfl) _ _ _ (by rfl) wo.heap.size 80 i0 _ 5 48 Tryz.underlying43 hi' hz0 hza hzb rfl (by omega) _ (hoT L k).length _ (by rfl) hown ⟨wi.heap.size, 0, none⟩ 1 1 (#[.int .i64 zs, .string zi, .int .i64 zx, .int .i64 zm, .int .i64 zw] : Array Value).toList (by rfl) (by rfl) (World.news_of_block hnew) hone (by omega) (by simp only [maxLen]; omega) (by omega) hz1 (wi.heap.size + 1) hs1 ?_; intro gg capg w9 hown9 hgrow hat hlt9; have HS9 := Lib.hid (HSD.out w9 hgrow); have HO9' := Lib.hid hown9; have HGr := Lib.hid hgrow; clear hown9 hgrow hat hlt9))) | fail
          all_goals
            have HO9 : Hid (w9.ownsRow wo.heap.size 80 5 (.slice (some ⟨gg, 0, none⟩) ((hoT L k).length + 1) capg) (hoT L (k + 1)).length ((hoT L (k + 1)).flatMap hoL)) := Lib.hid (by
              rw [HTs.out, List.length_append, List.flatMap_append]
              exact HO9'.out)
            have HB9 := Lib.hid (HBX.out.grown HGr.out HBX.out.size fun q hq => (HO1.out.lt q hq).1)
            clear hown hnew hone hz1 hs1 hi' hz0 hza hzb sa0 sa1 sa2 sa3 sa4 hTl
            go_wp2_with fail
            exact ⟨⟨k + 1, by have := HLT2.out; omega, by have := HLT2.out; go_num, HO9.out, HB9.out⟩, by have := HLT2.out; simp [intOf]; omega⟩
        · have hkl : k = L.length := by omega
          have HTa : Hid (hoT L k = L.map hoD) := Lib.hid (by rw [hkl]; exact hoT_all L)
          have hkn : decide ((k : Int) < (L.length : Int)) = false := by simp; omega
          clear hkl hTl
          go_wp2_with fail
          go_ret
          refine ⟨_, L, rfl, by have := HS.out; exact this, ?_, HB.out.trans (HBI.out.mono hz)⟩
          have := own_mono9 HOH.out hz
          rw [HTa.out] at this
          exact this
end
end Go.Proofs.YtileamjmhhifaaaGreat
