/-
  Layer 22 (audit): tree: all nodes, and the chain of leaves.
-/
import Derived.Test.YtljommhbhpappaaGreatAu7
namespace Go.Proofs.YtljommhbhpappaaGreat
open Go.RowKit Go.Joins
set_option linter.unusedVariables false
set_option linter.unusedSimpArgs false

/-- leaves that are chained from the left to the right -/
def Chained (S : Vol) (l : List Int) : Prop := ∀ i (h : i < l.length), (stPg S l[i]).n = if h' : i + 1 < l.length then l[i + 1] else 0
instance (S : Vol) (l : List Int) : Decidable (Chained S l) := inferInstanceAs (Decidable (∀ i (h : i < l.length), (stPg S l[i]).n = if h' : i + 1 < l.length then l[i + 1] else 0))
theorem intRow_get (l : List Int) (i : Nat) (h : i < l.length) : (intRow l)[i]? = some (.int .i64 l[i]) := by simp [intRow, h]
theorem AuAt.noLeaves {B : Nat} {w : World} {lb q b mb hb pb : Nat} {S : Vol} {seen : List (Int × Int)} {lvs : List Int} (h : AuAt B w lb q b mb hb pb S seen lvs) : AuAt B (w.setCell ⟨lb, 2, none⟩ (.slice none 0 0)) lb q b mb hb pb S seen [] ∧ AuK B lb q w (w.setCell ⟨lb, 2, none⟩ (.slice none 0 0)) := by
  have hl := h.lt
  obtain ⟨g1, g2, g3, g4, lv, g5, g6⟩ := h
  have hset : ∀ k, k ≠ lb → (w.setCell ⟨lb, 2, none⟩ (.slice none 0 0)).heap[k]? = w.heap[k]? := fun k hk => Below.heap_setCell _ _ _ _ hk
  have hB : Below B w (w.setCell ⟨lb, 2, none⟩ (.slice none 0 0)) := ⟨rfl, rfl, rfl, by rw [World.size_setCell]; omega, fun k hk => hset k (by omega)⟩
  refine ⟨⟨g1.below hB g2, g2, ⟨g3.1, g3.2.1, by rw [World.size_setCell]; exact g3.2.2⟩, ?_, .slice none 0 0, ?_, World.ownsRow_nil _ _ _ _⟩, ⟨hB.os, hB.tape, hB.output, hB.size, hB.block, fun k hk h1 h2 h3 => hset k h1⟩⟩
  · obtain ⟨es, cl, h7, h8⟩ := g4
    exact ⟨es, cl, (hset q hl.2.2.symm).trans h7, h8⟩
  · have := setCell_block g5 2 (.slice none 0 0)
    simpa using this

set_option maxHeartbeats 8000000 in
set_option maxRecDepth 100000 in
theorem auTree_any {S : Vol} {st x : Int} {N : Nat} {T : Tr N} (hau : Tr.Au S st x N T) (hg : Tr.Good N T) (ho : Tr.Ord N T ByteArray.empty none) (hN : N ≤ 255) (hnd : (Tr.ids N T).Nodup) (hid : ∀ id ∈ Tr.ids N T, 1 ≤ id ∧ id < 1024) (hroot : Tr.id N T = x → ¬ (stPg S x).s = st) (hses : ∀ id ∈ Tr.ids N T, stE S id = 0)
    {B : Nat} {w : World} {lb q b mb hb pb : Nat} {seen : List (Int × Int)} {lvs : List Int} (h : AuAt B w lb q b mb hb pb S seen lvs) (hf : ∀ id ∈ Tr.ids N T, ¬ id ∈ seen.map (·.1)) (hcap : (Tr.leaves N T).length ≤ 5000) :
    Calls Tryz.prog 32 #[.pointer (some ⟨lb, 0, none⟩), .int .i64 st, .int .i64 (Tr.id N T)] w fun e w' => ∃ er, e = .returned (.int .i64 er) ∧ AuK B lb q w w' ∧
      ((er ≠ 0 ∧ (x ∈ Tr.ids N T ∨ ¬ Chained S ((Tr.leaves N T).map (·.1)))) ∨ (er = 0 ∧ ¬ x ∈ Tr.ids N T ∧ Chained S ((Tr.leaves N T).map (·.1)) ∧ ∃ lvs', AuAt B w' lb q b mb hb pb S (seen ++ withS st (Tr.ids N T)) lvs')) := by
  have HG := Lib.hid (fun (id : Int) (w' : World) (h : StageAt w' b mb hb pb S) => get_any S b mb hb pb id w' h)
  obtain ⟨root, hr⟩ : ∃ root, Tr.id N T = root := ⟨_, rfl⟩
  obtain ⟨p, hp⟩ : ∃ p, stPg S root = p := ⟨_, rfl⟩
  have he : stE S root = 0 := hr ▸ hses _ (id_mem N T)
  have hNode : Hid (∀ (w : World) (l : Int), l = p.l → AuAt B w lb q b mb hb pb S seen [] → Calls Tryz.prog 63 #[.pointer (some ⟨lb, 0, none⟩), .int .i64 st, .int .i64 root, .int .i64 l, .string ⟨#[]⟩, .string ⟨#[]⟩] w fun e w' => ∃ er, e = .returned (.int .i64 er) ∧ AuK B lb q w w' ∧
      ((x ∈ Tr.ids N T ∧ er ≠ 0) ∨ (¬ x ∈ Tr.ids N T ∧ er = 0 ∧ AuAt B w' lb q b mb hb pb S (seen ++ withS st (Tr.ids N T)) ((Tr.leaves N T).map (·.1))))) := Lib.hid (by
    intro w l hl hA
    by_cases hx : root = x
    · have hb' : BadNode S st l x := .inl (hroot (hr.trans hx))
      rw [hx]
      have hxm : x ∈ Tr.ids N T := by rw [← hx, ← hr]; exact id_mem N T
      refine (node_bad hb' hA (hf x hxm) _ _).mono ?_
      rintro e w' ⟨er, rfl, her, hK⟩
      exact ⟨er, rfl, hK, .inl ⟨hxm, her⟩⟩
    · have hn := hau.node
      unfold AuN at hn
      rw [hr, if_neg hx] at hn
      obtain ⟨-, nx, hpg⟩ := hn
      have hl2 : l = (N : Int) := by rw [hl, ← hp, hpg]; rfl
      rw [hl2, ← hr]
      exact (node_any N T ByteArray.empty ByteArray.empty hau hg (by rw [show hiO ByteArray.empty = none from if_pos rfl]; exact ho) (fun _ => .inl rfl) hN hnd hid w seen [] hA hf (by simpa using hcap)).mono fun e w' h => by simpa using h)
  have hnl := h.noLeaves
  obtain ⟨lv, hlv, -⟩ := h.blk
  have rl := rowAt_of hlv
  have fl := frozen_row rl 2
  have cl := (cell_of_block hlv 2).trans rfl
  simp only [List.getElem?_toArray, List.getElem?_cons_succ, List.getElem?_cons_zero] at cl
  have A0 := Lib.hid hnl.1
  have K0 := Lib.hid hnl.2
  obtain ⟨c0, c1⟩ := hnl.1.cells
  have hwsz : w.heap.size = (w.setCell ⟨lb, 2, none⟩ (.slice none 0 0)).heap.size := by rw [World.size_setCell]
  have hses' : Hid (∀ x ∈ (Tr.leaves N T).map (·.1), stE S x = 0) := Lib.hid (fun y hy => hses y ((leaves_sub N T).subset hy))
  rw [hr]
  have hL5 : ((Tr.leaves N T).map (·.1)).length ≤ 5000 := by simpa using hcap
  have HGr := Lib.hid (HG.out root)
  rw [hp, he] at HGr
  clear hau hg ho hN hnd hid hroot hses h hf hcap hnl hlv rl hr he hp
  generalize (Tr.leaves N T).map (·.1) = lvL at *
  generalize Tr.ids N T = ids at *
  go_enter Tryz.func32, Tryz.ntmps32
  go_wp2_with fail
  generalize hW0 : w.setCell ⟨lb, 2, none⟩ (.slice none 0 0) = W0 at *
  clear hW0 cl fl
  with_reducible refine (HGr.out _ A0.out.st).mono ?_; rintro e w1 ⟨rfl, hb1⟩
  have A1 := Lib.hid (A0.out.step (hb1.alloc hb1.size (.cells p.cs 38)))
  have K1 := Lib.hid (K0.out.trans (AuK.of_below (hb1.alloc hb1.size (.cells p.cs 38)) A0.out.lo.2.2))
  have R1 := rowAt_at w1 p.cs 38 _ rfl
  have k1 := (cell_row R1 1).trans (show p.cs[1]? = some (.int .i64 p.l) from rfl)
  clear hb1 R1 c0 c1
  go_wp2_with fail
  with_reducible refine (hNode.out _ _ rfl A1.out).mono ?_; rintro e w2 ⟨er, rfl, hK2, hres⟩
  have K2 := Lib.hid (K1.out.trans hK2)
  clear hK2 k1
  rcases hres with ⟨hx, her⟩ | ⟨hx, rfl, hA2⟩
  · have he1 : (er == 0) = false := by simpa using her
    go_wp2_with fail
    go_ret
    exact ⟨er, rfl, K2.out, .inl ⟨her, .inl hx⟩⟩
  · obtain ⟨lv2, hlv2, hown2⟩ := hA2.blk
    obtain ⟨a2, cap2, rfl, ha2⟩ := own_form22 hown2
    have cl := (cell_of_block hlv2 2).trans rfl
    simp only [List.getElem?_toArray, List.getElem?_cons_succ, List.getElem?_cons_zero] at cl
    have A2 := Lib.hid hA2
    have L2 := Lib.hid hlv2
    have O2 := Lib.hid hown2
    have HA2 := Lib.hid ha2
    obtain ⟨c0, c1⟩ := hA2.cells
    clear hA2 hlv2 hown2 ha2
    go_wp2_with fail
    go_loopw [44] (fun v wr => ∃ i, i ≤ lvL.length ∧ v = .int .i64 i ∧ (∀ j (hj : j < lvL.length), j < i → (stPg S lvL[j]).n = if h' : j + 1 < lvL.length then lvL[j + 1] else 0) ∧ Below w2.heap.size w2 wr) (fun v _ => lvL.length - (intOf v).toNat)
    case atStart => exact ⟨0, by omega, rfl, fun j hj h0 => by omega, Below.refl _ _⟩
    case round =>
      obtain ⟨i, hi, rfl, hok, hb⟩ := hrel
      obtain ⟨wo, rfl⟩ : ∃ wo : World, wo = wr := ⟨_, rfl⟩
      have A3 := Lib.hid (A2.out.step hb)
      have L3 := (hb.block lb A2.out.lt.1).trans L2.out
      have O3 := Lib.hid (own_low22 O2.out hb)
      have HB := Lib.hid hb
      have HOk := Lib.hid hok
      have hsz3 := hb.size
      by_cases hlt : i < lvL.length
      · obtain ⟨G, rfl, -⟩ := HA2.out (by omega)
        obtain ⟨id, hid⟩ : ∃ id, lvL[i] = id := ⟨_, rfl⟩
        have ci := own_cell22 O3.out i _ (intRow_get lvL i hlt)
        rw [hid] at ci
        obtain ⟨pp, hpp⟩ : ∃ pp, stPg S id = pp := ⟨_, rfl⟩
        have HGi := Lib.hid (HG.out id)
        rw [hpp, hses'.out id (by rw [← hid]; exact List.getElem_mem hlt)] at HGi
        obtain ⟨d0, -⟩ := A3.out.cells
        have hw3 : IntKind.i64.wrap ((i : Int) + 1) = (i : Int) + 1 := by rw [IntKind.wrap_i64]; omega
        have HId := Lib.hid hid
        have HPp := Lib.hid hpp
        clear hb hok hid hpp
        go_wp2_with fail
        with_reducible refine (HGi.out _ A3.out.st).mono ?_; rintro e w4 ⟨rfl, hb4⟩
        have R4 := rowAt_at w4 pp.cs 38 _ rfl
        have B4a := hb4.alloc hb4.size (.cells pp.cs 38)
        have A4 := Lib.hid (A3.out.step B4a)
        have L4 := (B4a.block lb A3.out.lt.1).trans L3
        have O4 := own_low22 O3.out B4a
        have B4 := Lib.hid (HB.out.trans (B4a.mono hsz3))
        have k3 := (cell_row R4 3).trans (show pp.cs[3]? = some (.int .i64 pp.n) from rfl)
        have cl4 := (cell_of_block L4 2).trans rfl
        simp only [List.getElem?_toArray, List.getElem?_cons_succ, List.getElem?_cons_zero] at cl4
        have hto : ((i : Int) + 1).toNat = i + 1 := by omega
        by_cases hin : i + 1 < lvL.length
        · have cn := own_cell22 O4 (i + 1) _ (intRow_get lvL (i + 1) hin)
          have hin' : decide ((i : Int) + 1 < (lvL.length : Int)) = true := by simp; omega
          obtain ⟨nxt, hnx⟩ : ∃ nxt, lvL[i + 1] = nxt := ⟨_, rfl⟩
          rw [hnx] at cn
          by_cases hnn : pp.n = nxt
          · have hnb : (pp.n == nxt) = true := by simpa using hnn
            clear hb4 R4 B4a O4 L4
            have HNx := Lib.hid hnx
            have HNn := Lib.hid hnn
            clear hnx hnn
            go_wp2_with fail
            go_roundw
            case rel => exact ⟨i + 1, by omega, by go_num, fun j hj hji => by
              by_cases e : j = i
              · subst e
                rw [HId.out, HPp.out, dif_pos hin, HNx.out, HNn.out]
              · exact HOk.out j hj (by omega), B4.out⟩
            case measure => simp [intOf]; omega
          · have hnb : (pp.n == nxt) = false := by simpa using hnn
            clear hb4 R4 B4a O4 L4
            have HNx := Lib.hid hnx
            have HNn := Lib.hid hnn
            clear hnx hnn
            go_wp2_with fail
            go_ret
            refine ⟨_, rfl, K2.out.trans (AuK.of_below B4.out A2.out.lo.2.2), .inl ⟨by decide, .inr (fun hc => HNn.out ?_)⟩⟩
            have := hc i hlt
            rwa [HId.out, HPp.out, dif_pos hin, HNx.out] at this
        · have hin' : decide ((i : Int) + 1 < (lvL.length : Int)) = false := by simp; omega
          by_cases hnn : pp.n = 0
          · have hnb : (pp.n == 0) = true := by simpa using hnn
            clear hb4 R4 B4a O4 L4
            have HNn := Lib.hid hnn
            clear hnn
            go_wp2_with fail
            go_roundw
            case rel => exact ⟨i + 1, by omega, by go_num, fun j hj hji => by
              by_cases e : j = i
              · subst e
                rw [HId.out, HPp.out, dif_neg hin, HNn.out]
              · exact HOk.out j hj (by omega), B4.out⟩
            case measure => simp [intOf]; omega
          · have hnb : (pp.n == 0) = false := by simpa using hnn
            clear hb4 R4 B4a O4 L4
            have HNn := Lib.hid hnn
            clear hnn
            go_wp2_with fail
            go_ret
            refine ⟨_, rfl, K2.out.trans (AuK.of_below B4.out A2.out.lo.2.2), .inl ⟨by decide, .inr (fun hc => HNn.out ?_)⟩⟩
            have := hc i hlt
            rwa [HId.out, HPp.out, dif_neg hin] at this
      · have hie : i = lvL.length := by omega
        subst hie
        clear hb hok
        go_wp2_with fail
        go_ret
        exact ⟨0, rfl, K2.out.trans (AuK.of_below HB.out A2.out.lo.2.2), .inr ⟨rfl, hx, fun j hj => HOk.out j hj hj, _, A3.out⟩⟩
end Go.Proofs.YtljommhbhpappaaGreat
