/-
  Layer 22 (audit): node: a node that is one, its kids given: what is gathered and looked at before its kids.
-/
import Derived.Test.YtljommhbhpappaaGreatAu5
namespace Go.Proofs.YtljommhbhpappaaGreat
open Go.RowKit Go.Joins
set_option linter.unusedVariables false
set_option linter.unusedSimpArgs false

/-- what is said of a node's kids: each is looked at in its turn -/
structure KidsOk (S : Vol) (st x : Int) (n : Nat) (L : List NC) (lo hi : ByteArray) (B lb q b mb hb pb : Nat) (child : Nat → Int) (ids lvs : Nat → List Int) : Prop where
  cell : ∀ i (h : i < L.length), L[i].st = 1 ∧ L[i].rest = le4 (child i) ∧ 1 ≤ child i ∧ child i < 1024
  call : ∀ i, i < L.length → ∀ (w : World) (seen : List (Int × Int)) (lv : List Int), AuAt B w lb q b mb hb pb S seen lv → (∀ id ∈ ids i, ¬ id ∈ seen.map (·.1)) → lv.length + (lvs i).length ≤ 5000 →
    Calls Tryz.prog 63 #[.pointer (some ⟨lb, 0, none⟩), .int .i64 st, .int .i64 (child i), .int .i64 ((n : Int) - 1), .string (if i = 0 then lo else (L.getD i ⟨ByteArray.empty, 0, ByteArray.empty⟩).key), .string (if i + 1 < L.length then (L.getD (i + 1) ⟨ByteArray.empty, 0, ByteArray.empty⟩).key else hi)] w fun e w' =>
      ∃ er, e = .returned (.int .i64 er) ∧ AuK B lb q w w' ∧ ((x ∈ ids i ∧ er ≠ 0) ∨ (¬ x ∈ ids i ∧ er = 0 ∧ AuAt B w' lb q b mb hb pb S (seen ++ withS st (ids i)) (lv ++ lvs i)))
  apart : ∀ i, i < L.length → ∀ j, j < L.length → i ≠ j → ∀ id ∈ ids i, ¬ id ∈ ids j

def firstN {α : Type} (f : Nat → List α) (i : Nat) : List α := (List.range i).flatMap f
theorem firstN_succ {α : Type} (f : Nat → List α) (i : Nat) : firstN f (i + 1) = firstN f i ++ f i := by simp [firstN, List.range_succ]
theorem firstN_mono {α : Type} (f : Nat → List α) (i : Nat) : ∀ d, (firstN f i).length ≤ (firstN f (i + d)).length
  | 0 => Nat.le_refl _
  | d + 1 => by
    have := firstN_mono f i d
    rw [← Nat.add_assoc, firstN_succ, List.length_append]
    omega
theorem mem_firstN {α : Type} {f : Nat → List α} {i : Nat} {a : α} : a ∈ firstN f i ↔ ∃ j, j < i ∧ a ∈ f j := by simp [firstN]

set_option maxHeartbeats 8000000 in
set_option maxRecDepth 100000 in
theorem node_good {S : Vol} {st x : Int} (n : Nat) (id nx : Int) (L : List NC) (hL : NodeOk n L) (hp : stPg S id = ndPg (n : Int) st nx L) (he : stE S id = 0) (hn : n ≤ 255) (lo hi : ByteArray)
    (hkeys : ∀ j (h : j < L.length), ¬ KLt (if 0 < n ∧ j = 0 then lo else L[j].key) lo ∧ (hi = ByteArray.empty ∨ KLt (if 0 < n ∧ j = 0 then lo else L[j].key) hi))
    {B lb q b mb hb pb : Nat} (child : Nat → Int) (ids kl : Nat → List Int) (hk : 0 < n → KidsOk S st x n L lo hi B lb q b mb hb pb child ids kl)
    {w : World} {seen : List (Int × Int)} {lvs : List Int} (h : AuAt B w lb q b mb hb pb S seen lvs) (hf : ¬ id ∈ seen.map (·.1)) (hf2 : 0 < n → ∀ i, i < L.length → ∀ y ∈ ids i, ¬ y ∈ (seen ++ [(id, st)]).map (·.1)) (hc0 : n = 0 → lvs.length + 1 ≤ 5000) (hc1 : 0 < n → lvs.length + (firstN kl L.length).length ≤ 5000) :
    Calls Tryz.prog 63 #[.pointer (some ⟨lb, 0, none⟩), .int .i64 st, .int .i64 id, .int .i64 n, .string lo, .string hi] w fun e w' => ∃ er, e = .returned (.int .i64 er) ∧ AuK B lb q w w' ∧
      ((n = 0 ∧ er = 0 ∧ AuAt B w' lb q b mb hb pb S (seen ++ [(id, st)]) (lvs ++ [id])) ∨
       (0 < n ∧ x ∈ firstN ids L.length ∧ er ≠ 0) ∨
       (0 < n ∧ ¬ x ∈ firstN ids L.length ∧ er = 0 ∧ AuAt B w' lb q b mb hb pb S ((seen ++ [(id, st)]) ++ withS st (firstN ids L.length)) (lvs ++ firstN kl L.length))) := by
  obtain ⟨i0, hi0, hz0, hz1, hz2⟩ := info_parts infoStr17
  have h6 := hL.1
  have hcells := hL.cells
  have HC := Lib.hid (fun w' => ncheck_node st nx hL w')
  have HCn := Lib.hid (fun w' => ncount_nd (n : Int) st nx L h6 hcells w')
  have HK := Lib.hid (fun i (hi : i < L.length) w' => key_ok L[i].st L[i].key L[i].rest (hcells _ (List.getElem_mem hi)).1 (hcells _ (List.getElem_mem hi)).2.1 (by have := (hcells _ (List.getElem_mem hi)).2.2; omega) w')
  have HA := Lib.hid (fun i (hi : i < L.length) => (nd_a (n : Int) st nx L i (by omega)).trans (stL_get hi))
  have HD := Lib.hid (fun i (hi : i < L.length) => (nd_d (n : Int) st nx L i (by omega)).trans (dL_get hi))
  have HV := Lib.hid (fun (w' : World) (m : Nat) (hr : rowAt w' m = some (ndPg (n : Int) st nx L).cs) => nd_vals h6 hr)
  have hpg := Lib.hid (page_ok h st id 4 _ hp he rfl rfl hf)
  have hsz := h.lo.2.2
  have HKi := Lib.hid hk
  have HKeys := Lib.hid hkeys
  have HF2 := Lib.hid hf2
  have HC0 := Lib.hid hc0
  have HC1 := Lib.hid hc1
  have hpl : (ndPg (n : Int) st nx L).l = (n : Int) := rfl
  clear h hf hp he hkeys hk hf2 hc0 hc1
  generalize ndPg (n : Int) st nx L = p at *
  go_enter Tryz.func63, Tryz.ntmps63
  go_wp2_with fail
  with_reducible refine hpg.out.mono ?_; rintro e w1 ⟨rfl, hA1, hK1⟩
  have BA : Below w1.heap.size w1 (w1.alloc (.cells p.cs 38)) := (Below.refl _ _).alloc (Nat.le_refl _) _
  have A1 := Lib.hid (hA1.step BA)
  have K1 := Lib.hid (hK1.trans (AuK.of_below BA hA1.lo.2.2))
  have P1 := Lib.hid (heap_alloc_new w1 (.cells p.cs 38))
  have R1 := rowAt_at w1 p.cs 38 _ rfl
  have k1 := (cell_row R1 1).trans (show p.cs[1]? = some (.int .i64 (n : Int)) by rw [← hpl]; rfl)
  have hP : w1.heap.size < (w1.alloc (.cells p.cs 38)).heap.size := by rw [World.size_alloc]; omega
  clear hA1 hK1 hpg BA
  go_wp2_with fail
  generalize hW1 : w1.alloc (.cells p.cs 38) = W1 at *
  generalize w1.heap.size = P at *
  clear hW1
  with_reducible refine (HC.out _).mono ?_; rintro e w2 ⟨rfl, hb2⟩
  have A2 := Lib.hid (A1.out.step hb2)
  have K2 := Lib.hid (K1.out.trans (AuK.of_below hb2 A1.out.lo.2.2))
  have P2 := Lib.hid ((hb2.block P hP).trans P1.out)
  have hP2 : P < w2.heap.size := Nat.lt_of_lt_of_le hP hb2.size
  have R2 := rowAt_of P2.out
  clear hb2 k1 R1
  go_wp2_with fail
  with_reducible refine (HCn.out _).mono ?_; rintro e w3 ⟨rfl, hb3⟩
  have A3 := Lib.hid (A2.out.step hb3)
  have K3 := Lib.hid (K2.out.trans (AuK.of_below hb3 A2.out.lo.2.2))
  have P3 := Lib.hid ((hb3.block P hP2).trans P2.out)
  have hP3 : P < w3.heap.size := Nat.lt_of_lt_of_le hP2 hb3.size
  have R3 := Lib.hid (rowAt_of P3.out)
  have hn6 : ((L.length : Nat) : Int) ≤ 6 := by omega
  have hn0 : (0 : Int) ≤ ((L.length : Nat) : Int) := by omega
  clear hb3 R2 hP2 hP
  go_wp2_with fail
  go_loopw [16, 53] (fun ks v wr => ∃ k, k ≤ L.length ∧ v = .int .i64 k ∧ Below w3.heap.size w3 wr ∧ wr.ownsRow w3.heap.size 9 1 ks k (keyVals (L.take k))) (fun _ v _ => L.length - (intOf v).toNat)
  case atStart => exact ⟨0, by omega, rfl, Below.refl _ _, World.ownsRow_nil _ _ _ _⟩
  case round =>
    obtain ⟨k, hk, rfl, hb, hown⟩ := hrel
    obtain ⟨wo, rfl⟩ : ∃ wo : World, wo = wr := ⟨_, rfl⟩
    have hszk := hb.size
    have HB := Lib.hid hb
    have HO := Lib.hid hown
    by_cases hlt : k < L.length
    · have hk6 : k < 6 := by omega
      have RR := (rowAt_below hb hP3).trans R3.out
      have cA := (cell_row RR (4 + k * 2)).trans (cs_a p k hk6)
      have cD := (cell_row RR (4 + k * 2 + 1)).trans (cs_d p k hk6)
      rw [HA.out k hlt] at cA
      rw [HD.out k hlt] at cD
      have HKk := Lib.hid (HK.out k hlt)
      have hd : L[k].d = tx L[k].key ++ L[k].rest := rfl
      have HTk := Lib.hid (keyVals_take L k hlt)
      rw [hd] at cD
      generalize L[k] = c at *
      obtain ⟨ck, cs, cr⟩ := c
      simp only at cA cD HKk hd HTk
      generalize hdd : tx ck ++ cr = dd at *
      clear hd hdd hb RR hown
      go_wp2_with fail
      with_reducible refine (HKk.out _).mono ?_; rintro e w4 ⟨rfl, hb4⟩
      have hz4 := hb4.size
      rw [World.size_alloc] at hz4
      have B4 : Hid (Below w3.heap.size w3 w4) := Lib.hid ((HB.out.alloc hszk _).trans (hb4.mono (by rw [World.size_alloc]; omega)))
      have O4 := own_low22 (HO.out.alloc _) hb4
      clear hb4
      go_wp2_with (at_builtin; refine wpList_append_own _ rfl _ _ 33 rfl w3.heap.size 9 i0 _ 1 16 Tryz.underlying33 hi0 hz0 hz1 hz2 rfl (by decide) _ _ _ rfl (O4.alloc _) ⟨w4.heap.size, 0, none⟩ 1 1 [.string ck] rfl rfl ?c1 ?c2 ?c3 ?c4 ?c5 ?_)
      case c1 => exact cell_one_new _ _ _
      case c2 => simp [Value.oneCell']
      case c3 => simp only [maxLen]; omega
      case c4 => omega
      case c5 => first | omega | (simp; omega)
      intro v5 w5 hown5 hgrow _
      have B5 := Lib.hid ((B4.out.alloc (by omega) (.cells #[.string ck] 9)).grown hgrow (by rw [World.size_alloc]; omega) (fun q hq => (O4.lt q hq).1))
      rw [← HTk.out] at hown5
      clear hgrow O4
      go_wp2_with fail
      go_roundw
      case rel => exact ⟨k + 1, by omega, by go_num, B5.out, hown5⟩
      case measure => simp [intOf]; omega
    · have hke : k = L.length := by omega
      subst hke
      rw [List.take_length] at hown
      obtain ⟨a, cap, rfl, haw⟩ := own_form22 hown
      have A4 := Lib.hid (A3.out.step hb)
      have K4 := Lib.hid (K3.out.trans (AuK.of_below hb A3.out.lo.2.2))
      have P4 := Lib.hid ((hb.block P hP3).trans P3.out)
      have hP4 : P < wo.heap.size := Nat.lt_of_lt_of_le hP3 hszk
      have O4 := Lib.hid hown
      have HAw := Lib.hid haw
      clear hb hown HB HO haw
      have hlen0 : (0 : Int) ≤ ((L.length : Nat) : Int) := by omega
      rcases Nat.eq_zero_or_pos n with hn' | hnp
      · subst hn'
        go_wp2_with fail
        go_loopw [70] (fun v wr => ∃ j, j ≤ L.length ∧ v = .int .i64 j ∧ Below wo.heap.size wo wr) (fun v _ => L.length - (intOf v).toNat)
        case atStart => exact ⟨0, by omega, rfl, Below.refl _ _⟩
        case round =>
          obtain ⟨j, hj, rfl, hb⟩ := hrel
          have HB := Lib.hid hb
          by_cases hlt : j < L.length
          · obtain ⟨K, rfl, hK1, cur, hK2⟩ := HAw.out (by omega)
            have cK := own_cell22 (own_low22 O4.out hb) j _ (keyVals_get L j hlt)
            have hkj := HKeys.out j hlt
            simp only [Nat.lt_irrefl, false_and, if_false] at hkj
            obtain ⟨kk, hkk⟩ : ∃ kk, L[j].key = kk := ⟨_, rfl⟩
            rw [hkk] at hkj cK
            have x1 : Op.bytesLess kk.toList lo.toList = false := by rw [blt_eq]; simpa using hkj.1
            clear hkk
            rcases hkj.2 with hh | hh
            · have x2 : hi.toList.isEmpty = true := by rw [hh, empty_toList]; rfl
              clear hkj hh hb
              go_wp2_with fail
              go_roundw
              case rel => exact ⟨j + 1, by omega, by go_num, HB.out⟩
              case measure => simp [intOf]; omega
            · have x2 : hi.toList.isEmpty = false := sem_f (fun e => by rw [e] at hh; exact KLt.empty _ hh)
              have x3 : Op.bytesLess kk.toList hi.toList = true := by rw [blt_eq]; simpa using hh
              clear hkj hh hb
              go_wp2_with fail
              go_roundw
              case rel => exact ⟨j + 1, by omega, by go_num, HB.out⟩
              case measure => simp [intOf]; omega
          · have hje : j = L.length := by omega
            subst hje
            have A5 := A4.out.step hb
            have K5 := Lib.hid (K4.out.trans (AuK.of_below hb A4.out.lo.2.2))
            obtain ⟨j0, ji, jz0, jz1, jz2⟩ := info_parts infoInt22
            obtain ⟨lv, hlv, hlo⟩ := A5.blk
            have cl := (cell_of_block hlv 2).trans rfl
            simp only [List.getElem?_toArray, List.getElem?_cons_succ, List.getElem?_cons_zero] at cl
            have A5h := Lib.hid A5
            have HLv := Lib.hid hlv
            have HLo := Lib.hid hlo
            have hl5 := A5.lt.1
            have hB5 := A5.lo.2.2
            clear hb HB hlv hlo A5 hpl
            go_wp2_with (at_builtin; refine wpList_append_own _ rfl _ _ 45 rfl B 3 j0 _ 1 8 Tryz.underlying45 ji jz0 jz1 jz2 rfl (by decide) _ _ _ rfl (HLo.out.alloc _) ⟨wr.heap.size, 0, none⟩ 1 1 [.int .i64 id] rfl rfl ?c1 ?c2 ?c3 ?c4 ?c5 ?_)
            case c1 => exact cell_one_new _ _ _
            case c2 => simp [Value.oneCell']
            case c3 => have := HC0.out (by first | rfl | trivial); simp only [maxLen]; omega
            case c4 => have := HC0.out (by first | rfl | trivial); omega
            case c5 => rw [World.size_alloc]; omega
            intro v6 w6 hown6 hgrow _
            obtain ⟨a6, cap6, rfl, -⟩ := own_form22 hown6
            have hg6 : wr.grownBy w6 lv.ownBlock := grown_trans (grown_of_below ((Below.refl wr.heap.size wr).alloc (Nat.le_refl _) (.cells #[.int .i64 id] 3)) _) hgrow
            have hown6' : w6.ownsRow B 3 1 (.slice a6 (lvs.length + 1) cap6) (lvs ++ [id]).length (intRow (lvs ++ [id])) := by
              simpa [intRow] using hown6
            have hlb6 : w6.heap[lb]? = some (.cells #[.pointer (some ⟨b, 0, none⟩), .map (some q), lv] 85) := (hg6.block lb hl5 (fun e => by
              rcases HLo.out.2 with ⟨e1, -⟩ | ⟨g, cp, cu, e1, e2, e3, -⟩
              · rw [e1] at e; cases e
              · rw [e1] at e
                have e4 : lb = g := by simpa [Value.ownBlock] using e
                rw [← e4, HLv.out] at e3; cases e3)).trans HLv.out
            have r6 := rowAt_of hlb6
            have f6 := frozen_row r6 2
            have d6 := (cell_of_block hlb6 2).trans rfl
            simp only [List.getElem?_toArray, List.getElem?_cons_succ, List.getElem?_cons_zero] at d6
            have AF := A5h.out.leaf HLv.out HLo.out hg6 hown6'
            have AF1 := Lib.hid AF.1
            have AF2 := Lib.hid AF.2
            clear hown6 hown6' hg6 hgrow AF cl hlb6 r6
            go_wp2_with fail
            go_ret
            first
              | exact ⟨0, rfl, K5.out.trans AF2.out, .inl ⟨rfl, rfl, AF1.out⟩⟩
              | exact ⟨0, rfl, K5.out.trans AF2.out, rfl, AF1.out⟩
      · have n1 : decide ((0 : Int) < (n : Int)) = true := by simpa using hnp
        have n2 : ((n : Int) == 0) = false := by simp; omega
        have HKo := Lib.hid (HKi.out hnp)
        have HNp := Lib.hid hnp
        clear hnp
        go_wp2_with fail
        go_loopw [70] (fun v wr => ∃ j, j ≤ L.length ∧ v = .int .i64 j ∧ Below wo.heap.size wo wr) (fun v _ => L.length - (intOf v).toNat)
        case atStart => exact ⟨0, by omega, rfl, Below.refl _ _⟩
        case round =>
          obtain ⟨j, hj, rfl, hb⟩ := hrel
          have HB := Lib.hid hb
          by_cases hlt : j < L.length
          · obtain ⟨K, rfl, hK1, cur, hK2⟩ := HAw.out (by omega)
            have cK := own_cell22 (own_low22 O4.out hb) j _ (keyVals_get L j hlt)
            have hkj := HKeys.out j hlt
            by_cases hj0 : j = 0
            · subst hj0
              have hh := HNp.out
              simp only [hh, true_and, if_true] at hkj
              clear hh
              have x1 : Op.bytesLess lo.toList lo.toList = false := by rw [blt_eq]; simpa using hkj.1
              have cK0 : wr.cell? ⟨K, 0, none⟩ = some (.string L[0].key) := cK
              generalize L[0].key = kk at *
              rcases hkj.2 with hh | hh
              · have x2 : hi.toList.isEmpty = true := by rw [hh, empty_toList]; rfl
                clear hkj hh hb cK
                go_wp2_with fail
                go_roundw
                case rel => exact ⟨1, by omega, by go_num, HB.out⟩
                case measure => simp [intOf]; omega
              · have x2 : hi.toList.isEmpty = false := sem_f (fun e => by rw [e] at hh; exact KLt.empty _ hh)
                have x3 : Op.bytesLess lo.toList hi.toList = true := by rw [blt_eq]; simpa using hh
                clear hkj hh hb cK
                go_wp2_with fail
                go_roundw
                case rel => exact ⟨1, by omega, by go_num, HB.out⟩
                case measure => simp [intOf]; omega
            · have j0 : ((j : Int) == 0) = false := by simp; omega
              rw [if_neg (fun hh => hj0 hh.2)] at hkj
              obtain ⟨kk, hkk⟩ : ∃ kk, L[j].key = kk := ⟨_, rfl⟩
              rw [hkk] at hkj cK
              have x1 : Op.bytesLess kk.toList lo.toList = false := by rw [blt_eq]; simpa using hkj.1
              clear hkk hj0
              rcases hkj.2 with hh | hh
              · have x2 : hi.toList.isEmpty = true := by rw [hh, empty_toList]; rfl
                clear hkj hh hb
                go_wp2_with fail
                go_roundw
                case rel => exact ⟨j + 1, by omega, by go_num, HB.out⟩
                case measure => simp [intOf]; omega
              · have x2 : hi.toList.isEmpty = false := sem_f (fun e => by rw [e] at hh; exact KLt.empty _ hh)
                have x3 : Op.bytesLess kk.toList hi.toList = true := by rw [blt_eq]; simpa using hh
                clear hkj hh hb
                go_wp2_with fail
                go_roundw
                case rel => exact ⟨j + 1, by omega, by go_num, HB.out⟩
                case measure => simp [intOf]; omega
          · have hje : j = L.length := by omega
            subst hje
            have hpos : 0 < L.length := (hL.2.2.2 (by have := HNp.out; omega)).2.1
            obtain ⟨K, rfl, hKb, cur, hKc⟩ := HAw.out hpos
            have A5 := Lib.hid (A4.out.step hb)
            have K5 := Lib.hid (K4.out.trans (AuK.of_below hb A4.out.lo.2.2))
            have O5 := own_low22 O4.out hb
            have P5 := Lib.hid ((hb.block P hP4).trans P4.out)
            have hK5 := (hb.block K (Array.getElem?_eq_some_iff.1 hKc).1).trans hKc
            have rK := rowAt_of hK5
            have fK := frozen_row rK 0
            have cK := own_cell22 O5 0 _ (keyVals_get L 0 hpos)
            generalize hk0 : L[0].key = kk0 at *
            have O6 := Lib.hid (own_set22 O5 0 (by omega) (.string lo))
            have A6 := Lib.hid (A5.out.poke hK5 (by decide) (by decide) (by have := A3.out.lo.2.2; omega) (grown_setCell wr K 0 (.string lo)))
            have P6 := Lib.hid ((Below.heap_setCell wr ⟨K, 0, none⟩ (.string lo) P (by show P ≠ K; omega)).trans P5.out)
            have B6 : Below w.heap.size wr (wr.setCell ⟨K, 0, none⟩ (.string lo)) := below_setCell (Below.refl _ _) _ _ (by show w.heap.size ≤ K; have := K3.out.size; omega)
            have K6 := Lib.hid (K5.out.past B6 hsz)
            have hP6 : P < (wr.setCell ⟨K, 0, none⟩ (.string lo)).heap.size := by rw [World.size_setCell]; exact Nat.lt_of_lt_of_le hP4 hb.size
            clear O5 hK5 rK hb HB
            go_wp2_with fail
            generalize hW6 : wr.setCell ⟨K, 0, none⟩ (.string lo) = W6 at *
            clear hW6
            with_reducible refine (cclone_any P 4 L.length 6 (cellVals L) h6 (cellVals_len L) (cellVals_one L) W6 hP6 (HV.out W6 P (rowAt_of P6.out))).mono ?_; rintro e w7 ⟨v7, rfl, hown7, hb7⟩
            obtain ⟨a7, cap7, rfl, hg7⟩ := own_form22 hown7
            obtain ⟨g7, rfl, -⟩ := hg7 hpos
            have A7 := Lib.hid (A6.out.step hb7)
            have K7 := Lib.hid (K6.out.trans (AuK.of_below hb7 A6.out.lo.2.2))
            have O7 := Lib.hid (own_low22 O6.out hb7)
            have C7 := Lib.hid hown7
            clear hown7 hb7 hg7 fK cK
            go_wp2_with fail
            go_loopw [115] (fun v wr => ∃ i, i ≤ L.length ∧ v = .int .i64 i ∧ ¬ x ∈ firstN ids i ∧ AuAt B wr lb q b mb hb pb S ((seen ++ [(id, st)]) ++ withS st (firstN ids i)) (lvs ++ firstN kl i) ∧ AuK B lb q w7 wr) (fun v _ => L.length - (intOf v).toNat)
            case atStart => exact ⟨0, by omega, rfl, by simp [firstN], by simpa [firstN, withS] using A7.out, AuK.refl _ _ _ _⟩
            case round =>
              obtain ⟨i, hile, rfl, hnx, hA, hK⟩ := hrel
              obtain ⟨wo2, rfl⟩ : ∃ wo2 : World, wo2 = wr := ⟨_, rfl⟩
              by_cases hlt : i < L.length
              · have OK8 := A7.out.own hK O7.out (by decide) (by decide)
                have OC8 := A7.out.own hK C7.out (by decide) (by decide)
                have hcv := cellVals_get L i hlt
                have cA := own_cell22 OC8 (i * 2) _ hcv.1
                have cD := own_cell22 OC8 (i * 2 + 1) _ hcv.2
                obtain ⟨hs1, hrest, hc1, hc2⟩ := HKo.out.cell i hlt
                have hd : L[i].d = tx L[i].key ++ le4 (child i) := by unfold NC.d; rw [hrest]
                rw [hs1] at cA
                rw [hd] at cD
                obtain ⟨ki, hki⟩ : ∃ ki, (if i = 0 then lo else (L.getD i ⟨ByteArray.empty, 0, ByteArray.empty⟩).key) = ki := ⟨_, rfl⟩
                obtain ⟨dd, hdd⟩ : ∃ dd, tx L[i].key ++ le4 (child i) = dd := ⟨_, rfl⟩
                rw [hdd] at cD
                have BC : Below wo2.heap.size wo2 (wo2.alloc (.cells #[.int .i64 1, .string dd] 35)) := (Below.refl _ _).alloc (Nat.le_refl _) _
                have cK : (wo2.alloc (.cells #[.int .i64 1, .string dd] 35)).cell? ⟨K, i, none⟩ = some (.string ki) := by
                  refine own_cell22 (own_low22 OK8 BC) i _ ?_
                  rw [List.getElem?_set, ← hki]
                  by_cases e : i = 0
                  · subst e
                    rw [if_pos rfl, if_pos rfl, if_pos (by simp [keyVals]; omega)]
                  · rw [if_neg (fun h => e h.symm), if_neg e, keyVals_get L i hlt]
                    simp [List.getD_eq_getElem?_getD, hlt]
                obtain ⟨hi', hhi'⟩ : ∃ hi', (if i + 1 < L.length then (L.getD (i + 1) ⟨ByteArray.empty, 0, ByteArray.empty⟩).key else hi) = hi' := ⟨_, rfl⟩
                have HCall := Lib.hid (HKo.out.call i hlt)
                rw [hki, hhi'] at HCall
                have hsz2 := hA.lo.2.2
                have hfresh : ∀ id' ∈ ids i, ¬ id' ∈ ((seen ++ [(id, st)]) ++ withS st (firstN ids i)).map (·.1) := fun y hy hm => by
                  rw [List.map_append, withS_keys] at hm
                  rcases List.mem_append.1 hm with e | e
                  · exact HF2.out HNp.out i hlt y hy e
                  · obtain ⟨j, hj, hyj⟩ := mem_firstN.1 e
                    exact HKo.out.apart i hlt j (by omega) (by omega) y hy hyj
                have hcnt : (lvs ++ firstN kl i).length + (kl i).length ≤ 5000 := by
                  have := HC1.out HNp.out
                  have h2 : (firstN kl (i + 1)).length ≤ (firstN kl L.length).length := by
                    have := firstN_mono kl (i + 1) (L.length - (i + 1))
                    rwa [show i + 1 + (L.length - (i + 1)) = L.length from by omega] at this
                  rw [firstN_succ, List.length_append] at h2
                  rw [List.length_append]; omega
                have HCh := Lib.hid (fun w' => nchild_ok 1 L[i].key (child i) (by decide) (hcells _ (List.getElem_mem hlt)).2.1 hc1 hc2 w')
                have hw1 : wrap64 ((n : Int) - 1) = (n : Int) - 1 := by have := HNp.out; unfold wrap64; omega
                have hw2 : IntKind.i64.wrap ((n : Int) - 1) = (n : Int) - 1 := by have := HNp.out; rw [IntKind.wrap_i64]; omega
                have hw3 : IntKind.i64.wrap ((i : Int) + 1) = (i : Int) + 1 := by rw [IntKind.wrap_i64]; omega
                rw [hdd] at HCh
                have A8 := Lib.hid (hA.step BC)
                have K8 := Lib.hid (hK.trans (AuK.of_below BC hsz2))
                have HC8 := Lib.hid (heap_alloc_new wo2 (.cells #[.int .i64 1, .string dd] 35))
                have hC8 : wo2.heap.size < (wo2.alloc (.cells #[.int .i64 1, .string dd] 35)).heap.size := by rw [World.size_alloc]; omega
                obtain ⟨curK, hcurK⟩ := own_heap22 (own_low22 OK8 BC)
                have HK8 := Lib.hid hcurK
                have hKlt := (Array.getElem?_eq_some_iff.1 hcurK).1
                clear hcurK
                have HNX := Lib.hid hnx
                have HFr := Lib.hid hfresh
                by_cases hin : i + 1 < L.length
                · have cK2 : (wo2.alloc (.cells #[.int .i64 1, .string dd] 35)).cell? ⟨K, i + 1, none⟩ = some (.string hi') := by
                    refine own_cell22 (own_low22 OK8 BC) (i + 1) _ ?_
                    rw [List.getElem?_set, if_neg (by omega), keyVals_get L (i + 1) hin, ← hhi', if_pos hin]
                    simp [List.getD_eq_getElem?_getD, hin]
                  have hto : ((i : Int) + 1).toNat = i + 1 := by omega
                  have hin' : decide ((i : Int) + 1 < (L.length : Int)) = true := by simp; omega
                  clear hki hhi' hdd hd hrest hs1 hcv OC8 hA hK hnx hfresh BC OK8
                  go_wp2_with fail
                  generalize wo2.alloc (.cells #[.int .i64 1, .string dd] 35) = W8 at *
                  generalize wo2.heap.size = C at *
                  have D8 : Below W8.heap.size W8 W8.drew := (Below.refl _ _).drew
                  have A8d := Lib.hid (A8.out.step D8)
                  have K8d := Lib.hid (K8.out.trans (AuK.of_below D8 A8.out.lo.2.2))
                  have c0 : W8.drew.cell? ⟨C, 0, none⟩ = some (.int .i64 1) := (cell_of_block HC8.out 0).trans rfl
                  have c1 : W8.drew.cell? ⟨C, 1, none⟩ = some (.string dd) := (cell_of_block HC8.out 1).trans rfl
                  have ck : W8.drew.cell? ⟨K, i, none⟩ = some (.string ki) := cK
                  have hC8d : C < W8.drew.heap.size := hC8
                  have hKd : K < W8.drew.heap.size := hKlt
                  have HC8d : Hid (W8.drew.heap[C]? = some (.cells #[.int .i64 1, .string dd] 35)) := HC8
                  have HK8d : Hid (W8.drew.heap[K]? = some (.cells curK 9)) := HK8
                  have t1 : (35 : TypeId) ≠ 3 := by decide
                  have t2 : (35 : TypeId) ≠ 85 := by decide
                  have t3 : (9 : TypeId) ≠ 3 := by decide
                  have t4 : (9 : TypeId) ≠ 85 := by decide
                  clear cK D8
                  go_region_held3 (fun W => W.cell? ⟨C, 0, none⟩ = some (.int .i64 1) ∧ W.cell? ⟨C, 1, none⟩ = some (.string dd) ∧ W.cell? ⟨K, i, none⟩ = some (.string ki))
                    (first
                      | exact ⟨c0, c1, ck⟩
                      | exact ⟨d0, d1, dk⟩
                      | exact ⟨e0, e1, ek⟩)
                    (first
                      | (go_at_call 72; with_reducible refine (HCh.out _).mono ?_; rintro e w9 ⟨rfl, hb9⟩; have A9 := Lib.hid (A8d.out.step hb9); have K9 := Lib.hid (K8d.out.trans (AuK.of_below hb9 A8d.out.lo.2.2)); have HC9 := Lib.hid ((hb9.block C hC8d).trans HC8d.out); have HK9 := Lib.hid ((hb9.block K hKd).trans HK8d.out); have d0 := (hb9.cell (p := ⟨C, 0, none⟩) hC8d).trans c0; have d1 := (hb9.cell (p := ⟨C, 1, none⟩) hC8d).trans c1; have dk := (hb9.cell (p := ⟨K, i, none⟩) hKd).trans ck)
                      | (go_at_call 63; with_reducible refine (HCall.out _ _ _ A9.out HFr.out hcnt).mono ?_; rintro e wA ⟨er, rfl, hKA, hres⟩; have e0 := (World.cell?_of_block (a := ⟨C, 0, none⟩) ((A9.out.kept hKA HC9.out t1 t2).trans HC9.out.symm)).trans d0; have e1 := (World.cell?_of_block (a := ⟨C, 1, none⟩) ((A9.out.kept hKA HC9.out t1 t2).trans HC9.out.symm)).trans d1; have ek := (World.cell?_of_block (a := ⟨K, i, none⟩) ((A9.out.kept hKA HK9.out t3 t4).trans HK9.out.symm)).trans dk))
                  all_goals
                    have KA := Lib.hid (K9.out.trans hKA)
                    clear hKA e0 e1 ek d0 d1 dk
                    rcases hres with ⟨hxi, her⟩ | ⟨hxi, her, hAA⟩
                    · have he1 : (er == 0) = false := by simpa using her
                      go_wp2_with fail
                      go_ret
                      have := HNp.out
                      exact ⟨er, rfl, K7.out.trans KA.out, .inr (.inl ⟨this, mem_firstN.2 ⟨i, hlt, hxi⟩, her⟩)⟩
                    · subst her
                      have HAA := Lib.hid hAA
                      clear hAA
                      go_wp2_with fail
                      go_roundw
                      case rel =>
                        refine ⟨i + 1, by omega, by go_num, ?_, ?_, KA.out⟩
                        · rw [firstN_succ, List.mem_append]
                          rintro (e | e)
                          · exact HNX.out e
                          · exact hxi e
                        · have := HAA.out
                          rw [firstN_succ, firstN_succ, withS_append]
                          simpa [List.append_assoc] using this
                      case measure => simp [intOf]; omega
                · have hin' : decide ((i : Int) + 1 < (L.length : Int)) = false := by simp; omega
                  rw [if_neg hin] at hhi'
                  subst hhi'
                  clear hki hdd hd hrest hs1 hcv OC8 hA hK hnx hfresh BC OK8
                  go_wp2_with fail
                  generalize wo2.alloc (.cells #[.int .i64 1, .string dd] 35) = W8 at *
                  generalize wo2.heap.size = C at *
                  have D8 : Below W8.heap.size W8 W8.drew := (Below.refl _ _).drew
                  have A8d := Lib.hid (A8.out.step D8)
                  have K8d := Lib.hid (K8.out.trans (AuK.of_below D8 A8.out.lo.2.2))
                  have c0 : W8.drew.cell? ⟨C, 0, none⟩ = some (.int .i64 1) := (cell_of_block HC8.out 0).trans rfl
                  have c1 : W8.drew.cell? ⟨C, 1, none⟩ = some (.string dd) := (cell_of_block HC8.out 1).trans rfl
                  have ck : W8.drew.cell? ⟨K, i, none⟩ = some (.string ki) := cK
                  have hC8d : C < W8.drew.heap.size := hC8
                  have hKd : K < W8.drew.heap.size := hKlt
                  have HC8d : Hid (W8.drew.heap[C]? = some (.cells #[.int .i64 1, .string dd] 35)) := HC8
                  have HK8d : Hid (W8.drew.heap[K]? = some (.cells curK 9)) := HK8
                  have t1 : (35 : TypeId) ≠ 3 := by decide
                  have t2 : (35 : TypeId) ≠ 85 := by decide
                  have t3 : (9 : TypeId) ≠ 3 := by decide
                  have t4 : (9 : TypeId) ≠ 85 := by decide
                  clear cK D8
                  go_region_held3 (fun W => W.cell? ⟨C, 0, none⟩ = some (.int .i64 1) ∧ W.cell? ⟨C, 1, none⟩ = some (.string dd) ∧ W.cell? ⟨K, i, none⟩ = some (.string ki))
                    (first
                      | exact ⟨c0, c1, ck⟩
                      | exact ⟨d0, d1, dk⟩
                      | exact ⟨e0, e1, ek⟩)
                    (first
                      | (go_at_call 72; with_reducible refine (HCh.out _).mono ?_; rintro e w9 ⟨rfl, hb9⟩; have A9 := Lib.hid (A8d.out.step hb9); have K9 := Lib.hid (K8d.out.trans (AuK.of_below hb9 A8d.out.lo.2.2)); have HC9 := Lib.hid ((hb9.block C hC8d).trans HC8d.out); have HK9 := Lib.hid ((hb9.block K hKd).trans HK8d.out); have d0 := (hb9.cell (p := ⟨C, 0, none⟩) hC8d).trans c0; have d1 := (hb9.cell (p := ⟨C, 1, none⟩) hC8d).trans c1; have dk := (hb9.cell (p := ⟨K, i, none⟩) hKd).trans ck)
                      | (go_at_call 63; with_reducible refine (HCall.out _ _ _ A9.out HFr.out hcnt).mono ?_; rintro e wA ⟨er, rfl, hKA, hres⟩; have e0 := (World.cell?_of_block (a := ⟨C, 0, none⟩) ((A9.out.kept hKA HC9.out t1 t2).trans HC9.out.symm)).trans d0; have e1 := (World.cell?_of_block (a := ⟨C, 1, none⟩) ((A9.out.kept hKA HC9.out t1 t2).trans HC9.out.symm)).trans d1; have ek := (World.cell?_of_block (a := ⟨K, i, none⟩) ((A9.out.kept hKA HK9.out t3 t4).trans HK9.out.symm)).trans dk))
                  all_goals
                    have KA := Lib.hid (K9.out.trans hKA)
                    clear hKA e0 e1 ek d0 d1 dk
                    rcases hres with ⟨hxi, her⟩ | ⟨hxi, her, hAA⟩
                    · have he1 : (er == 0) = false := by simpa using her
                      go_wp2_with fail
                      go_ret
                      have := HNp.out
                      exact ⟨er, rfl, K7.out.trans KA.out, .inr (.inl ⟨this, mem_firstN.2 ⟨i, hlt, hxi⟩, her⟩)⟩
                    · subst her
                      have HAA := Lib.hid hAA
                      clear hAA
                      go_wp2_with fail
                      go_roundw
                      case rel =>
                        refine ⟨i + 1, by omega, by go_num, ?_, ?_, KA.out⟩
                        · rw [firstN_succ, List.mem_append]
                          rintro (e | e)
                          · exact HNX.out e
                          · exact hxi e
                        · have := HAA.out
                          rw [firstN_succ, firstN_succ, withS_append]
                          simpa [List.append_assoc] using this
                      case measure => simp [intOf]; omega
              · have hie : i = L.length := by omega
                subst hie
                go_wp2_with fail
                go_ret
                have := HNp.out
                exact ⟨0, rfl, K7.out.trans hK, .inr (.inr ⟨this, hnx, rfl, hA⟩)⟩
end Go.Proofs.YtljommhbhpappaaGreat
