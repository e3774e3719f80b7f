/-
  Layer 16 (tree): the walk of TreeParts.
-/
import Derived.Test.YtljommhbhpappaaTreeN
import Derived.Test.YtljommhbhpappaaPkKept
import Derived.IntWalk
import Derived.Deep.RegionLaw
namespace Go.Proofs.Ytljommhbhpappaa
open Go.RowKit Go.Joins
set_option linter.unusedVariables false
set_option linter.unusedSimpArgs false

/-! ## a change, for keys that are short -/
theorem did_short {F F' : List NC} {c : Cl} {kp : List ByteArray} {u : Un} {er : Int} (h : DidDo F F' c kp u er) (hF : ∀ x ∈ F, x.key.size ≤ 7) (hc : c.key.size ≤ 7) : ∀ x ∈ F', x.key.size ≤ 7 := by
  have hset : ∀ y : NC, y.key = c.key → ∀ x ∈ setC y F, x.key.size ≤ 7 := fun y hy x hx => by
    rcases setC_mem hx with rfl | hx
    · rw [hy]; exact hc
    · exact hF x hx.1
  rcases h with ⟨-, ⟨-, -, ⟨y, -, hy, -, -, rfl⟩ | ⟨-, -, hf⟩⟩ | ⟨-, -, rfl⟩⟩ | ⟨-, ⟨-, y, -, hy, -, -, rfl⟩ | ⟨-, -, rfl, -⟩⟩ | ⟨-, ⟨-, y, -, hy, -, -, rfl⟩ | ⟨-, -, rfl, -⟩⟩ | ⟨-, -, -, -, -, rfl⟩
  · exact hset _ rfl
  · intro x hx
    rcases hf.back x hx with rfl | hx
    · exact hc
    · exact hF x hx
  · exact hF
  · exact hset _ rfl
  · exact hF
  · exact hset _ rfl
  · exact hF
  · exact hF
theorem did_same {F F' : List NC} {c : Cl} {kp : List ByteArray} {u : Un} {er : Int} (h : DidDo F F' c kp u er) : er ≠ 0 → F' = F := fun he => by
  rcases h with ⟨-, ⟨h, -⟩ | ⟨-, -, h⟩⟩ | ⟨-, ⟨h, -⟩ | ⟨-, -, h, -⟩⟩ | ⟨-, ⟨h, -⟩ | ⟨-, -, h, -⟩⟩ | ⟨-, -, -, -, h, -⟩
  · exact absurd h he
  · exact h
  · exact absurd h he
  · exact h
  · exact absurd h he
  · exact h
  · exact absurd h he
/-- a change with what it keeps of its own, landed: what is left -/
theorem do_own {w9 : World} {S : Vol} {F : List NC} (h : IdxAt S 150 2 F) (hF : ∀ x ∈ F, x.key.size ≤ 7) (c : Cl) (hc : c.key.size ≤ 7) (hok : ClOk w9 c) (hkl : c.kl ≤ 1048576) (b mb hb pb : Nat) (w0 w : World) (hs : One w0 w b mb hb pb S) (hw : Below w9.heap.size w9 w) :
    Calls Try.prog 50 #[.pointer (some ⟨b, 0, none⟩), c.v, .slice c.ka c.kl c.kc] w fun e w' => ∃ u er S' F', e = .returned (.tuple #[Un.v u, .int .i64 er]) ∧ One w0 w' b mb hb pb S' ∧ S'.Fit 150 ∧ IdxAt (S'.then16 er) 150 2 F' ∧ ∀ x ∈ F', x.key.size ≤ 7 := by
  obtain ⟨I, hI⟩ := hok
  obtain ⟨h1, h2, h3⟩ := hI.below hw
  have hin : StrIn w c.ka I := ⟨by omega, h3.imp (fun h3 => by omega) id⟩
  rw [← h2]
  refine (do16 (Has.of_at h) c c.ka c.kc I b mb hb pb w0 w hs hin).mono ?_
  rintro e w' ⟨u, er, S', F', rfl, k1, k2, k3, k4⟩
  exact ⟨u, er, S', F', rfl, k1, k3.1, ready_land h k3 (did_same k2), did_short k2 hF hc⟩

/-! ## where a part begins -/
def fromK (F : List NC) (n : Nat) : ByteArray := if n = 0 then ByteArray.empty else nextK ((liveL F).getD (n - 1) ⟨ByteArray.empty, 0, ByteArray.empty⟩).key
theorem fromK_size {F : List NC} (hF : ∀ x ∈ F, x.key.size ≤ 7) (n : Nat) (hn : n ≤ (liveL F).length) : (fromK F n).size ≤ 8 := by
  unfold fromK
  split
  · simp
  · rename_i h0
    have hl : n - 1 < (liveL F).length := by omega
    rw [List.getD_eq_getElem?_getD, List.getElem?_eq_getElem hl]
    have := hF _ (List.mem_filter.1 (List.getElem_mem hl)).1
    unfold nextK
    rw [ByteArray.size_append]
    show (liveL F)[n - 1].key.size + 1 ≤ 8
    omega
theorem range_from {F : List NC} (h : Rising F) (most n : Nat) (hn : n ≤ (liveL F).length) : rangeL (fromK F n) most F = ((liveL F).drop n).take most := by
  unfold fromK
  by_cases h0 : n = 0
  · rw [if_pos h0, rangeL_all, h0]; rfl
  · rw [if_neg h0]
    have hl : n - 1 < (liveL F).length := by omega
    rw [List.getD_eq_getElem?_getD, List.getElem?_eq_getElem hl]
    have := range_next h most (n - 1) hl
    rw [show n - 1 + 1 = n from by omega] at this
    exact this
def slen : Value → Nat
  | .slice _ n _ => n
  | _ => 0
theorem pairRow_len : ∀ L : List NC, (pairRow L).length = L.length * 3
  | [] => rfl
  | x :: r => by
    show ((pairCs x).toList ++ pairRow r).length = _
    rw [List.length_append, pairRow_len r, List.length_cons]
    have : (pairCs x).toList.length = 3 := rfl
    omega
theorem PairsAt.cell {w : World} {g : Nat} {L : List NC} (h : PairsAt w (some ⟨g, 0, none⟩) L) : ∀ j u, (pairRow L)[j]? = some u → w.cell? ((⟨g, 0, none⟩ : Addr).add j) = some u := by
  intro j u hj
  have hlen := pairRow_len L
  have hj3 : j < L.length * 3 := by
    have := (List.getElem?_eq_some_iff.1 hj).1
    omega
  have hi : j / 3 < L.length := by omega
  rcases h with h0 | ⟨n, e, -, h2⟩
  · omega
  · cases e
    rw [Addr.add_lit]
    have hm : j % 3 < 3 := Nat.mod_lt _ (by omega)
    obtain ⟨v, hv⟩ : ∃ v, (pairCs L[j / 3]).toList[j % 3]? = some v := ⟨_, List.getElem?_eq_getElem (l := (pairCs L[j / 3]).toList) (i := j % 3) (by show j % 3 < 3; omega)⟩
    have h3 := pair_row L (j / 3) hi (j % 3) v hv
    rw [show j / 3 * 3 + j % 3 = j from by omega] at h3
    rw [h3] at hj
    cases hj
    have h4 := h2 (j / 3) hi (j % 3) u hv
    rw [show j / 3 * 3 + j % 3 = j from by omega] at h4
    simpa using h4
theorem own_cap {w : World} {base n size : Nat} {e : TypeId} {v : Value} {xs : List Value} (h : w.ownsRow base e size v n xs) : ∃ a cap, v = .slice a n cap ∧ n ≤ cap ∧ (a = none ∧ n = 0 ∧ cap = 0 ∨ ∃ g, a = some ⟨g, 0, none⟩ ∧ base ≤ g ∧ g < w.heap.size) := by
  rcases h.2 with ⟨rfl, h0⟩ | ⟨g, cap, cur, rfl, hb, hg, hn, -⟩
  · exact ⟨none, 0, by rw [h0], by omega, .inl ⟨rfl, h0, rfl⟩⟩
  · exact ⟨_, _, rfl, hn, .inr ⟨g, rfl, hb, (Array.getElem?_eq_some_iff.1 hg).1⟩⟩
theorem PairsAt.pre {w : World} {a : Option Addr} {L : List NC} (h : PairsAt w a L) (n : Nat) : PairsAt w a (L.take n) := by
  rcases h with h0 | ⟨g, rfl, h1, h2⟩
  · left; rw [List.length_take]; omega
  · refine .inr ⟨g, rfl, h1, fun i hi => ?_⟩
    rw [List.length_take] at hi
    rw [List.getElem_take]
    exact h2 i (by omega)

theorem PairsAt.via {w w' : World} {a : Option Addr} {L : List NC} (h : PairsAt w a L) (hb : Below w.heap.size w w') : PairsAt w' a L := by
  rcases h with h0 | ⟨g, rfl, h1, h2⟩
  · exact .inl h0
  · exact .inr ⟨g, rfl, Nat.lt_of_lt_of_le h1 hb.size, fun i hi j u hu => (hb.cell (p := ⟨g, i * 3 + j, none⟩) h1).trans (h2 i hi j u hu)⟩

set_option maxHeartbeats 4000000 in
set_option maxRecDepth 100000 in
theorem parts_walk (a : Option Addr) (len cap : Nat) (I : List Cl) (most : Int) (w : World) (hI : ClsIn w a len I) (hkl : ∀ c ∈ I, c.kl ≤ 1048576) :
    Calls Try.prog 12 #[.slice a len cap, .int .i64 most] w fun e w' => e = .returned (.bool true) ∧ Below w.heap.size w w' := by
  have HA := Lib.hid (fun w' => awake16 w')
  have HV := Lib.hid (fun w' => volume16 150 (by omega) (by omega) w')
  have HIn := Lib.hid hI
  have HKl := Lib.hid hkl
  have hlen := hI.1
  obtain ⟨i0, hi, hz0, hz1, hz2⟩ := info_parts infoPr
  clear hI hkl
  by_cases hl : len ≤ 150 ∧ 1 ≤ most ∧ most ≤ 64
  · have hl1 : decide ((150 : Int) < (len : Int)) = false := by simp; omega
    have hl2 : decide (most < 1) = false := by simp; omega
    have hl3 : decide ((64 : Int) < most) = false := by simp; omega
    obtain ⟨mo, rfl⟩ : ∃ mo : Nat, most = (mo : Int) := ⟨most.toNat, by omega⟩
    go_enter Try.func12, Try.ntmps12
    go_wp2_with fail
    refine (HA.out _).mono ?_; rintro e w1 ⟨rfl, hb1⟩
    have B1 := Lib.hid hb1
    clear hb1
    go_wp2_with fail
    refine (HV.out _).mono ?_; rintro e w2 ⟨b, mb, hb, pb, rfl, h2⟩
    have O2 : Hid (One w w2 b mb hb pb (I0 150 150 2).laid) := Lib.hid ⟨B1.out.trans (h2.low.mono B1.out.size), h2.st, by have := B1.out.size; have := h2.hi; omega⟩
    clear h2
    go_wp2_with fail
    go_loopw [40] (fun v wr => ∃ (k : Nat) (S : Vol) (F : List NC), k ≤ len ∧ v = .int .i64 k ∧ One w wr b mb hb pb S ∧ IdxAt S 150 2 F ∧ ∀ x ∈ F, x.key.size ≤ 7) (fun v _ => len - (intOf v).toNat)
    case atStart => exact ⟨0, _, [], by omega, rfl, O2.out, I0_at 150 (by omega) (by omega), fun x hx => by cases hx⟩
    case round =>
      obtain ⟨k, S, F, hk', rfl, hO, hAt, hF⟩ := hrel
      obtain ⟨wo, rfl⟩ : ∃ wo : World, wo = wr := ⟨_, rfl⟩
      by_cases hlt : k < len
      · have hVr := HIn.out.below hO.low
        have hIl := HIn.out.2.1
        obtain ⟨bv, off, hvp, hbv, hrow⟩ := hVr.2.2.resolve_left (by omega)
        subst hvp
        obtain ⟨hrg, -⟩ := hrow k (by omega)
        have hokw : ClOk w I[k] := by
          obtain ⟨bv2, off2, -, -, hrow2⟩ := HIn.out.2.2.resolve_left (by omega)
          exact (hrow2 k (by omega)).2
        have hkk := HKl.out _ (List.getElem_mem (by omega : k < I.length))
        have hld := load_clIn hrg
        generalize I[k] = c at *
        have HO1 := Lib.hid (hO.alloc (.cells c.cs 92))
        have HAt := Lib.hid hAt
        have HF := Lib.hid hF
        have R1 := rowAt_at wo c.cs 92 _ rfl
        have ck := (cell_row R1 1).trans (show _ = some (.string c.key) from rfl)
        have c4 := (cell_row R1 4).trans (show _ = some (.slice c.ka c.kl c.kc) from rfl)
        have hlv := load_clVar R1
        by_cases h8 : c.key.size ≤ 7
        · have h8i : decide ((8 : Int) ≤ (c.key.size : Int)) = false := by simp; omega
          have HDo := Lib.hid (do_own hAt hF c h8 hokw hkk b mb hb pb w _ HO1.out HO1.out.low)
          clear hVr hrow hbv hO hAt hF hrg hokw
          go_wp2_with fail
          refine HDo.out.mono ?_; rintro e wd ⟨ud, er, Sd, Fd, rfl, hd1, hd2, hd3, hd4⟩
          have Od := Lib.hid (hd1.alloc (.cells ud.cs 86))
          have HLd := Lib.hid (land16 hd2 er b mb hb pb w _ Od.out)
          have HAd := Lib.hid hd3
          have HFd := Lib.hid hd4
          clear hd1 hd2 hd3 hd4
          go_wp2_with fail
          refine HLd.out.mono ?_; rintro e we ⟨rfl, he1, -, -⟩
          have Oe := Lib.hid he1
          clear he1
          go_wp2_with fail
          exact ⟨⟨k + 1, _, Fd, by omega, by go_num, Oe.out, HAd.out, HFd.out⟩, by simp [intOf]; omega⟩
        · have h8i : decide ((8 : Int) ≤ (c.key.size : Int)) = true := by simp; omega
          clear hVr hrow hbv hO hAt hF hrg hokw
          go_wp2_with fail
          exact ⟨⟨k + 1, S, F, by omega, by go_num, HO1.out, HAt.out, HF.out⟩, by simp [intOf]; omega⟩
      · have hr := (Has.of_at hAt).rising
        have HRg := Lib.hid (op_range (Has.of_at hAt) ByteArray.empty 64 (by simp) (by omega) b mb hb pb w wo hO)
        have HRn := Lib.hid (fun n (hn : n ≤ (liveL F).length) w' hs => by
          have := op_range (Has.of_at hAt) (fromK F n) mo (fromK_size hF n hn) (by omega) b mb hb pb w w' hs
          rw [range_from hr mo n hn] at this
          exact this)
        rw [rangeL_all] at HRg
        have hFz : ∀ n, n ≤ (liveL F).length → (fromK F n).size ≤ 8 := fun n hn => fromK_size hF n hn
        have HFz := Lib.hid hFz
        have hF0 : fromK F 0 = ByteArray.empty := rfl
        have hFn : ∀ n, n < (liveL F).length → fromK F (n + 1) = nextK ((liveL F).getD n ⟨ByteArray.empty, 0, ByteArray.empty⟩).key := fun n hn => by unfold fromK; rw [if_neg (by omega)]; rfl
        have HFn := Lib.hid hFn
        have HF0 := Lib.hid hF0
        clear hO hAt hF hr hFz hF0 hFn
        generalize fromK F = fk at *
        generalize liveL F = L at *
        go_wp2_with fail
        refine HRg.out.mono ?_; rintro e w3 ⟨v3, rfl, o3, hb3, hown3⟩
        obtain ⟨a3, p3, rfl, P3⟩ := pairsAt_own hown3
        have O3 := Lib.hid o3
        have P3h := Lib.hid P3
        clear o3 hb3 hown3 P3
        obtain ⟨wl, hwl⟩ : ∃ wl, (L.take 64).length = wl := ⟨_, rfl⟩
        have hwl2 : wl = min 64 L.length := by rw [← hwl, List.length_take]
        rw [hwl]
        have HW := Lib.hid hwl2
        clear hwl hwl2
        go_wp2_with fail
        obtain ⟨ws, rfl⟩ : ∃ ws : World, ws = w3 := ⟨_, rfl⟩
        go_loopw [14, 15] (fun tp tf wr => ∃ n, n ≤ L.length ∧ tf = .string (fk n) ∧ wr.ownsRow ws.heap.size 105 3 tp n (pairRow (L.take n)) ∧ One w wr b mb hb pb S ∧ Below ws.heap.size ws wr) (fun tp _ _ => 64 - slen tp)
        case atStart => exact ⟨0, by omega, by rw [HF0.out]; rfl, World.ownsRow_nil _ _ _ _, O3.out, Below.refl _ _⟩
        case round =>
          obtain ⟨n, hn, rfl, hown, hO, hB⟩ := hrel
          obtain ⟨wi, rfl⟩ : ∃ wi : World, wi = wr := ⟨_, rfl⟩
          obtain ⟨la, lc, rfl, hlc, hla⟩ := own_cap hown
          have hzi := hB.size
          by_cases hlt : n < wl
          · have hlti : decide ((n : Int) < (wl : Int)) = true := by simp; omega
            have HR := Lib.hid (HRn.out n hn _ hO)
            have hwl2 := HW.out
            have hRl : ((L.drop n).take mo).length ≠ 0 := by rw [List.length_take, List.length_drop]; omega
            have hadd : L.take n ++ (L.drop n).take mo = L.take (n + ((L.drop n).take mo).length) := by
              rw [List.take_add]
              congr 1
              rw [List.take_eq_take_iff, List.length_take, List.length_drop]
              omega
            have hRget : ∀ (i : Nat) (h : i < ((L.drop n).take mo).length), ((L.drop n).take mo)[i] = L.getD (n + i) ⟨ByteArray.empty, 0, ByteArray.empty⟩ := fun i h => by
              rw [List.length_take, List.length_drop] at h
              rw [List.getElem_take, List.getElem_drop, List.getD_eq_getElem?_getD, List.getElem?_eq_getElem (by omega)]
              rfl
            have hsz8 := HFz.out
            have hRn : n + ((L.drop n).take mo).length ≤ L.length := by rw [List.length_take, List.length_drop]; omega
            have hRm : ((L.drop n).take mo).length ≤ 64 := by rw [List.length_take]; omega
            have hn64 : n < 64 := by omega
            generalize (L.drop n).take mo = R at *
            obtain ⟨m, hm⟩ : ∃ m, R.length = m + 1 := ⟨R.length - 1, by omega⟩
            have hke := hRget m (by omega)
            have hfk : fk (n + (m + 1)) = nextK R[m].key := by rw [hke]; exact HFn.out (n + m) (by omega)
            have HOwn := Lib.hid hown
            have HB := Lib.hid hB
            rw [hm] at HR hadd hRn
            have HAdd : Hid (pairRow (L.take n) ++ pairRow R = pairRow (L.take (n + (m + 1)))) := Lib.hid (by rw [← hadd, pairRow_append])
            clear hown hO hB hke hRget hRl hwl2
            go_wp2_with fail
            refine HR.out.mono ?_; rintro e w4 ⟨v4, rfl, o4, hb4, hown4⟩
            have hz4 := hb4.size
            rw [← hm] at hown4
            obtain ⟨aR, cR, rfl, PR⟩ := pairsAt_own hown4
            obtain ⟨g, rfl, hg, hPc⟩ := PR.resolve_left (by omega)
            have hgl := (hown4.lt g rfl).1
            have hown4lt : ∀ q, (Value.slice (some ⟨g, 0, none⟩) R.length cR).ownBlock = some q → wi.heap.size ≤ q ∧ q < w4.heap.size := fun q hq => hown4.lt q hq
            have PRc : PairsAt w4 (some ⟨g, 0, none⟩) R := .inr ⟨g, rfl, hg, hPc⟩
            have hnews := Lib.hid PRc.cell
            have hcell : w4.cell? ⟨g, m * 3, none⟩ = some (.string R[m].key) := hPc m (by omega) 0 (.string R[m].key) rfl
            have hown5 := own_below1 HOwn.out hb4
            have B4 := Lib.hid (HB.out.trans (hb4.mono hzi))
            have O4 := Lib.hid o4
            have hR3 : (pairRow R).length = (m + 1) * 3 := by rw [pairRow_len, hm]
            have hone : ∀ u ∈ pairRow R, u.oneCell' = true := by
              intro u hu
              obtain ⟨x, -, hx⟩ := List.mem_flatMap.1 hu
              simp [pairCs] at hx
              rcases hx with rfl | rfl | rfl <;> rfl
            rw [hm]
            generalize R[m].key = kk at *
            clear hb4 hown4 PR hPc PRc o4
            have HR3 := Lib.hid hR3
            have HBs := Lib.hid hown5
            have hmo : m + 1 ≤ 64 := by omega
            clear hRm
            clear hown5 hR3
            go_wp2_with (at_builtin; refine wpList_append_own _ rfl _ _ 63 rfl ws.heap.size 105 i0 _ 3 40 Try.underlying63 hi hz0 hz1 hz2 rfl (by decide) _ n (pairRow (L.take n)) rfl HBs.out ⟨g, 0, none⟩ (m + 1) cR (pairRow R) rfl HR3.out hnews.out hone ?c3 ?c4 ?c5 ?_)
            case c3 => simp only [maxLen]; omega
            case c4 => omega
            case c5 => have := B4.out.size; omega
            intro v5 w5 hown6 hgrow _
            have hlb : ∀ q, (Value.slice la n lc).ownBlock = some q → ws.heap.size ≤ q ∧ q < wi.heap.size := fun q hq => HOwn.out.lt q hq
            have hcell5 : w5.cell? ⟨g, m * 3, none⟩ = some (.string kk) := (World.cell?_of_block (w := w4) (hgrow.block g (by have := (Array.getElem?_eq_some_iff.1 (show w4.heap[g]? = some _ from Array.getElem?_eq_getElem (by omega))).1; omega) (fun e => by have := (hlb g e.symm).2; omega))).trans hcell
            have B5 := Lib.hid (B4.out.grown hgrow (by have := B4.out.size; omega) (fun q hq => (hlb q hq).1))
            have hb45 : Below ws.heap.size w4 w5 := (Below.refl _ _).grown hgrow (by have := B4.out.size; omega) (fun q hq => (hlb q hq).1)
            have O5 : Hid (One w w5 b mb hb pb S) := Lib.hid ⟨O4.out.low.trans (hb45.mono O3.out.low.size), O4.out.st.below hb45 O3.out.st.lt, O4.out.hi⟩
            clear hb45
            have HO6 := Lib.hid hown6
            have hgrow5 := hgrow.size
            clear hown6 hgrow hlb hcell
            have hk8 : (nextK kk).size ≤ 8 := by rw [← hfk]; exact hsz8 _ (by omega)
            have hkz : kk.size ≤ 7 := by unfold nextK at hk8; rw [ByteArray.size_append] at hk8; have h1 : (⟨#[0]⟩ : ByteArray).size = 1 := rfl; omega
            have hkz2 : kk.size + 1 ≤ 9223372036854775807 := by omega
            have hgw5 : g < w5.heap.size := by have h1 := (hown4lt g rfl).2; have := hgrow5; omega
            have HFK := Lib.hid hfk
            have hm0 : (0 : Int) ≤ (m : Int) := Int.natCast_nonneg _
            have hm1 : (m : Int) < ((m + 1 : Nat) : Int) := by omega
            have hm2 : (m : Int) < (m : Int) + 1 := by omega
            have hm3 : IntKind.i64.wrap (((m + 1 : Nat) : Int) - 1) = (m : Int) := by rw [show ((m + 1 : Nat) : Int) - 1 = (m : Int) from by omega]; exact IntWalk.i64_in _ (by omega)
            have hm4 : IntKind.i64.wrap ((m : Int) + 1 - 1) = (m : Int) := by rw [show (m : Int) + 1 - 1 = (m : Int) from by omega]; exact IntWalk.i64_in _ (by omega)
            have hm5 : IntKind.i64.wrap (m : Int) = (m : Int) := IntWalk.i64_in _ (by omega)
            have hcvg : ∀ W : World, W.cell? ⟨w5.heap.size, 0, none⟩ = some (.int .u8 0) → (convert 106 9 (.slice (some ⟨w5.heap.size, 0, none⟩) 1 1)).run Try.prog W = .ok (.string (ByteArray.mk #[0])) W := fun W hW =>
              run_convert_bytes_arg (P := Try.prog) W 106 5 Try.underlying106 Try.underlying5 w5.heap.size 0 1 1 [0] rfl (fun i hi => by
                have e : i = 0 := by simp at hi; omega
                subst e
                exact hW) 9 Try.underlying9
            have hadd : ∀ W : World, (Op.stringOp .add kk (ByteArray.mk #[0])).run Try.prog W = .ok (.string (kk ++ ByteArray.mk #[0])) W := fun W => run_string_add_sum W _ _ (by show kk.size + 1 ≤ _; omega)
            have hadd2 : ¬ (9223372036854775807 : Int) < (kk.size : Int) + 1 := by omega
            have hadd3 : ¬ 9223372036854775807 < kk.size + 1 := by omega
            have hcv1 := hcvg (w5.alloc (.cells #[.int .u8 0] 5)) (World.cell?_alloc_mark _ _ _ (0, 0) 0)
            have hcv2 := hcvg (w5.alloc (.cells #[.int .u8 0] 5)).drew (World.cell?_alloc_mark _ _ _ (0, 0) 0)
            have hcv3 := hcvg (w5.drew.alloc (.cells #[.int .u8 0] 5)) (World.cell?_alloc_mark w5.drew _ _ (0, 0) 0)
            have hcv4 := hcvg (w5.drew.alloc (.cells #[.int .u8 0] 5)).drew (World.cell?_alloc_mark w5.drew _ _ (0, 0) 0)
            have hcv5 := hcvg (w5.alloc (.cells #[.int .u8 0] 5)).drew.drew (World.cell?_alloc_mark _ _ _ (0, 0) 0)
            clear hcvg
            clear hsz8 hk8 hfk
            go_wp2_with fail
            go_region_law (fail)
            all_goals
              go_wp2_with fail
              obtain ⟨l5, c5, hv5, -, -⟩ := own_cap HO6.out
              subst hv5
              have hbA : Below w5.heap.size w5 (w5.alloc (.cells #[.int .u8 0] 5)).drew := ((Below.refl w5.heap.size w5).alloc (Nat.le_refl _) (.cells #[.int .u8 0] 5)).drew
              have hbB : Below w5.heap.size w5 (w5.drew.alloc (.cells #[.int .u8 0] 5)) := (Below.refl w5.heap.size w5).drew.alloc (Nat.le_refl _) (.cells #[.int .u8 0] 5)
              have hb5 := B5.out.size
              refine ⟨?_, ?_⟩
              · (repeat apply Exists.intro)
                refine ⟨?_, rfl⟩
                first
                  | exact ⟨n + (m + 1), by omega, by rw [HFK.out]; rfl, by rw [← HAdd.out]; exact own_below1 HO6.out hbA, O5.out.below hbA, B5.out.trans (hbA.mono hb5)⟩
                  | exact ⟨n + (m + 1), by omega, by rw [HFK.out]; rfl, by rw [← HAdd.out]; exact own_below1 HO6.out hbB, O5.out.below hbB, B5.out.trans (hbB.mono hb5)⟩
              · show 64 - (n + (m + 1)) < 64 - n
                omega
          · have hlti : decide ((n : Int) < (wl : Int)) = false := by simp; omega
            have hwlL := HW.out
            have htake : (L.take n).take wl = L.take 64 := by
              rw [List.take_take, Nat.min_eq_left (by omega), hwlL]
              rw [List.take_eq_take_iff]; omega
            have hl64 : (L.take 64).length = wl := by rw [List.length_take, hwlL]
            have P1 : PairsAt wi la (L.take 64) := by
              have h1 : (L.take n).length = n := by rw [List.length_take]; omega
              obtain ⟨a1, p1, hv1, h2⟩ := pairsAt_own (L := L.take n) (by rw [h1]; exact hown)
              rw [h1] at hv1
              simp only [Value.slice.injEq, true_and] at hv1
              rw [hv1.1, ← htake]
              exact h2.pre wl
            have P2 : PairsAt wi a3 (L.take 64) := P3h.out.via hB
            have HS := same16 la a3 lc p3 (L.take 64) wi P1 P2 (by rw [hl64]; omega)
            rw [hl64] at HS
            have HSm := Lib.hid HS
            have HO := Lib.hid hO
            have hwn : (wl : Int) ≤ (n : Int) := by omega
            have hwc : wl ≤ lc := by omega
            have hwc2 : (wl : Int) ≤ (lc : Int) := by omega
            clear hO hown hB htake hl64 P1 P2 HS hwlL
            go_wp2_with fail
            refine HSm.out.mono ?_; rintro e w9 ⟨rfl, hb9⟩
            have B9 := Lib.hid hb9
            clear hb9
            go_wp2_with fail
            go_ret
            exact ⟨rfl, HO.out.low.trans (B9.out.mono HO.out.low.size)⟩
  · clear hi hz0 hz1 hz2 HV HIn HKl
    by_cases h1 : 150 < len
    · have hl1 : decide ((150 : Int) < (len : Int)) = true := by simp; omega
      clear hl
      go_enter Try.func12, Try.ntmps12
      go_wp2_with fail
      refine (HA.out _).mono ?_; rintro e w1 ⟨rfl, hb1⟩
      have B1 := Lib.hid hb1
      clear hb1
      go_wp2_with fail
      go_ret
      exact ⟨rfl, B1.out⟩
    · have hl1 : decide ((150 : Int) < (len : Int)) = false := by simp; omega
      by_cases h2 : most < 1
      · have hl2 : decide (most < 1) = true := by simp; omega
        clear hl
        go_enter Try.func12, Try.ntmps12
        go_wp2_with fail
        refine (HA.out _).mono ?_; rintro e w1 ⟨rfl, hb1⟩
        have B1 := Lib.hid hb1
        clear hb1
        go_wp2_with fail
        go_ret
        exact ⟨rfl, B1.out⟩
      · have hl2 : decide (most < 1) = false := by simp; omega
        have hl3 : decide (64 < most) = true := by simp; omega
        clear hl
        go_enter Try.func12, Try.ntmps12
        go_wp2_with fail
        refine (HA.out _).mono ?_; rintro e w1 ⟨rfl, hb1⟩
        have B1 := Lib.hid hb1
        clear hb1
        go_wp2_with fail
        go_ret
        exact ⟨rfl, B1.out⟩
end Go.Proofs.Ytljommhbhpappaa
