/-
  Layer 17 (lob): List on a law's volume.
-/
import Derived.Test.YtljommhbhpappaaLr17g
namespace Go.Proofs.Ytljommhbhpappaa
open Go.RowKit Go.Joins
set_option linter.unusedVariables false
set_option linter.unusedSimpArgs false

theorem ext24 (a b c d : UInt8) : (⟨#[a, b, c, d]⟩ : ByteArray).extract 2 4 = ⟨#[c, d]⟩ := rfl
set_option maxHeartbeats 2000000 in
set_option maxRecDepth 100000 in
theorem hsuf_any (a b c d : UInt8) (w : World) :
    Calls Try.prog 67 #[.string ⟨#[a, b, c, d]⟩, .string ⟨#[0, 0]⟩] w fun e w' => e = .returned (.bool (decide (c = 0 ∧ d = 0))) ∧ w = w' := by
  have he : ((⟨#[c, d]⟩ : ByteArray).toList == (⟨#[0, 0]⟩ : ByteArray).toList) = decide (c = 0 ∧ d = 0) := by
    rw [beq_eq]
    rw [decide_eq_decide]
    constructor
    · intro h; cases h; exact ⟨rfl, rfl⟩
    · rintro ⟨rfl, rfl⟩; rfl
  have hs : (⟨#[a, b, c, d]⟩ : ByteArray).size = 4 := rfl
  have h2 := ext24 a b c d
  have he3 : ((⟨#[c, d]⟩ : ByteArray).toList == [0, 0]) = decide (c = 0 ∧ d = 0) := by
    rw [← he]; congr 1; rw [ByteArray.toList_eq]
  generalize decide (c = 0 ∧ d = 0) = q at *
  generalize (⟨#[a, b, c, d]⟩ : ByteArray) = x at *
  generalize (⟨#[c, d]⟩ : ByteArray) = y at *
  go_enter Try.func67, Try.ntmps67
  go_wp2
  go_ret
  exact ⟨by simp [he3], rfl⟩
theorem or17 (a b : UInt8) : bits .or .i64 (IntKind.i64.wrap (IntKind.i64.wrap (a.toNat : Int) * 256)) (IntKind.i64.wrap (b.toNat : Int)) = ((a.toNat * 256 + b.toNat : Nat) : Int) := by
  have ha := a.toNat_lt
  have hb := b.toNat_lt
  have e0 : IntKind.wrap .i64 (a.toNat : Int) = (a.toNat : Int) := by rw [IntKind.wrap_i64]; omega
  have e1 : IntKind.wrap .i64 (b.toNat : Int) = (b.toNat : Int) := by rw [IntKind.wrap_i64]; omega
  have e : IntKind.wrap .i64 ((a.toNat : Int) * 256) = ((a.toNat * 256 : Nat) : Int) := by rw [IntKind.wrap_i64]; omega
  rw [e0, e1, e]
  have hx : a.toNat * 256 ||| b.toNat < 2 ^ 16 := Nat.or_lt_two_pow (by omega) (by omega)
  show IntKind.i64.wrap ((BitVec.ofInt 64 ((a.toNat * 256 : Nat) : Int) ||| BitVec.ofInt 64 (b.toNat : Int)).toNat : Int) = _
  rw [BitVec.toNat_or, ofInt_u64 _ (by omega), ofInt_u64 _ (by omega), IntKind.wrap_i64, Nat.or_comm, or_mul b.toNat a.toNat 8 256 (by decide) (by omega)]
  rw [Nat.or_comm, or_mul b.toNat a.toNat 8 256 (by decide) (by omega)] at hx
  omega

/-- a volume with these objects and nothing else -/
def LobOn (w0 w : World) (b mb hb pb : Nat) (M : Mo) (q : Nat) : Prop := ∃ g, LandAt w0 w b mb hb pb g q ∧ ObjAt g M ∧ Only17 g
theorem hasN_len {S : Vol} {nn : Nat} {kd : Int} {F : List NC} {q : Nat} (h : HasN S nn kd F q) : F.length ≤ q := by
  obtain ⟨-, d, m, N, T, -, rfl, hq⟩ := h
  refine Nat.le_trans ?_ hq
  generalize Tr.leaves N T = l
  induction l with
  | nil => simp [flat, loadT]
  | cons x r ih =>
    rw [flat_cons, List.length_append]
    have : loadT (x :: r) = max x.2.length 3 + loadT r := by simp [loadT]
    omega
theorem LobOn.at {w0 w : World} {b mb hb pb : Nat} {M : Mo} {q : Nat} (h : LobOn w0 w b mb hb pb M q) : LobAt w0 w b mb hb pb M q := by
  obtain ⟨g, h1, h2, -⟩ := h
  exact ⟨g, h1, h2⟩
theorem LobOn.below {w0 w w' : World} {b mb hb pb : Nat} {M : Mo} {q : Nat} (h : LobOn w0 w b mb hb pb M q) (hb2 : Below w.heap.size w w') : LobOn w0 w' b mb hb pb M q := by
  obtain ⟨g, h1, h2⟩ := h
  exact ⟨g, h1.below hb2, h2⟩
theorem objC_num {M : Mo} {g : Gm} {F : List NC} (hr : Rising F) (hg : ∀ k, getL k F = g k) (hO : ObjAt g M) (hon : Only17 g) {c : NC} (hc : c ∈ F) (hs : c.st = 1) {n : Int} (hn : sfx c.key = some n) : byR M n = ((M n).getD ByteArray.empty, 0) := by
  obtain ⟨hk, hn0, hn1⟩ := sfx_some hn
  have hget : g c.key = some c.rest := by
    rw [← hg, getL_some hr]
    obtain ⟨ck, cs, cr⟩ := c
    simp only at hs
    subst hs
    exact hc
  obtain ⟨n2, i2, q1, q2, q3, q4⟩ := hon c.key (by rw [hget]; simp)
  rw [hk] at q4
  obtain ⟨rfl, -⟩ := key4_inj (by omega) (by omega) (by omega) (by omega) q4
  have h0 := hO.get n q1 q2 0 (by omega)
  rw [show ((0 : Nat) : Int) = 0 from rfl, ← hk, hget] at h0
  cases hm : M n with
  | none => rw [hm] at h0; cases h0
  | some b => exact byR_some ⟨q1, q2⟩ hm

set_option maxHeartbeats 8000000 in
set_option maxRecDepth 100000 in
theorem llist_any {w0 w : World} {b mb hb pb : Nat} {M : Mo} {q : Nat} (h : LobOn w0 w b mb hb pb M q) (hq : q ≤ 100000) :
    Calls Try.prog 31 #[.pointer (some ⟨b, 0, none⟩), .int .i64 1] w fun e w' => ∃ v, e = .returned (.tuple #[v, .int .i64 0]) ∧ Below w.heap.size w w' ∧ w'.ownsRow w.heap.size 105 3 v (listM M 1000).length (obRow (listM M 1000)) := by
  obtain ⟨j0, ji, jz0, jz1, jz2⟩ := info_parts infoPr
  obtain ⟨g, ⟨S, F, h1, h2, hg⟩, h4, h5⟩ := h
  have hr := h2.has.rising
  have hleaf := h2.has.leafs
  have hall := objF_all hr hg h4 h5
  have HALL := Lib.hid hall
  have HO := Lib.hid h1
  have HSK := Lib.hid (fun key w' (ho : One w0 w' b mb hb pb S) => op_seek h2.has key b mb hb pb w0 w' ho)
  have HBY := Lib.hid (fun n w' (ho : One w0 w' b mb hb pb S) => op_bytes ⟨g, ⟨S, F, ho, h2, hg⟩, h4⟩ n)
  have HNM := Lib.hid (fun c (hc : c ∈ F) (hs : c.st = 1) n (hn : sfx c.key = some n) => objC_num hr hg h4 h5 hc hs hn)
  have HT := Lib.hid (objF_take M F)
  have HTL := Lib.hid (fun i => Nat.le_trans (objF_len M (F.take i)) (by rw [List.length_take]; omega : (F.take i).length ≤ F.length))
  have HZ := Lib.hid (StandAt.zero F)
  have HNX := Lib.hid (fun (i : Nat) (hi : i < F.length) => StandAt.next (F := F) hr (i := i) hi)
  have hFl : F.length ≤ 100000 := Nat.le_trans (hasN_len h2) hq
  clear hall h1 h2 hg h4 h5 hr
  go_enter Try.func31, Try.ntmps31
  go_wp2_with fail
  go_loopw [6, 7] (fun l v wr => ∃ (i : Nat) (key : ByteArray) (R : List Ob), i ≤ F.length ∧ v = .string key ∧ key.size ≤ 9 ∧ StandAt F key i ∧ objF M (F.take i) = R ∧ wr.ownsRow w.heap.size 105 3 l R.length (obRow R) ∧ Below w.heap.size w wr) (fun _ v _ => leftK F v)
  case atStart => exact ⟨0, ByteArray.empty, [], by omega, rfl, by simp, HZ.out, rfl, World.ownsRow_nil _ _ _ _, Below.refl _ _⟩
  case round =>
    obtain ⟨i, key, R, hi, rfl, hks, hst, hR, hown, hbw⟩ := hrel
    obtain ⟨wo, rfl⟩ : ∃ wo : World, wo = wr := ⟨_, rfl⟩
    have hz := hbw.size
    have hlen := HTL.out i
    rw [hR] at hlen
    have HSk := HSK.out key wo (HO.out.below hbw)
    rw [hst.seek] at HSk
    have hleft := Lib.hid hst.left
    have BW := Lib.hid hbw
    by_cases hlt : i < F.length
    · rw [List.getElem?_eq_getElem hlt] at HSk
      have hc := List.getElem_mem hlt
      have hlf := hleaf _ hc
      have hnx := HNX.out i hlt
      have hleft2 := Lib.hid hnx.left
      have HNXi := Lib.hid hnx
      have hs := HT.out i hlt
      rw [hR] at hs
      have hnm := HNM.out F[i] hc
      generalize F[i] = c at *
      obtain ⟨ck, cs, cr⟩ := c
      have hkl : ck.size ≤ 8 := hlf.2.2.1
      have hcs : cs = 1 ∨ cs = 2 := hlf.1
      unfold seekV at HSk
      simp only at HSk hs hnm hnx
      have HSK1 := Lib.hid HSk
      have hsum : ¬ 9223372036854775807 < ck.size + (⟨#[0]⟩ : ByteArray).size := by have : (⟨#[0]⟩ : ByteArray).size = 1 := rfl; omega
      have hnk : ck ++ ⟨#[0]⟩ = nextK ck := rfl
      have hnks : (nextK ck).size ≤ 9 := by unfold nextK; rw [ByteArray.size_append]; have : (⟨#[0]⟩ : ByteArray).size = 1 := rfl; omega
      clear HSk hc hlf hnx hst hbw hR
      by_cases h44 : ck.size = 4
      · obtain ⟨x0, x1, x2, x3, rfl⟩ := four_of h44
        rcases hcs with rfl | rfl
        · by_cases hz0 : x2 = 0 ∧ x3 = 0
          · obtain ⟨rfl, rfl⟩ := hz0
            have hsx : sfx ⟨#[x0, x1, 0, 0]⟩ = some ((x0.toNat * 256 + x1.toNat : Nat) : Int) := rfl
            have hby := hnm rfl _ hsx
            have hobj : objC M ⟨⟨#[x0, x1, 0, 0]⟩, 1, cr⟩ = some (((x0.toNat * 256 + x1.toNat : Nat) : Int), (M ((x0.toNat * 256 + x1.toNat : Nat) : Int)).getD ByteArray.empty) := rfl
            rw [hobj] at hs
            simp only at hs
            have HS := Lib.hid hs
            have hor := or17 x0 x1
            have hor2 : bits .or .i64 (wrap64 (wrap64 (x0.toNat : Int) * 256)) (wrap64 (x1.toNat : Int)) = ((x0.toNat * 256 + x1.toNat : Nat) : Int) := by rw [← IntWalk.i64_left, ← IntWalk.i64_left, ← IntWalk.i64_left]; exact hor
            obtain ⟨NN, hNN⟩ : ∃ NN : Int, ((x0.toNat * 256 + x1.toNat : Nat) : Int) = NN := ⟨_, rfl⟩
            rw [hNN] at hor hor2 hby HS
            have HSU := Lib.hid (fun w' => hsuf_any x0 x1 0 0 w')
            have hi0 : (⟨#[x0, x1, 0, 0]⟩ : ByteArray)[0]'(by show 0 < 4; omega) = x0 := rfl
            have hi1 : (⟨#[x0, x1, 0, 0]⟩ : ByteArray)[1]'(by show 1 < 4; omega) = x1 := rfl
            clear hs hobj hnm hsx hNN
            generalize (M NN).getD ByteArray.empty = y at *
            go_wp2_with fail
            with_reducible refine HSK1.out.mono ?_; rintro e w1 ⟨rfl, ho1, hb1⟩
            have hbw1 := Lib.hid (BW.out.trans (hb1.mono hz))
            have hown1 := Lib.hid (own_low22 hown hb1)
            have HO1 := Lib.hid ho1
            clear hown hb1 ho1
            go_wp2_with fail
            with_reducible refine (HSU.out _).mono ?_; rintro e w2 ⟨rfl, rfl⟩
            go_wp2_with fail
            go_region_held3 (fun W => True) (trivial) (fail)
            all_goals
              have HB1 := HBY.out NN _ (HO1.out.below (Below.refl _ _).drew)
              rw [hby] at HB1
              have HB2 := Lib.hid HB1
              clear HB1
              go_wp2_with fail
              with_reducible refine HB2.out.mono ?_; rintro e w3 ⟨rfl, hb3⟩
              have hbw3 := hbw1.out.drew.trans (hb3.mono hbw1.out.drew.size)
              have hz3 := hbw3.size
              have hown3 := own_low22 hown1.out.drew hb3
              clear hb3
              go_wp2_with (at_builtin; refine wpList_append_own _ rfl _ _ 63 rfl w.heap.size 105 j0 _ 3 40 Try.underlying63 ji jz0 jz1 jz2 rfl (by decide) _ _ _ rfl (hown3.alloc _) ⟨w3.heap.size, 0, none⟩ 1 1 (obCs (NN, y)).toList rfl rfl ?c1 ?c2 ?c3 ?c4 ?c5 ?_)
              case c1 => exact World.news_of_block (cs := obCs (NN, y)) (t := 105) (fr := (0, 0)) (heap_alloc_new w3 _)
              case c2 => intro u hu; simp [obCs] at hu; rcases hu with rfl | rfl | rfl <;> rfl
              case c3 => simp only [maxLen]; omega
              case c4 => omega
              case c5 => first | omega | (simp; omega)
              intro v' w5 hown' hgrow _
              have hb5 : Below w.heap.size w w5 := (hbw3.alloc hz3 _).grown hgrow (by go_size) (fun q hq => (hown3.lt q hq).1)
              clear hown3 hgrow
              go_wp2_with fail
              refine ⟨⟨i + 1, _, R ++ [(NN, y)], by omega, rfl, hnks, HNXi.out, HS.out, ?_, hb5⟩, ?_⟩
              · rw [obRow_snoc]; simpa using hown'
              · rw [hleft.out, hleft2.out]; omega
          · have hobj : objC M ⟨⟨#[x0, x1, x2, x3]⟩, 1, cr⟩ = none := by
              show (sfx ⟨#[x0, x1, x2, x3]⟩).map _ = none
              rw [sfx_four, if_neg hz0]; rfl
            rw [hobj] at hs
            simp only [List.append_nil] at hs
            have hsf : ((⟨#[x0, x1, x2, x3]⟩ : ByteArray).size) = 4 := rfl
            have HSU := Lib.hid (fun w' => by have := hsuf_any x0 x1 x2 x3 w'; rw [decide_eq_false hz0] at this; exact this)
            clear hz0 hobj hnm
            generalize (⟨#[x0, x1, x2, x3]⟩ : ByteArray) = x at *
            have HS := Lib.hid hs
            clear hs
            go_wp2_with fail
            with_reducible refine HSK1.out.mono ?_; rintro e w1 ⟨rfl, ho1, hb1⟩
            have hbw1 := BW.out.trans (hb1.mono hz)
            have hown1 := own_low22 hown hb1
            clear hown
            go_wp2_with fail
            with_reducible refine (HSU.out _).mono ?_; rintro e w2 ⟨rfl, rfl⟩
            go_wp2_with fail
            refine ⟨⟨i + 1, nextK x, R, by omega, rfl, hnks, HNXi.out, HS.out, hown1, hbw1⟩, ?_⟩
            rw [hleft.out, hleft2.out]; omega
        · have hobj : objC M ⟨⟨#[x0, x1, x2, x3]⟩, 2, cr⟩ = none := rfl
          rw [hobj] at hs
          simp only [List.append_nil] at hs
          have hsf : ((⟨#[x0, x1, x2, x3]⟩ : ByteArray).size) = 4 := rfl
          clear hobj hnm
          generalize (⟨#[x0, x1, x2, x3]⟩ : ByteArray) = x at *
          have HS := Lib.hid hs
          clear hs
          go_wp2_with fail
          with_reducible refine HSK1.out.mono ?_; rintro e w1 ⟨rfl, ho1, hb1⟩
          have hbw1 := BW.out.trans (hb1.mono hz)
          have hown1 := own_low22 hown hb1
          clear hown
          go_wp2_with fail
          refine ⟨⟨i + 1, nextK x, R, by omega, rfl, hnks, HNXi.out, HS.out, hown1, hbw1⟩, ?_⟩
          rw [hleft.out, hleft2.out]; omega
      · have hobj : objC M ⟨ck, cs, cr⟩ = none := by
          unfold objC
          simp only
          split
          · cases hx : sfx ck with
            | none => rfl
            | some n => exact absurd (by rw [(sfx_some hx).1]; rfl) h44
          · rfl
        rw [hobj] at hs
        simp only [List.append_nil] at hs
        have HS := Lib.hid hs
        have h4f : ((ck.size : Int) == 4) = false := by simp; omega
        have hs0 : ((cs : Int) == 0) = false := by rcases hcs with rfl | rfl <;> rfl
        clear hs hobj hnm
        go_wp2_with fail
        with_reducible refine HSK1.out.mono ?_; rintro e w1 ⟨rfl, ho1, hb1⟩
        have hbw1 := BW.out.trans (hb1.mono hz)
        have hown1 := own_low22 hown hb1
        clear hown
        go_wp2_with fail
        refine ⟨⟨i + 1, nextK ck, R, by omega, rfl, hnks, HNXi.out, HS.out, hown1, hbw1⟩, ?_⟩
        rw [hleft.out, hleft2.out]; omega
    · have hie : i = F.length := by omega
      subst hie
      rw [List.getElem?_eq_none (by omega)] at HSk
      unfold seekV at HSk
      simp only at HSk
      rw [List.take_length, HALL.out] at hR
      have HR := Lib.hid hR
      have HSK1 := Lib.hid HSk
      clear HSk hR hbw hst
      go_wp2_with fail
      with_reducible refine HSK1.out.mono ?_; rintro e w1 ⟨rfl, ho1, hb1⟩
      have hbw1 := BW.out.trans (hb1.mono hz)
      have hown1 := own_low22 hown hb1
      clear hown
      go_wp2_with fail
      go_ret2
      refine ⟨_, rfl, hbw1, ?_⟩
      rw [HR.out]; exact hown1
end Go.Proofs.Ytljommhbhpappaa
