/-
  Layer 13 (stage): the contract of Stage.Images where the shelf below has every page that is set.
-/
import Derived.Test.YtmbeicijljlejaaSortK
import Derived.Test.YtmbeicijljlejaaPageEq
import Derived.OwnWalk
import Derived.Deep.AppendLies
namespace Go.Proofs.Ytmbeicijljlejaa
open Go.RowKit Go.Joins
set_option linter.unusedVariables false
set_option linter.unusedSimpArgs false

/-- an image as a value -/
def imgCs (id : Int) (p : Pg) : Array Value := #[.int .i64 id, .int .i64 p.k, .int .i64 p.l, .int .i64 p.s, .int .i64 p.n, .int .i64 p.a0, .string p.d0, .int .i64 p.a1, .string p.d1, .int .i64 p.a2, .string p.d2, .int .i64 p.a3, .string p.d3, .int .i64 p.a4, .string p.d4, .int .i64 p.a5, .string p.d5]
def imgV (id : Int) (p : Pg) : Value := .agg (imgCs id p)
@[go_sem] theorem imgV_cells (id : Int) (p : Pg) : (imgV id p).cells = imgCs id p := rfl
@[go_sem] theorem imgCs_size (id : Int) (p : Pg) : (imgCs id p).size = 17 := rfl
@[go_sem] theorem imgCs_len (id : Int) (p : Pg) : (imgCs id p).toList.length = 17 := rfl
def buildImg (parts : Array (Nat × Value)) : Sem Value := Instr.build 93 parts
@[go_sem ↓] theorem buildImg_eq (parts : Array (Nat × Value)) : Instr.build 93 parts = buildImg parts := rfl
@[go_sem] theorem run_buildImg (w : World) (id : Int) (p : Pg) : (buildImg #[(0, .int .i64 id), (1, p.v)]).run Try.prog w = .ok (imgV id p) w := by kernel_rfl
def rowImg (parts : Array (Nat × Value)) : Sem Value := Instr.buildSlice 75 1 parts
@[go_sem ↓] theorem rowImg_eq (parts : Array (Nat × Value)) : Instr.buildSlice 75 1 parts = rowImg parts := rfl
@[go_sem] theorem run_rowImg (w : World) (id : Int) (p : Pg) : (rowImg #[(0, imgV id p)]).run Try.prog w = .ok (.slice (some ⟨w.heap.size, 0, none⟩) 1 1) (w.alloc (.cells (imgCs id p) 93)) := by kernel_rfl

theorem infoImg : (Try.prog.info? 93).map (fun i => (i.zero, i.size, i.bytes)) = some (some (imgV 0 Pg.zero), 17, 184) := by kernel_rfl

/-- the images of some pages of a stage -/
def imgs (S : Vol) (L : List Int) : List (Int × Pg) := (L.filter fun id => !pgEq (shelfPg S.base id) (stPg S id)).map fun id => (id, stPg S id)
def imgRow (l : List (Int × Pg)) : List Value := l.flatMap fun x => (imgCs x.1 x.2).toList
theorem imgRow_len (l : List (Int × Pg)) : (imgRow l).length = l.length * 17 := by
  induction l with
  | nil => rfl
  | cons x r ih =>
    have e : imgRow (x :: r) = (imgCs x.1 x.2).toList ++ imgRow r := rfl
    rw [e, List.length_append, ih, imgCs_len, List.length_cons]; omega
theorem imgRow_snoc (l : List (Int × Pg)) (x : Int × Pg) : imgRow (l ++ [x]) = imgRow l ++ (imgCs x.1 x.2).toList := by
  simp [imgRow]
theorem imgs_snoc (S : Vol) (L : List Int) (id : Int) : imgs S (L ++ [id]) = if pgEq (shelfPg S.base id) (stPg S id) then imgs S L else imgs S L ++ [(id, stPg S id)] := by
  unfold imgs
  rw [List.filter_append, List.map_append]
  cases h : pgEq (shelfPg S.base id) (stPg S id) <;> simp [h]
theorem imgs_len (S : Vol) (L : List Int) : (imgs S L).length ≤ L.length := by
  unfold imgs
  rw [List.length_map]
  exact List.length_filter_le _ _

/-- what holds of a stage's map: no number twice, each of a page -/
structure Vol.Ok (S : Vol) : Prop where
  once : (S.M.map (·.1)).Nodup
  range : ∀ x ∈ S.M, 0 ≤ x.1 ∧ x.1 < 1024

theorem own_low {w w' : World} {base n : Nat} {e : TypeId} {v : Value} {xs : List Value} {s : Nat} (h : w.ownsRow base e s v n xs) (hb : Below w.heap.size w w') : w'.ownsRow base e s v n xs := h.kept (row := none) ⟨hb.os, hb.tape, hb.output, hb.size, fun i hi _ => hb.block i hi⟩ (by cases v.ownBlock <;> simp)
theorem own_ne {w : World} {b b' s s' n n' : Nat} {e e' : TypeId} {v v' : Value} {xs xs' : List Value} (h : w.ownsRow b e s v n xs) (h' : w.ownsRow b' e' s' v' n' xs') (he : e ≠ e') : v.ownBlock = none ∨ v.ownBlock ≠ v'.ownBlock := by
  rcases h.2 with ⟨rfl, _⟩ | ⟨g, cap, cur, rfl, _, hg, _⟩
  · exact .inl rfl
  rcases h'.2 with ⟨rfl, _⟩ | ⟨g', cap', cur', rfl, _, hg', _⟩
  · exact .inr (by simp [Value.ownBlock])
  refine .inr fun h => he ?_
  simp only [Value.ownBlock, Option.some.injEq] at h
  subst h
  rw [hg] at hg'
  simp at hg'
  exact hg'.2

theorem pigeon : ∀ (n : Nat) (l : List Nat), l.Nodup → (∀ x ∈ l, x < n) → l.length ≤ n
  | 0, l, _, h => by
    cases l with
    | nil => exact Nat.le_refl _
    | cons x r => exact absurd (h x (List.mem_cons_self ..)) (by omega)
  | n + 1, l, hn, h => by
    have h1 := pigeon n (l.erase n) (hn.erase n) fun x hx => by
      have h2 := (List.Nodup.mem_erase_iff hn).1 hx
      have h3 := h x h2.2
      have h4 := h2.1
      omega
    have h5 := List.length_erase (a := n) (l := l)
    split at h5 <;> omega
theorem nodup_range : ∀ (l : List Int), l.Nodup → (∀ x ∈ l, 0 ≤ x ∧ x < 1024) → l.length ≤ 1024 := by
  intro l hn hr
  have h1 : (l.map Int.toNat).Nodup := by
    refine List.pairwise_map.2 (hn.imp_of_mem fun {a b} ha hb hab e => hab ?_)
    have := hr a ha; have := hr b hb; omega
  have := pigeon 1024 (l.map Int.toNat) h1 fun x hx => by
    obtain ⟨y, hy, rfl⟩ := List.mem_map.1 hx
    have := hr y hy
    omega
  simpa using this
theorem Vol.Ok.len {S : Vol} (h : S.Ok) : S.M.length ≤ 1024 := by
  have := nodup_range (S.M.map (·.1)) h.once (fun x hx => by obtain ⟨y, hy, rfl⟩ := List.mem_map.1 hx; exact h.range y hy)
  simpa using this
theorem getM_mem {S : Vol} {id : Int} (h : id ∈ S.M.map (·.1)) : ∃ p, getM S id = some p := by
  obtain ⟨x, hx, rfl⟩ := List.mem_map.1 h
  unfold getM
  cases hf : S.M.find? (fun y => y.1 == x.1) with
  | some y => exact ⟨_, rfl⟩
  | none => have := List.find?_eq_none.1 hf x hx; simp at this
theorem mem_updM {k : Int} {p : Pg} {M : List (Int × Pg)} {x : Int} : x ∈ (updM k p M).map (·.1) ↔ x = k ∨ x ∈ M.map (·.1) := by
  induction M with
  | nil => simp [updM]
  | cons y r ih =>
    unfold updM
    by_cases h : k = y.1
    · rw [if_pos h]; simp [h]
    · rw [if_neg h]
      simp only [List.map_cons, List.mem_cons, ih]
      exact ⟨fun h => by rcases h with h | h | h <;> simp [h], fun h => by rcases h with h | h | h <;> simp [h]⟩
theorem once_updM {k : Int} {p : Pg} {M : List (Int × Pg)} (h : (M.map (·.1)).Nodup) : ((updM k p M).map (·.1)).Nodup := by
  induction M with
  | nil => simp [updM]
  | cons y r ih =>
    have hn := List.nodup_cons.1 h
    unfold updM
    by_cases hk : k = y.1
    · rw [if_pos hk]
      simp only [List.map_cons, hk]
      exact List.nodup_cons.2 hn
    · rw [if_neg hk]
      simp only [List.map_cons]
      refine List.nodup_cons.2 ⟨fun hm => ?_, ih hn.2⟩
      rcases mem_updM.1 hm with e | e
      · exact hk e.symm
      · exact hn.1 e
theorem range_updM {k : Int} {p : Pg} {M : List (Int × Pg)} (hk : 0 ≤ k ∧ k < 1024) (h : ∀ x ∈ M, 0 ≤ x.1 ∧ x.1 < 1024) : ∀ x ∈ updM k p M, 0 ≤ x.1 ∧ x.1 < 1024 := by
  induction M with
  | nil => intro x hx; simp [updM] at hx; subst hx; exact hk
  | cons y r ih =>
    unfold updM
    split
    · intro x hx
      rcases List.mem_cons.1 hx with rfl | hx
      · exact hk
      · exact h x (List.mem_cons_of_mem _ hx)
    · intro x hx
      rcases List.mem_cons.1 hx with rfl | hx
      · exact h _ (List.mem_cons_self ..)
      · exact ih (fun z hz => h z (List.mem_cons_of_mem _ hz)) x hx
theorem Vol.Ok.put {S : Vol} (h : S.Ok) (id : Int) (p : Pg) (h0 : 0 ≤ id) (h1 : id < 1024) : (S.put id p).Ok :=
  ⟨once_updM h.once, range_updM ⟨h0, h1⟩ h.range⟩
theorem Vol.Ok.nil (l : List Pg) : Vol.Ok ⟨l, []⟩ := ⟨by simp, by simp⟩

/-- the keys, sorted -/
def Vol.keys (S : Vol) : List Int := sortK (S.M.map fun x => (x.1, x.2.v))
theorem Vol.mem_keys (S : Vol) (x : Int) : x ∈ S.keys ↔ x ∈ S.M.map (·.1) := by
  unfold Vol.keys
  rw [sortK_mem, List.map_map]
  rfl
theorem Vol.keys_len (S : Vol) : S.keys.length = S.M.length := by simp [Vol.keys, sortK_length]

theorem lookup1_some {S : Vol} {b mb hb pb : Nat} {w : World} (h : StageAt w b mb hb pb S) {id : Int} {p : Pg} (hp : getM S id = some p) :
    (Instr.lookup 58 (.map (some mb)) (.int .i64 id) false).run Try.prog w = .ok p.v w := by
  rw [run_lookup1_int Try.underlying58 Try.underlying3 _ mb _ id _ (zeroPage _) h.2.1]
  have e := findI_M S.M id 0
  have e2 : (S.M.find? fun x => x.1 == id).map (·.2) = some p := hp
  rw [e2] at e
  cases hf : findI id (S.M.map fun x => (x.1, x.2.v)) 0 with
  | none => rw [hf] at e; cases e
  | some x => rw [hf] at e; simp at e; simp [e]
theorem StageAt.drew {w : World} {b mb hb pb : Nat} {S : Vol} (h : StageAt w b mb hb pb S) : StageAt w.drew b mb hb pb S := h

def ImagesAt (S : Vol) (b mb hb pb : Nat) (L : List Int) (B1 B2 : Nat) (kv l : Value) (w0 : World) (k : Nat) (wr : World) : Prop :=
  k ≤ L.length ∧ StageAt wr b mb hb pb S ∧ Below w0.heap.size w0 wr ∧ wr.ownsRow B1 3 1 kv L.length (L.map encZ) ∧ wr.ownsRow B2 93 17 l (imgs S (L.take k)).length (imgRow (imgs S (L.take k)))

set_option maxHeartbeats 4000000 in
set_option maxRecDepth 100000 in
theorem images_ok (S : Vol) (b mb hb pb : Nat) (w : World) (hs : StageAt w b mb hb pb S) (hok : S.Ok) (hbase : ∀ x ∈ S.M, shelfE S.base x.1 = 0) :
    Calls Try.prog 31 #[.pointer (some ⟨b, 0, none⟩)] w fun e w' => ∃ v, e = .returned (.tuple #[v, .int .i64 0]) ∧ Below w.heap.size w w' ∧ w'.ownsRow w.heap.size 93 17 v (imgs S S.keys).length (imgRow (imgs S S.keys)) := by
  obtain ⟨l1, l2, l3, l4⟩ := hs.lt
  have hlen := hok.len
  have HK := Lib.hid (fun W => keys_plain (some mb) W)
  have HSo := Lib.hid (fun W Bm (h : StageAt W b mb hb pb S) hB hm => sorted_plain mb Bm _ W h.2.1 (by intro x hx; obtain ⟨y, hy, rfl⟩ := List.mem_map.1 hx; exact hok.range y hy) (by rw [List.length_map]; exact hlen) hB hm)
  have hkl : S.keys.length ≤ 1024 := by rw [Vol.keys_len]; exact hlen
  have HM := Lib.hid (fun id (h : id ∈ S.keys) => getM_mem ((Vol.mem_keys S id).1 h))
  have he : ∀ id ∈ S.keys, shelfE S.base id = 0 := fun id h => by
    obtain ⟨x, hx, rfl⟩ := List.mem_map.1 ((Vol.mem_keys S id).1 h)
    exact hbase x hx
  have HE := Lib.hid he
  have hkeys : sortK (S.M.map fun x => (x.1, x.2.v)) = S.keys := rfl
  have hml : (S.M.map fun x => (x.1, x.2.v)).length = S.keys.length := by rw [Vol.keys_len, List.length_map]
  rw [hkeys, hml] at HSo
  have HS := Lib.hid hs
  have c1 := cell_of_block hs.1 1
  simp only [List.getElem?_toArray, List.getElem?_cons_succ, List.getElem?_cons_zero] at c1
  have m1 := meth_shelf
  obtain ⟨i0, hi, hz0, hz1, hz2⟩ := info_parts infoImg
  clear hs hok hbase hkeys hml hlen he
  generalize S.keys = L at *
  go_enter Try.func31, Try.ntmps31
  go_wp2_with fail
  refine (HK.out _).mono ?_; rintro e w1 ⟨rfl, rfl⟩
  go_wp2_with fail
  refine (HSo.out _ _ (HS.out.below ((Below.refl w.heap.size w).alloc (Nat.le_refl _) _) ⟨l1, l2, l3, l4⟩) (by go_size) (by simp [go_sem])).mono ?_; rintro e w2 ⟨kv, rfl, hkv, hb2⟩
  have hz := hb2.size
  simp only [World.size_alloc] at hz
  have hBW : Below w.heap.size w w2 := ((Below.refl w.heap.size w).alloc (Nat.le_refl _) (.cells #[.map (some mb)] 58)).trans (hb2.mono (by go_size))
  have HA : Hid (ImagesAt S b mb hb pb L (w.heap.size + 1) w.heap.size kv (.slice none 0 0) w 0 w2) :=
    Lib.hid ⟨Nat.zero_le _, HS.out.below hBW ⟨l1, l2, l3, l4⟩, hBW, by simpa using hkv, by simp only [List.take_zero]; exact World.ownsRow_nil _ _ _ _⟩
  obtain ⟨vp, vc, hv⟩ : ∃ vp vc, kv = .slice vp L.length vc := by
    rcases ownsRow_forms hkv with ⟨h1, h2⟩ | ⟨g, c, h1⟩
    · exact ⟨_, _, by rw [h1, h2]⟩
    · exact ⟨_, _, h1⟩
  subst hv
  clear hkv hb2 hBW
  go_wp2_with fail
  go_loopw [4, 18] (fun l i wr => ∃ j : Nat, i = .int .i64 j ∧ ImagesAt S b mb hb pb L (w.heap.size + 1) w.heap.size (.slice vp L.length vc) l w j wr) (fun _ i _ => L.length - (intOf i).toNat)
  case atStart => exact ⟨0, rfl, HA.out⟩
  case round =>
    obtain ⟨j, rfl, hj, h3, h4, h5, h6⟩ := hrel
    clear HA
    obtain ⟨q1, q2, q3, q4⟩ := h3.lt
    have hsw := h4.size
    by_cases hlt : j < L.length
    · obtain ⟨g, hv⟩ : ∃ g, vp = some ⟨g, 0, none⟩ := by
        obtain ⟨g, cap, hv⟩ := ownsRow_form h5 (by omega)
        simp only [Value.slice.injEq] at hv
        exact ⟨g, hv.1⟩
      subst hv
      have hc := (h5.cellAt j (by omega)).trans (show (L.map encZ)[j]? = some (.int .i64 L[j]) by simp [hlt])
      have c0 := cell_of_block h3.1 0
      have c1 := cell_of_block h3.1 1
      simp only [List.getElem?_toArray, List.getElem?_cons_succ, List.getElem?_cons_zero] at c0 c1
      have hmem : L[j] ∈ L := List.getElem_mem hlt
      have he := HE.out _ hmem
      obtain ⟨p, hp⟩ := HM.out _ hmem
      have hst : stPg S L[j] = p := by unfold stPg; rw [hp]
      have HG := Lib.hid (fun w' h => shelfGet_any hb pb S.base L[j] w' h)
      rw [he] at HG
      have HL := Lib.hid (fun w' (h : StageAt w' b mb hb pb S) => lookup1_some h hp)
      have htk : L.take (j + 1) = L.take j ++ [L[j]] := by rw [List.take_succ_eq_append_getElem hlt]
      have hsn := imgs_snoc S (L.take j) L[j]
      rw [← htk, hst] at hsn
      have hil := imgs_len S (L.take j)
      have htl : (L.take j).length ≤ j := List.length_take_le _ _
      obtain ⟨old, hold⟩ : ∃ old, shelfPg S.base L[j] = old := ⟨_, rfl⟩
      rw [hold] at HG hsn
      clear hmem he hp hst hold htk
      generalize L[j] = id at *
      have HSn := Lib.hid hsn
      have HS3 := Lib.hid h3
      have HB4 := Lib.hid h4
      have HO5 := Lib.hid h5
      have HO6 := Lib.hid h6
      clear h3 h4 h5 h6 hsn
      go_wp2_with fail
      refine (HG.out _ HS3.out.2.2.1).mono ?_; rintro e w3 ⟨rfl, hb3⟩
      have hz3 := hb3.size
      have hst3 := HS3.out.below hb3 ⟨q1, q2, q3, q4⟩
      have d0 := (hb3.cell (p := ⟨b, 0, none⟩) q1).trans c0
      have d1 := (hb3.cell (p := ⟨b, 1, none⟩) q1).trans c1
      have hl3 := HL.out _ (hst3.below ((Below.refl w3.heap.size w3).alloc (Nat.le_refl _) (.cells old.cs 50)) ⟨by omega, by omega, by omega, by omega⟩).drew
      have ho5 := Lib.hid (own_low HO5.out hb3)
      have ho6 := own_low HO6.out hb3
      have HST := Lib.hid hst3
      have HB5 := Lib.hid (HB4.out.trans (hb3.mono hsw))
      have d2 := (((Below.refl w3.heap.size w3).alloc (Nat.le_refl _) (.cells old.cs 50)).cell (p := ⟨b, 1, none⟩) (by simp; omega)).trans d1
      clear hb3 hst3 c0 c1 HO5 HO6
      go_wp2_with fail
      cases heq : pgEq old p with
      | true =>
        rw [heq] at HSn
        simp only [if_true] at HSn
        have HQ := Lib.hid heq
        go_region
        go_wp2_with fail
        go_roundw
        case rel => exact ⟨j + 1, by go_num, by omega, (HST.out.below ((Below.refl w3.heap.size w3).alloc (Nat.le_refl _) (.cells old.cs 50)) ⟨by omega, by omega, by omega, by omega⟩).drew, (HB5.out.alloc (by omega) _).drew, ho5.out.alloc _, by rw [HSn.out]; exact (ho6.alloc _)⟩
        case measure => simp [intOf]; omega
      | false =>
        rw [heq] at HSn
        have HQ := Lib.hid heq
        go_region
        have hown := (ho6.alloc (.cells old.cs 50)).drew
        clear ho6
        go_wp2_with (at_builtin; refine wpList_append_own _ rfl _ _ 75 rfl w.heap.size 93 i0 _ 17 184 Try.underlying75 hi hz0 hz1 hz2 rfl (by decide) _ _ _ rfl (hown.alloc _) ⟨w3.heap.size + 1, 0, none⟩ 1 1 (imgCs id p).toList rfl rfl ?c1 ?c2 ?c3 ?c4 ?c5 ?_)
        case c1 =>
          have hn := heap_alloc_new (w3.alloc (.cells old.cs 50)) (.cells (imgCs id p) 93)
          rw [World.size_alloc] at hn
          exact World.news_of_block (w := ((w3.alloc (.cells old.cs 50)).alloc (.cells (imgCs id p) 93)).drew) hn
        case c2 => intro u hu; simp [imgCs] at hu; rcases hu with rfl | rfl | rfl | rfl | rfl | rfl | rfl | rfl | rfl | rfl | rfl | rfl | rfl | rfl | rfl | rfl | rfl <;> rfl
        case c3 => simp only [maxLen]; omega
        case c4 => omega
        case c5 => first | omega | (simp; omega)
        intro v' w5 hown' hgrow _
        have B6 : Below w.heap.size w w5 := (((HB5.out.alloc (by omega) (.cells old.cs 50)).alloc (by simp; omega) (.cells (imgCs id p) 93)).drew).grown hgrow (by simp; omega) (fun q hq => (hown.lt q hq).1)
        have K5 : w5.ownsRow (w.heap.size + 1) 3 1 (.slice (some ⟨g, 0, none⟩) L.length vc) L.length (L.map encZ) := by
          refine (((ho5.out.alloc (.cells old.cs 50)).alloc (.cells (imgCs id p) 93)).drew).kept hgrow ?_
          exact own_ne (((ho5.out.alloc (.cells old.cs 50)).alloc (.cells (imgCs id p) 93)).drew) ((hown.alloc (.cells (imgCs id p) 93)).drew) (by decide)
        have H5 := Lib.hid hown'
        have HB6 := Lib.hid B6
        have HK5 := Lib.hid K5
        have HSm := Lib.hid (HS.out.below B6 ⟨l1, l2, l3, l4⟩)
        clear hown hgrow hown' B6 K5
        go_wp2_with fail
        go_roundw
        case rel => exact ⟨j + 1, by go_num, by omega, HSm.out, HB6.out, HK5.out, by rw [HSn.out]; simp only [Bool.false_eq_true, if_false, List.length_append, List.length_singleton, imgRow_snoc]; exact H5.out⟩
        case measure => simp [intOf]; omega
    · have hje : j = L.length := by omega
      subst hje
      rw [List.take_length] at h6
      have HB4 := Lib.hid h4
      have HO6 := Lib.hid h6
      clear h3 h4 h5 h6
      go_wp2_with fail
      go_ret2
      exact ⟨_, rfl, HB4.out, HO6.out⟩
end Go.Proofs.Ytmbeicijljlejaa
