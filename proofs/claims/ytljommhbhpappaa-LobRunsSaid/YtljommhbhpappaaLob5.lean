/-
  Layer 17 (lob), plain law: live keys as a map; the steps of a change, done one by one, make an object what it is to be.
-/
import Derived.Test.YtljommhbhpappaaPkOps
import Derived.Test.YtljommhbhpappaaPkLob
namespace Go.Proofs.Ytljommhbhpappaa
open Go.RowKit Go.Joins
set_option linter.unusedVariables false
set_option linter.unusedSimpArgs false

/-! ## live keys -/
theorem getL_some {F : List NC} (hr : Rising F) {k v : ByteArray} : getL k F = some v ↔ (⟨k, 1, v⟩ : NC) ∈ F := by
  constructor
  · intro h
    unfold getL at h
    cases hs : seekL k F with
    | none => rw [hs] at h; cases h
    | some c =>
      rw [hs] at h
      simp only at h
      split at h
      · rename_i e
        have hm : c ∈ F := List.mem_of_find?_eq_some hs
        obtain ⟨ck, cs, cr⟩ := c
        simp only at e h
        obtain ⟨rfl, rfl⟩ := e
        cases h
        exact hm
      · cases h
  · intro h
    have := getL_there hr h
    simpa using this
theorem getL_same {F F' : List NC} (hr : Rising F) (hr' : Rising F') {k : ByteArray} (h : ∀ v, (⟨k, 1, v⟩ : NC) ∈ F' ↔ (⟨k, 1, v⟩ : NC) ∈ F) : getL k F' = getL k F := by
  apply Option.ext
  intro v
  rw [getL_some hr', getL_some hr, h v]
theorem getL_setC {F : List NC} (hr : Rising F) {c x : NC} (hx : x ∈ F) (hk : x.key = c.key) (k : ByteArray) : getL k (setC c F) = if k = c.key then (if c.st = 1 then some c.rest else none) else getL k F := by
  by_cases e : k = c.key
  · subst e
    rw [if_pos rfl]
    exact getL_there (setC_rising hr) (List.mem_map.2 ⟨x, hx, if_pos hk⟩)
  · rw [if_neg e]
    refine getL_same hr (setC_rising hr) fun v => ⟨fun h => ?_, fun h => List.mem_map.2 ⟨_, h, if_neg e⟩⟩
    rcases setC_mem h with h | h
    · exact absurd (congrArg NC.key h) e
    · exact h.1
theorem getL_flat {F F' : List NC} (hr : Rising F) (hr' : Rising F') {c : NC} (hc : c.st = 1) {kp : List ByteArray} (h : FlatPut F F' c kp) (k : ByteArray) : getL k F' = if k = c.key then some c.rest else getL k F := by
  by_cases e : k = c.key
  · subst e
    have := getL_there hr' h.memc
    rw [if_pos hc] at this
    rw [if_pos rfl]; exact this
  · rw [if_neg e]
    refine getL_same hr hr' fun v => ⟨fun h2 => ?_, fun h2 => h.kept _ h2 (.inl rfl)⟩
    rcases h.back _ h2 with h3 | h3
    · exact absurd (congrArg NC.key h3) e
    · exact h3

/-! ## steps -/
abbrev Gm := ByteArray → Option ByteArray
def gapp (g : Gm) (x : Stp) : Gm := fun k => if k = x.2.1 then (if x.1 = 16 then none else some x.2.2) else g k
def gok (g : Gm) (x : Stp) : Prop := KeyOk x.2.1 ∧ x.2.2.size ≤ 20 ∧ ((x.1 = 13 ∧ g x.2.1 = none) ∨ ((x.1 = 15 ∨ x.1 = 16) ∧ g x.2.1 ≠ none))
def gvalid : Gm → List Stp → Prop
  | _, [] => True
  | g, x :: r => gok g x ∧ gvalid (gapp g x) r
def gall (g : Gm) (l : List Stp) : Gm := l.foldl gapp g
def nput (l : List Stp) : Nat := (l.filter fun x => x.1 == 13).length
theorem gall_append (g : Gm) (a b : List Stp) : gall g (a ++ b) = gall (gall g a) b := by simp [gall]
theorem nput_append (a b : List Stp) : nput (a ++ b) = nput a + nput b := by simp [nput]
theorem gvalid_append : ∀ {a b : List Stp} {g : Gm}, gvalid g (a ++ b) ↔ gvalid g a ∧ gvalid (gall g a) b
  | [], b, g => by simp [gvalid, gall]
  | x :: r, b, g => by
    have ih := gvalid_append (a := r) (b := b) (g := gapp g x)
    simp only [List.cons_append, gvalid, ih, and_assoc]
    exact Iff.rfl
theorem key4_inj {a i b k : Int} (ha : 0 ≤ a ∧ a ≤ 65535) (hi : 0 ≤ i ∧ i ≤ 65535) (hb : 0 ≤ b ∧ b ≤ 65535) (hk : 0 ≤ k ∧ k ≤ 65535) (h : key4 a i = key4 b k) : a = b ∧ i = k := by
  have h1 := key4_less a i b k ha hi hb hk
  have h2 := key4_less b k a i hb hk ha hi
  have h3 := key4_less a i a i ha hi ha hi
  rw [← h] at h1 h2
  rw [h3] at h1 h2
  simp only [decide_eq_decide] at h1 h2
  omega
def stepsFull (num : Int) (fr to : List ByteArray) : List Stp := stepsTo num fr to (max fr.length to.length)
theorem steps_done (num : Int) (hn : 0 ≤ num ∧ num < 1000) (fr to : List ByteArray) (hf : fr.length ≤ 256) (ht : to.length ≤ 256) (hto : ∀ x ∈ to, x.size ≤ 20) (g : Gm) (hg : ∀ i : Nat, i ≤ 256 → g (key4 num i) = fr[i]?) :
    ∀ k : Nat, k ≤ max fr.length to.length → gvalid g (stepsTo num fr to k) ∧ (∀ i : Nat, i ≤ 256 → gall g (stepsTo num fr to k) (key4 num i) = if i < k then to[i]? else fr[i]?) ∧
      (∀ key : ByteArray, (∀ i : Nat, i ≤ 256 → key ≠ key4 num i) → gall g (stepsTo num fr to k) key = g key) ∧ nput (stepsTo num fr to k) ≤ min k to.length - fr.length
  | 0, _ => ⟨by simp [stepsTo, gvalid], fun i hi => by simpa [stepsTo, gall] using hg i hi, fun key _ => by simp [stepsTo, gall], by simp [stepsTo, nput]⟩
  | k + 1, hk => by
    obtain ⟨h1, h2, h3, h4⟩ := steps_done num hn fr to hf ht hto g hg k (by omega)
    have hinj : ∀ i : Nat, i ≤ 256 → key4 num i = key4 num k → i = k := fun i hi e => by
      have := (key4_inj (by omega) (by omega) (by omega) (by omega) e).2
      omega
    have hk' : gall g (stepsTo num fr to k) (key4 num k) = fr[k]? := by rw [h2 k (by omega), if_neg (by omega)]
    rw [stepsTo_succ]
    unfold stepAt
    by_cases c1 : to.length ≤ k
    · rw [if_pos c1]
      have hfk : k < fr.length := by omega
      have hto1 : to[k]? = none := List.getElem?_eq_none c1
      refine ⟨gvalid_append.2 ⟨h1, ⟨key4_ok num k, by simp, .inr ⟨.inr rfl, ?_⟩⟩, trivial⟩, fun i hi => ?_, fun key hkey => ?_, ?_⟩
      · show gall g (stepsTo num fr to k) (key4 num k) ≠ none
        rw [hk', List.getElem?_eq_getElem hfk]; simp
      · rw [gall_append]
        show (if key4 num i = key4 num k then none else gall g (stepsTo num fr to k) (key4 num i)) = _
        by_cases e : i = k
        · subst e; rw [if_pos rfl, if_pos (by omega), hto1]
        · rw [if_neg (fun q => e (hinj i hi q)), h2 i hi]
          by_cases e2 : i < k
          · rw [if_pos e2, if_pos (by omega)]
          · rw [if_neg e2, if_neg (by omega)]
      · rw [gall_append]
        show (if key = key4 num k then none else gall g (stepsTo num fr to k) key) = _
        rw [if_neg (hkey k (by omega)), h3 key hkey]
      · rw [nput_append]
        simp [nput] at h4 ⊢
        omega
    · rw [if_neg c1]
      have hkt : k < to.length := by omega
      have hto1 : to[k]? = some to[k] := List.getElem?_eq_getElem hkt
      have hgd : to.getD k ByteArray.empty = to[k] := by simp [List.getD, hto1]
      have hsz := hto _ (List.getElem_mem hkt)
      by_cases c2 : fr.length ≤ k
      · rw [if_pos c2, hgd]
        refine ⟨gvalid_append.2 ⟨h1, ⟨key4_ok num k, hsz, .inl ⟨rfl, ?_⟩⟩, trivial⟩, fun i hi => ?_, fun key hkey => ?_, ?_⟩
        · show gall g (stepsTo num fr to k) (key4 num k) = none
          rw [hk', List.getElem?_eq_none c2]
        · rw [gall_append]
          show (if key4 num i = key4 num k then some to[k] else gall g (stepsTo num fr to k) (key4 num i)) = _
          by_cases e : i = k
          · subst e; rw [if_pos rfl, if_pos (by omega), hto1]
          · rw [if_neg (fun q => e (hinj i hi q)), h2 i hi]
            by_cases e2 : i < k
            · rw [if_pos e2, if_pos (by omega)]
            · rw [if_neg e2, if_neg (by omega)]
        · rw [gall_append]
          show (if key = key4 num k then some to[k] else gall g (stepsTo num fr to k) key) = _
          rw [if_neg (hkey k (by omega)), h3 key hkey]
        · rw [nput_append]
          simp [nput] at h4 ⊢
          omega
      · rw [if_neg c2]
        have hfk : k < fr.length := by omega
        have hfr1 : fr[k]? = some fr[k] := List.getElem?_eq_getElem hfk
        have hfd : fr.getD k ByteArray.empty = fr[k] := by simp [List.getD, hfr1]
        rw [hgd, hfd]
        by_cases c3 : fr[k] = to[k]
        · rw [if_pos c3, List.append_nil]
          refine ⟨h1, fun i hi => ?_, h3, by omega⟩
          rw [h2 i hi]
          by_cases e : i = k
          · subst e; rw [if_neg (by omega), if_pos (by omega), hto1, hfr1, c3]
          · by_cases e2 : i < k
            · rw [if_pos e2, if_pos (by omega)]
            · rw [if_neg e2, if_neg (by omega)]
        · rw [if_neg c3]
          refine ⟨gvalid_append.2 ⟨h1, ⟨key4_ok num k, hsz, .inr ⟨.inl rfl, ?_⟩⟩, trivial⟩, fun i hi => ?_, fun key hkey => ?_, ?_⟩
          · show gall g (stepsTo num fr to k) (key4 num k) ≠ none
            rw [hk', hfr1]; simp
          · rw [gall_append]
            show (if key4 num i = key4 num k then some to[k] else gall g (stepsTo num fr to k) (key4 num i)) = _
            by_cases e : i = k
            · subst e; rw [if_pos rfl, if_pos (by omega), hto1]
            · rw [if_neg (fun q => e (hinj i hi q)), h2 i hi]
              by_cases e2 : i < k
              · rw [if_pos e2, if_pos (by omega)]
              · rw [if_neg e2, if_neg (by omega)]
          · rw [gall_append]
            show (if key = key4 num k then some to[k] else gall g (stepsTo num fr to k) key) = _
            rw [if_neg (hkey k (by omega)), h3 key hkey]
          · rw [nput_append]
            simp [nput] at h4 ⊢
            omega

/-! ## pieces -/
theorem chunks_len : ∀ (f : Nat) (b : ByteArray), b.size ≤ f → (chunks b).length = max 1 ((b.size + 15) / 16)
  | f, b, hb => by
    by_cases h : b.size ≤ 16
    · rw [chunks_small h]
      simp only [List.length_singleton]
      omega
    · rw [chunks_big h]
      match f, hb with
      | 0, hb => omega
      | f + 1, hb =>
        have hs : (b.extract 16 b.size).size = b.size - 16 := by rw [ByteArray.size_extract]; omega
        have ih := chunks_len f (b.extract 16 b.size) (by omega)
        rw [List.length_cons, ih, hs]
        omega
theorem chunks_size : ∀ (f : Nat) (b : ByteArray), b.size ≤ f → ∀ x ∈ chunks b, x.size ≤ 16
  | f, b, hb => by
    by_cases h : b.size ≤ 16
    · rw [chunks_small h]
      intro x hx
      obtain rfl : x = b := by simpa using hx
      exact h
    · rw [chunks_big h]
      match f, hb with
      | 0, hb => omega
      | f + 1, hb =>
        have hs : (b.extract 16 b.size).size = b.size - 16 := by rw [ByteArray.size_extract]; omega
        have ih := chunks_size f (b.extract 16 b.size) (by omega)
        intro x hx
        rcases List.mem_cons.1 hx with rfl | hx
        · rw [ByteArray.size_extract]; omega
        · exact ih x hx
def joinB (l : List ByteArray) : ByteArray := l.foldl (· ++ ·) ByteArray.empty
theorem foldB (l : List ByteArray) (a : ByteArray) : l.foldl (· ++ ·) a = a ++ joinB l := by
  induction l generalizing a with
  | nil => simp [joinB]
  | cons x r ih =>
    show r.foldl (· ++ ·) (a ++ x) = a ++ r.foldl (· ++ ·) (ByteArray.empty ++ x)
    rw [ih, ih (ByteArray.empty ++ x)]
    simp [ByteArray.append_assoc]
theorem joinB_cons (x : ByteArray) (l : List ByteArray) : joinB (x :: l) = x ++ joinB l := by
  show l.foldl (· ++ ·) (ByteArray.empty ++ x) = _
  rw [foldB]; simp
theorem chunks_join : ∀ (f : Nat) (b : ByteArray), b.size ≤ f → joinB (chunks b) = b
  | f, b, hb => by
    by_cases h : b.size ≤ 16
    · rw [chunks_small h, joinB_cons]; simp [joinB]
    · rw [chunks_big h]
      match f, hb with
      | 0, hb => omega
      | f + 1, hb =>
        have hs : (b.extract 16 b.size).size = b.size - 16 := by rw [ByteArray.size_extract]; omega
        have ih := chunks_join f (b.extract 16 b.size) (by omega)
        rw [joinB_cons, ih]
        rw [ByteArray.extract_append_extract]
        first | (simp; omega) | simp
/-! ## objects -/
abbrev Mo := Int → Option ByteArray
def chunksO : Option ByteArray → List ByteArray
  | some b => chunks b
  | none => []
structure ObjAt (g : Gm) (M : Mo) : Prop where
  get : ∀ n : Int, 0 ≤ n → n < 1000 → ∀ i : Nat, i ≤ 256 → g (key4 n i) = (chunksO (M n))[i]?
  small : ∀ n b, M n = some b → b.size ≤ 4096
def updO (M : Mo) (num : Int) (o : Option ByteArray) : Mo := fun n => if n = num then o else M n
theorem chunksO_len {o : Option ByteArray} (h : ∀ b, o = some b → b.size ≤ 4096) : (chunksO o).length ≤ 256 := by
  cases o with
  | none => exact Nat.zero_le _
  | some b =>
    have := h b rfl
    show (chunks b).length ≤ 256
    rw [chunks_len b.size b (Nat.le_refl _)]
    omega
theorem ObjAt.step {g : Gm} {M : Mo} (h : ObjAt g M) {num : Int} (hn : 0 ≤ num ∧ num < 1000) {o : Option ByteArray} (ho : ∀ b, o = some b → b.size ≤ 4096) :
    gvalid g (stepsFull num (chunksO (M num)) (chunksO o)) ∧ ObjAt (gall g (stepsFull num (chunksO (M num)) (chunksO o))) (updO M num o) ∧ nput (stepsFull num (chunksO (M num)) (chunksO o)) ≤ (chunksO o).length - (chunksO (M num)).length := by
  have l1 := chunksO_len (o := M num) (fun b hb => h.small num b hb)
  have l2 := chunksO_len ho
  have hsz : ∀ x ∈ chunksO o, x.size ≤ 20 := fun x hx => by
    cases o with
    | none => cases hx
    | some b => have := chunks_size b.size b (Nat.le_refl _) x hx; omega
  obtain ⟨h1, h2, h3, h4⟩ := steps_done num hn (chunksO (M num)) (chunksO o) l1 l2 hsz g (h.get num hn.1 hn.2) _ (Nat.le_refl _)
  refine ⟨h1, ⟨fun n n0 n1 i hi => ?_, fun n b hb => ?_⟩, ?_⟩
  · unfold updO
    by_cases e : n = num
    · subst e
      rw [if_pos rfl]
      show gall g (stepsTo n _ _ _) _ = _
      rw [h2 i hi]
      by_cases c : i < max (chunksO (M n)).length (chunksO o).length
      · rw [if_pos c]
      · rw [if_neg c, List.getElem?_eq_none (by omega), List.getElem?_eq_none (by omega)]
    · rw [if_neg e]
      show gall g (stepsTo num _ _ _) _ = _
      rw [h3 _ (fun j hj q => e (key4_inj (by omega) (by omega) (by omega) (by omega) q).1)]
      exact h.get n n0 n1 i hi
  · unfold updO at hb
    split at hb
    · exact ho b hb
    · exact h.small n b hb
  · unfold stepsFull
    omega
theorem readF_done {F : List NC} {num : Int} {l : List ByteArray} (hg : ∀ i : Nat, i ≤ 256 → getL (key4 num i) F = l[i]?) (hl : l.length ≤ 256) : ∀ (f i : Nat) (acc : ByteArray), i + f = 257 → readF F num f i acc = acc ++ joinB (l.drop i)
  | 0, i, acc, h => by
    rw [List.drop_eq_nil_of_le (by omega)]
    simp [readF, joinB]
  | f + 1, i, acc, h => by
    have h1 := hg i (by omega)
    unfold readF
    by_cases c : i < l.length
    · rw [List.getElem?_eq_getElem c] at h1
      rw [h1]
      simp only
      rw [readF_done hg hl f (i + 1) _ (by omega), List.drop_eq_getElem_cons c, joinB_cons, ByteArray.append_assoc]
    · rw [List.getElem?_eq_none (by omega)] at h1
      rw [h1]
      simp only
      rw [List.drop_eq_nil_of_le (by omega)]
      simp [joinB]
theorem bytesR_obj {F : List NC} {M : Mo} (h : ObjAt (fun k => getL k F) M) (num : Int) : bytesR F num = if num < 0 ∨ 1000 ≤ num then (ByteArray.empty, (1 : Int)) else match M num with | some b => (b, 0) | none => (ByteArray.empty, 150) := by
  unfold bytesR
  by_cases hn : num < 0 ∨ 1000 ≤ num
  · rw [if_pos hn, if_pos hn]
  · rw [if_neg hn, if_neg hn]
    have hg := h.get num (by omega) (by omega)
    have h0 : getL (key4 num 0) F = (chunksO (M num))[0]? := hg 0 (by omega)
    cases hm : M num with
    | none =>
      rw [hm] at h0
      rw [h0]; rfl
    | some b =>
      rw [hm] at h0 hg
      have hl := chunksO_len (o := some b) (fun x hx => h.small num x (by rw [hm]; exact hx))
      have hp : 0 < (chunks b).length := by rw [chunks_len b.size b (Nat.le_refl _)]; omega
      have h1 : (chunksO (some b))[0]? = some (chunks b)[0] := List.getElem?_eq_getElem hp
      rw [h0, h1]
      simp only
      rw [readF_done (l := chunks b) hg hl 256 1 _ rfl]
      have hj := chunks_join b.size b (Nat.le_refl _)
      have hd : chunks b = (chunks b)[0] :: (chunks b).drop 1 := by
        conv => lhs; rw [← List.drop_zero (l := chunks b)]
        exact List.drop_eq_getElem_cons hp
      rw [hd, joinB_cons] at hj
      rw [hj]
theorem objAt_nil : ObjAt (fun k => getL k []) (fun _ => none) := ⟨fun _ _ _ _ _ => rfl, fun _ _ h => by cases h⟩
end Go.Proofs.Ytljommhbhpappaa
