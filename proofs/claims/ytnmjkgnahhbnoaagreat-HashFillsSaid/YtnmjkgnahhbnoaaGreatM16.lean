/- Part 16 of the walks that the laws of package hash share (HashLaw, HashE). -/
import Derived.Test.YtnmjkgnahhbnoaaGreatM15
set_option linter.unusedVariables false
set_option linter.unusedSimpArgs false
/- A hash index among the pages: plain laws. -/
namespace Go.Proofs.YtnmjkgnahhbnoaaGreat
set_option linter.unusedSimpArgs false

/-- An entry of an index: a key and a place. -/
abbrev HE := List UInt8 × (Nat × Nat)
def entE (e : HE) : List UInt8 := entB e.1 e.2
theorem entE_drop (e : HE) : (entE e).drop 4 = e.1 := rfl
/-- An entry within the limits. -/
def okE (e : HE) : Prop := e.1.length ≤ 140 ∧ e.2.1 < 65536 ∧ e.2.2 < 65536
theorem lowB2_inj {a b : Nat} (ha : a < 65536) (hb : b < 65536) (h0 : lowB a = lowB b) (h1 : lowB ((a : Int) / 256) = lowB ((b : Int) / 256)) : a = b := by
  have e0 := congrArg UInt8.toNat h0
  have e1 := congrArg UInt8.toNat h1
  rw [lowB_toNat, lowB_toNat] at e0 e1
  omega
theorem entE_inj {e f : HE} (he : okE e) (hf : okE f) (h : entE e = entE f) : e = f := by
  obtain ⟨k, p, s⟩ := e
  obtain ⟨k2, p2, s2⟩ := f
  unfold entE entB at h
  simp only [List.cons_append, List.nil_append, List.cons.injEq] at h
  obtain ⟨h0, h1, h2, h3, h4⟩ := h
  obtain ⟨_, a1, a2⟩ := he
  obtain ⟨_, b1, b2⟩ := hf
  simp only at a1 a2 b1 b2 h0 h1 h2 h3
  rw [h4, lowB2_inj a1 b1 h0 h1, lowB2_inj a2 b2 h2 h3]

/-- A list of records, none missing. -/
theorem trimF_all (l : List (List UInt8)) : trimF (l.map some) = l.map some := by
  induction l with
  | nil => rfl
  | cons x l ih => rw [List.map_cons, trimF_some, ih]
theorem freeF_all (l : List (List UInt8)) : freeF (l.map some) = l.length := by
  induction l with
  | nil => rfl
  | cons x l ih => rw [List.map_cons, free_some, ih]; rfl
theorem endF_all (l : List (List UInt8)) (k : Nat) (h : ∀ x ∈ l, x.length = k) : endF (l.map some) = k * l.length := by
  induction l with
  | nil => simp [endF]
  | cons x l ih =>
    simp only [List.map_cons, endF, List.length_cons]
    rw [ih (fun y hy => h y (List.mem_cons_of_mem _ hy)), h x (List.mem_cons_self ..), Nat.mul_add]; omega
theorem entsFrom_all (m i : Nat) (l : List (List UInt8)) (k : Nat) : (entsFrom m i (l.map some))[k]? = (l[k]?).map fun x => ((m, i + k), x) := by
  induction l generalizing i k with
  | nil => simp [entsFrom]
  | cons x l ih =>
    simp only [List.map_cons, entsFrom]
    cases k with
    | zero => simp
    | succ k => simp only [List.getElem?_cons_succ]; rw [ih, show i + 1 + k = i + (k + 1) by omega]
theorem entsFrom_all_len (m i : Nat) (l : List (List UInt8)) : (entsFrom m i (l.map some)).length = l.length := by
  induction l generalizing i with
  | nil => rfl
  | cons x l ih => simp only [List.map_cons, entsFrom, List.length_cons, ih]

/-- The records of a directory: the count, the buckets' first pages. -/
def dirX (cnt : Nat) (B : List (List (Nat × Rs))) : List (List UInt8) := num3 cnt :: B.map fun L => num3 (nextAt L 0)
abbrev dirR (cnt : Nat) (B : List (List (Nat × Rs))) : Rs := (dirX cnt B).map some
abbrev dirL (root cnt : Nat) (B : List (List (Nat × Rs))) : List (Nat × Rs) := [(root, dirR cnt B)]
theorem dirX_len (cnt : Nat) (B : List (List (Nat × Rs))) : (dirX cnt B).length = B.length + 1 := by simp [dirX]
theorem dirX_3 (cnt : Nat) (B : List (List (Nat × Rs))) : ∀ x ∈ dirX cnt B, x.length = 3 := by
  intro x hx
  simp only [dirX, List.mem_cons, List.mem_map] at hx
  rcases hx with rfl | ⟨L, _, rfl⟩ <;> rfl
theorem dir_fit {cnt : Nat} {B : List (List (Nat × Rs))} (h : B.length ≤ 60) : HFit (dirR cnt B) := by
  unfold HFit
  rw [trimF_all, endF_all _ 3 (dirX_3 cnt B), List.length_map, dirX_len]; omega
theorem dir_ents (root cnt : Nat) (B : List (List (Nat × Rs))) : entsL (dirL root cnt B) = entsFrom root 1 (dirR cnt B) := by
  simp [entsL, ents]
theorem dir_len (root cnt : Nat) (B : List (List (Nat × Rs))) : (entsL (dirL root cnt B)).length = B.length + 1 := by
  rw [dir_ents, entsFrom_all_len, dirX_len]
theorem dir_cnt (root cnt : Nat) (B : List (List (Nat × Rs))) : (entsL (dirL root cnt B))[0]? = some ((root, 1), num3 cnt) := by
  rw [dir_ents, entsFrom_all]; rfl
theorem dir_page (root cnt : Nat) (B : List (List (Nat × Rs))) (k : Nat) (L : List (Nat × Rs)) (h : B[k]? = some L) : (entsL (dirL root cnt B))[k + 1]? = some ((root, k + 2), num3 (nextAt L 0)) := by
  rw [dir_ents, entsFrom_all]
  simp only [dirX, List.getElem?_cons_succ, List.getElem?_map, h, Option.map_some]
  rw [show 1 + (k + 1) = k + 2 by omega]
theorem dir_add {cnt p : Nat} {B : List (List (Nat × Rs))} (h : B.length ≤ 59) : haddF (dirR cnt B) (num3 p) = some (dirR cnt (B ++ [[(p, [])]])) := by
  have he : setF (trimF (dirR cnt B)) (freeF (trimF (dirR cnt B))) (num3 p) = dirR cnt (B ++ [[(p, [])]]) := by
    rw [trimF_all, freeF_all]
    unfold setF
    rw [if_pos (by simp)]
    simp [dirR, dirX, nextAt]
  unfold haddF
  rw [he, if_neg]
  have h1 : (num3 p).length = 3 := rfl
  unfold costF
  rw [endF_all _ 3 (dirX_3 _ _), List.length_map, dirX_len, List.length_append]
  simp; omega
theorem dir_set {cnt cnt' : Nat} {B : List (List (Nat × Rs))} : (trimF (dirR cnt B)).set 0 (some (num3 cnt')) = dirR cnt' B := by
  rw [trimF_all]; rfl
theorem dir_next (root cnt : Nat) (B : List (List (Nat × Rs))) : nextAt (dirL root cnt B) 0 = root ∧ nextAt (dirL root cnt B) 1 = 0 := ⟨rfl, rfl⟩
theorem firsts_set {cnt k : Nat} {B : List (List (Nat × Rs))} {L L' : List (Nat × Rs)} (h : B[k]? = some L) (hn : nextAt L' 0 = nextAt L 0) : dirX cnt (B.set k L') = dirX cnt B := by
  unfold dirX
  rw [List.map_set, hn]
  congr 1
  apply List.ext_getElem?
  intro j
  rw [List.getElem?_set]
  split
  · rename_i hj
    subst hj
    have hlt : k < B.length := (List.getElem?_eq_some_iff.1 h).1
    rw [if_pos (by simpa using hlt), List.getElem?_map, h]; rfl
  · rfl

/-- The pages of an index, as they lie; O: the other pages that are taken. -/
structure HSt (O : List Nat) (V : Nat → Option (List UInt8)) (T : Nat → Bool) (N root cnt : Nat) (B : List (List (Nat × Rs))) : Prop where
  dir : HeapV V N (dirL root cnt B)
  bks : ∀ (k : Nat) (L : List (Nat × Rs)), B[k]? = some L → HeapV V N L
  d0 : ∀ (k : Nat) (L : List (Nat × Rs)), B[k]? = some L → root ∉ pagesL L
  dd : ∀ (j k : Nat) (L M : List (Nat × Rs)), j ≠ k → B[j]? = some L → B[k]? = some M → ∀ m ∈ pagesL L, m ∉ pagesL M
  tk : ∀ m, m < N → (T m = true ↔ m ∈ O ∨ m = root ∨ ∃ (j : Nat) (L : List (Nat × Rs)), B[j]? = some L ∧ m ∈ pagesL L)
  o0 : 0 ∈ O
  o1 : root ∉ O
  o2 : ∀ (k : Nat) (L : List (Nat × Rs)), B[k]? = some L → ∀ m ∈ pagesL L, m ∉ O
/-- How many pages are taken. -/
def npB (O : List Nat) (B : List (List (Nat × Rs))) : Nat := O.length + 1 + (B.map (·.length)).sum
theorem sub_len : ∀ (l ps : List Nat), l.Nodup → (∀ x ∈ l, x ∈ ps) → l.length ≤ ps.length
  | [], _, _, _ => by simp
  | x :: l, ps, hn, h => by
    have hx := h x (List.mem_cons_self ..)
    have hn2 := List.nodup_cons.1 hn
    have h1 := sub_len l (ps.erase x) hn2.2 (fun y hy => by
      exact (List.mem_erase_of_ne (by rintro rfl; exact hn2.1 hy)).2 (h y (List.mem_cons_of_mem _ hy)))
    rw [List.length_erase_of_mem hx] at h1
    have := List.length_pos_of_mem hx
    simp only [List.length_cons]; omega
theorem exists_free (T : Nat → Bool) : ∀ N, (∃ k, k < N ∧ T k = false) → ∃ n0, n0 < N ∧ T n0 = false ∧ ∀ k, k < n0 → T k = true
  | 0, ⟨k, h, _⟩ => by omega
  | N + 1, ⟨k, h1, h2⟩ => by
    by_cases h : ∃ k, k < N ∧ T k = false
    · obtain ⟨n0, a, b, c⟩ := exists_free T N h
      exact ⟨n0, by omega, b, c⟩
    · have hk : k = N := by
        rcases Nat.lt_or_ge k N with h3 | h3
        · exact absurd ⟨k, h3, h2⟩ h
        · omega
      subst hk
      refine ⟨k, by omega, h2, fun j hj => ?_⟩
      cases hT : T j with
      | true => rfl
      | false => exact absurd ⟨j, hj, hT⟩ h
theorem npB_pages (O : List Nat) (B : List (List (Nat × Rs))) : (B.flatMap pagesL).length + O.length + 1 = npB O B := by
  unfold npB
  induction B with
  | nil => simp
  | cons L B ih =>
    have h1 : (List.flatMap pagesL (L :: B)).length = L.length + (List.flatMap pagesL B).length := by rw [List.flatMap_cons, List.length_append, List.length_map]
    rw [h1, List.map_cons, List.sum_cons]; omega
/-- A page that nobody has. -/
def NewPg (O : List Nat) (T : Nat → Bool) (N root n0 : Nat) (B : List (List (Nat × Rs))) : Prop := (1 ≤ n0 ∧ n0 < N) ∧ T n0 = false ∧ (∀ k, k < n0 → T k = true) ∧ n0 ≠ root ∧ n0 ∉ O ∧ ∀ (j : Nat) (L : List (Nat × Rs)), B[j]? = some L → n0 ∉ pagesL L
/-- There is a page left. -/
theorem HSt.free {O : List Nat} {V : Nat → Option (List UInt8)} {T : Nat → Bool} {N root cnt : Nat} {B : List (List (Nat × Rs))} (h : HSt O V T N root cnt B) (hr : npB O B < N) : ∃ n0, NewPg O T N root n0 B := by
  have h0 : ∃ k, k < N ∧ T k = false := by
    refine Classical.byContradiction fun hc => ?_
    have hall : ∀ k, k < N → T k = true := fun k hk => by
      cases hT : T k with
      | true => rfl
      | false => exact absurd ⟨k, hk, hT⟩ hc
    have := sub_len (List.range N) (O ++ root :: B.flatMap pagesL) List.nodup_range (fun x hx => by
      have hx2 := List.mem_range.1 hx
      rcases (h.tk x hx2).1 (hall x hx2) with h1 | rfl | ⟨j, L, hj, hm⟩
      · exact List.mem_append.2 (.inl h1)
      · exact List.mem_append.2 (.inr (List.mem_cons_self ..))
      · exact List.mem_append.2 (.inr (List.mem_cons_of_mem _ (List.mem_flatMap.2 ⟨L, List.mem_of_getElem? hj, hm⟩))))
    have h2 := npB_pages O B
    rw [List.length_range, List.length_append, List.length_cons] at this
    omega
  obtain ⟨n0, a, b, c⟩ := exists_free T N h0
  have hn : ∀ P : Prop, (P → T n0 = true) → ¬ P := fun P hp hq => by rw [hp hq] at b; cases b
  have h1 := hn _ (h.tk n0 a).2
  refine ⟨n0, ⟨?_, a⟩, b, c, fun e => h1 (.inr (.inl e)), fun e => h1 (.inl e), fun j L hj hm => h1 (.inr (.inr ⟨j, L, hj, hm⟩))⟩
  rcases Nat.eq_zero_or_pos n0 with e | e
  · exact absurd (.inl (e ▸ h.o0)) h1
  · exact e

theorem get_set_cases {α : Type} {B : List α} {k j : Nat} {x y : α} (hk : k < B.length) (h : (B.set k x)[j]? = some y) : (j = k ∧ y = x) ∨ (j ≠ k ∧ B[j]? = some y) := by
  rw [List.getElem?_set] at h
  by_cases hj : k = j
  · rw [if_pos hj, if_pos (hj ▸ hk)] at h
    cases h; exact .inl ⟨hj.symm, rfl⟩
  · rw [if_neg hj] at h; exact .inr ⟨fun e => hj e.symm, h⟩
/-- A bucket's heap changed; ext: the pages that it has taken besides. -/
theorem HSt.upd {O : List Nat} {V V' : Nat → Option (List UInt8)} {T T' : Nat → Bool} {N root cnt k : Nat} {B : List (List (Nat × Rs))} {L L' : List (Nat × Rs)} (ext : List Nat) (h : HSt O V T N root cnt B) (hk : B[k]? = some L) (hL : HeapV V' N L') (hn : nextAt L' 0 = nextAt L 0)
    (hp : pagesL L' = pagesL L ++ ext) (hx : ∀ n ∈ ext, n ≠ root ∧ n ∉ O ∧ ∀ (j : Nat) (M : List (Nat × Rs)), B[j]? = some M → n ∉ pagesL M) (hv : ∀ m, m ∉ pagesL L' → V' m = V m) (ht : ∀ m, m < N → (T' m = true ↔ T m = true ∨ m ∈ ext)) :
    HSt O V' T' N root cnt (B.set k L') := by
  have hlt : k < B.length := (List.getElem?_eq_some_iff.1 hk).1
  have hroot : root ∉ pagesL L' := by
    rw [hp, List.mem_append]
    rintro (h1 | h1)
    · exact h.d0 k L hk h1
    · exact (hx root h1).1 rfl
  have hoth : ∀ (j : Nat) (M : List (Nat × Rs)), j ≠ k → B[j]? = some M → ∀ m ∈ pagesL M, m ∉ pagesL L' := fun j M hj hM m hm => by
    rw [hp, List.mem_append]
    rintro (h1 | h1)
    · exact h.dd j k M L hj hM hk m hm h1
    · exact (hx m h1).2.2 j M hM hm
  refine ⟨?_, ?_, ?_, ?_, ?_, h.o0, h.o1, ?_⟩
  · have : dirL root cnt (B.set k L') = dirL root cnt B := by unfold dirL dirR; rw [firsts_set hk hn]
    rw [this]
    exact h.dir.other fun m hm => hv m (by simp [pagesL] at hm; subst hm; exact hroot)
  · intro j M hM
    rcases get_set_cases hlt hM with ⟨rfl, rfl⟩ | ⟨hj, hM⟩
    · exact hL
    · exact (h.bks j M hM).other fun m hm => hv m (hoth j M hj hM m hm)
  · intro j M hM
    rcases get_set_cases hlt hM with ⟨rfl, rfl⟩ | ⟨hj, hM⟩
    · exact hroot
    · exact h.d0 j M hM
  · intro i j L1 L2 hij h1 h2 m hm
    rcases get_set_cases hlt h1 with ⟨rfl, rfl⟩ | ⟨hi, g1⟩ <;> rcases get_set_cases hlt h2 with ⟨rfl, rfl⟩ | ⟨hj, g2⟩
    · exact absurd rfl hij
    · exact fun h3 => hoth j L2 hj g2 m h3 hm
    · exact hoth i L1 hi g1 m hm
    · exact h.dd i j L1 L2 hij g1 g2 m hm
  · intro m hm
    rw [ht m hm, h.tk m hm]
    constructor
    · rintro ((h1 | h1 | ⟨j, M, hM, h1⟩) | h1)
      · exact .inl h1
      · exact .inr (.inl h1)
      · by_cases hj : j = k
        · subst hj
          rw [hk] at hM; cases hM
          exact .inr (.inr ⟨j, L', List.getElem?_set_self hlt, by rw [hp]; exact List.mem_append.2 (.inl h1)⟩)
        · exact .inr (.inr ⟨j, M, by rw [List.getElem?_set_ne (fun e => hj e.symm)]; exact hM, h1⟩)
      · exact .inr (.inr ⟨k, L', List.getElem?_set_self hlt, by rw [hp]; exact List.mem_append.2 (.inr h1)⟩)
    · rintro (h1 | h1 | ⟨j, M, hM, h1⟩)
      · exact .inl (.inl h1)
      · exact .inl (.inr (.inl h1))
      · rcases get_set_cases hlt hM with ⟨rfl, rfl⟩ | ⟨hj, hM⟩
        · rw [hp] at h1
          rcases List.mem_append.1 h1 with h2 | h2
          · exact .inl (.inr (.inr ⟨_, L, hk, h2⟩))
          · exact .inr h2
        · exact .inl (.inr (.inr ⟨j, M, hM, h1⟩))
  · intro j M hM m hm
    rcases get_set_cases hlt hM with ⟨rfl, rfl⟩ | ⟨hj, hM⟩
    · rw [hp] at hm
      rcases List.mem_append.1 hm with h2 | h2
      · exact h.o2 _ L hk m h2
      · exact (hx m h2).2.1
    · exact h.o2 j M hM m hm
theorem tput_true (T : Nat → Bool) (n m : Nat) : (tput T n true m = true ↔ T m = true ∨ m ∈ [n]) := by
  unfold tput
  by_cases h : m = n
  · simp [h]
  · simp [h]
theorem hins_next (n0 : Nat) (r : List UInt8) (L : List (Nat × Rs)) (h : 0 < L.length) : nextAt (hins n0 r L) 0 = nextAt L 0 := by
  rcases hins_case (n0 := n0) r L with ⟨h1, h2, _⟩ | ⟨m, rs, rs', h1, h2, h3, _⟩
  · rw [h2, nextAt_append, if_neg (by omega)]
  · rw [h3, nextAt_set _ _ _ _ _ _ h1]
/-- A record put into a bucket. -/
theorem HSt.ins {O : List Nat} {V V' : Nat → Option (List UInt8)} {T : Nat → Bool} {N root cnt k n0 : Nat} {B : List (List (Nat × Rs))} {L : List (Nat × Rs)} {r : List UInt8} (h : HSt O V T N root cnt B) (hk : B[k]? = some L) (hn : NewPg O T N root n0 B) (hL : HeapV V' N (hins n0 r L))
    (hv : ∀ m, m ∉ pagesL (hins n0 r L) → V' m = V m) : HSt O V' (if hidx r L < L.length then T else tput T n0 true) N root cnt (B.set k (hins n0 r L)) ∧ npB O (B.set k (hins n0 r L)) ≤ npB O B + 1 ∧ ∀ m ∈ O, V' m = V m := by
  have hlt : k < B.length := (List.getElem?_eq_some_iff.1 hk).1
  have hne := (h.bks k L hk).ne
  have hlen : (hins n0 r L).length ≤ L.length + 1 := by
    have := congrArg List.length (hins_pages n0 r L)
    rw [List.length_map] at this
    rw [this]
    split <;> simp
  refine ⟨?_, ?_, ?_⟩
  · by_cases hi : hidx r L < L.length
    · rw [if_pos hi]
      refine h.upd [] hk hL (hins_next _ _ _ hne) (by rw [hins_pages, if_pos hi, List.append_nil]) (fun n hn => by cases hn) hv (fun m _ => by simp)
    · rw [if_neg hi]
      exact h.upd [n0] hk hL (hins_next _ _ _ hne) (by rw [hins_pages, if_neg hi]) (fun n hm => by
        simp only [List.mem_singleton] at hm; subst hm; exact ⟨hn.2.2.2.1, hn.2.2.2.2.1, hn.2.2.2.2.2⟩) hv (fun m _ => tput_true T n0 m)
  · have h1 : ∀ (l : List Nat) (i x y : Nat), l[i]? = some x → y ≤ x + 1 → (l.set i y).sum ≤ l.sum + 1 := by
      intro l
      induction l with
      | nil => intro i x y hx; simp at hx
      | cons a l ih =>
        intro i x y hx hy
        cases i with
        | zero => simp only [List.getElem?_cons_zero, Option.some.injEq] at hx; simp only [List.set_cons_zero, List.sum_cons]; omega
        | succ i => simp only [List.getElem?_cons_succ] at hx; have := ih i x y hx hy; simp only [List.set_cons_succ, List.sum_cons]; omega
    unfold npB
    rw [List.map_set]
    have := h1 (B.map (·.length)) k L.length (hins n0 r L).length (by rw [List.getElem?_map, hk]; rfl) hlen
    omega
  · intro m hm
    refine hv m ?_
    rw [hins_pages]
    split
    · exact fun h1 => h.o2 k L hk m h1 hm
    · rw [List.mem_append, List.mem_singleton]
      rintro (h1 | rfl)
      · exact h.o2 k L hk m h1 hm
      · exact hn.2.2.2.2.1 hm
/-- A bucket's records changed, its pages as they were. -/
theorem HSt.mod {O : List Nat} {V : Nat → Option (List UInt8)} {T : Nat → Bool} {N root cnt k i m : Nat} {B : List (List (Nat × Rs))} {L : List (Nat × Rs)} {rs rs' : Rs} (h : HSt O V T N root cnt B) (hk : B[k]? = some L) (hi : L[i]? = some (m, rs)) (hf : HFit rs') :
    HSt O (vput V m (hpage (nextAt L (i + 1)) rs')) T N root cnt (B.set k (L.set i (m, rs'))) ∧ npB O (B.set k (L.set i (m, rs'))) = npB O B ∧ ∀ j ∈ O, vput V m (hpage (nextAt L (i + 1)) rs') j = V j := by
  have hpg := pagesL_set L i m rs rs' hi
  refine ⟨h.upd [] hk ((h.bks k L hk).set hi hf) (nextAt_set _ _ _ _ _ _ hi) (by rw [hpg, List.append_nil]) (fun n hn => by cases hn) (fun j hj => ?_) (fun m _ => by simp), ?_, fun j hj => ?_⟩
  · rw [hpg] at hj
    exact vput_ne _ _ _ _ (fun e => hj (by rw [e]; exact pagesL_get hi))
  · unfold npB
    congr 1
    congr 1
    rw [List.map_set, List.length_set]
    have hlt : k < B.length := (List.getElem?_eq_some_iff.1 hk).1
    apply List.ext_getElem?
    intro j
    rw [List.getElem?_set]
    split
    · rename_i e; subst e
      rw [if_pos (by simpa using hlt), List.getElem?_map, hk]; rfl
    · rfl
  · exact vput_ne _ _ _ _ (fun e => h.o2 k L hk m (pagesL_get hi) (by rw [← e]; exact hj))
/-- The count changed. -/
theorem HSt.count {O : List Nat} {V : Nat → Option (List UInt8)} {T : Nat → Bool} {N root cnt : Nat} (cnt' : Nat) {B : List (List (Nat × Rs))} (h : HSt O V T N root cnt B) (hb : B.length ≤ 60) :
    HSt O (vput V root (hpage 0 (dirR cnt' B))) T N root cnt' B ∧ ∀ j ∈ O, vput V root (hpage 0 (dirR cnt' B)) j = V j := by
  have hne : ∀ m, m ≠ root → vput V root (hpage 0 (dirR cnt' B)) m = V m := fun m hm => vput_ne _ _ _ _ hm
  refine ⟨⟨?_, fun k L hk => (h.bks k L hk).other fun m hm => hne m (fun e => h.d0 k L hk (e ▸ hm)), h.d0, h.dd, h.tk, h.o0, h.o1, h.o2⟩, fun j hj => hne j (fun e => h.o1 (e ▸ hj))⟩
  exact h.dir.set (i := 0) (m := root) (rs := dirR cnt B) rfl (dir_fit hb)
/-- A bucket more. -/
theorem HSt.add {O : List Nat} {V V' : Nat → Option (List UInt8)} {T : Nat → Bool} {N root cnt n0 : Nat} {B : List (List (Nat × Rs))} (h : HSt O V T N root cnt B) (hn : NewPg O T N root n0 B) (hd : HeapV V' N (dirL root cnt (B ++ [[(n0, [])]]))) (hv : ∀ m, m ≠ root → V' m = vput V n0 (hpage 0 []) m) :
    HSt O V' (tput T n0 true) N root cnt (B ++ [[(n0, [])]]) ∧ npB O (B ++ [[(n0, [])]]) = npB O B + 1 ∧ ∀ j ∈ O, V' j = V j := by
  have hcase : ∀ (j : Nat) (M : List (Nat × Rs)), (B ++ [[(n0, [])]])[j]? = some M → (j < B.length ∧ B[j]? = some M) ∨ (j = B.length ∧ M = [(n0, [])]) := by
    intro j M hM
    by_cases hj : j < B.length
    · rw [List.getElem?_append_left hj] at hM; exact .inl ⟨hj, hM⟩
    · rw [List.getElem?_append_right (by omega)] at hM
      have h0 : j - B.length = 0 := by
        rcases Nat.eq_zero_or_pos (j - B.length) with h0 | h0
        · exact h0
        · rw [List.getElem?_eq_none (by simp; omega)] at hM; cases hM
      rw [h0] at hM
      simp at hM
      exact .inr ⟨by omega, hM.symm⟩
  have hold : ∀ (j : Nat) (M : List (Nat × Rs)), B[j]? = some M → ∀ m ∈ pagesL M, V' m = V m := fun j M hM m hm => by
    rw [hv m (fun e => h.d0 j M hM (e ▸ hm)), vput_ne _ _ _ _ (fun e => hn.2.2.2.2.2 j M hM (by rw [← e]; exact hm))]
  have hnew : HeapV V' N [(n0, [])] := by
    refine ⟨by simp, by simp, fun i m rs hi => ?_⟩
    cases i with
    | zero =>
      simp at hi
      obtain ⟨rfl, rfl⟩ := hi
      refine ⟨?_, HFit.nil, hn.1.1, hn.1.2⟩
      rw [hv _ hn.2.2.2.1, vput_same]; rfl
    | succ i => simp at hi
  refine ⟨⟨hd, ?_, ?_, ?_, ?_, h.o0, h.o1, ?_⟩, ?_, ?_⟩
  · intro j M hM
    rcases hcase j M hM with ⟨_, h1⟩ | ⟨_, rfl⟩
    · exact (h.bks j M h1).other (hold j M h1)
    · exact hnew
  · intro j M hM
    rcases hcase j M hM with ⟨_, h1⟩ | ⟨_, rfl⟩
    · exact h.d0 j M h1
    · simp [pagesL]; exact fun e => hn.2.2.2.1 e.symm
  · intro i j L1 L2 hij h1 h2 m hm
    rcases hcase i L1 h1 with ⟨_, g1⟩ | ⟨hi, rfl⟩ <;> rcases hcase j L2 h2 with ⟨_, g2⟩ | ⟨hj, rfl⟩
    · exact h.dd i j L1 L2 hij g1 g2 m hm
    · simp [pagesL]; rintro rfl; exact hn.2.2.2.2.2 i L1 g1 hm
    · simp [pagesL] at hm; subst hm; exact hn.2.2.2.2.2 j L2 g2
    · omega
  · intro m hm
    rw [tput_true, h.tk m hm]
    constructor
    · rintro ((h1 | h1 | ⟨j, M, hM, h1⟩) | h1)
      · exact .inl h1
      · exact .inr (.inl h1)
      · exact .inr (.inr ⟨j, M, by rw [List.getElem?_append_left (List.getElem?_eq_some_iff.1 hM).1]; exact hM, h1⟩)
      · refine .inr (.inr ⟨B.length, [(n0, [])], by simp, ?_⟩)
        simpa [pagesL] using h1
    · rintro (h1 | h1 | ⟨j, M, hM, h1⟩)
      · exact .inl (.inl h1)
      · exact .inl (.inr (.inl h1))
      · rcases hcase j M hM with ⟨_, h2⟩ | ⟨_, rfl⟩
        · exact .inl (.inr (.inr ⟨j, M, h2, h1⟩))
        · right; simpa [pagesL] using h1
  · intro j M hM m hm
    rcases hcase j M hM with ⟨_, h1⟩ | ⟨_, rfl⟩
    · exact h.o2 j M h1 m hm
    · simp [pagesL] at hm; subst hm; exact hn.2.2.2.2.1
  · unfold npB
    rw [List.map_append, List.sum_append]; simp; omega
  · intro j hj
    rw [hv j (fun e => h.o1 (e ▸ hj)), vput_ne _ _ _ _ (fun e => hn.2.2.2.2.1 (by rw [← e]; exact hj))]
end Go.Proofs.YtnmjkgnahhbnoaaGreat

/- A cut of bytes; what a bucket's split leaves. -/
namespace Go.Proofs.YtnmjkgnahhbnoaaGreat
open Go.RowKit
set_option linter.unusedSimpArgs false

theorem run_sliceFrom (b o n c l : Nat) (k1 : IntKind) (hl : l ≤ n) (hc : n ≤ c) (x : Int) (hx : x = l) : ∃ so, (l < c → so = o + l) ∧ ∀ w, (Instr.slice 23 (.slice (some ⟨b, o, none⟩) n c) (some (.int k1 x)) none none).run Tryz.prog w = .ok (.slice (some ⟨b, so, none⟩) (n - l) (c - l)) w := by
  subst hx
  refine ⟨if c = l then o else o + l, fun hlt => by rw [if_neg (by omega)], fun w => ?_⟩
  have e2 : (0 : Int) ≤ (l : Int) ∧ (l : Int) ≤ n := by omega
  have e3 : (0 : Int) ≤ (l : Int) ∧ (l : Int) ≤ c := by omega
  simp [Instr.slice, Instr.sureAddr, run_underlying Tryz.underlying23, Instr.sliceBounds, Instr.sliceBound, asIntOf, e2, e3, Tryz.sizeOf5, Addr.add_mid]
  split <;> (split <;> rfl)
/-- A cut of a slice of bytes. -/
theorem SlB.cut {w : World} {b o so n c l : Nat} {x : List UInt8} (h : SlB w (.slice (some ⟨b, o, none⟩) n c) b x) (hl : l ≤ n) (hc : n ≤ c) (hso : l < c → so = o + l) : BytesV w (.slice (some ⟨b, so, none⟩) (n - l) (c - l)) (x.drop l) := by
  obtain ⟨_, hn, hby⟩ := h.bytes
  refine .inr ⟨⟨b, so, none⟩, c - l, by rw [List.length_drop, hn], fun j u hj => ?_⟩
  rw [bvals_get, List.getElem?_drop] at hj
  cases hx : x[l + j]? with
  | none => rw [hx] at hj; cases hj
  | some y =>
    rw [hx] at hj
    have hlt : l + j < x.length := (List.getElem?_eq_some_iff.1 hx).1
    rw [Addr.add_mid, hso (by omega), Nat.add_assoc, hby _ y hx]
    simpa using hj
end Go.Proofs.YtnmjkgnahhbnoaaGreat
