/- Part 18 of the walks that the laws of package hash share (HashV). -/
import Derived.Test.YtnmjkgnahhbnoaaGreatM17
set_option linter.unusedVariables false
set_option linter.unusedSimpArgs false
/- What an index has: plain laws. -/
namespace Go.Proofs.YtnmjkgnahhbnoaaGreat
set_option linter.unusedSimpArgs false

/-- What the buckets have. -/
def ContB (n : Nat) (B : List (List (Nat × Rs))) (C : List HE) : Prop := ∀ (k : Nat) (L : List (Nat × Rs)), B[k]? = some L → ((entsL L).map (·.2)).Perm ((C.filter fun e => bucketF e.1 n == k).map entE)
/-- An index at root, with the entries C. -/
structure HashV (O : List Nat) (V : Nat → Option (List UInt8)) (T : Nat → Bool) (N root : Nat) (B : List (List (Nat × Rs))) (C : List HE) : Prop where
  st : HSt O V T N root C.length B
  nb : 1 ≤ B.length ∧ B.length ≤ 40
  ct : ContB B.length B C
  ok : ∀ e ∈ C, okE e
  sm : C.length ≤ 100000
theorem HashV.get {O : List Nat} {V : Nat → Option (List UInt8)} {T : Nat → Bool} {N root : Nat} {B : List (List (Nat × Rs))} {C : List HE} (h : HashV O V T N root B C) (key : List UInt8) : ∃ L, B[bucketF key B.length]? = some L :=
  ⟨_, List.getElem?_eq_getElem (bucketF_lt key h.nb.1)⟩
theorem ContB.mem {n k : Nat} {B : List (List (Nat × Rs))} {C : List HE} {L : List (Nat × Rs)} (h : ContB n B C) (hk : B[k]? = some L) {x : List UInt8} : (∃ e ∈ entsL L, e.2 = x) ↔ ∃ f ∈ C, bucketF f.1 n = k ∧ entE f = x := by
  have hm := (h k L hk).mem_iff (a := x)
  simp only [List.mem_map, List.mem_filter, beq_iff_eq] at hm
  constructor
  · rintro ⟨e, he, rfl⟩
    obtain ⟨f, ⟨h1, h2⟩, h3⟩ := hm.1 ⟨e, he, rfl⟩
    exact ⟨f, h1, h2, h3⟩
  · rintro ⟨f, h1, h2, h3⟩
    obtain ⟨e, he, h4⟩ := hm.2 ⟨f, ⟨h1, h2⟩, h3⟩
    exact ⟨e, he, h4⟩
theorem HashV.recs {O : List Nat} {V : Nat → Option (List UInt8)} {T : Nat → Bool} {N root k : Nat} {B : List (List (Nat × Rs))} {C : List HE} {L : List (Nat × Rs)} (h : HashV O V T N root B C) (hk : B[k]? = some L) : ∀ e ∈ entsL L, 4 ≤ e.2.length ∧ e.2.length ≤ 144 := by
  intro e he
  obtain ⟨f, hf, _, hx⟩ := (h.ct.mem hk).1 ⟨e, he, rfl⟩
  have := (h.ok f hf).1
  rw [← hx]; unfold entE; rw [entB_length]; omega
theorem ffind_none {want : List UInt8} {E : List Ent} (h : ¬ ∃ e ∈ E, e.2 = want) : ffind want E = none := by
  unfold ffind
  rw [List.find?_eq_none.2]
  · rfl
  · intro e he hc
    exact h ⟨e, he, by simpa using hc⟩
theorem ffind_some {want : List UInt8} {E : List Ent} (h : ∃ e ∈ E, e.2 = want) : ∃ e ∈ E, e.2 = want ∧ ffind want E = some e.1 := by
  obtain ⟨e, he, hw⟩ := h
  cases hf : E.find? (fun e => e.2 == want) with
  | none =>
    have := List.find?_eq_none.1 hf e he
    simp [hw] at this
  | some f =>
    exact ⟨f, List.mem_of_find?_eq_some hf, by simpa using List.find?_some hf, by unfold ffind; rw [hf]; rfl⟩
/-- A new entry is not found. -/
theorem HashV.no {O : List Nat} {V : Nat → Option (List UInt8)} {T : Nat → Bool} {N root : Nat} {B : List (List (Nat × Rs))} {C : List HE} {L : List (Nat × Rs)} (h : HashV O V T N root B C) {e : HE} (he : okE e) (hc : e ∉ C) (hk : B[bucketF e.1 B.length]? = some L) : ffind (entE e) (entsL L) = none := by
  refine ffind_none fun hx => ?_
  obtain ⟨f, hf, _, h2⟩ := (h.ct.mem hk).1 hx
  exact hc (entE_inj (h.ok f hf) he h2 ▸ hf)
/-- An entry that is there is found. -/
theorem HashV.yes {O : List Nat} {V : Nat → Option (List UInt8)} {T : Nat → Bool} {N root : Nat} {B : List (List (Nat × Rs))} {C : List HE} {L : List (Nat × Rs)} (h : HashV O V T N root B C) {e : HE} (hc : e ∈ C) (hk : B[bucketF e.1 B.length]? = some L) : ∃ x ∈ entsL L, x.2 = entE e ∧ ffind (entE e) (entsL L) = some x.1 :=
  ffind_some ((h.ct.mem hk).2 ⟨e, hc, rfl, rfl⟩)
/-- An entry more, in its bucket. -/
theorem ContB.ins {n : Nat} {B : List (List (Nat × Rs))} {C : List HE} {L L' : List (Nat × Rs)} (h : ContB n B C) (e : HE) (hk : B[bucketF e.1 n]? = some L) {rid : Nat × Nat} (hp : (entsL L').Perm ((rid, entE e) :: entsL L)) : ContB n (B.set (bucketF e.1 n) L') (e :: C) := by
  intro j M hM
  rcases get_set_cases (List.getElem?_eq_some_iff.1 hk).1 hM with ⟨rfl, rfl⟩ | ⟨hj, hM⟩
  · have h1 := hp.map (·.2)
    rw [List.filter_cons_of_pos (by simp), List.map_cons]
    exact h1.trans ((h _ L hk).cons _)
  · rw [List.filter_cons_of_neg (by simp; exact fun e => hj e.symm)]
    exact h j M hM
/-- An entry out of its bucket. -/
theorem ContB.del {n : Nat} {B : List (List (Nat × Rs))} {C : List HE} {L L' : List (Nat × Rs)} (h : ContB n B C) (e : HE) (he : e ∈ C) (hk : B[bucketF e.1 n]? = some L) {rid : Nat × Nat} (hp : (entsL L).Perm ((rid, entE e) :: entsL L')) : ContB n (B.set (bucketF e.1 n) L') (C.erase e) := by
  have hpc := List.perm_cons_erase he
  intro j M hM
  rcases get_set_cases (List.getElem?_eq_some_iff.1 hk).1 hM with ⟨rfl, rfl⟩ | ⟨hj, hM⟩
  · have h1 := (hp.map (·.2)).symm.trans (h _ L hk)
    have h2 := (hpc.filter (fun f => bucketF f.1 n == bucketF e.1 n)).map entE
    rw [List.filter_cons_of_pos (by simp), List.map_cons] at h2
    exact (h1.trans h2).cons_inv
  · have h2 := (hpc.filter (fun f => bucketF f.1 n == j)).map entE
    rw [List.filter_cons_of_neg (by simp; exact fun e => hj e.symm)] at h2
    exact (h j M hM).trans h2
/-- A bucket more. -/
theorem ContB.split {n : Nat} {B : List (List (Nat × Rs))} {C : List HE} {L Lf Lt : List (Nat × Rs)} (h : ContB n B C) (hn : 1 ≤ n) (hB : B.length = n) (hk : B[n - levelF n]? = some L)
    (hf : (entsL Lf).Perm ((entsL L).filter fun e => !mvE n e)) (ht : ((entsL Lt).map (·.2)).Perm (((entsL L).filter (mvE n)).map (·.2))) : ContB (n + 1) ((B.set (n - levelF n) Lf) ++ [Lt]) C := by
  have hl := levelF_bd hn
  have hmap : ∀ f : List UInt8 → Bool, (((entsL L).filter fun e => f (e.2.drop 4)).map (·.2)).Perm ((C.filter fun e => bucketF e.1 n == (n - levelF n) && f e.1).map entE) := by
    intro f
    have h1 := (h _ L hk).filter (fun x => f (x.drop 4))
    rw [List.filter_map, List.filter_map, List.filter_filter] at h1
    have e1 : ((fun x : List UInt8 => f (x.drop 4)) ∘ fun x : Ent => x.2) = fun e : Ent => f (e.2.drop 4) := rfl
    rw [e1] at h1
    refine h1.trans (List.Perm.of_eq ?_)
    congr 1
    apply List.filter_congr
    intro e _
    show (f ((entE e).drop 4) && _) = _
    rw [entE_drop, Bool.and_comm]
  intro j M hM
  by_cases hj : j < B.length
  · rw [List.getElem?_append_left (by simpa using hj)] at hM
    rcases get_set_cases (List.getElem?_eq_some_iff.1 hk).1 hM with ⟨rfl, rfl⟩ | ⟨hjf, hM⟩
    · have h1 := hf.map (·.2)
      have h2 := hmap (fun k => !(bucketF k (n + 1) == n))
      refine h1.trans (h2.trans (List.Perm.of_eq ?_))
      congr 1
      apply List.filter_congr
      intro e _
      rcases bucketF_succ e.1 hn with ⟨a, c⟩ | ⟨a, c⟩
      · rw [a]; simp; omega
      · rw [c]
        have h3 : (bucketF e.1 n == n) = false := by rw [← c, beq_eq_false_iff_ne]; exact a
        rw [h3]; simp
    · refine (h j M hM).trans (List.Perm.of_eq ?_)
      congr 1
      apply List.filter_congr
      intro e _
      rcases bucketF_succ e.1 hn with ⟨a, c⟩ | ⟨a, c⟩
      · rw [a, c]
        rw [Bool.eq_iff_iff]; simp; omega
      · rw [c]
  · rw [List.getElem?_append_right (by simpa using (by omega : B.length ≤ j))] at hM
    have h0 : j - (B.set (n - levelF n) Lf).length = 0 := by
      rcases Nat.eq_zero_or_pos (j - (B.set (n - levelF n) Lf).length) with h0 | h0
      · exact h0
      · rw [List.getElem?_eq_none (by simp at h0 ⊢; omega)] at hM; cases hM
    rw [h0] at hM
    simp at hM h0
    subst hM
    obtain rfl : j = n := by omega
    have h2 := hmap (fun k => bucketF k (j + 1) == j)
    refine ht.trans (h2.trans (List.Perm.of_eq ?_))
    congr 1
    apply List.filter_congr
    intro e _
    rcases bucketF_succ e.1 hn with ⟨a, c⟩ | ⟨a, c⟩
    · rw [a, c]; simp
    · have h3 : (bucketF e.1 (j + 1) == j) = false := by rw [beq_eq_false_iff_ne]; exact a
      rw [h3]; simp
end Go.Proofs.YtnmjkgnahhbnoaaGreat
