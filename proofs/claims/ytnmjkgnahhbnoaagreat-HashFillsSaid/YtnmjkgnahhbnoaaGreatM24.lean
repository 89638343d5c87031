/- Part 24 of the walks that the laws of package hash share (LawA, LawB, LawC, LawD, LawH). -/
import Derived.Test.YtnmjkgnahhbnoaaGreatM23
import Derived.Test.YtnmjkgnahhbnoaaGreatM10
import Derived.Lib.SlBytesConst
set_option linter.unusedVariables false
set_option linter.unusedSimpArgs false
/- The laws' index: what a growing index keeps. -/
namespace Go.Proofs.YtnmjkgnahhbnoaaGreat
open Go.RowKit
set_option linter.unusedSimpArgs false

/-- A budget of pages after i insertions. -/
def Bud (i : Nat) (B : List (List (Nat × Rs))) (C : List HE) : Prop :=
  1 ≤ B.length ∧ 8 * (B.length - 1) ≤ i ∧ C.length ≤ i ∧ C.length < 8 * B.length ∧ npB [0] B ≤ 3 + i + (B.length - 1) + 4 * (B.length * (B.length - 1))
/-- An index alone in its pool; the blocks K are not its own. -/
def Ix (K : Nat → Prop) (w : World) (b N root : Nat) (C : List HE) (i : Nat) : Prop :=
  ∃ (T : Nat → Bool) (V : Nat → Option (List UInt8)) (F : Nat → Prop) (B : List (List (Nat × Rs))), BatchV w b N T V F ∧ HashV [0] V T N root B C ∧ Bud i B C ∧ (∀ k, F k → ¬ K k) ∧ ∀ k, K k → k < w.heap.size
/-- Room for one more insertion. -/
def Room (N i : Nat) : Prop := ∀ nb, 1 ≤ nb → 8 * (nb - 1) ≤ i → nb ≤ 39 ∧ 3 + i + (nb - 1) + 4 * (nb * (nb - 1)) + 4 + i < N
theorem room_of {N i m : Nat} (hm : i / 8 ≤ m) (h : m ≤ 38 ∧ 3 + i + m + 4 * ((m + 1) * m) + 4 + i < N) : Room N i := by
  intro nb h1 h2
  obtain ⟨k, rfl⟩ : ∃ k, nb = k + 1 := ⟨nb - 1, by omega⟩
  have hk : k ≤ m := by omega
  have := Nat.mul_le_mul (Nat.succ_le_succ hk) hk
  simp only [Nat.add_sub_cancel, Nat.succ_eq_add_one] at *
  omega

theorem Ix.fresh {K : Nat → Prop} {w w1 : World} {b N root i : Nat} {C : List HE} (h : Ix K w b N root C i) (hc : Fresh w w1) : Ix K w1 b N root C i := by
  obtain ⟨T, V, F, B, hb, hh, hu, hk, hl⟩ := h
  exact ⟨T, V, F, B, hb.fresh hc, hh, hu, hk, fun k hk => Nat.lt_of_lt_of_le (hl k hk) hc.size⟩
theorem Ix.bump {K : Nat → Prop} {w : World} {b N root i : Nat} {C : List HE} (h : Ix K w b N root C i) : Ix K w b N root C (i + 1) := by
  obtain ⟨T, V, F, B, hb, hh, ⟨h1, h2, h3, h4, h5⟩, hk, hl⟩ := h
  exact ⟨T, V, F, B, hb, hh, ⟨h1, by omega, by omega, h4, by omega⟩, hk, hl⟩
theorem Fresh.of {w w1 : World} {F : Nat → Prop} (hc : Chg F w w1) (hf : ∀ k, F k → w.heap.size ≤ k) : Fresh w w1 :=
  (Chg.refl (fun _ => False) w).trans hc (fun k hk hF => absurd (hf k hF) (by omega))
theorem Ix.keep {K : Nat → Prop} {w w1 : World} {b N root i kb : Nat} {C : List HE} (h : Ix K w b N root C i) (hc : Fresh w w1) (h1 : w.heap.size ≤ kb) (h2 : kb < w1.heap.size) : Ix (fun k => K k ∨ k = kb) w1 b N root C i := by
  obtain ⟨T, V, F, B, hb, hh, hu, hk, hl⟩ := h
  refine ⟨T, V, F, B, hb.fresh hc, hh, hu, fun k hF hK => ?_, fun k hk => ?_⟩
  · rcases hK with h3 | h3
    · exact hk k hF h3
    · have := hb.lt hF; omega
  · rcases hk with h3 | h3
    · exact Nat.lt_of_lt_of_le (hl k h3) hc.size
    · omega

theorem Ix.step {K : Nat → Prop} {w w1 : World} {b N : Nat} {T2 : Nat → Bool} {V2 : Nat → Option (List UInt8)} {F : Nat → Prop} (hk : ∀ k, F k → ¬ K k) (hl : ∀ k, K k → k < w.heap.size) (h : BatchTo w w1 b N T2 V2 F) :
    ∃ F2, BatchV w1 b N T2 V2 F2 ∧ (∀ k, F2 k → ¬ K k) ∧ (∀ k, K k → k < w1.heap.size) ∧ Chg (fun k => ¬ K k) w w1 := by
  obtain ⟨F2, hb, hs, hc⟩ := h
  refine ⟨F2, hb, fun k hF hK => ?_, fun k hK => Nat.lt_of_lt_of_le (hl k hK) hc.size, (Chg.refl _ w).trans hc (fun k _ hF => hk k hF)⟩
  rcases hs k hF with h1 | h1
  · exact hk k h1 hK
  · have := hl k hK; omega

theorem ix_open {w w1 : World} {b N : Nat} {F : Nat → Prop} {V : Nat → Option (List UInt8)} {e : Ending} {K : Nat → Prop} (hK : ∀ k, F k → ¬ K k) (hl : ∀ k, K k → k < w.heap.size) (h : MkTo w b N [0] F V e w1) :
    ∃ root : Nat, e = .returned (.tuple #[.int .i64 root, .int .i64 0]) ∧ Ix K w1 b N root [] 0 ∧ Chg (fun k => ¬ K k) w w1 := by
  obtain ⟨root, f, T2, V2, rfl, hb, hh, -⟩ := h
  obtain ⟨F2, hb2, hk2, hl2, hc2⟩ := Ix.step hK hl hb
  exact ⟨root, rfl, ⟨T2, V2, F2, _, hb2, hh, ⟨by simp, by simp, by simp, by simp, by simp [npB, pagesL]⟩, hk2, hl2⟩, hc2⟩

theorem ix_insert {K : Nat → Prop} {w : World} {b N root i p s : Nat} {C : List HE} {vk : Value} {key : List UInt8} (h : Ix K w b N root C i) (hk : BytesV w vk key) (hkl : key.length ≤ 140) (hps : p < 65536 ∧ s < 65536)
    (hC : (key, (p, s)) ∉ C) (hroom : Room N i) :
    Calls Tryz.prog 16 #[.pointer (some ⟨b, 0, none⟩), .int .i64 root, vk, .agg #[.int .i64 p, .int .i64 s]] w fun e w' => e = .returned (.int .i64 0) ∧ Ix K w' b N root ((key, (p, s)) :: C) (i + 1) ∧ Chg (fun k => ¬ K k) w w' := by
  obtain ⟨T, V, F, B, hb, hh, ⟨h1, h2, h3, h4, h5⟩, hK, hl⟩ := h
  obtain ⟨r1, r2⟩ := hroom B.length h1 h2
  refine (hhinsert_any w hb hh hk hkl hps hC r1 (by omega)).mono ?_
  rintro e w' ⟨rfl, T2, V2, B2, hb2, hh2, -, hor⟩
  obtain ⟨F2, hb3, hk3, hl3, hc3⟩ := Ix.step hK hl hb2
  refine ⟨rfl, ⟨T2, V2, F2, B2, hb3, hh2, ?_, hk3, hl3⟩, hc3⟩
  rw [List.length_cons] at hor
  rcases hor with ⟨g1, g2, g3⟩ | ⟨g1, g2, g3⟩
  · exact ⟨by omega, by omega, by simp; omega, by simp; omega, by rw [g2]; omega⟩
  · refine ⟨by omega, by omega, by simp; omega, by simp; omega, ?_⟩
    rw [g2]
    generalize B.length = n at *
    obtain ⟨k, rfl⟩ : ∃ k, n = k + 1 := ⟨n - 1, by omega⟩
    simp only [Nat.add_sub_cancel] at *
    have e1 : (k + 1 + 1) * (k + 1) = (k + 1) * k + 2 * (k + 1) := by rw [Nat.add_mul, Nat.mul_comm (k + 1) k, Nat.mul_comm k (k + 1), ← Nat.add_mul, Nat.mul_comm]; simp [Nat.add_mul, Nat.mul_add]; omega
    omega

theorem ix_dup {K : Nat → Prop} {w : World} {b N root i p s : Nat} {C : List HE} {vk : Value} {key : List UInt8} (h : Ix K w b N root C i) (hk : BytesV w vk key) (hkl : key.length ≤ 140) (hps : p < 65536 ∧ s < 65536)
    (hC : (key, (p, s)) ∈ C) :
    Calls Tryz.prog 16 #[.pointer (some ⟨b, 0, none⟩), .int .i64 root, vk, .agg #[.int .i64 p, .int .i64 s]] w (Ans w 1) := by
  obtain ⟨T, V, F, B, hb, hh, -, -, -⟩ := h
  exact hhinsert_dup w hb hh hk hkl hps hC

theorem ix_find {K : Nat → Prop} {w : World} {b N root i : Nat} {C : List HE} {vk : Value} {key : List UInt8} (h : Ix K w b N root C i) (hk : BytesV w vk key) (hkl : key.length ≤ 4611686018427387904) :
    Calls Tryz.prog 9 #[.pointer (some ⟨b, 0, none⟩), .int .i64 root, vk] w (FindTo w (findF C key)) := by
  obtain ⟨T, V, F, B, hb, hh, -, -, -⟩ := h
  exact hhfind_any w hb hh hk hkl

theorem ix_delete {K : Nat → Prop} {w : World} {b N root i p s : Nat} {C : List HE} {vk : Value} {key : List UInt8} (h : Ix K w b N root C i) (hk : BytesV w vk key) (hkl : key.length ≤ 140) (hps : p < 65536 ∧ s < 65536)
    (hC : (key, (p, s)) ∈ C) :
    Calls Tryz.prog 17 #[.pointer (some ⟨b, 0, none⟩), .int .i64 root, vk, .agg #[.int .i64 p, .int .i64 s]] w fun e w' => e = .returned (.int .i64 0) ∧ Ix K w' b N root (C.erase (key, (p, s))) i ∧ Chg (fun k => ¬ K k) w w' := by
  obtain ⟨T, V, F, B, hb, hh, ⟨h1, h2, h3, h4, h5⟩, hK, hl⟩ := h
  refine (hhdelete_any w hb hh hk hkl hps hC).mono ?_
  rintro e w' ⟨rfl, V2, B2, hb2, hh2, -, e1, e2⟩
  obtain ⟨F2, hb3, hk3, hl3, hc3⟩ := Ix.step hK hl hb2
  have hle := List.length_erase_of_mem hC
  exact ⟨rfl, ⟨T, V2, F2, B2, hb3, hh2, ⟨by omega, by omega, by omega, by omega, by rw [e1, e2]; exact h5⟩, hk3, hl3⟩, hc3⟩

theorem ix_nodelete {K : Nat → Prop} {w : World} {b N root i p s : Nat} {C : List HE} {vk : Value} {key : List UInt8} (h : Ix K w b N root C i) (hk : BytesV w vk key) (hkl : key.length ≤ 140) (hps : p < 65536 ∧ s < 65536)
    (hC : (key, (p, s)) ∉ C) :
    Calls Tryz.prog 17 #[.pointer (some ⟨b, 0, none⟩), .int .i64 root, vk, .agg #[.int .i64 p, .int .i64 s]] w (Ans w 1) := by
  obtain ⟨T, V, F, B, hb, hh, -, -, -⟩ := h
  exact hhdelete_no w hb hh hk hkl hps hC

theorem ix_buckets {K : Nat → Prop} {w : World} {b N root i : Nat} {C : List HE} (h : Ix K w b N root C i) :
    Calls Tryz.prog 11 #[.pointer (some ⟨b, 0, none⟩), .int .i64 root] w fun e w' => ∃ n : Nat, 1 ≤ n ∧ n ≤ 40 ∧ e = .returned (.tuple #[.int .i64 n, .int .i64 0]) ∧ Fresh w w' := by
  obtain ⟨T, V, F, B, hb, hh, -, -, -⟩ := h
  refine (hhbuckets_any w hb hh).mono ?_
  rintro e w' ⟨rfl, hf⟩
  exact ⟨B.length, hh.nb.1, hh.nb.2, rfl, hf⟩

theorem ix_free {K : Nat → Prop} {w : World} {b N root i : Nat} {C : List HE} (h : Ix K w b N root C i) :
    Calls Tryz.prog 18 #[.pointer (some ⟨b, 0, none⟩), .int .i64 root] w fun e w' => e = .returned (.int .i64 0) ∧ (∃ T2 V F2, BatchV w' b N T2 V F2 ∧ (∀ m, m < N → (T2 m = true ↔ m = 0)) ∧ (∀ k, F2 k → ¬ K k) ∧ ∀ k, K k → k < w'.heap.size) ∧ Chg (fun k => ¬ K k) w w' := by
  obtain ⟨T, V, F, B, hb, hh, -, hK, hl⟩ := h
  refine (hhfree_any w hb hh).mono ?_
  rintro e w' ⟨rfl, T2, hb2, ht⟩
  obtain ⟨F2, hb3, hk3, hl3, hc3⟩ := Ix.step hK hl hb2
  exact ⟨rfl, ⟨T2, V, F2, hb3, fun m hm => by rw [ht m hm]; simp, hk3, hl3⟩, hc3⟩

/-- A slice of one byte in a new block. -/
theorem bytesV_blk {w : World} {b : Nat} {l : List UInt8} (h : Blk w b 5 (bvals l)) : BytesV w (.slice (some ⟨b, 0, none⟩) l.length l.length) l :=
  .inr ⟨_, _, rfl, fun j u hj => by
    have := h.cell j
    rw [hj] at this
    rw [← this]
    unfold Addr.add
    by_cases e : j = 0 <;> simp [e]⟩

/-- A new index in a new pool. -/
theorem ix_make {w0 w3 w4 : World} {b p l d mN mK mH size most N : Nat} (hp : PoolF w3 p l d mN mK mH size most) (hb : BatchAt w4 b p none 0 []) (hf : Fresh w3 w4) (h0 : Fresh w0 w4) (hs : 16 ≤ size ∧ size ≤ 25600 ∧ 1 ≤ most) (hN : N = size / 8 ∧ 4 < N)
    (hK : w0.heap.size ≤ b ∧ w0.heap.size ≤ p ∧ w0.heap.size ≤ d ∧ w0.heap.size ≤ mN ∧ w0.heap.size ≤ mK ∧ w0.heap.size ≤ mH) :
    Calls Tryz.prog 15 #[.pointer (some ⟨b, 0, none⟩)] w4 fun e w5 => ∃ root : Nat, e = .returned (.tuple #[.int .i64 root, .int .i64 0]) ∧ Ix (fun k => k < w0.heap.size) w5 b N root [] 0 ∧ Fresh w0 w5 := by
  have hbv := bv_new (hp.fresh hf) hb hs.1 hs.2.1 hs.2.2
  rw [← hN.1] at hbv
  refine (hhmake_any (O := [0]) w4 hbv (fun m _ => by simp) (by simp) (by simp; omega)).mono ?_
  intro e w5 hm
  obtain ⟨root, he, hi, hc⟩ := ix_open (K := fun k => k < w0.heap.size) (fun k hk => by omega) (fun k hk => Nat.lt_of_lt_of_le hk h0.size) hm
  exact ⟨root, he, hi, h0.trans hc (fun k hk hF => absurd hk hF)⟩
/-- A change behind what was there. -/
theorem Chg.keepF {w0 w w1 : World} (h : Fresh w0 w) (hc : Chg (fun k => ¬ k < w0.heap.size) w w1) : Fresh w0 w1 := h.trans hc (fun _ hk hF => absurd hk hF)
/-- A new row of bytes, marked or not. -/
theorem bytesV_new (w : World) (l : List UInt8) (fz : Nat × Nat) (C : Array Value) (n : Nat) (hC : C = (bvals l).toArray) (hn : n = l.length) : BytesV (w.alloc (.cells C 5 fz)) (.slice (some ⟨w.heap.size, 0, none⟩) n n) l :=
  .inr ⟨⟨w.heap.size, 0, none⟩, l.length, by rw [hn], fun j u hj => by
    have h1 : (w.alloc (.cells C 5 fz)).heap[w.heap.size]? = some (.cells C 5 fz) := by
      show (w.heap.push _)[w.heap.size]? = _
      simp
    have h2 : (w.alloc (.cells C 5 fz)).cell? ⟨w.heap.size, j, none⟩ = some u := by
      unfold World.cell?
      rw [h1]
      simp only [hC]
      simpa using hj
    rw [← h2]
    unfold Addr.add
    by_cases e : j = 0 <;> simp [e]⟩
theorem convSame (w : World) (C : Array Value) (n c : Nat) : (convert 23 23 (.slice (some ⟨w.heap.size, 0, none⟩) n c)).run Tryz.prog (w.alloc (.cells C 5)) = .ok (.slice (some ⟨w.heap.size, 0, none⟩) n c) (w.alloc (.cells C 5 (C.size, C.size + 1))) :=
  Lib.run_convert_bytes_const (P := Tryz.prog) w 23 5 C n c Tryz.underlying23 Tryz.underlying5
/-- A slice of places, as it is read. -/
def RidsW (w : World) (sv : Value) (l : List (Nat × Nat)) : Prop :=
  ∃ a c, sv = .slice a l.length c ∧ ∀ (i : Nat) (x : Nat × Nat), l[i]? = some x → ∃ g, a = some ⟨g, 0, none⟩ ∧ w.rangeAt g (i * 2) [.int .i64 (x.1 : Nat), .int .i64 (x.2 : Nat)]
theorem ridCells_two : ∀ (l : List (Nat × Nat)) (i : Nat) (x : Nat × Nat), l[i]? = some x → (ridCells l)[i * 2]? = some (.int .i64 (x.1 : Nat)) ∧ (ridCells l)[i * 2 + 1]? = some (.int .i64 (x.2 : Nat))
  | [], i, x, h => by simp at h
  | y :: l, 0, x, h => by simp at h; subst h; simp [ridCells, encR]
  | y :: l, i + 1, x, h => by
    have := ridCells_two l i x (by simpa using h)
    have e1 : (i + 1) * 2 = i * 2 + 2 := by omega
    rw [e1]
    simpa [ridCells, encR] using this
theorem RidsS.read {w : World} {base : Nat} {sv : Value} {l : List (Nat × Nat)} (h : RidsS w base sv l) : RidsW w sv l := by
  obtain ⟨hl, ⟨rfl, h0⟩ | ⟨g, cap, cur, rfl, hb, hg, hc1, hc2, hc3, hc4⟩⟩ := h
  · have : l = [] := List.eq_nil_of_length_eq_zero h0
    subst this
    exact ⟨none, 0, rfl, fun i x hx => by simp at hx⟩
  · refine ⟨_, _, rfl, fun i x hx => ⟨g, rfl, ?_⟩⟩
    obtain ⟨h1, h2⟩ := ridCells_two l i x hx
    rw [← hc4] at h1 h2
    have k1 : cur.toList[i * 2]? = some (.int .i64 (x.1 : Nat)) := by
      rw [List.getElem?_take] at h1
      split at h1
      · exact h1
      · cases h1
    have k2 : cur.toList[i * 2 + 1]? = some (.int .i64 (x.2 : Nat)) := by
      rw [List.getElem?_take] at h2
      split at h2
      · exact h2
      · cases h2
    intro j v hj
    have hc : ∀ k u, cur.toList[k]? = some u → w.cell? ⟨g, k, none⟩ = some u := fun k u hk => by
      unfold World.cell?
      rw [hg]
      simpa using hk
    match j, hj with
    | 0, hj => simp at hj; subst hj; exact hc _ _ k1
    | 1, hj => simp at hj; subst hj; exact hc _ _ k2
    | j + 2, hj => simp at hj
theorem sortR_sorted {l : List (Nat × Nat)} (h : l.Pairwise fun x y => (!(ltOf cmpR) y x) = true) : sortR l = l := List.mergeSort_of_pairwise h
end Go.Proofs.YtnmjkgnahhbnoaaGreat

/- The laws: awake. -/
namespace Go.Proofs.YtnmjkgnahhbnoaaGreat
open Go.RowKit
set_option linter.unusedSimpArgs false

set_option maxRecDepth 100000 in
set_option maxHeartbeats 4000000 in
theorem awake_any (w : World) :
    Calls Tryz.prog 7 #[] w fun e w' => e = .returned (.bool true) ∧ Fresh w w' := by
  have kc := @convSame
  go_enter Tryz.func7, Tryz.ntmps7
  go_wp2_with fail
  refine (diskNew_any 800 _ (by decide)).mono ?_
  rintro e w1 ⟨d, mN, mK, rfl, hd, s1, s2, s3, f1⟩
  go_wp2_with fail
  refine (diskNew_any 4000 _ (by decide)).mono ?_
  rintro e w2 ⟨d2, mN2, mK2, rfl, hd2, s4, s5, s6, f2⟩
  go_wp2_with fail
  refine (poolOpen_any d mN mK d2 mN2 mK2 800 4000 4 _ (hd.fresh f2) hd2 (by decide) (by decide) (by decide)).mono ?_
  rintro e w3 ⟨p, l, mH, rfl, hp, f3, s7, s8⟩
  go_wp2_with fail
  refine (poolBatch_any p _).mono ?_
  rintro e w4 ⟨b, rfl, hb, f4, s9⟩
  have z1 := f1.size
  have z2 := f2.size
  have z3 := f3.size
  have hmk := ix_make (N := 100) (w0 := w) hp hb f4 (((f1.trans f2 (fun _ _ h => h)).trans f3 (fun _ _ h => h)).trans f4 (fun _ _ h => h)) (by decide) (by decide) ⟨by omega, by omega, by omega, by omega, by omega, by omega⟩
  have HMK := Lib.hid hmk
  clear hmk hd hd2 hp hb f1 f2 f3 f4 s1 s2 s3 s4 s5 s6 s7 s8 s9 z1 z2 z3
  go_wp2_with fail
  refine HMK.out.mono ?_
  rintro e w5 ⟨root, rfl, hi, f5⟩
  have HI5 := Lib.hid hi
  have HF5 := Lib.hid f5
  clear HMK hi f5
  go_wp2_with fail
  have hk1 := bytesV_new w5 [97] (1, 2) #[.int .u8 97] 1 rfl rfl
  have hf1 : Fresh w5 (w5.alloc (.cells #[.int .u8 97] 5 (1, 2))) := (Chg.refl _ _).alloc _
  refine (ix_insert (HI5.out.fresh hf1) hk1 (by decide) (by decide) List.not_mem_nil (room_of (m := 0) (by decide) (by decide))).mono ?_
  rintro e w6 ⟨rfl, hi6, hc6⟩
  have HI6 := Lib.hid hi6
  have HF6 := Lib.hid ((HF5.out.trans hf1 (fun _ _ h => h)).keepF hc6)
  clear hk1 hf1 hi6 hc6 HI5 HF5
  go_wp2_with fail
  have hk1 := bytesV_new w6 [97] (1, 2) #[.int .u8 97] 1 rfl rfl
  have hf1 : Fresh w6 (w6.alloc (.cells #[.int .u8 97] 5 (1, 2))) := (Chg.refl _ _).alloc _
  refine (ix_insert (HI6.out.fresh hf1) hk1 (by decide) (by decide) (by simp) (room_of (m := 0) (by decide) (by decide))).mono ?_
  rintro e w7 ⟨rfl, hi7, hc7⟩
  have HI7 := Lib.hid hi7
  have HF7 := Lib.hid ((HF6.out.trans hf1 (fun _ _ h => h)).keepF hc7)
  clear hk1 hf1 hi7 hc7 HI6 HF6
  go_wp2_with fail
  have hk1 := bytesV_new w7 [97] (1, 2) #[.int .u8 97] 1 rfl rfl
  have hf1 : Fresh w7 (w7.alloc (.cells #[.int .u8 97] 5 (1, 2))) := (Chg.refl _ _).alloc _
  refine (ix_find (HI7.out.fresh hf1) hk1 (by decide)).mono ?_
  rintro e w8 ⟨sv, rfl, hs8, hf8⟩
  have hfd : findF [([97], (1, 5)), ([97], (2, 1))] [97] = [(1, 5), (2, 1)] := by
    refine sortR_sorted ?_
    simp [cmpR_lt]
  rw [hfd] at hs8
  obtain ⟨a, c, rfl, hr⟩ := hs8.read
  obtain ⟨g, rfl, hr8⟩ := hr 0 _ rfl
  have c1 : w8.cell? ⟨g, 1, none⟩ = some (.int .i64 5) := hr8 1 _ rfl
  have HI8 := Lib.hid ((HI7.out.fresh hf1).fresh hf8)
  have HF8 := Lib.hid ((HF7.out.trans hf1 (fun _ _ h => h)).trans hf8 (fun _ _ h => h))
  clear hk1 hf1 hs8 hf8 HI7 HF7 hr8 hfd
  go_wp2_with fail
  have hk1 := bytesV_new w8 [97] (1, 2) #[.int .u8 97] 1 rfl rfl
  have hf1 : Fresh w8 (w8.alloc (.cells #[.int .u8 97] 5 (1, 2))) := (Chg.refl _ _).alloc _
  refine (ix_dup (HI8.out.fresh hf1) hk1 (by decide) (by decide) (by simp)).mono ?_
  rintro e w9 ⟨rfl, hf9⟩
  have HF9 := Lib.hid ((HF8.out.trans hf1 (fun _ _ h => h)).trans hf9 (fun _ _ h => h))
  go_wp2
  go_ret
  exact ⟨rfl, HF9.out⟩
end Go.Proofs.YtnmjkgnahhbnoaaGreat

/- The laws: index. -/
namespace Go.Proofs.YtnmjkgnahhbnoaaGreat
open Go.RowKit
set_option linter.unusedSimpArgs false

/-- A slice of keys. -/
def KeysV (w : World) (v : Value) (Ks : List (List UInt8)) : Prop :=
  ∃ a c, v = .slice a Ks.length c ∧ ∀ (i : Nat) (key : List UInt8), Ks[i]? = some key → ∃ ad vk, a = some ad ∧ w.cell? (ad.add i) = some vk ∧ BytesV w vk key
theorem KeysV.fresh {w w1 : World} {v : Value} {Ks : List (List UInt8)} (h : KeysV w v Ks) (hc : Fresh w w1) : KeysV w1 v Ks := by
  obtain ⟨a, c, hv, hk⟩ := h
  refine ⟨a, c, hv, fun i key hi => ?_⟩
  obtain ⟨ad, vk, h1, h2, h3⟩ := hk i key hi
  exact ⟨ad, vk, h1, hc.cell h2 id, h3.fresh hc⟩
theorem KeysV.nil (w : World) : KeysV w (.slice none 0 0) [] := ⟨none, 0, rfl, fun i key hi => by simp at hi⟩

/-- A key's entry. -/
def entK (Ks : List (List UInt8)) (k : Nat) : Option HE := Ks[k]?.bind fun key => if key.length ≤ 140 then some (key, (3, k)) else none
/-- The place that comes in round i. -/
def posK (t : Bool) (n i : Nat) : Nat := if t then n - 1 - i else i
/-- The entries after i rounds. -/
def idxC (Ks : List (List UInt8)) (t : Bool) (n i : Nat) : List HE := ((List.range i).filterMap fun j => entK Ks (posK t n j)).reverse
theorem idxC_zero (Ks : List (List UInt8)) (t : Bool) (n : Nat) : idxC Ks t n 0 = [] := rfl
theorem idxC_some {Ks : List (List UInt8)} {t : Bool} {n i : Nat} {e : HE} (h : entK Ks (posK t n i) = some e) : idxC Ks t n (i + 1) = e :: idxC Ks t n i := by
  unfold idxC; rw [List.range_succ, List.filterMap_append, List.reverse_append]; simp [h]
theorem idxC_none {Ks : List (List UInt8)} {t : Bool} {n i : Nat} (h : entK Ks (posK t n i) = none) : idxC Ks t n (i + 1) = idxC Ks t n i := by
  unfold idxC; rw [List.range_succ, List.filterMap_append, List.reverse_append]; simp [h]
theorem entK_pos {Ks : List (List UInt8)} {k : Nat} {e : HE} (h : entK Ks k = some e) : e.2 = (3, k) := by
  unfold entK at h
  cases hk : Ks[k]? with
  | none => rw [hk] at h; cases h
  | some key =>
    rw [hk] at h
    simp only [Option.bind_some] at h
    split at h
    · cases h; rfl
    · cases h
theorem idxC_new {Ks : List (List UInt8)} {t : Bool} {n i : Nat} {key : List UInt8} (hi : i < n) : (key, ((3 : Nat), posK t n i)) ∉ idxC Ks t n i := by
  intro h
  unfold idxC at h
  rw [List.mem_reverse, List.mem_filterMap] at h
  obtain ⟨j, hj, he⟩ := h
  have := entK_pos he
  have hj := List.mem_range.1 hj
  simp only [Prod.mk.injEq, true_and] at this
  unfold posK at this
  cases t <;> simp at this <;> omega
theorem idxC_perm (Ks : List (List UInt8)) (n : Nat) : (idxC Ks true n n).Perm (idxC Ks false n n) := by
  unfold idxC
  refine (List.reverse_perm _).trans (List.Perm.trans ?_ (List.reverse_perm _).symm)
  have h1 : ∀ t, ((List.range n).filterMap fun j => entK Ks (posK t n j)) = ((List.range n).map (posK t n)).filterMap (entK Ks) := fun t => by rw [List.filterMap_map]; rfl
  rw [h1, h1]
  refine List.Perm.filterMap _ ?_
  have h2 : (List.range n).map (posK false n) = List.range n := by
    conv => rhs; rw [← List.map_id (List.range n)]
    rfl
  have h3 : (List.range n).map (posK true n) = (List.range n).reverse := by
    refine List.ext_getElem (by simp) fun i h1 h2 => ?_
    simp [posK]
  rw [h2, h3]
  exact List.reverse_perm _

/-- One round: an entry more, or a key too long. -/
theorem ix_round {K : Nat → Prop} {wr : World} {b root n i k : Nat} {Ks : List (List UInt8)} {t : Bool} {vk : Value} {key : List UInt8} (h : Ix K wr b 600 root (idxC Ks t n i) i) (hi : i < n ∧ n ≤ 60) (hk : posK t n i = k ∧ k < n)
    (he : entK Ks k = if key.length ≤ 140 then some (key, (3, k)) else none) (hb : BytesV wr vk key) (hn : (key, ((3 : Nat), k)) ∉ idxC Ks t n i) :
    Calls Tryz.prog 16 #[.pointer (some ⟨b, 0, none⟩), .int .i64 root, vk, .agg #[.int .i64 3, .int .i64 k]] wr fun e w' => ∃ r : Int, e = .returned (.int .i64 r) ∧ Ix K w' b 600 root (idxC Ks t n (i + 1)) (i + 1) ∧ Chg (fun k => ¬ K k) wr w' := by
  rw [← hk.1] at he
  by_cases hl : key.length ≤ 140
  · rw [if_pos hl] at he
    refine (ix_insert h hb hl ⟨by decide, by omega⟩ hn (room_of (m := 7) (by omega) (by omega))).mono ?_
    rintro e w' ⟨rfl, h1, h2⟩
    rw [idxC_some he, hk.1]
    exact ⟨0, rfl, h1, h2⟩
  · rw [if_neg hl] at he
    rw [idxC_none he]
    obtain ⟨a, c, rfl⟩ := hb.slice
    refine (hhinsert_long b _ a key.length c 3 k wr (by omega)).mono ?_
    rintro e w' ⟨rfl, h1⟩
    exact ⟨4, rfl, (h.fresh h1).bump, (Chg.refl _ wr).trans h1 (fun _ _ f => f.elim)⟩

set_option maxRecDepth 100000 in
set_option maxHeartbeats 4000000 in
theorem index_any (kv : Value) (Ks : List (List UInt8)) (t : Bool) (w : World) (h : KeysV w kv Ks) :
    Calls Tryz.prog 8 #[kv, .bool t] w fun e w' => ∃ b root : Nat, e = .returned (.tuple #[.pointer (some ⟨b, 0, none⟩), .int .i64 root]) ∧ Ix (fun k => k < w.heap.size) w' b 600 root (idxC Ks t (min Ks.length 60) (min Ks.length 60)) (min Ks.length 60) ∧ Fresh w w' := by
  have HK := Lib.hid h
  obtain ⟨a, c, rfl, -⟩ := h
  obtain ⟨n, hn⟩ : ∃ n, n = min Ks.length 60 := ⟨_, rfl⟩
  have hn60 : n ≤ 60 ∧ n ≤ Ks.length := by omega
  have HN : Hid (min (Ks.length : Int) 60 = n) := by show min (Ks.length : Int) 60 = n; omega
  rw [← hn]
  clear hn
  go_enter Tryz.func8, Tryz.ntmps8
  go_wp2_with fail
  refine (diskNew_any 4800 _ (by decide)).mono ?_
  rintro e w1 ⟨d, mN, mK, rfl, hd, s1, s2, s3, f1⟩
  go_wp2_with fail
  refine (diskNew_any 30000 _ (by decide)).mono ?_
  rintro e w2 ⟨d2, mN2, mK2, rfl, hd2, s4, s5, s6, f2⟩
  go_wp2_with fail
  refine (poolOpen_any d mN mK d2 mN2 mK2 4800 30000 6 _ (hd.fresh f2) hd2 (by decide) (by decide) (by decide)).mono ?_
  rintro e w3 ⟨p, l, mH, rfl, hp, f3, s7, s8⟩
  go_wp2_with fail
  refine (poolBatch_any p _).mono ?_
  rintro e w4 ⟨b, rfl, hb, f4, s9⟩
  have z1 := f1.size
  have z2 := f2.size
  have z3 := f3.size
  have hmk := ix_make (N := 600) (w0 := w) hp hb f4 (((f1.trans f2 (fun _ _ h => h)).trans f3 (fun _ _ h => h)).trans f4 (fun _ _ h => h)) (by decide) (by decide) ⟨by omega, by omega, by omega, by omega, by omega, by omega⟩
  have HMK := Lib.hid hmk
  clear hmk hd hd2 hp hb f1 f2 f3 f4 s1 s2 s3 s4 s5 s6 s7 s8 s9 z1 z2 z3
  go_wp2_with fail
  refine HMK.out.mono ?_
  rintro e w5 ⟨root, rfl, hi, f5⟩
  have HI5 := Lib.hid hi
  have HF5 := Lib.hid f5
  clear HMK hi f5
  go_wp2_with fail
  rw [HN.out]
  go_loopw [12, 13] (fun v12 _ wr => ∃ i : Nat, i ≤ n ∧ v12 = .int .i64 i ∧ Hid (Ix (fun k => k < w.heap.size) wr b 600 root (idxC Ks t n i) i ∧ Fresh w wr)) (fun i _ _ => 60 - (intOf i).toNat)
  case atStart => exact ⟨0, by omega, rfl, HI5.out, HF5.out⟩
  case round =>
    obtain ⟨i, hi, rfl, HR⟩ := hrel
    clear HI5 HF5
    by_cases hlt : i < n
    · have hpk : posK t n i < Ks.length ∧ posK t n i < n := by unfold posK; cases t <;> simp <;> omega
      obtain ⟨a', c', he', hkey⟩ := HK.out.fresh HR.out.2
      obtain ⟨ad, vk, rfl, hcell, hbv⟩ := hkey _ _ (List.getElem?_eq_getElem hpk.1)
      cases he'
      have hent : entK Ks (posK t n i) = if (Ks[posK t n i]'hpk.1).length ≤ 140 then some (Ks[posK t n i]'hpk.1, (3, posK t n i)) else none := by
        unfold entK
        rw [List.getElem?_eq_getElem hpk.1]
        rfl
      have hnew := idxC_new (Ks := Ks) (t := t) (key := Ks[posK t n i]'hpk.1) hlt
      generalize (Ks[posK t n i]'hpk.1) = key at *
      have HE := Lib.hid hent
      have HBV := Lib.hid hbv
      have HNEW := Lib.hid hnew
      clear hent hbv hnew hkey
      cases t
      · have hps : posK false n i = i := rfl
        rw [hps] at hcell hpk HE HNEW
        go_wp2_with fail
        refine (ix_round HR.out.1 ⟨hlt, hn60.1⟩ ⟨hps, hpk.2⟩ HE.out HBV.out HNEW.out).mono ?_
        rintro e w6 ⟨r, rfl, h6, hc6⟩
        have HR6 : Hid (Ix (fun k => k < w.heap.size) w6 b 600 root (idxC Ks false n (i + 1)) (i + 1) ∧ Fresh w w6) := ⟨h6, HR.out.2.keepF hc6⟩
        clear h6 hc6 HR
        go_wp2
        go_roundw
        case rel => exact ⟨i + 1, by omega, by go_num, HR6.out⟩
        case measure => simp [intOf]; omega
      · obtain ⟨k, hps⟩ : ∃ k, posK true n i = k := ⟨_, rfl⟩
        have hke : ((n : Int) - 1 - i) = (k : Int) := by
          unfold posK at hps
          simp at hps
          omega
        rw [hps] at hcell hpk HE HNEW
        have hin : (n : Int) - 1 - i < Ks.length ∧ 0 ≤ (n : Int) - 1 - i := by omega
        have hcell2 : wr.cell? (ad.add ((n : Int) - 1 - i).toNat) = some vk := by rw [hke]; exact hcell
        go_wp2_with fail
        refine (ix_round HR.out.1 ⟨hlt, hn60.1⟩ ⟨hps, hpk.2⟩ HE.out HBV.out HNEW.out).mono ?_
        rintro e w6 ⟨r, rfl, h6, hc6⟩
        have HR6 : Hid (Ix (fun k => k < w.heap.size) w6 b 600 root (idxC Ks true n (i + 1)) (i + 1) ∧ Fresh w w6) := ⟨h6, HR.out.2.keepF hc6⟩
        clear h6 hc6 HR
        go_wp2
        go_roundw
        case rel => exact ⟨i + 1, by omega, by go_num, HR6.out⟩
        case measure => simp [intOf]; omega
    · obtain rfl : i = n := by omega
      go_wp2
      go_ret2
      exact ⟨b, root, rfl, HR.out.1, HR.out.2⟩
end Go.Proofs.YtnmjkgnahhbnoaaGreat

/- The laws: nil; HashLimits. -/
namespace Go.Proofs.YtnmjkgnahhbnoaaGreat
open Go.RowKit
set_option linter.unusedSimpArgs false

set_option maxRecDepth 100000 in
set_option maxHeartbeats 1000000 in
theorem hhfree_nil (x : Value) (w : World) :
    Calls Tryz.prog 18 #[.pointer none, x] w (Ans w 2) := by
  go_enter Tryz.func18, Tryz.ntmps18
  go_wp2
  go_ret
  exact ⟨rfl, Chg.refl _ _⟩

set_option maxRecDepth 100000 in
set_option maxHeartbeats 1000000 in
theorem hmake_nil (w : World) :
    Calls Tryz.prog 39 #[.pointer none] w fun e w' => e = .returned (.tuple #[.int .i64 0, .int .i64 2]) ∧ Fresh w w' := by
  go_enter Tryz.func39, Tryz.ntmps39
  go_wp2
  go_ret2
  exact ⟨rfl, Chg.refl _ _⟩

set_option maxRecDepth 100000 in
set_option maxHeartbeats 1000000 in
theorem hhmake_nil (w : World) :
    Calls Tryz.prog 15 #[.pointer none] w fun e w' => e = .returned (.tuple #[.int .i64 0, .int .i64 2]) ∧ Fresh w w' := by
  go_enter Tryz.func15, Tryz.ntmps15
  go_wp2_with fail
  refine (hmake_nil w).mono ?_
  rintro e w1 ⟨rfl, f1⟩
  go_wp2
  go_ret2
  exact ⟨rfl, f1⟩
end Go.Proofs.YtnmjkgnahhbnoaaGreat

/- The laws: what HashFills puts in and takes out, plain. -/
namespace Go.Proofs.YtnmjkgnahhbnoaaGreat
set_option linter.unusedSimpArgs false

/-- The key of number j. -/
def fkey (j : Nat) : List UInt8 := [107, UInt8.ofNat j]
/-- The entry of number j. -/
def fent (j : Nat) : HE := (fkey j, (j, 2 * j))
/-- The entries of the numbers below n that p keeps. -/
def fillC (p : Nat → Bool) (n : Nat) : List HE := (((List.range n).filter p).map fent).reverse
theorem fkey_inj {i j : Nat} (hi : i < 256) (hj : j < 256) (h : fkey i = fkey j) : i = j := by
  unfold fkey at h
  simp only [List.cons.injEq, true_and, and_true] at h
  have := congrArg UInt8.toNat h
  simp at this
  omega
theorem fkey_beq {i j : Nat} (hi : i < 256) (hj : j < 256) : (fkey i == fkey j) = (i == j) := by
  by_cases h : i = j
  · subst h; simp
  · have h2 : fkey i ≠ fkey j := fun e => h (fkey_inj hi hj e)
    rw [beq_eq_false_iff_ne.2 h2, beq_eq_false_iff_ne.2 h]
theorem fillC_zero (p : Nat → Bool) : fillC p 0 = [] := rfl
theorem fillC_succ (n : Nat) : fillC (fun _ => true) (n + 1) = fent n :: fillC (fun _ => true) n := by
  unfold fillC
  rw [List.range_succ, List.filter_append, List.map_append, List.reverse_append]
  simp
theorem fillC_mem {p : Nat → Bool} {n : Nat} {e : HE} : e ∈ fillC p n ↔ ∃ j, j < n ∧ p j = true ∧ fent j = e := by
  unfold fillC
  simp [and_assoc]
theorem fent_inj {i j : Nat} (h : fent i = fent j) : i = j := by
  unfold fent at h
  simp only [Prod.mk.injEq] at h
  exact h.2.1
theorem filter_range (n i : Nat) : (List.range n).filter (fun j => j == i) = if i < n then [i] else [] := by
  induction n with
  | zero => simp
  | succ n ih =>
    rw [List.range_succ, List.filter_append, ih]
    by_cases h1 : i < n
    · have h2 : i < n + 1 := by omega
      have h3 : (n == i) = false := by simp; omega
      simp [h1, h2, h3]
    · by_cases h2 : i = n
      · subst h2; simp
      · have h3 : ¬ i < n + 1 := by omega
        have h4 : (n == i) = false := by simp; omega
        simp [h1, h3, h4]
theorem fillC_find {p : Nat → Bool} {n i : Nat} (hn : n ≤ 256) (hi : i < 256) : findF (fillC p n) (fkey i) = if i < n ∧ p i = true then [(i, 2 * i)] else [] := by
  have h1 : ((fillC p n).filter fun e => e.1 == fkey i).map (·.2) = if i < n ∧ p i = true then [(i, 2 * i)] else [] := by
    unfold fillC
    rw [List.filter_reverse, List.map_reverse, List.filter_map, List.map_map, List.filter_filter]
    have h2 : (List.range n).filter (fun a => ((fun e : HE => e.1 == fkey i) ∘ fent) a && p a) = ((List.range n).filter (fun j => j == i)).filter p := by
      rw [List.filter_filter]
      refine List.filter_congr fun j hj => ?_
      have hj := List.mem_range.1 hj
      show (fkey j == fkey i && p j) = _
      rw [fkey_beq (by omega) hi, Bool.and_comm]
    rw [h2, filter_range]
    by_cases h3 : i < n
    · cases h4 : p i <;> simp [h3, h4, fent]
    · simp [h3]
  unfold findF
  rw [h1]
  split <;> simp [sortR]
theorem fillC_nodup (p : Nat → Bool) (n : Nat) : (fillC p n).Nodup := by
  unfold fillC
  have h1 : (((List.range n).filter p).map fent).Nodup := by
    refine List.Pairwise.map _ (fun a b h e => h (fent_inj e)) ((List.nodup_range).filter _)
  exact (List.reverse_perm _).nodup_iff.2 h1
theorem fillC_congr {p q : Nat → Bool} {n : Nat} (h : ∀ j, j < n → p j = q j) : fillC p n = fillC q n := by
  unfold fillC
  rw [List.filter_congr fun j hj => h j (List.mem_range.1 hj)]
/-- Which numbers are left after j rounds of deleting. -/
def leftP (k j i : Nat) : Bool := decide (j ≤ i ∨ i % k = 0)
theorem fillC_erase {n k j : Nat} (hj : j < n) (hk : j % k ≠ 0) : (fillC (leftP k j) n).erase (fent j) = fillC (leftP k (j + 1)) n := by
  rw [(fillC_nodup _ n).erase_eq_filter]
  unfold fillC
  rw [List.filter_reverse, List.filter_map, List.filter_filter]
  congr 2
  refine List.filter_congr fun i hi => ?_
  show ((fent i != fent j) && leftP k j i) = _
  have h1 : (fent i != fent j) = !(i == j) := by
    by_cases h : i = j
    · subst h; simp [bne]
    · have h2 : fent i ≠ fent j := fun e => h (fent_inj e)
      have h3 : (i == j) = false := by simp [h]
      have h4 : (fent i == fent j) = false := beq_eq_false_iff_ne.2 h2
      unfold bne; rw [h3, h4]
  rw [h1]
  unfold leftP
  by_cases h : i = j
  · subst h; simp [hk]
  · have h2 : (j ≤ i) ↔ (j + 1 ≤ i) := by omega
    simp [h, h2]
theorem leftP_skip {n k j : Nat} (hk : j % k = 0) : fillC (leftP k j) n = fillC (leftP k (j + 1)) n := by
  refine fillC_congr fun i _ => ?_
  unfold leftP
  by_cases h : i = j
  · subst h; simp [hk]
  · have h2 : (j ≤ i) ↔ (j + 1 ≤ i) := by omega
    simp [h2]
theorem leftP_zero (k n : Nat) : fillC (fun _ => true) n = fillC (leftP k 0) n := fillC_congr fun i _ => by simp [leftP]
theorem leftP_end {n k i : Nat} (hi : i < n) : leftP k n i = decide (i % k = 0) := by
  unfold leftP
  have : ¬ n ≤ i := by omega
  simp [this]
end Go.Proofs.YtnmjkgnahhbnoaaGreat
