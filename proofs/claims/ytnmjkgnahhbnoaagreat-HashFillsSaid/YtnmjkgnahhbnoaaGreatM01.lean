/- Part 1 of the walks that the laws of package hash share (Base, Ops). -/
import Derived.Test.YtnmjkgnahhbnoaaGreatRows
import Derived.WalkKit
import Derived.Handy
import Derived.Lib.Hide
import Derived.Deep.QuietTactic
import Derived.BigQuiet
import Derived.Deep.MidRow
import Derived.Deep.DeepMust
import Derived.Lib.MinMax
import Derived.Deep.DeepCutAuto
import Derived.Deep.CutBlock
import Derived.Laws.CopyOwn
import Derived.Laws.OwnMore
set_option linter.unusedVariables false
set_option linter.unusedSimpArgs false
/- The base: words and small lemmas that all later texts of this claim use: bytes as values, blocks, what a call may change. -/
namespace Go.Proofs.YtnmjkgnahhbnoaaGreat
open Go.RowKit

/-- A byte, as a value. -/
abbrev B (c : UInt8) : Value := .int .u8 (c.toNat : Int)
/-- Bytes, as cells. -/
def bvals (l : List UInt8) : List Value := l.map B
/-- An array of bytes, as a value. -/
abbrev aggB (l : List UInt8) : Value := .agg (bvals l).toArray

@[simp] theorem bvals_length (l : List UInt8) : (bvals l).length = l.length := by simp [bvals]
theorem bvals_get (l : List UInt8) (i : Nat) : (bvals l)[i]? = (l[i]?).map B := by simp [bvals]
theorem bvals_append (a b : List UInt8) : bvals (a ++ b) = bvals a ++ bvals b := by simp [bvals]
theorem bvals_one {l : List UInt8} : ∀ u ∈ bvals l, u.oneCell' = true := by
  intro u h; simp [bvals] at h; obtain ⟨c, _, rfl⟩ := h; rfl

theorem ret_int {k : IntKind} {a b : Int} (h : a = b) : Ending.returned (.int k a) = .returned (.int k b) := by rw [h]

/-- What a call has changed: of the blocks that were there, at most those of F. -/
structure Chg (F : Nat → Prop) (w w' : World) : Prop where
  os : w'.os = w.os
  tape : w'.tape = w.tape
  output : w'.output = w.output
  size : w.heap.size ≤ w'.heap.size
  block : ∀ k, k < w.heap.size → ¬ F k → w'.heap[k]? = w.heap[k]?

/-- Nothing that was there has changed. -/
abbrev Fresh (w w' : World) : Prop := Chg (fun _ => False) w w'

namespace Chg
variable {F G : Nat → Prop} {w w1 w2 : World}
theorem refl (F : Nat → Prop) (w : World) : Chg F w w := ⟨rfl, rfl, rfl, Nat.le_refl _, fun _ _ _ => rfl⟩
theorem trans (h : Chg F w w1) (k : Chg G w1 w2) (hs : ∀ b, b < w.heap.size → G b → F b) : Chg F w w2 :=
  ⟨k.os.trans h.os, k.tape.trans h.tape, k.output.trans h.output, Nat.le_trans h.size k.size,
   fun i hi hf => (k.block i (Nat.lt_of_lt_of_le hi h.size) fun g => hf (hs i hi g)).trans (h.block i hi hf)⟩
theorem mono (h : Chg F w w1) (hs : ∀ b, b < w.heap.size → F b → G b) : Chg G w w1 :=
  ⟨h.os, h.tape, h.output, h.size, fun k hk hg => h.block k hk fun f => hg (hs k hk f)⟩
theorem fresh (h : Fresh w w1) : Chg F w w1 := h.mono fun _ _ f => f.elim
theorem drew (h : Chg F w w1) : Chg F w w1.drew := ⟨h.os, h.tape, h.output, h.size, h.block⟩
theorem drewN (h : Chg F w w1) (n : Nat) : Chg F w (w1.drewN n) := ⟨h.os, h.tape, h.output, h.size, h.block⟩
theorem alloc (h : Chg F w w1) (o : Obj) : Chg F w (w1.alloc o) :=
  h.trans ⟨rfl, rfl, rfl, by simp, fun k hk _ => Below.heap_alloc _ _ _ (by omega)⟩ (G := fun _ => False) (fun _ _ f => f.elim)
theorem setCell (h : Chg F w w1) {p : Addr} (hp : F p.block ∨ w.heap.size ≤ p.block) (u : Value) : Chg F w (w1.setCell p u) :=
  h.trans (G := fun b => b = p.block) ⟨rfl, rfl, rfl, by simp [World.setCell], fun k _ hg => Below.heap_setCell _ _ _ _ hg⟩
    (fun b hb e => by rcases hp with hp | hp; exact e ▸ hp; omega)
theorem setRow (h : Chg F w w1) {g : Nat} (hp : F g ∨ w.heap.size ≤ g) (cs : Array Value) : Chg F w (w1.setRow g cs) :=
  h.trans (G := fun b => b = g) ⟨rfl, rfl, rfl, by simp, fun k _ hg => setRow_other w1 g k cs hg⟩
    (fun b hb e => by rcases hp with hp | hp; exact e ▸ hp; omega)
theorem grown (h : Chg F w w1) {row : Option Nat} (hg : w1.grownBy w2 row) (hr : ∀ k, row = some k → F k ∨ w.heap.size ≤ k) : Chg F w w2 :=
  h.trans (G := fun b => row = some b) ⟨hg.os, hg.tape, hg.output, hg.size, fun k hk hn => hg.block k hk (fun e => hn e.symm)⟩
    (fun b hb e => by rcases hr b e with hp | hp; exact hp; omega)
theorem below (h : Fresh w w1) : Below w.heap.size w w1 := ⟨h.os, h.tape, h.output, h.size, fun k hk => h.block k hk id⟩
theorem of_below (h : Below w.heap.size w w1) : Fresh w w1 := ⟨h.os, h.tape, h.output, h.size, fun k hk _ => h.block k hk⟩
theorem heap (h : Chg F w w1) {k : Nat} {o : Obj} (hk : w.heap[k]? = some o) (hf : ¬ F k) : w1.heap[k]? = some o :=
  (h.block k (Array.getElem?_eq_some_iff.1 hk).1 hf).trans hk
theorem cell (h : Chg F w w1) {p : Addr} {v : Value} (hc : w.cell? p = some v) (hf : ¬ F p.block) : w1.cell? p = some v :=
  (World.cell?_of_block (h.block p.block (block_lt_of_cell hc) hf)).trans hc
theorem cellEq (h : Chg F w w1) {p : Addr} (hl : p.block < w.heap.size) (hf : ¬ F p.block) : w1.cell? p = w.cell? p :=
  World.cell?_of_block (h.block p.block hl hf)
theorem frozenEq (h : Chg F w w1) {p : Addr} (hl : p.block < w.heap.size) (hf : ¬ F p.block) : w1.frozen? p = w.frozen? p :=
  World.frozen?_of_block (h.block p.block hl hf)
theorem owns {base : Nat} {e : TypeId} {size : Nat} {v : Value} {n : Nat} {xs : List Value} (h : Chg F w w1) (ho : w.ownsRow base e size v n xs)
    (hf : ∀ k, v.ownBlock = some k → ¬ F k) : w1.ownsRow base e size v n xs := by
  refine ⟨ho.1, ?_⟩
  rcases ho.2 with hn | ⟨g, cap, cur, rfl, hb, hgg, rest⟩
  · exact .inl hn
  · exact .inr ⟨g, cap, cur, rfl, hb, h.heap hgg (hf g rfl), rest⟩
end Chg

theorem cell_alloc {w : World} {a : Addr} {v : Value} (h : w.cell? a = some v) (o : Obj) : (w.alloc o).cell? a = some v :=
  ((Chg.refl (fun _ => False) w).alloc o).cell h id

/-- Block b is a row of cells of element type e. -/
def Blk (w : World) (b : Nat) (e : TypeId) (cs : List Value) : Prop := w.heap[b]? = some (.cells cs.toArray e (0, 0))

namespace Blk
variable {w w1 : World} {b : Nat} {e : TypeId} {cs : List Value} {F : Nat → Prop}
theorem lt (h : Blk w b e cs) : b < w.heap.size := (Array.getElem?_eq_some_iff.1 h).1
theorem cell (h : Blk w b e cs) (o : Nat) : w.cell? ⟨b, o, none⟩ = cs[o]? := by
  rw [cell_of_row w b o cs.toArray e (0, 0) h]; simp
theorem frozen (h : Blk w b e cs) (o : Nat) : w.frozen? ⟨b, o, none⟩ = false := frozen_of_row w b o cs.toArray e h
theorem chg (h : Blk w b e cs) (hc : Chg F w w1) (hf : ¬ F b) : Blk w1 b e cs := hc.heap h hf
theorem new (w : World) (e : TypeId) (cs : List Value) : Blk (w.alloc (.cells cs.toArray e)) w.heap.size e cs := heap_alloc_new w _
theorem newA (w : World) (e : TypeId) (a : Array Value) {n : Nat} (hn : n = w.heap.size) : Blk (w.alloc (.cells a e)) n e a.toList := by
  subst hn; simpa [Blk] using heap_alloc_new w (.cells a e)
theorem alloc (h : Blk w b e cs) (o : Obj) : Blk (w.alloc o) b e cs := (Below.heap_alloc w o b h.lt).trans h
theorem drew (h : Blk w b e cs) : Blk w.drew b e cs := h
theorem drewN (h : Blk w b e cs) (n : Nat) : Blk (w.drewN n) b e cs := h
theorem set (h : Blk w b e cs) (o : Nat) (v : Value) : Blk (w.setCell ⟨b, o, none⟩ v) b e (cs.set o v) := by
  have := heap_setCell_same w b o cs.toArray e v h
  simpa [Blk] using this
theorem setOther (h : Blk w b e cs) {p : Addr} (hp : b ≠ p.block) (v : Value) : Blk (w.setCell p v) b e cs := (heap_setCell_other w p b v hp).trans h
theorem row (h : Blk w b e cs) (cs' : List Value) : Blk (w.setRow b cs'.toArray) b e cs' := setRow_heap w b _ _ e _ h
theorem rowOther (h : Blk w b e cs) {g : Nat} (hg : b ≠ g) (cs' : Array Value) : Blk (w.setRow g cs') b e cs := (setRow_other w g b cs' hg).trans h
end Blk

/-- Bytes lie from an address on. -/
def BytesAt (w : World) (b o : Nat) (l : List UInt8) : Prop := ∀ j c, l[j]? = some c → w.cell? ⟨b, o + j, none⟩ = some (B c)

/-- A slice of bytes that is not nil: it lies in a block of bytes. -/
def SlB (w : World) (v : Value) (b : Nat) (l : List UInt8) : Prop :=
  ∃ (o cap : Nat) (cur : Array Value), v = .slice (some ⟨b, o, none⟩) l.length cap ∧ w.heap[b]? = some (.cells cur 5 (0, 0)) ∧ ∀ (j : Nat) (c : UInt8), l[j]? = some c → cur[o + j]? = some (B c)

theorem BytesAt.chg {w w1 : World} {b o : Nat} {l : List UInt8} {F : Nat → Prop} (h : BytesAt w b o l) (hc : Chg F w w1) (hf : ¬ F b) : BytesAt w1 b o l :=
  fun j c hj => hc.cell (h j c hj) hf
theorem SlB.chg {w w1 : World} {v : Value} {b : Nat} {l : List UInt8} {F : Nat → Prop} (h : SlB w v b l) (hc : Chg F w w1) (hf : ¬ F b) : SlB w1 v b l := by
  obtain ⟨o, cap, cur, hv, hb, hl⟩ := h
  exact ⟨o, cap, cur, hv, hc.heap hb hf, hl⟩
theorem SlB.bytes {w : World} {b o n cap : Nat} {l : List UInt8} {b' : Nat} (h : SlB w (.slice (some ⟨b, o, none⟩) n cap) b' l) : b' = b ∧ n = l.length ∧ BytesAt w b o l := by
  obtain ⟨o', cap', cur, hv, hb, hl⟩ := h
  simp only [Value.slice.injEq, Option.some.injEq, Addr.mk.injEq, and_true] at hv
  obtain ⟨⟨rfl, rfl⟩, rfl, rfl⟩ := hv
  exact ⟨rfl, rfl, fun j c hj => by rw [cell_of_row w _ _ cur _ _ hb]; exact hl j c hj⟩

/-- A slice of bytes to be read. -/
def BytesV (w : World) (v : Value) (l : List UInt8) : Prop :=
  (v = .slice none 0 0 ∧ l = []) ∨ ∃ ad c, v = .slice (some ad) l.length c ∧ ∀ (j : Nat) (u : Value), (bvals l)[j]? = some u → w.cell? (ad.add j) = some u
theorem BytesV.fresh {w w1 : World} {v : Value} {l : List UInt8} (h : BytesV w v l) (hc : Fresh w w1) : BytesV w1 v l := by
  rcases h with h | ⟨ad, c, hv, hr⟩
  · exact .inl h
  · exact .inr ⟨ad, c, hv, fun j u hj => hc.cell (hr j u hj) id⟩
theorem BytesV.slice {w : World} {v : Value} {l : List UInt8} (h : BytesV w v l) : ∃ a c, v = .slice a l.length c := by
  rcases h with ⟨rfl, rfl⟩ | ⟨ad, c, hv, _⟩
  · exact ⟨none, 0, rfl⟩
  · exact ⟨_, _, hv⟩
theorem SlB.bytesV {w : World} {v : Value} {b : Nat} {l : List UInt8} (h : SlB w v b l) : BytesV w v l := by
  obtain ⟨o, cap, cur, hv, hb, hl⟩ := h
  refine .inr ⟨⟨b, o, none⟩, cap, hv, fun j u hj => ?_⟩
  rw [bvals_get] at hj
  cases hlj : l[j]? with
  | none => rw [hlj] at hj; cases hj
  | some c =>
    rw [hlj] at hj
    rw [Addr.add_mid, cell_of_row w b (o + j) cur _ _ hb, hl j c hlj]
    simpa using hj

/-- A record: nil, or bytes. -/
def RecV (w : World) (v : Value) : Option (List UInt8) → Prop
  | none => v = .slice none 0 0
  | some l => ∃ b, SlB w v b l
theorem RecV.fresh {w w1 : World} {v : Value} {r : Option (List UInt8)} (h : RecV w v r) (hc : Fresh w w1) : RecV w1 v r := by
  cases r with
  | none => exact h
  | some l => obtain ⟨b, hb⟩ := h; exact ⟨b, hb.chg hc id⟩
/-- A change of blocks that are no bytes' leaves a record. -/
theorem RecV.chg {w w1 : World} {v : Value} {r : Option (List UInt8)} {F : Nat → Prop} (h : RecV w v r) (hc : Chg F w w1)
    (hf : ∀ b cur, w.heap[b]? = some (.cells cur 5 (0, 0)) → ¬ F b) : RecV w1 v r := by
  cases r with
  | none => exact h
  | some l => obtain ⟨b, hb⟩ := h; exact ⟨b, hb.chg hc (by obtain ⟨_, _, cur, _, hh, _⟩ := hb; exact hf b cur hh)⟩

/-- What owns a row of one element type is no block of another. -/
theorem owns_other {w : World} {base : Nat} {e e' : TypeId} {size : Nat} {v : Value} {n : Nat} {xs : List Value} (h : w.ownsRow base e size v n xs)
    {b : Nat} {cur : Array Value} {fr : Nat × Nat} (hb : w.heap[b]? = some (.cells cur e' fr)) (hne : e ≠ e') : ¬ v.ownBlock = some b := by
  intro hv
  rcases h.2 with ⟨rfl, _⟩ | ⟨g, cap, cur', rfl, _, hg, _⟩
  · simp [Value.ownBlock] at hv
  · simp only [Value.ownBlock, Option.some.injEq] at hv
    subst hv
    rw [hg] at hb
    simp only [Option.some.injEq, Obj.cells.injEq] at hb
    exact hne hb.2.1
theorem owns_base {w : World} {base base' : Nat} {e : TypeId} {size : Nat} {v : Value} {n : Nat} {xs : List Value} (h : w.ownsRow base e size v n xs) (hb : base' ≤ base) : w.ownsRow base' e size v n xs := by
  refine ⟨h.1, ?_⟩
  rcases h.2 with h2 | ⟨g, cap, cur, hv, hg, rest⟩
  · exact .inl h2
  · exact .inr ⟨g, cap, cur, hv, by omega, rest⟩

/-- Values that are records. -/
def RecsV (w : World) (vs : List Value) (rs : List (Option (List UInt8))) : Prop := vs.length = rs.length ∧ ∀ (i : Nat) (v : Value) (r : Option (List UInt8)), vs[i]? = some v → rs[i]? = some r → RecV w v r
theorem RecsV.fresh {w w1 : World} {vs : List Value} {rs : List (Option (List UInt8))} (h : RecsV w vs rs) (hc : Fresh w w1) : RecsV w1 vs rs :=
  ⟨h.1, fun i v r hv hr => (h.2 i v r hv hr).fresh hc⟩
theorem RecsV.chg {w w1 : World} {vs : List Value} {rs : List (Option (List UInt8))} {F : Nat → Prop} (h : RecsV w vs rs) (hc : Chg F w w1)
    (hf : ∀ b cur, w.heap[b]? = some (.cells cur 5 (0, 0)) → ¬ F b) : RecsV w1 vs rs :=
  ⟨h.1, fun i v r hv hr => (h.2 i v r hv hr).chg hc hf⟩
theorem RecsV.nil (w : World) : RecsV w [] [] := ⟨rfl, fun i v r hv => by simp at hv⟩
theorem RecsV.snoc {w : World} {vs : List Value} {rs : List (Option (List UInt8))} {v : Value} {r : Option (List UInt8)} (h : RecsV w vs rs) (hr : RecV w v r) : RecsV w (vs ++ [v]) (rs ++ [r]) := by
  refine ⟨by simp [h.1], fun i u s hu hs => ?_⟩
  by_cases hi : i < vs.length
  · rw [List.getElem?_append_left hi] at hu; rw [List.getElem?_append_left (by have := h.1; omega)] at hs; exact h.2 i u s hu hs
  · rw [List.getElem?_append_right (by omega)] at hu; rw [List.getElem?_append_right (by have := h.1; omega)] at hs
    have he : i - vs.length = 0 := by
      rcases Nat.eq_zero_or_pos (i - vs.length) with h0 | h0
      · exact h0
      · rw [List.getElem?_eq_none (by simp; omega)] at hu; cases hu
    have he' : i - rs.length = 0 := by have := h.1; omega
    rw [he] at hu; rw [he'] at hs
    simp at hu hs; subst hu; subst hs; exact hr

end Go.Proofs.YtnmjkgnahhbnoaaGreat

/- Laws for single operations, in the words of whole blocks: an array read out of the middle of a block, one written into it, append to a slice of bytes, copy into a block. -/
namespace Go.Proofs.YtnmjkgnahhbnoaaGreat
open Go.RowKit

/-- A row's cells with others laid over them from a place on. (A word of its own, so that a walk leaves it as it stands.) -/
def over {α : Type} (L : List α) (off : Nat) (cs : List α) : List α := L.take off ++ cs ++ L.drop (off + cs.length)
theorem over_length {α : Type} (L : List α) (off : Nat) (cs : List α) (h : off + cs.length ≤ L.length) : (over L off cs).length = L.length := by
  simp [over]; omega
theorem over_all {α : Type} (L cs : List α) (h : cs.length = L.length) : over L 0 cs = cs := by simp [over, h]
theorem over_get_in {α : Type} (L : List α) (off : Nat) (cs : List α) (j : Nat) (h : off ≤ L.length) (h1 : off ≤ j) (h2 : j < off + cs.length) : (over L off cs)[j]? = cs[j - off]? := by
  have hl : (L.take off).length = off := by simp; omega
  simp only [over, List.append_assoc]
  rw [List.getElem?_append_right (by omega), hl, List.getElem?_append_left (by omega)]
theorem over_get_out {α : Type} (L : List α) (off : Nat) (cs : List α) (j : Nat) (hf : off + cs.length ≤ L.length) (h : j < off ∨ off + cs.length ≤ j) : (over L off cs)[j]? = L[j]? := by
  have hl : (L.take off).length = off := by simp; omega
  simp only [over, List.append_assoc]
  rcases h with h | h
  · rw [List.getElem?_append_left (by omega), List.getElem?_take, if_pos h]
  · rw [List.getElem?_append_right (by omega), hl, List.getElem?_append_right (by omega), List.getElem?_drop]
    congr 1; omega
theorem over_map {α β : Type} (f : α → β) (L : List α) (off : Nat) (cs : List α) : over (L.map f) off (cs.map f) = (over L off cs).map f := by
  simp [over]
theorem bvals_over (L : List UInt8) (off : Nat) (cs : List UInt8) : over (bvals L) off (bvals cs) = bvals (over L off cs) := over_map B L off cs
theorem bvals_set (L : List UInt8) (i : Nat) (c : UInt8) : (bvals L).set i (B c) = bvals (L.set i c) := by simp [bvals]

theorem bits_or_i64_nat (a b : Nat) (ha : a < 9223372036854775808) (hb : b < 9223372036854775808) : bits .or .i64 (a : Int) (b : Int) = ((a ||| b : Nat) : Int) := by
  have hx : a ||| b < 2 ^ 63 := Nat.or_lt_two_pow (by omega) (by omega)
  have h1 : (BitVec.ofInt 64 (a : Int)).toNat = a := by
    rw [BitVec.toNat_ofInt]; omega
  have h2 : (BitVec.ofInt 64 (b : Int)).toNat = b := by
    rw [BitVec.toNat_ofInt]; omega
  show IntKind.i64.wrap ((BitVec.ofInt 64 (a : Int) ||| BitVec.ofInt 64 (b : Int)).toNat : Int) = _
  rw [BitVec.toNat_or, h1, h2]
  exact IntWalk.i64_in _ (by omega)
/-- Two bytes' number, as the code makes it. -/
theorem or_bytes (a b : Nat) (ha : a < 256) (hb : b < 65536) : bits .or .i64 (a : Int) ((b : Int) * 256) = ((a + 256 * b : Nat) : Int) := by
  have h := bits_or_i64_nat a (b * 256) (by omega) (by omega)
  rw [Int.natCast_mul] at h
  rw [show (((256 : Nat) : Int)) = 256 from rfl] at h
  rw [h]
  congr 1
  have := Nat.two_pow_add_eq_or_of_lt (i := 8) (b := a) (by omega) b
  rw [Nat.or_comm, Nat.mul_comm b 256, show (256 : Nat) = 2 ^ 8 from rfl, ← this]
  omega

theorem take_all {α : Type} (cs : List α) (n : Nat) (h : cs.length ≤ n) : (cs.drop 0).take n = cs := by simp [List.take_of_length_le h]

theorem Blk.cells {w : World} {b : Nat} {e : TypeId} {cs : List Value} (h : Blk w b e cs) : ∀ (j : Nat) (u : Value), cs[j]? = some u → w.cell? ((⟨b, 0, none⟩ : Addr).add j) = some u := by
  intro j u hu
  rw [Addr.add_mid, Nat.zero_add, h.cell, hu]
theorem new_cells (w : World) (e : TypeId) (cs : List Value) : ∀ (j : Nat) (u : Value), cs[j]? = some u → (w.alloc (.cells cs.toArray e)).cell? ((⟨w.heap.size, 0, none⟩ : Addr).add j) = some u :=
  (Blk.new w e cs).cells
theorem one_of (v : Value) (h : v.oneCell' = true) : ∀ u ∈ [v], u.oneCell' = true := by simpa using h

section
variable {Pr : Program} {ops : Array Oper} {rest : List Oper} {o : Oper} {a : Act} {w : World} {Q : Exit → Act → World → Prop}

theorem Blk.range {w : World} {b : Nat} {e : TypeId} {cs vs : List Value} (h : Blk w b e cs) (off n : Nat) (hv : (cs.drop off).take n = vs) : w.rangeAt b off vs := by
  intro j v hj
  rw [h.cell, ← hj, ← hv, List.getElem?_take]
  split
  · simp
  · rw [← hv, List.getElem?_take, if_neg ‹_›] at hj; cases hj

/-- A cut of an array behind a pointer: where it begins hangs on nothing where it is empty. -/
theorem run_sliceArr (t e : TypeId) (n : Nat) (hu : Pr.underlying t = some (.array n e)) (hs : ∀ w, (sizeOf e).run Pr w = .ok 1 w) (b o0 l h : Nat) (k1 k2 : IntKind) (hlh : l ≤ h) (hh : h ≤ n)
    (x y : Int) (hx : x = l) (hy : y = h) : ∃ so, (l < h → so = o0 + l) ∧ ∀ w, (Instr.sliceAt t (.pointer (some ⟨b, o0, none⟩)) (some (.int k1 x)) (some (.int k2 y)) none).run Pr w = .ok (.slice (some ⟨b, so, none⟩) (h - l) (n - l)) w := by
  subst hx hy
  refine ⟨if n = l then o0 else o0 + l, fun hlt => by rw [if_neg (by omega)], fun w => ?_⟩
  have e1 : (0 : Int) ≤ (h : Int) ∧ (h : Int) ≤ n := by omega
  have e2 : (0 : Int) ≤ (l : Int) ∧ (l : Int) ≤ h := by omega
  simp [Instr.sliceAt, Instr.sureAddr, run_underlying hu, Instr.sliceBounds, Instr.sliceBound, asIntOf, e1, e2, hs, Addr.add_mid]
  split <;> (split <;> rfl)

theorem run_sliceArrL (t e : TypeId) (n : Nat) (hu : Pr.underlying t = some (.array n e)) (hs : ∀ w, (sizeOf e).run Pr w = .ok 1 w) (b o0 l : Nat) (k1 : IntKind) (hlh : l ≤ n)
    (x : Int) (hx : x = l) : ∃ so, (l < n → so = o0 + l) ∧ ∀ w, (Instr.sliceAt t (.pointer (some ⟨b, o0, none⟩)) (some (.int k1 x)) none none).run Pr w = .ok (.slice (some ⟨b, so, none⟩) (n - l) (n - l)) w := by
  subst hx
  refine ⟨if n = l then o0 else o0 + l, fun hlt => by rw [if_neg (by omega)], fun w => ?_⟩
  have e2 : (0 : Int) ≤ (l : Int) ∧ (l : Int) ≤ n := by omega
  simp [Instr.sliceAt, Instr.sureAddr, run_underlying hu, Instr.sliceBounds, Instr.sliceBound, asIntOf, e2, hs, Addr.add_mid]
  split <;> (split <;> rfl)

/-- A variable of many cells is read out of a block. -/
theorem wpList_loadA (hgd : o.guard = none) (ty : TypeId) (x : Operand) (ho : o.op = .load ty x)
    (b off : Nat) (hx : a.eval x = .pointer (some ⟨b, off, none⟩)) (e : TypeId) (cs : List Value) (hb : Blk w b e cs) (n : Nat) (vs : List Value) (hv : (cs.drop off).take n = vs)
    (d : TypeDesc) (hu : Pr.underlying ty = some d) (hd : d.isRow = true) (hi : (Pr.info? ty).map (·.size) = some n) (hn : off + n ≤ cs.length)
    (h : wpList Pr ops Q rest (a.put o.dst (.agg vs.toArray)) w) : wpList Pr ops Q (o :: rest) a w :=
  wpList_load_mid hgd ty x ho b off hx vs d (hb.range off n hv) hu hd (by rw [hi, ← hv]; congr 1; simp; omega) h

theorem run_storeVarA (w : World) (b off : Nat) (ty e : TypeId) (cs vs : List Value) (hb : Blk w b e cs) (hi : (Pr.info? ty).map (·.size) = some vs.length)
    (hf : off + vs.length ≤ cs.length) (h1 : ∀ v ∈ vs, v.oneCell' = true) :
    (storeVar ty ⟨b, off, none⟩ (.agg vs.toArray)).run Pr w = .ok () (w.setRow b (over cs off vs).toArray) := by
  have := run_storeCells_at Pr b off e vs 0 cs.toArray w hb (by simpa using hf) h1
  cases hq : Pr.info? ty with
  | none => simp [hq] at hi
  | some i =>
    have hs : i.size = vs.length := by simpa [hq] using hi
    simp [storeVar, Sem.run_bind, sizeOf, typeInfo, hq, hs, Value.cells, this, over]

/-- A variable of many cells is written into a block. -/
theorem wpList_storeA (hgd : o.guard = none) (ty : TypeId) (x y : Operand) (ho : o.op = .store ty x y)
    (b off : Nat) (hx : a.eval x = .pointer (some ⟨b, off, none⟩)) (vs : List Value) (hy : a.eval y = .agg vs.toArray) (e : TypeId) (cs : List Value) (hb : Blk w b e cs)
    (hi : (Pr.info? ty).map (·.size) = some vs.length) (hf : off + vs.length ≤ cs.length) (h1 : ∀ v ∈ vs, v.oneCell' = true)
    (h : ∀ w', Hid (Blk w' b e (over cs off vs)) → Hid (Chg (· = b) w w') → wpList Pr ops Q rest (a.put o.dst undef) w') : wpList Pr ops Q (o :: rest) a w :=
  wpList_plain hgd fun K hK => by
    replace h := h _ (hb.row (over cs off vs)) (Chg.setRow (F := fun x => x = b) (Chg.refl _ w) (.inl rfl) _)
    unfold Oper.wp execOp
    simp only [ho, hx, hy, Instr.storeAt, Instr.sureAddr, Sem.run_bind, Sem.run_pure, Result.andThen_ok, run_storeVarA w b off ty e cs vs hb hi hf h1]
    exact hK _ _ h

theorem wp_storeA {K : Act → World → Prop} (ty : TypeId) (x y : Operand) (ho : o.op = .store ty x y)
    (b off : Nat) (hx : a.eval x = .pointer (some ⟨b, off, none⟩)) (vs : List Value) (hy : a.eval y = .agg vs.toArray) (e : TypeId) (cs : List Value) (hb : Blk w b e cs)
    (hi : (Pr.info? ty).map (·.size) = some vs.length) (hf : off + vs.length ≤ cs.length) (h1 : ∀ v ∈ vs, v.oneCell' = true)
    (h : ∀ w', Hid (Blk w' b e (over cs off vs)) → Hid (Chg (· = b) w w') → K (a.put o.dst undef) w') : o.wp Pr a w K Q := by
  replace h := h _ (hb.row (over cs off vs)) (Chg.setRow (F := fun x => x = b) (Chg.refl _ w) (.inl rfl) _)
  unfold Oper.wp execOp
  simp only [ho, hx, hy, Instr.storeAt, Instr.sureAddr, Sem.run_bind, Sem.run_pure, Result.andThen_ok, run_storeVarA w b off ty e cs vs hb hi hf h1]
  exact h

/-- A new variable of many cells. -/
theorem wpList_allocA (hgd : o.guard = none) (ty : TypeId) (ho : o.op = .alloc ty) (vs : List Value) (hz : ∀ w, (zeroValue ty).run Pr w = .ok (.agg vs.toArray) w)
    (h : ∀ w', Hid (Blk w' w.heap.size ty vs) → Hid (Fresh w w') → Hid (w'.heap.size = w.heap.size + 1) → wpList Pr ops Q rest (a.put o.dst (.pointer (some ⟨w.heap.size, 0, none⟩))) w') : wpList Pr ops Q (o :: rest) a w :=
  wpList_plain hgd fun K hK => by
    replace h := h _ (Blk.new w ty vs) ((Chg.refl _ w).alloc _) (World.size_alloc _ _)
    unfold Oper.wp execOp
    simp only [ho, Instr.alloc, Sem.run_bind, hz, Result.andThen_ok, newVar, newRow, newObj, Value.cells]
    exact hK _ _ h

/-- A new variable of many cells that holds a value. -/
theorem wpList_boxA (hgd : o.guard = none) (ty : TypeId) (x : Operand) (ho : o.op = .box ty x) (vs : List Value) (hx : a.eval x = .agg vs.toArray)
    (h : ∀ w', Hid (Blk w' w.heap.size ty vs) → Hid (Fresh w w') → Hid (w'.heap.size = w.heap.size + 1) → wpList Pr ops Q rest (a.put o.dst (.pointer (some ⟨w.heap.size, 0, none⟩))) w') : wpList Pr ops Q (o :: rest) a w :=
  wpList_plain hgd fun K hK => by
    replace h := h _ (Blk.new w ty vs) ((Chg.refl _ w).alloc _) (World.size_alloc _ _)
    unfold Oper.wp execOp
    simp only [ho, hx, Instr.box, Sem.run_bind, newVar, newRow, newObj, Value.cells]
    exact hK _ _ h

/-- A function's one result, of many cells, that lies in a block. -/
theorem results_cellA {fn : Func} {p : Tmp} {ty : TypeId} (h : fn.results = #[.cell p ty]) (tmps : Array Value) (w : World) (b : Nat) (e : TypeId) (vs : List Value) (d : TypeDesc)
    (hp : tmps.getD p undef = .pointer (some ⟨b, 0, none⟩)) (hb : Blk w b e vs) (hu : Pr.underlying ty = some d) (hd : d.isRow = true) (hi : (Pr.info? ty).map (·.size) = some vs.length) :
    (results fn tmps).run Pr w = .ok (.agg vs.toArray) w :=
  results_cell_row h tmps w b e vs.toArray (0, 0) d hp hb hu (by cases d <;> simp_all [TypeDesc.isRow]) (by simpa using hi)


theorem results_cell_t {fn : Func} {p t : Tmp} {ty : TypeId} (h : fn.results = #[.cell p ty, .tmp t]) (tmps : Array Value) (w : World) (b : Nat) (e : TypeId) (vs : List Value) (d : TypeDesc)
    (hp : tmps.getD p undef = .pointer (some ⟨b, 0, none⟩)) (hb : Blk w b e vs) (hu : Pr.underlying ty = some d) (hd : d.isRow = true) (hi : (Pr.info? ty).map (·.size) = some vs.length) :
    (results fn tmps).run Pr w = .ok (.tuple #[.agg vs.toArray, tmps.getD t undef]) w := by
  have hp' : tmps[p]?.getD undef = .pointer (some ⟨b, 0, none⟩) := by simpa using hp
  have hl := run_loadVar_row (P := Pr) w b e ty vs.toArray (0, 0) d hb hu (by cases d <;> simp_all [TypeDesc.isRow]) (by simpa using hi)
  simp [results, h, hp', asAddr, hl]
theorem results_cell_tt {fn : Func} {p t u : Tmp} {ty : TypeId} (h : fn.results = #[.cell p ty, .tmp t, .tmp u]) (tmps : Array Value) (w : World) (b : Nat) (e : TypeId) (vs : List Value) (d : TypeDesc)
    (hp : tmps.getD p undef = .pointer (some ⟨b, 0, none⟩)) (hb : Blk w b e vs) (hu : Pr.underlying ty = some d) (hd : d.isRow = true) (hi : (Pr.info? ty).map (·.size) = some vs.length) :
    (results fn tmps).run Pr w = .ok (.tuple #[.agg vs.toArray, tmps.getD t undef, tmps.getD u undef]) w := by
  have hp' : tmps[p]?.getD undef = .pointer (some ⟨b, 0, none⟩) := by simpa using hp
  have hl := run_loadVar_row (P := Pr) w b e ty vs.toArray (0, 0) d hb hu (by cases d <;> simp_all [TypeDesc.isRow]) (by simpa using hi)
  simp [results, h, hp', asAddr, hl]

/-- 'append(s, x...)' on a slice of the call's own; what comes out is not nil. -/
theorem wpList_app (hgd : o.guard = none) (s x : Operand) (t : TypeId) (ho : o.op = .call { callee := .builtin .append, args := #[s, x], argTypes := #[t, t] })
    (e : TypeId) (z : Value) (size bytes : Nat) (ht : Pr.underlying t = some (.slice e)) (hinfo : (Pr.info? e).map (fun i => (i.zero, i.size, i.bytes)) = some (some z, size, bytes))
    (hzs : z.cells.size = size) (hsz : 0 < size) (base : Nat) (v : Value) (n : Nat) (xs : List Value) (hs : a.eval s = v) (hown : w.ownsRow base e size v n xs)
    (ad : Addr) (m c : Nat) (news : List Value) (hx : a.eval x = .slice (some ad) m c) (hl : news.length = m * size) (hnews : ∀ j u, news[j]? = some u → w.cell? (ad.add j) = some u)
    (h1 : ∀ u ∈ news, u.oneCell' = true) (h63 : n + m ≤ maxLen) (hbytes : (n + m) * bytes ≤ 140737488355328) (hbase : base ≤ w.heap.size) (hnn : v ≠ .slice none 0 0 ∨ 0 < m)
    (h : ∀ g' cap' w', Hid (w'.ownsRow base e size (.slice (some ⟨g', 0, none⟩) (n + m) cap') (n + m) (xs ++ news)) → Hid (Chg (fun b => v.ownBlock = some b) w w') →
      Hid (v.ownBlock = some g' ∨ w.heap.size ≤ g') → wpList Pr ops Q rest (a.put o.dst (.slice (some ⟨g', 0, none⟩) (n + m) cap')) w') : wpList Pr ops Q (o :: rest) a w := by
  obtain ⟨i0, hi, hz0, hz1, hz2⟩ := info_parts hinfo
  obtain ⟨v', w', hr, h2, h3, h4⟩ := run_append_own (P := Pr) w base t o.type e i0 z size bytes ht hi hz0 hz1 hz2 hzs hsz v n xs hown ad m c news hl hnews h1 h63 hbytes hbase
  have hv' : v' ≠ .slice none 0 0 := fun e => by
    have := h4.1 e
    rcases hnn with hn | hn
    · exact hn this.1
    · omega
  have hchg : Chg (fun b => v.ownBlock = some b) w w' := (Chg.refl _ w).grown h3 fun k hk => .inl hk
  obtain ⟨g', cap', rfl⟩ : ∃ g' cap', v' = .slice (some ⟨g', 0, none⟩) (n + m) cap' := by
    rcases h2.2 with ⟨hn, _⟩ | ⟨g, cap, cur, rfl, _⟩
    · exact absurd hn hv'
    · exact ⟨g, cap, rfl⟩
  have hg' : v.ownBlock = some g' ∨ w.heap.size ≤ g' := by
    by_cases hlt : g' < w.heap.size
    · rcases hown.2 with ⟨hv, hn0⟩ | ⟨g, cap, cur, hv, _, hgg, hnc, hcm, hcs, htake⟩
      · exfalso
        subst hv; subst hn0
        have hm : 0 < m := hnn.resolve_left (fun h => h rfl)
        have := run_append_nil (P := Pr) w t o.type e i0 z ht hi hz0 ad m c news (by rw [hz1]; exact hl) hnews (by omega) (by unfold maxLen at h63; omega) (by rw [hz2]; simp only [Nat.zero_add] at hbytes; omega)
        rw [this] at hr
        simp at hr
      · subst hv
        by_cases hroom : n + m ≤ cap
        · have hr2 := run_append_room (P := Pr) w t o.type e i0 ht hi g n cap cur hgg ad m c news (by rw [hz1]; exact hl) hnews h1 hroom (by rw [hz1, hl, hcs, ← Nat.add_mul]; exact Nat.mul_le_mul_right _ hroom)
          rw [hr2] at hr
          simp at hr
          exact .inl (by simp [Value.ownBlock, hr.1])
        · have holds : ∀ j u, xs[j]? = some u → w.cell? ((⟨g, 0, none⟩ : Addr).add j) = some u := hown.cells (g := g) rfl
          have hr2 := run_append_grow (P := Pr) w t o.type e i0 z ht hi hz0 ⟨g, 0, none⟩ n cap xs (by rw [hz1]; exact hown.1) holds ad m c news (by rw [hz1]; exact hl) hnews (by omega) (by unfold maxLen at h63; omega) (by rw [hz2]; exact growslice_fits (by omega) hbytes)
          rw [hr2] at hr
          simp at hr
    · exact .inr (by omega)
  refine wpList_plain hgd fun K hK => ?_
  unfold Oper.wp execOp
  simp only [ho, resolve, invoke, builtin, Sem.run_bind, Sem.run_pure, Result.andThen_ok, List.map_toArray, List.map_cons, List.map_nil, hs, hx, hr]
  exact hK _ _ (h g' cap' w' h2 hchg hg')

/-- 'append(s, nil...)'. -/
theorem wpList_appNil (hgd : o.guard = none) (s x : Operand) (t : TypeId) (ho : o.op = .call { callee := .builtin .append, args := #[s, x], argTypes := #[t, t] })
    (e : TypeId) (z : Value) (size bytes : Nat) (ht : Pr.underlying t = some (.slice e)) (hinfo : (Pr.info? e).map (fun i => (i.zero, i.size, i.bytes)) = some (some z, size, bytes))
    (base : Nat) (v : Value) (n : Nat) (xs : List Value) (hs : a.eval s = v) (hown : w.ownsRow base e size v n xs) (hx : a.eval x = .slice none 0 0)
    (h : wpList Pr ops Q rest (a.put o.dst v) w) : wpList Pr ops Q (o :: rest) a w := by
  obtain ⟨i0, hi, hz0, hz1, hz2⟩ := info_parts hinfo
  have hr := run_append_owned_none (P := Pr) w base t o.type e i0 size ht hi v n xs hown
  refine wpList_plain hgd fun K hK => ?_
  unfold Oper.wp execOp
  simp only [ho, resolve, invoke, builtin, Sem.run_bind, Sem.run_pure, Result.andThen_ok, List.map_toArray, List.map_cons, List.map_nil, hs, hx, hr]
  exact hK _ _ h


end

theorem infoByte : (Tryz.prog.info? 5).map (fun i => (i.zero, i.size, i.bytes)) = some (some (.int .u8 0), 1, 1) := by kernel_rfl
theorem infoRecs : (Tryz.prog.info? 23).map (fun i => (i.zero, i.size, i.bytes)) = some (some (.slice none 0 0), 1, 24) := by kernel_rfl

@[go_sem] theorem eqlBytes_some (w : World) (a : Addr) (n c : Nat) : (binOp .eql 23 (.slice (some a) n c) (.slice none 0 0)).run Tryz.prog w = .ok (.bool false) w := by
  have h : ∀ d : Nat, (Op.equalIn (d + 1) 23 (.slice (some a) n c) (.slice none 0 0)).run Tryz.prog w = .ok false w := fun d => by
    simp [Op.equalIn, run_underlying Tryz.underlying23]
  simp only [binOp]
  simp [Op.equal, Op.maxDepth, h]
@[go_sem] theorem eqlBytes_nil (w : World) (n c : Nat) : (binOp .eql 23 (.slice none n c) (.slice none 0 0)).run Tryz.prog w = .ok (.bool true) w := by
  have h : ∀ d : Nat, (Op.equalIn (d + 1) 23 (.slice none n c) (.slice none 0 0)).run Tryz.prog w = .ok true w := fun d => by
    simp [Op.equalIn, run_underlying Tryz.underlying23]
  simp only [binOp]
  simp [Op.equal, Op.maxDepth, h]

section
variable {ops : Array Oper} {rest : List Oper} {o : Oper} {a : Act} {w : World} {Q : Exit → Act → World → Prop}

/-- 'append([]byte{}, x...)': x's bytes in a block of their own. -/
theorem wpList_appBytes (hgd : o.guard = none) (s x : Operand) (ho : o.op = .call { callee := .builtin .append, args := #[s, x], argTypes := #[23, 23] })
    (g0 : Nat) (hs : a.eval s = .slice (some ⟨g0, 0, none⟩) 0 0) (hg0 : Blk w g0 5 []) (bs : List UInt8) (m : Nat) (hm : bs.length = m) (hb : m ≤ 140737488355328)
    (hx : (a.eval x = .slice none 0 0 ∧ m = 0) ∨ ∃ ad c, a.eval x = .slice (some ad) m c ∧ ∀ (j : Nat) (u : Value), (bvals bs)[j]? = some u → w.cell? (ad.add j) = some u)
    (h : ∀ g' cap' w', Hid (SlB w' (.slice (some ⟨g', 0, none⟩) m cap') g' bs) → Hid (Chg (· = g0) w w') → Hid (g' = g0 ∨ w.heap.size ≤ g') →
      wpList Tryz.prog ops Q rest (a.put o.dst (.slice (some ⟨g', 0, none⟩) m cap')) w') : wpList Tryz.prog ops Q (o :: rest) a w := by
  have hown : w.ownsRow 0 5 1 (.slice (some ⟨g0, 0, none⟩) 0 0) 0 [] := ⟨rfl, .inr ⟨g0, 0, #[], rfl, Nat.zero_le _, by simpa [Blk] using hg0, Nat.le_refl _, Nat.zero_le _, rfl, rfl⟩⟩
  rcases hx with ⟨hx, rfl⟩ | ⟨ad, c, hx, hsrc⟩
  · obtain rfl : bs = [] := List.eq_nil_of_length_eq_zero hm
    refine wpList_appNil hgd s x _ ho 5 (.int .u8 0) 1 1 Tryz.underlying23 infoByte 0 _ 0 [] hs hown hx ?_
    exact h g0 0 w ⟨0, 0, #[], rfl, by simpa [Blk] using hg0, fun j c hj => by simp at hj⟩ (Chg.refl _ _) (.inl rfl)
  · refine wpList_app hgd s x _ ho 5 (.int .u8 0) 1 1 Tryz.underlying23 infoByte rfl (by decide) 0 _ 0 [] hs hown ad m c (bvals bs) hx (by simp [hm]) hsrc bvals_one
      (by unfold maxLen; omega) (by omega) (Nat.zero_le _) (.inl (by simp)) ?_
    intro g' cap' w' h1 h2 h3
    have h1' := h1.out
    have h2' := h2.out
    have h3' := h3.out
    simp only [Nat.zero_add, List.nil_append] at h1' ⊢
    refine h g' cap' w' ?_ (h2'.mono fun b _ e => by simpa [Value.ownBlock, eq_comm] using e) (by rcases h3' with e | e; exact .inl (by simpa [Value.ownBlock, eq_comm] using e); exact .inr e)
    obtain ⟨hl, h1'⟩ := h1'
    rcases h1' with ⟨e, _⟩ | ⟨g, cap, cur, e, _, hg, _, _, _, ht⟩
    · cases e
    · simp only [Value.slice.injEq, Option.some.injEq, Addr.mk.injEq, and_true, true_and] at e
      obtain ⟨rfl, rfl⟩ := e
      refine ⟨0, cap', cur, by rw [hm], hg, fun j c hj => ?_⟩
      have : (bvals bs)[j]? = some (B c) := by rw [bvals_get, hj]; rfl
      rw [← ht, List.getElem?_take] at this
      split at this
      · simpa using this
      · cases this

/-- 'copy(d, s)' of bytes into a block that is known whole; s is no longer than d. -/
theorem wpList_copyB (hgd : o.guard = none) (d s : Operand) (ho : o.op = .call { callee := .builtin .copy, args := #[d, s], argTypes := #[23, 23] })
    (g off : Nat) (e : TypeId) (cs : List Value) (hg : Blk w g e cs) (bs : List UInt8) (dp sp : Option Addr) (dLen dCap sLen sCap : Nat) (hd : a.eval d = .slice dp dLen dCap) (hs : a.eval s = .slice sp sLen sCap)
    (hl : bs.length = min sLen dLen) (hpos : 0 < bs.length → dp = some ⟨g, off, none⟩ ∧ ∃ ad, sp = some ad ∧ ∀ (j : Nat) (v : Value), (bvals bs)[j]? = some v → w.cell? (ad.add j) = some v)
    (hfit : off + bs.length ≤ cs.length)
    (h : ∀ w', Hid (Blk w' g e (over cs off (bvals bs))) → Hid (Chg (· = g) w w') → wpList Tryz.prog ops Q rest (a.put o.dst (goInt bs.length)) w') : wpList Tryz.prog ops Q (o :: rest) a w := by
  have hsz : (Tryz.prog.info? 5).map (·.size) = some 1 := by kernel_rfl
  by_cases h0 : bs.length = 0
  · obtain rfl : bs = [] := List.eq_nil_of_length_eq_zero h0
    refine wpList_copy_nothing hgd d s _ _ ho 5 Tryz.underlying23 hsz dp sp dLen dCap sLen sCap hd hs (by simpa using hl.symm) ?_
    refine h w ?_ (Chg.refl _ _)
    show Blk w g e (over cs off [])
    simpa [over] using hg
  · obtain ⟨rfl, ad, rfl, hsrc⟩ := hpos (by omega)
    refine wpList_copy_own hgd d s _ _ ho 5 Tryz.underlying23 hsz g off dLen dCap ad sLen sCap hd hs cs.toArray e hg (bvals bs) (by simpa using hl) hsrc (by simpa using hfit) bvals_one ?_
    simp only [bvals_length]
    refine h _ ?_ (Chg.setRow (F := fun x => x = g) (Chg.refl _ w) (.inl rfl) _)
    have := hg.row (over cs off (bvals bs))
    show Blk _ g e _
    simpa [over, List.append_assoc] using this

end

end Go.Proofs.YtnmjkgnahhbnoaaGreat
