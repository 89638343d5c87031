/- Part 7 of the walks that the laws of package hash share (Bits, OpsIn, Chunk, Heap1). -/
import Derived.Test.YtnmjkgnahhbnoaaGreatM01
import Derived.TacticsIn
import Derived.RangeFuncFrom
import Derived.OwnWalkIn
import Derived.RangeFuncCalls
import Derived.Shelf.Abstract
import Derived.Shelf.RegionOpen
import Derived.WalkKit
import Derived.TacticsInMore
import Derived.LoopNIn
import Derived.LoopIn
import Derived.BigQuiet
import Derived.StillTailTactics
import Derived.Test.YtnmjkgnahhbnoaaGreatM02
import Derived.WalkSpells
set_option linter.unusedVariables false
set_option linter.unusedSimpArgs false
/- A byte's bits, as the program sets them. -/
namespace Go.Proofs.YtnmjkgnahhbnoaaGreat
open Go.RowKit

/-- A byte's bit taken away; laid down. -/
def clrB (x : UInt8) (m : Nat) : UInt8 := UInt8.ofNat (bits BinOp.andNot IntKind.u8 (x.toNat : Int) (2 ^ m % 256)).toNat
def orB (x : UInt8) (m : Nat) : UInt8 := UInt8.ofNat (bits BinOp.or IntKind.u8 (x.toNat : Int) (2 ^ m % 256)).toNat
def bitsOk : Bool := (List.range 256).all fun x => (List.range 8).all fun m =>
  let c := bits BinOp.andNot IntKind.u8 (x : Int) (2 ^ m % 256)
  let d := bits BinOp.or IntKind.u8 (x : Int) (2 ^ m % 256)
  let e := bits BinOp.and IntKind.u8 ((x : Int) / 2 ^ m) 1
  decide (0 ≤ c) && decide (c < 256) && decide (0 ≤ d) && decide (d < 256) && ((e == 0) == !(x.testBit m)) &&
    (List.range 8).all fun j => (c.toNat.testBit j == (x.testBit j && j != m)) && (d.toNat.testBit j == (x.testBit j || j == m))
theorem bitsOk_true : bitsOk = true := by kernel_rfl
theorem bits_one (x : UInt8) (m : Nat) (hm : m < 8) :
    bits BinOp.andNot IntKind.u8 (x.toNat : Int) (2 ^ m % 256) = ((clrB x m).toNat : Int) ∧ bits BinOp.or IntKind.u8 (x.toNat : Int) (2 ^ m % 256) = ((orB x m).toNat : Int) ∧
    ((bits BinOp.and IntKind.u8 ((x.toNat : Int) / 2 ^ m) 1 == 0) = !(x.toNat.testBit m)) ∧
    ∀ j, j < 8 → (clrB x m).toNat.testBit j = (x.toNat.testBit j && j != m) ∧ (orB x m).toNat.testBit j = (x.toNat.testBit j || j == m) := by
  have h0 := bitsOk_true
  unfold bitsOk at h0
  rw [List.all_eq_true] at h0
  have h1 := h0 x.toNat (List.mem_range.2 (by have := x.toNat_lt; omega))
  rw [List.all_eq_true] at h1
  have h2 := h1 m (List.mem_range.2 hm)
  simp only [Bool.and_eq_true, decide_eq_true_eq, beq_iff_eq, List.all_eq_true, List.mem_range] at h2
  obtain ⟨⟨⟨⟨⟨c0, c1⟩, d0⟩, d1⟩, he⟩, hj⟩ := h2
  have ec : (clrB x m).toNat = (bits BinOp.andNot IntKind.u8 (x.toNat : Int) (2 ^ m % 256)).toNat := by
    unfold clrB; rw [UInt8.toNat_ofNat']; omega
  have ed : (orB x m).toNat = (bits BinOp.or IntKind.u8 (x.toNat : Int) (2 ^ m % 256)).toNat := by
    unfold orB; rw [UInt8.toNat_ofNat']; omega
  refine ⟨by omega, by omega, he, fun j h => ?_⟩
  rw [ec, ed]
  exact hj j h

/-- A page's bit. -/
def bitAt (bs : List UInt8) (n : Nat) : Bool := (bs.getD (n / 8) 0).toNat.testBit (n % 8)
/-- A page's bit set or taken away. -/
def markF (bs : List UInt8) (n : Nat) (tk : Bool) : List UInt8 :=
  bs.set (n / 8) (if tk then orB (clrB (bs.getD (n / 8) 0) (n % 8)) (n % 8) else clrB (bs.getD (n / 8) 0) (n % 8))
@[simp] theorem markF_length (bs : List UInt8) (n : Nat) (tk : Bool) : (markF bs n tk).length = bs.length := by simp [markF]
theorem bitAt_mark (bs : List UInt8) (n : Nat) (tk : Bool) (h : n / 8 < bs.length) (k : Nat) : bitAt (markF bs n tk) k = if k = n then tk else bitAt bs k := by
  unfold bitAt markF
  have hm : n % 8 < 8 := Nat.mod_lt _ (by omega)
  have hk : k % 8 < 8 := Nat.mod_lt _ (by omega)
  obtain ⟨_, _, _, hb⟩ := bits_one (bs.getD (n / 8) 0) (n % 8) hm
  obtain ⟨_, _, _, hb2⟩ := bits_one (clrB (bs.getD (n / 8) 0) (n % 8)) (n % 8) hm
  by_cases hq : n / 8 = k / 8
  · rw [List.getD_eq_getElem?_getD, List.getElem?_set, if_pos hq, if_pos h, Option.getD_some, ← hq]
    by_cases hkn : k = n
    · subst hkn
      rw [if_pos rfl]
      cases tk
      · simp only [Bool.false_eq_true, if_false]
        rw [(hb _ hk).1]; simp
      · simp only [if_true]
        rw [(hb2 _ hk).2]; simp
    · have hne : k % 8 ≠ n % 8 := by omega
      have h1 : (k % 8 != n % 8) = true := by simpa using hne
      have h2 : (k % 8 == n % 8) = false := by simpa using hne
      rw [if_neg hkn]
      cases tk
      · simp only [Bool.false_eq_true, if_false]
        rw [(hb _ hk).1, h1, Bool.and_true]
      · simp only [if_true]
        rw [(hb2 _ hk).2, (hb _ hk).1, h1, h2, Bool.and_true, Bool.or_false]
  · have hkn : k ≠ n := by rintro rfl; exact hq rfl
    rw [if_neg hkn, List.getD_eq_getElem?_getD, List.getElem?_set, if_neg hq, ← List.getD_eq_getElem?_getD]

end Go.Proofs.YtnmjkgnahhbnoaaGreat

/- Loads and stores of many cells, inside a fence. -/
namespace Go.Proofs.YtnmjkgnahhbnoaaGreat
open Go.RowKit

theorem wpListIn_loadA {Fe : Fence} {nn : Nat} {Pr : Program} {ops : Array Oper} {rest : List Oper} {o : Oper} {a : Act} {w : World} {Q : Exit → Act → World → Prop} (hF : ∀ f, Fe.fn f) (hgd : o.guard = none) (ty : TypeId) (x : Operand) (ho : o.op = .load ty x)
    (b off : Nat) (hx : a.eval x = .pointer (some ⟨b, off, none⟩)) (e : TypeId) (cs : List Value) (hb : Blk w b e cs) (n : Nat) (vs : List Value) (hv : (cs.drop off).take n = vs)
    (d : TypeDesc) (hu : Pr.underlying ty = some d) (hd : d.isRow = true) (hi : (Pr.info? ty).map (·.size) = some n) (hn : off + n ≤ cs.length)
    (h : wpListIn Fe nn Pr ops Q rest (a.put o.dst (.agg vs.toArray)) w) : wpListIn Fe nn Pr ops Q (o :: rest) a w :=
  wpListIn_plain hgd fun K hK => by
    refine ⟨fun f _ => hF f, ?_⟩
    rw [Oper.semAt_eq _ _ _ (fun c hc => by rw [ho] at hc; cases hc)]
    unfold execOp
    simp only [ho, hx, Instr.loadAt, Instr.sureAddr, Sem.run_bind, Sem.run_pure, Result.andThen_ok, run_loadVar_mid (P := Pr) w b off ty vs d (hb.range off n hv) hu hd (by rw [hi, ← hv]; congr 1; simp; omega)]
    exact hK _ _ h

theorem wpListIn_storeA {Fe : Fence} {nn : Nat} {Pr : Program} {ops : Array Oper} {rest : List Oper} {o : Oper} {a : Act} {w : World} {Q : Exit → Act → World → Prop} (hF : ∀ f, Fe.fn f) (hgd : o.guard = none) (ty : TypeId) (x y : Operand) (ho : o.op = .store ty x y)
    (b off : Nat) (hx : a.eval x = .pointer (some ⟨b, off, none⟩)) (vs : List Value) (hy : a.eval y = .agg vs.toArray) (e : TypeId) (cs : List Value) (hb : Blk w b e cs)
    (hi : (Pr.info? ty).map (·.size) = some vs.length) (hf : off + vs.length ≤ cs.length) (h1 : ∀ v ∈ vs, v.oneCell' = true)
    (h : ∀ w', Hid (Blk w' b e (over cs off vs)) → Hid (Chg (· = b) w w') → Hid (KeepsOthers w w') → wpListIn Fe nn Pr ops Q rest (a.put o.dst undef) w') : wpListIn Fe nn Pr ops Q (o :: rest) a w :=
  wpListIn_plain hgd fun K hK => by
    have hk : KeepsOthers w (w.setRow b (over cs off vs).toArray) := by
      refine ⟨(Chg.setRow (F := fun x => x = b) (Chg.refl _ w) (.inl rfl) (over cs off vs).toArray).size, fun l o hl ho => ?_⟩
      by_cases hlb : l = b
      · subst hlb
        rw [hb] at hl
        simp only [Option.some.injEq] at hl
        subst hl
        simp [Obj.isCells] at ho
      · exact (Chg.setRow (F := fun x => x = b) (Chg.refl _ w) (.inl rfl) (over cs off vs).toArray).heap hl hlb
    replace h := h _ (hb.row (over cs off vs)) (Chg.setRow (F := fun x => x = b) (Chg.refl _ w) (.inl rfl) _) hk
    refine ⟨fun f _ => hF f, ?_⟩
    rw [Oper.semAt_eq _ _ _ (fun c hc => by rw [ho] at hc; cases hc)]
    unfold execOp
    simp only [ho, hx, hy, Instr.storeAt, Instr.sureAddr, Sem.run_bind, Sem.run_pure, Result.andThen_ok, run_storeVarA w b off ty e cs vs hb hi hf h1]
    exact hK _ _ h

theorem Chg.keeps {w w' : World} (h : Fresh w w') : KeepsOthers w w' := ⟨h.size, fun _ _ hl _ => h.heap hl id⟩
theorem row_ne {w : World} {b : Nat} {e : TypeId} {cs : List Value} {row : Option Nat} (h : Blk w b e cs) (hr : ∀ r, row = some r → ∃ o : Obj, w.heap[r]? = some o ∧ o.isCells = false) : ¬ row = some b := by
  intro hrow
  obtain ⟨o, ho, hc⟩ := hr b hrow
  rw [h] at ho
  simp only [Option.some.injEq] at ho
  subst ho
  simp [Obj.isCells] at hc
theorem own_ne {w : World} {base : Nat} {e : TypeId} {size : Nat} {v : Value} {n : Nat} {xs : List Value} {row : Option Nat} (h : w.ownsRow base e size v n xs) (hr : ∀ r, row = some r → ∃ o : Obj, w.heap[r]? = some o ∧ o.isCells = false) {k : Nat} (hk : v.ownBlock = some k) : ¬ row = some k := by
  intro hrow
  obtain ⟨o, ho, hc⟩ := hr k hrow
  rcases h.2 with ⟨hv, _⟩ | ⟨g, cap, cur, hv, _, hg, _⟩
  · subst hv; cases hk
  · subst hv
    simp only [Value.ownBlock, Option.some.injEq] at hk
    subst hk
    rw [hg] at ho
    simp only [Option.some.injEq] at ho
    subst ho
    simp [Obj.isCells] at hc
theorem Chg.of_grown {w w' : World} {row : Option Nat} (h : w.grownBy w' row) : Chg (fun k => row = some k) w w' := (Chg.refl _ w).grown h fun k hk => .inl hk
end Go.Proofs.YtnmjkgnahhbnoaaGreat

/- slices.Chunk over bytes of one chunk. -/
namespace Go.Proofs.YtnmjkgnahhbnoaaGreat
open Go.RowKit
set_option linter.unusedSimpArgs false
attribute [local go_sem] Oper.semAt_some

set_option maxHeartbeats 400000 in
theorem chunk_any (g : Option Addr) (n c : Nat) (w : World) :
    Calls Tryz.prog 85 #[.slice g n c, .int .i64 400] w fun e w' => e = .returned (.func (.func 115) #[] #[.pointer (some ⟨w.heap.size, 0, none⟩), .pointer (some ⟨w.heap.size + 1, 0, none⟩)]) ∧
      w' = (w.alloc (.cells #[.slice g n c] 23)).alloc (.cells #[.int .i64 400] 3) := by
  go_enter Tryz.func85, Tryz.ntmps85
  go_wp2
  go_ret
  exact ⟨rfl, rfl⟩

/-- What a round keeps: the iterator's two cells. -/
def KeepC (B1 B2 : Nat) (W W' : World) : Prop := ∀ o, W'.cell? ⟨B1, o, none⟩ = W.cell? ⟨B1, o, none⟩ ∧ W'.cell? ⟨B2, o, none⟩ = W.cell? ⟨B2, o, none⟩

set_option maxHeartbeats 1000000 in
theorem chunk_stops (m : Nat) (hm : 1 ≤ m) (B1 B2 g n : Nat) (w : World) (hn : 1 ≤ n ∧ n ≤ 400) (h1 : w.cell? ⟨B1, 0, none⟩ = some (.slice (some ⟨g, 0, none⟩) n n)) (h2 : w.cell? ⟨B2, 0, none⟩ = some (.int .i64 400))
    (l1 : B1 < w.heap.size) (l2 : B2 < w.heap.size) :
    SeqStopsK Fence.wide m Tryz.prog 115 #[.pointer (some ⟨B1, 0, none⟩), .pointer (some ⟨B2, 0, none⟩)] (fun _ : Unit => #[Value.slice (some ⟨g, 0, none⟩) n n]) (KeepC B1 B2) (fun ys => ys = [()]) (fun pre => pre = [()]) 1 w := fun l J Jx W hW hJ _ hY h0 => by
  have c1 := (hW.cell (p := ⟨B1, 0, none⟩) l1).trans h1
  have c2 := (hW.cell (p := ⟨B2, 0, none⟩) l2).trans h2
  clear h1 h2
  have HY := Lib.hid hY
  have HJ := Lib.hid hJ
  clear hY hJ
  refine callsIn_of_wp Tryz.func115 rfl trivial ?_ rfl
  simp only [Tryz.ntmps115, List.size_toArray, List.length_cons, List.length_nil, Nat.reduceAdd, Nat.reduceSub, Array.replicate_succ, Array.replicate_zero, List.push_toArray, List.append_toArray, List.nil_append, List.cons_append]
  gi_wp2
  gi_loopw [4] (fun i wr => ∃ k : Nat, k ≤ 1 ∧ i = .int .i64 (400 * k : Nat) ∧ J (List.replicate k ()) wr ∧ wr.cell? ⟨B1, 0, none⟩ = some (.slice (some ⟨g, 0, none⟩) n n) ∧ wr.cell? ⟨B2, 0, none⟩ = some (.int .i64 400))
    (fun i _ => 400 - (intOf i).toNat)
  case atStart => exact ⟨0, by omega, rfl, h0, c1, c2⟩
  case round =>
    obtain ⟨k, hk, rfl, hj, c1, c2⟩ := hrel
    by_cases hk0 : k = 0
    · subst hk0
      gi_wp2_with fail
      refine wpIn_wide.2 ?_
      have hmin : min (400 : Int) n = n := by omega
      go_quiet (fail)
      have hjd : J [] (wr.drewN nq) := HJ.out [] wr (wr.drewN nq) none hj ⟨rfl, rfl, rfl, Nat.le_refl _, fun _ _ _ => rfl⟩ (fun r e => by cases e)
      have c1d : (wr.drewN nq).cell? ⟨B1, 0, none⟩ = some (.slice (some ⟨g, 0, none⟩) n n) := c1
      have c2d : (wr.drewN nq).cell? ⟨B2, 0, none⟩ = some (.int .i64 400) := c2
      obtain ⟨fn, tmps, assign, body, hy, hR⟩ := HY.out [] () _ hjd (by simp)
      generalize wr.drewN nq = w2 at *
      gi_wp2_with fail
      refine hR.mono ?_
      rintro e W3 (⟨rfl, hJ3, hk3⟩ | ⟨rfl, hJx3⟩)
      · have d1 := (hk3 0).1.trans c1d
        have d2 := (hk3 0).2.trans c2d
        gi_wp2
        go_roundw
        case rel => exact ⟨1, by omega, by go_num, hJ3, d1, d2⟩
        case measure => simp [intOf]
      · gi_wp2
        refine bodyPost_ret (results_none rfl _ _ _) rfl ?_
        exact ⟨⟨_, rfl⟩, .inr ⟨_, rfl, hJx3⟩⟩
    · obtain rfl : k = 1 := by omega
      gi_wp2
      go_end0
      exact ⟨⟨_, rfl⟩, .inl ⟨_, rfl, hj⟩⟩
end Go.Proofs.YtnmjkgnahhbnoaaGreat

/- Walks of container/heap over a pool's frames. -/
namespace Go.Proofs.YtnmjkgnahhbnoaaGreat
open Go.RowKit

theorem run_nilChk (w : World) (xt : TypeId) (a : Addr) (s t : String) : (Builtin.ssaWrapNilChk_ #[xt] xt #[.pointer (some a), strVal s, strVal t]).run Tryz.prog w = .ok (.pointer (some a)) w := rfl
@[go_sem] theorem method_Len (w : World) (a : Addr) (n : Nat) (h : (w.cell? a).isSome = true) : (method (n + 1) 179 (.pointer (some a)) "Len").run Tryz.prog w = .ok (147, (w.cell? a).getD undef) w := by
  obtain ⟨v, hv⟩ := Option.isSome_iff_exists.1 h
  simp [method, Tryz.typeInfo179, Tryz.t179, follow, receiverAt, Place.get, Tryz.runUnderlying179, run_nilChk, loadVar, Tryz.isAgg84, asAddr, load, Sem.run, hv]
@[go_sem] theorem method_Less (w : World) (a : Addr) (n : Nat) (h : (w.cell? a).isSome = true) : (method (n + 1) 179 (.pointer (some a)) "Less").run Tryz.prog w = .ok (148, (w.cell? a).getD undef) w := by
  obtain ⟨v, hv⟩ := Option.isSome_iff_exists.1 h
  simp [method, Tryz.typeInfo179, Tryz.t179, follow, receiverAt, Place.get, Tryz.runUnderlying179, run_nilChk, loadVar, Tryz.isAgg84, asAddr, load, Sem.run, hv]
@[go_sem] theorem method_Swap (w : World) (a : Addr) (n : Nat) (h : (w.cell? a).isSome = true) : (method (n + 1) 179 (.pointer (some a)) "Swap").run Tryz.prog w = .ok (149, (w.cell? a).getD undef) w := by
  obtain ⟨v, hv⟩ := Option.isSome_iff_exists.1 h
  simp [method, Tryz.typeInfo179, Tryz.t179, follow, receiverAt, Place.get, Tryz.runUnderlying179, run_nilChk, loadVar, Tryz.isAgg84, asAddr, load, Sem.run, hv]
@[go_sem] theorem method_Pop (w : World) (a : Addr) (n : Nat) : (method (n + 1) 179 (.pointer (some a)) "Pop").run Tryz.prog w = .ok (150, .pointer (some a)) w := by
  simp [method, Tryz.typeInfo179, Tryz.t179, follow, receiverAt, Place.get, Tryz.runUnderlying179]
@[go_sem] theorem method_Push (w : World) (a : Addr) (n : Nat) : (method (n + 1) 179 (.pointer (some a)) "Push").run Tryz.prog w = .ok (151, .pointer (some a)) w := by
  simp [method, Tryz.typeInfo179, Tryz.t179, follow, receiverAt, Place.get, Tryz.runUnderlying179]

/-- What a frame holds, apart from its place. -/
structure FD where
  no : Nat
  pg : List UInt8
  dirty : Bool
/-- The cells of a frame. -/
def frCells (f : FD) (used at_ : Int) : List Value := (.int .i64 f.no :: bvals f.pg) ++ [.bool f.dirty, .int .i64 used, .int .i64 at_]
/-- The frame in block b stands at place i. -/
def FrAt (w : World) (f : FD) (b i : Nat) : Prop := f.pg.length = 512 ∧ ∃ used : Int, Blk w b 143 (frCells f used i)

structure Frames (w : World) (oa : Option Addr) (cap : Nat) (bs : List Nat) (fd : Nat → FD) : Prop where
  row : w.ownsRow 0 139 1 (.slice oa bs.length cap) bs.length (bs.map fun b => .pointer (some ⟨b, 0, none⟩))
  fr : ∀ (i b : Nat), bs[i]? = some b → FrAt w (fd b) b i

theorem frCells_len {f : FD} (h : f.pg.length = 512) (u a : Int) : (frCells f u a).length = 516 := by simp [frCells, h]
theorem frCells_514 {f : FD} (h : f.pg.length = 512) (u a : Int) : (frCells f u a)[514]? = some (.int .i64 u) := by
  unfold frCells
  rw [List.getElem?_append_right (by simp [h])]; simp [h]
theorem frCells_515 {f : FD} (h : f.pg.length = 512) (u a : Int) : (frCells f u a)[515]? = some (.int .i64 a) := by
  unfold frCells
  rw [List.getElem?_append_right (by simp [h])]; simp [h]
theorem frCells_set515 {f : FD} (h : f.pg.length = 512) (u a a' : Int) : (frCells f u a).set 515 (.int .i64 a') = frCells f u a' := by
  unfold frCells
  rw [List.set_append_right _ _ (by simp [h])]; simp [h]

namespace Frames
variable {w w1 : World} {oa : Option Addr} {cap : Nat} {bs : List Nat} {fd : Nat → FD} {F : Nat → Prop}
theorem at_ (h : Frames w oa cap bs fd) {i b : Nat} (hi : bs[i]? = some b) : ∃ ob, oa = some ⟨ob, 0, none⟩ ∧ w.cell? ⟨ob, i, none⟩ = some (.pointer (some ⟨b, 0, none⟩)) ∧ w.frozen? ⟨ob, i, none⟩ = false ∧
    ∃ u : Int, w.cell? ⟨b, 514, none⟩ = some (.int .i64 u) ∧ w.cell? ⟨b, 515, none⟩ = some (.int .i64 i) ∧ w.frozen? ⟨b, 515, none⟩ = false ∧ b ≠ ob := by
  have hlt : i < bs.length := (List.getElem?_eq_some_iff.1 hi).1
  obtain ⟨hl, u, hb⟩ := h.fr i b hi
  rcases h.row.2 with ⟨_, h0⟩ | ⟨g, cap', cur, hv, _, hg, _⟩
  · omega
  · simp only [Value.slice.injEq] at hv
    obtain ⟨rfl, _, rfl⟩ := hv
    refine ⟨g, rfl, ?_, h.row.frozenAt i, u, ?_, ?_, hb.frozen _, ?_⟩
    · rw [h.row.cellAt i (by omega), List.getElem?_map, hi]; rfl
    · rw [hb.cell, frCells_514 hl]
    · rw [hb.cell, frCells_515 hl]
    · rintro rfl
      rw [hb] at hg; simp at hg
theorem chg (h : Frames w oa cap bs fd) (hc : Chg F w w1) (h1 : ∀ b ∈ bs, ¬ F b) (h2 : ∀ b, oa.map (·.block) = some b → ¬ F b) : Frames w1 oa cap bs fd :=
  ⟨hc.owns h.row (fun k hk => h2 k (by cases oa with | none => simp [Value.ownBlock] at hk | some a => simpa [Value.ownBlock] using hk)), fun i b hi => ⟨(h.fr i b hi).1, by
    obtain ⟨_, u, hb⟩ := h.fr i b hi
    exact ⟨u, hb.chg hc (h1 b (List.mem_of_getElem? hi))⟩⟩⟩
end Frames

set_option maxHeartbeats 400000 in
theorem less_any (oa : Option Addr) (cap : Nat) (bs : List Nat) (fd : Nat → FD) (i j : Nat) (w : World) (h : Frames w oa cap bs fd) (hi : i < bs.length) (hj : j < bs.length) (hn : bs.length ≤ 1000000000) :
    Calls Tryz.prog 148 #[.slice oa bs.length cap, .int .i64 i, .int .i64 j] w fun e w' => (∃ c : Bool, e = .returned (.bool c)) ∧ ∃ m, w' = w.drewN m := by
  obtain ⟨ob, rfl, c1, _, u1, c2, _, _, _⟩ := h.at_ (List.getElem?_eq_getElem hi)
  obtain ⟨ob', he, c3, _, u3, c4, _, _, _⟩ := h.at_ (List.getElem?_eq_getElem hj)
  simp only [Option.some.injEq, Addr.mk.injEq, and_true] at he
  subst he
  generalize bs[i] = fb at *
  generalize bs[j] = gb at *
  clear h
  generalize bs.length = n at *
  have hi' : (i : Int) < n := by omega
  have hj' : (j : Int) < n := by omega
  go_enter Tryz.func148, Tryz.ntmps148
  go_wp2
  go_quiet (fail)
  go_wp2
  go_ret
  exact ⟨⟨_, rfl⟩, _, rfl⟩

theorem Chg.put1 (w : World) (g o : Nat) (v : Value) : Chg (· = g) w (w.setCell ⟨g, o, none⟩ v) :=
  Chg.setCell (F := fun b => b = g) (p := ⟨g, o, none⟩) (Chg.refl _ w) (.inl rfl) v
/-- The blocks that the frames and their order lie in. -/
def FrF (oa : Option Addr) (bs : List Nat) (b : Nat) : Prop := b ∈ bs ∨ oa.map (·.block) = some b
/-- Two places exchanged. -/
def swapL (bs : List Nat) (i j : Nat) : List Nat := (bs.set i (bs.getD j 0)).set j (bs.getD i 0)
@[simp] theorem swapL_length (bs : List Nat) (i j : Nat) : (swapL bs i j).length = bs.length := by simp [swapL]
theorem swapL_get {bs : List Nat} {i j : Nat} (hi : i < bs.length) (hj : j < bs.length) (k : Nat) : (swapL bs i j)[k]? = if k = j then bs[i]? else if k = i then bs[j]? else bs[k]? := by
  unfold swapL
  rw [List.getElem?_set]
  by_cases h1 : j = k
  · subst h1
    rw [if_pos rfl, if_pos rfl]
    simp [hj, List.getElem?_eq_getElem hi]
  · rw [if_neg h1, if_neg (Ne.symm h1), List.getElem?_set]
    by_cases h2 : i = k
    · subst h2
      rw [if_pos rfl, if_pos rfl]
      simp [hi, List.getElem?_eq_getElem hj]
    · rw [if_neg h2, if_neg (Ne.symm h2)]
theorem swapL_mem {bs : List Nat} {i j : Nat} (hi : i < bs.length) (hj : j < bs.length) (b : Nat) : b ∈ swapL bs i j ↔ b ∈ bs := by
  constructor
  · intro h
    obtain ⟨k, hk⟩ := List.mem_iff_getElem?.1 h
    rw [swapL_get hi hj] at hk
    split at hk
    · exact List.mem_of_getElem? hk
    · split at hk
      · exact List.mem_of_getElem? hk
      · exact List.mem_of_getElem? hk
  · intro h
    obtain ⟨k, hk⟩ := List.mem_iff_getElem?.1 h
    by_cases h1 : k = i
    · subst h1
      exact List.mem_of_getElem? (i := j) (by rw [swapL_get hi hj, if_pos rfl]; exact hk)
    · by_cases h2 : k = j
      · subst h2
        by_cases h3 : i = k
        · exact absurd h3.symm h1
        · exact List.mem_of_getElem? (i := i) (by rw [swapL_get hi hj, if_neg h3, if_pos rfl]; exact hk)
      · exact List.mem_of_getElem? (i := k) (by rw [swapL_get hi hj, if_neg h2, if_neg h1]; exact hk)
theorem Frames.inj {w : World} {oa : Option Addr} {cap : Nat} {bs : List Nat} {fd : Nat → FD} (h : Frames w oa cap bs fd) {i j b : Nat} (hi : bs[i]? = some b) (hj : bs[j]? = some b) : i = j := by
  obtain ⟨l1, u1, b1⟩ := h.fr i b hi
  obtain ⟨l2, u2, b2⟩ := h.fr j b hj
  have e1 := b1.cell 515
  have e2 := b2.cell 515
  rw [frCells_515 l1] at e1
  rw [frCells_515 l2, e1] at e2
  simp at e2; omega

set_option maxHeartbeats 400000 in
theorem swap_any (oa : Option Addr) (cap : Nat) (bs : List Nat) (fd : Nat → FD) (i j : Nat) (w : World) (h : Frames w oa cap bs fd) (hi : i < bs.length) (hj : j < bs.length) (hij : i ≠ j) (hn : bs.length ≤ 1000000000) :
    Calls Tryz.prog 149 #[.slice oa bs.length cap, .int .i64 i, .int .i64 j] w fun e w' => e = .returned (.tuple #[]) ∧ Frames w' oa cap (swapL bs i j) fd ∧ Chg (FrF oa bs) w w' := by
  have H := Lib.hid h
  have hbi := List.getElem?_eq_getElem hi
  have hbj := List.getElem?_eq_getElem hj
  obtain ⟨ob, rfl, c1, z1, u1, c2, c2', z2, n1⟩ := h.at_ hbi
  obtain ⟨ob', he, c3, z3, u3, c4, c4', z4, n3⟩ := h.at_ hbj
  simp only [Option.some.injEq, Addr.mk.injEq, and_true] at he
  subst he
  have hne : bs[i] ≠ bs[j] := fun e => hij (h.inj hbi (by rw [hbj, e]))
  have HBI := Lib.hid hbi
  have HBJ := Lib.hid hbj
  have hni := n1.symm
  have hnj := n3.symm
  have hji := Ne.symm hij
  have hne' := Ne.symm hne
  generalize bs[i] = fb at *
  generalize bs[j] = gb at *
  clear h hbi hbj c2 c4
  have hi' : (i : Int) < bs.length := by omega
  have hj' : (j : Int) < bs.length := by omega
  go_enter Tryz.func149, Tryz.ntmps149
  go_wp2
  go_region
  have d1 : ((w.setCell ⟨ob, i, none⟩ (.pointer (some ⟨gb, 0, none⟩))).setCell ⟨ob, j, none⟩ (.pointer (some ⟨fb, 0, none⟩))).drew.cell? ⟨ob, i, none⟩ = some (.pointer (some ⟨gb, 0, none⟩)) := by simp [go_sem, *]
  have d2 : ((w.setCell ⟨ob, i, none⟩ (.pointer (some ⟨gb, 0, none⟩))).setCell ⟨ob, j, none⟩ (.pointer (some ⟨fb, 0, none⟩))).drew.cell? ⟨ob, j, none⟩ = some (.pointer (some ⟨fb, 0, none⟩)) := by simp [go_sem, *]
  have d3 : ((w.setCell ⟨ob, i, none⟩ (.pointer (some ⟨gb, 0, none⟩))).setCell ⟨ob, j, none⟩ (.pointer (some ⟨fb, 0, none⟩))).drew.cell? ⟨gb, 515, none⟩ = some (.int .i64 j) := by simp [go_sem, *]
  have d4 : ((w.setCell ⟨ob, i, none⟩ (.pointer (some ⟨gb, 0, none⟩))).setCell ⟨ob, j, none⟩ (.pointer (some ⟨fb, 0, none⟩))).drew.cell? ⟨fb, 515, none⟩ = some (.int .i64 i) := by simp [go_sem, *]
  have y3 : ((w.setCell ⟨ob, i, none⟩ (.pointer (some ⟨gb, 0, none⟩))).setCell ⟨ob, j, none⟩ (.pointer (some ⟨fb, 0, none⟩))).drew.frozen? ⟨gb, 515, none⟩ = false := by simp [go_sem, *]
  have y4 : ((w.setCell ⟨ob, i, none⟩ (.pointer (some ⟨gb, 0, none⟩))).setCell ⟨ob, j, none⟩ (.pointer (some ⟨fb, 0, none⟩))).drew.frozen? ⟨fb, 515, none⟩ = false := by simp [go_sem, *]
  have HC1 : Hid (Chg (· = ob) w ((w.setCell ⟨ob, i, none⟩ (.pointer (some ⟨gb, 0, none⟩))).setCell ⟨ob, j, none⟩ (.pointer (some ⟨fb, 0, none⟩))).drew) :=
    ((Chg.put1 w ob i _).trans (Chg.put1 _ ob j _) (fun _ _ h => h)).drew
  have HR1 : Hid (((w.setCell ⟨ob, i, none⟩ (.pointer (some ⟨gb, 0, none⟩))).setCell ⟨ob, j, none⟩ (.pointer (some ⟨fb, 0, none⟩))).drew.ownsRow 0 139 1 (.slice (some ⟨ob, 0, none⟩) bs.length cap) bs.length ((swapL bs i j).map fun b => .pointer (some ⟨b, 0, none⟩))) := by
    have h1 := ((H.out.row.stored i (.pointer (some ⟨gb, 0, none⟩))).1.stored j (.pointer (some ⟨fb, 0, none⟩))).1
    have h2 : (swapL bs i j).map (fun b => Value.pointer (some ⟨b, 0, none⟩)) = ((bs.map fun b => Value.pointer (some ⟨b, 0, none⟩)).set i (.pointer (some ⟨gb, 0, none⟩))).set j (.pointer (some ⟨fb, 0, none⟩)) := by
      unfold swapL
      rw [List.getD_eq_getElem?_getD, List.getD_eq_getElem?_getD, HBI.out, HBJ.out]
      simp
    rw [h2]
    exact h1
  clear c1 z1 c2' z2 c3 z3 c4' z4
  generalize ((w.setCell ⟨ob, i, none⟩ (.pointer (some ⟨gb, 0, none⟩))).setCell ⟨ob, j, none⟩ (.pointer (some ⟨fb, 0, none⟩))).drew = w1 at *
  go_wp2
  go_region
  go_wp2
  go_end0
  refine ⟨rfl, ?_, ?_⟩
  · have hc2 : Chg (fun b => b = gb ∨ b = fb) w1 ((w1.setCell ⟨gb, 515, none⟩ (.int .i64 i)).setCell ⟨fb, 515, none⟩ (.int .i64 j)).drew :=
      (((Chg.refl _ w1).setCell (.inl (.inl rfl)) _).setCell (.inl (.inr rfl)) _).drew
    obtain ⟨lf, uf, bf⟩ := H.out.fr i fb HBI.out
    obtain ⟨lg, ug, bg⟩ := H.out.fr j gb HBJ.out
    have bf1 := bf.chg HC1.out (fun e => n1 e)
    have bg1 := bg.chg HC1.out (fun e => n3 e)
    have bg2 : Blk ((w1.setCell ⟨gb, 515, none⟩ (.int .i64 i)).setCell ⟨fb, 515, none⟩ (.int .i64 j)).drew gb 143 (frCells (fd gb) ug i) := by
      have := (bg1.set 515 (.int .i64 i)).setOther (p := ⟨fb, 515, none⟩) hne' (.int .i64 j)
      rw [frCells_set515 lg] at this; exact this
    have bf2 : Blk ((w1.setCell ⟨gb, 515, none⟩ (.int .i64 i)).setCell ⟨fb, 515, none⟩ (.int .i64 j)).drew fb 143 (frCells (fd fb) uf j) := by
      have := (bf1.setOther (p := ⟨gb, 515, none⟩) hne (.int .i64 i)).set 515 (.int .i64 j)
      rw [frCells_set515 lf] at this; exact this
    refine ⟨?_, fun k b hk => ?_⟩
    · rw [swapL_length]
      refine hc2.owns HR1.out (fun b hb => ?_)
      simp only [Value.ownBlock, Option.some.injEq] at hb
      subst hb
      rintro (e | e)
      · exact hnj e
      · exact hni e
    · rw [swapL_get hi hj] at hk
      by_cases h1 : k = j
      · rw [if_pos h1, HBI.out] at hk
        simp only [Option.some.injEq] at hk
        subst hk; subst h1
        exact ⟨lf, uf, bf2⟩
      · rw [if_neg h1] at hk
        by_cases h2 : k = i
        · rw [if_pos h2, HBJ.out] at hk
          simp only [Option.some.injEq] at hk
          subst hk; subst h2
          exact ⟨lg, ug, bg2⟩
        · rw [if_neg h2] at hk
          obtain ⟨lb, ub, bb⟩ := H.out.fr k b hk
          obtain ⟨ob', he, _, _, _, _, _, _, nb⟩ := H.out.at_ hk
          simp only [Option.some.injEq, Addr.mk.injEq, and_true] at he
          subst he
          refine ⟨lb, ub, (bb.chg HC1.out (fun e => nb e)).chg hc2 ?_⟩
          rintro (e | e)
          · subst e; exact h1 (H.out.inj hk HBJ.out)
          · subst e; exact h2 (H.out.inj hk HBI.out)
  · refine ((HC1.out.mono (G := FrF (some ⟨ob, 0, none⟩) bs) (fun b _ e => .inr (by rw [e]; rfl))).setCell (.inl (.inl (List.mem_of_getElem? HBJ.out))) _).setCell (.inl (.inl (List.mem_of_getElem? HBI.out))) _ |>.drew

/-- What the heap's functions leave: the same frames, in some order. -/
def FrTo (oa : Option Addr) (cap : Nat) (bs : List Nat) (fd : Nat → FD) (w w' : World) (bs' : List Nat) : Prop :=
  bs'.length = bs.length ∧ (∀ b, b ∈ bs' ↔ b ∈ bs) ∧ Frames w' oa cap bs' fd ∧ Chg (FrF oa bs) w w'
def FrPost (oa : Option Addr) (cap : Nat) (bs : List Nat) (fd : Nat → FD) (w : World) (e : Ending) (w' : World) : Prop :=
  (∃ v, e = .returned v) ∧ ∃ bs', FrTo oa cap bs fd w w' bs'
theorem FrTo.refl {oa : Option Addr} {cap : Nat} {bs : List Nat} {fd : Nat → FD} {w : World} (h : Frames w oa cap bs fd) : FrTo oa cap bs fd w w bs := ⟨rfl, fun _ => Iff.rfl, h, Chg.refl _ _⟩
theorem FrF.of {oa : Option Addr} {bs bs' : List Nat} (h : ∀ b, b ∈ bs' ↔ b ∈ bs) {b : Nat} (hb : FrF oa bs' b) : FrF oa bs b := hb.imp (h b).1 id
theorem FrTo.drewN {oa : Option Addr} {cap : Nat} {bs bs' : List Nat} {fd : Nat → FD} {w w' : World} (h : FrTo oa cap bs fd w w' bs') (m : Nat) : FrTo oa cap bs fd w (w'.drewN m) bs' :=
  ⟨h.1, h.2.1, ⟨h.2.2.1.row, h.2.2.1.fr⟩, h.2.2.2.drewN m⟩
theorem FrTo.swap {oa : Option Addr} {cap : Nat} {bs bs' : List Nat} {fd : Nat → FD} {w w1 w2 : World} (h : FrTo oa cap bs fd w w1 bs') {i j : Nat} (hi : i < bs'.length) (hj : j < bs'.length)
    (h2 : Frames w2 oa cap (swapL bs' i j) fd) (hc : Chg (FrF oa bs') w1 w2) : FrTo oa cap bs fd w w2 (swapL bs' i j) :=
  ⟨by rw [swapL_length]; exact h.1, fun b => (swapL_mem hi hj b).trans (h.2.1 b), h2, h.2.2.2.trans hc (fun b _ hb => hb.of h.2.1)⟩

set_option maxRecDepth 100000 in
set_option maxHeartbeats 1000000 in
theorem up_any (p : Nat) (oa : Option Addr) (cap : Nat) (bs : List Nat) (fd : Nat → FD) (j : Nat) (w : World) (h : Frames w oa cap bs fd) (hc : w.cell? ⟨p, 3, none⟩ = some (.slice oa bs.length cap)) (hp : ¬ FrF oa bs p) (hj : j < bs.length) (hn : bs.length ≤ 1000000000) :
    Calls Tryz.prog 126 #[.iface 179 (.pointer (some ⟨p, 3, none⟩)), .int .i64 j] w (FrPost oa cap bs fd w) := by
  have H0 := Lib.hid h
  have HP := Lib.hid hp
  clear h hp
  go_enter Tryz.func126, Tryz.ntmps126
  go_wp2
  go_loopw [1] (fun v wr => ∃ (k : Nat) (bs' : List Nat), k < bs.length ∧ v = .int .i64 k ∧ Hid (FrTo oa cap bs fd w wr bs') ∧ wr.cell? ⟨p, 3, none⟩ = some (.slice oa bs.length cap)) (fun v _ => (intOf v).toNat)
  case atStart => exact ⟨j, bs, hj, rfl, FrTo.refl H0.out, hc⟩
  case round =>
    clear H0 hc
    obtain ⟨k, bs', hk, rfl, H, hc⟩ := hrel
    have hlen : Hid (bs'.length = bs.length) := H.out.1
    by_cases hk0 : k = 0
    · subst hk0
      go_wp2
      go_end0
      exact ⟨⟨_, rfl⟩, bs', H.out⟩
    · obtain ⟨q, hq, hqk⟩ : ∃ q : Nat, ((k : Int) - 1) / 2 = (q : Int) ∧ q < k := ⟨(k - 1) / 2, by omega, by omega⟩
      have hne : ((q : Int) == (k : Int)) = false := by rw [beq_eq_false_iff_ne]; omega
      go_wp2_with fail
      rw [show bs.length = bs'.length from hlen.out.symm]
      refine (less_any oa cap bs' fd k q _ H.out.2.2.1 (by have := hlen.out; omega) (by have := hlen.out; omega) (by have := hlen.out; omega)).mono ?_
      rintro e w2 ⟨⟨c, rfl⟩, m, rfl⟩
      have HD := Lib.hid (H.out.drewN m)
      have hcd : (wr.drewN m).cell? ⟨p, 3, none⟩ = some (.slice oa bs.length cap) := hc
      clear hc H
      generalize wr.drewN m = w2 at *
      cases c with
      | false =>
        go_wp2
        go_end0
        exact ⟨⟨_, rfl⟩, bs', HD.out⟩
      | true =>
        go_wp2_with fail
        rw [show bs.length = bs'.length from hlen.out.symm]
        refine (swap_any oa cap bs' fd q k _ HD.out.2.2.1 (by have := hlen.out; omega) (by have := hlen.out; omega) (by omega) (by have := hlen.out; omega)).mono ?_
        rintro e w3 ⟨rfl, h3, hc3⟩
        have H3 := Lib.hid (HD.out.swap (by have := hlen.out; omega) (by have := hlen.out; omega) h3 hc3)
        have hc4 := hc3.cell hcd (fun hf => HP.out (hf.of HD.out.2.1))
        clear h3 hc3 hcd HD
        go_wp2
        go_roundw
        case rel => exact ⟨q, _, by omega, rfl, H3, hc4⟩
        case measure => simp [intOf]; omega
def DownPost (oa : Option Addr) (cap : Nat) (bs : List Nat) (fd : Nat → FD) (w : World) (e : Ending) (w' : World) : Prop :=
  (∃ c : Bool, e = .returned (.bool c)) ∧ ∃ bs', FrTo oa cap bs fd w w' bs'

set_option maxRecDepth 100000 in
set_option maxHeartbeats 2000000 in
theorem down_any (p : Nat) (oa : Option Addr) (cap : Nat) (bs : List Nat) (fd : Nat → FD) (i0 n : Nat) (w : World) (h : Frames w oa cap bs fd) (hc : w.cell? ⟨p, 3, none⟩ = some (.slice oa bs.length cap)) (hp : ¬ FrF oa bs p) (hi : i0 ≤ bs.length) (hnl : n ≤ bs.length) (hn : bs.length ≤ 1000000000) :
    Calls Tryz.prog 125 #[.iface 179 (.pointer (some ⟨p, 3, none⟩)), .int .i64 i0, .int .i64 n] w (DownPost oa cap bs fd w) := by
  have H0 := Lib.hid h
  have HP := Lib.hid hp
  clear h hp
  go_enter Tryz.func125, Tryz.ntmps125
  go_wp2
  go_loopw [7] (fun v wr => ∃ (k : Nat) (bs' : List Nat), k ≤ bs.length ∧ v = .int .i64 k ∧ Hid (FrTo oa cap bs fd w wr bs') ∧ wr.cell? ⟨p, 3, none⟩ = some (.slice oa bs.length cap)) (fun v _ => bs.length - (intOf v).toNat)
  case atStart => exact ⟨i0, bs, hi, rfl, FrTo.refl H0.out, hc⟩
  case round =>
    clear H0 hc
    obtain ⟨k, bs', hk, rfl, H, hc⟩ := hrel
    have hlen : Hid (bs'.length = bs.length) := H.out.1
    obtain ⟨j1, h1, h1'⟩ : ∃ j1 : Nat, 2 * (k : Int) + 1 = (j1 : Int) ∧ k + k < j1 := ⟨2 * k + 1, by omega, by omega⟩
    by_cases hj1 : j1 < n
    · obtain ⟨j2, h2, h2'⟩ : ∃ j2 : Nat, (j1 : Int) + 1 = (j2 : Int) ∧ j1 < j2 := ⟨j1 + 1, by omega, by omega⟩
      by_cases hj2 : j2 < n
      · go_wp2_with fail
        rw [show bs.length = bs'.length from hlen.out.symm]
        refine (less_any oa cap bs' fd j2 j1 _ H.out.2.2.1 (by have := hlen.out; omega) (by have := hlen.out; omega) (by have := hlen.out; omega)).mono ?_
        rintro e w1 ⟨⟨c, rfl⟩, m, rfl⟩
        have HD := Lib.hid (H.out.drewN m)
        have hcd : (wr.drewN m).cell? ⟨p, 3, none⟩ = some (.slice oa bs.length cap) := hc
        clear hc H
        generalize wr.drewN m = w1 at *
        cases c with
        | true =>
          go_wp2_with fail
          rw [show bs.length = bs'.length from hlen.out.symm]
          refine (less_any oa cap bs' fd j2 k _ HD.out.2.2.1 (by have := hlen.out; omega) (by have := hlen.out; omega) (by have := hlen.out; omega)).mono ?_
          rintro e w2 ⟨⟨c, rfl⟩, m, rfl⟩
          have HE := Lib.hid (HD.out.drewN m)
          have hce : (w1.drewN m).cell? ⟨p, 3, none⟩ = some (.slice oa bs.length cap) := hcd
          clear hcd HD
          generalize w1.drewN m = w2 at *
          cases c with
          | false =>
            go_wp2
            go_ret
            exact ⟨⟨_, rfl⟩, bs', HE.out⟩
          | true =>
            go_wp2_with fail
            rw [show bs.length = bs'.length from hlen.out.symm]
            refine (swap_any oa cap bs' fd k j2 _ HE.out.2.2.1 (by have := hlen.out; omega) (by have := hlen.out; omega) (by omega) (by have := hlen.out; omega)).mono ?_
            rintro e w3 ⟨rfl, h3, hc3⟩
            have H3 := Lib.hid (HE.out.swap (by have := hlen.out; omega) (by have := hlen.out; omega) h3 hc3)
            have hc4 := hc3.cell hce (fun hf => HP.out (hf.of HE.out.2.1))
            clear h3 hc3 hce HE
            go_wp2
            go_roundw
            case rel => exact ⟨j2, _, by omega, rfl, H3, hc4⟩
            case measure => simp [intOf]; omega
        | false =>
          go_wp2_with fail
          rw [show bs.length = bs'.length from hlen.out.symm]
          refine (less_any oa cap bs' fd j1 k _ HD.out.2.2.1 (by have := hlen.out; omega) (by have := hlen.out; omega) (by have := hlen.out; omega)).mono ?_
          rintro e w2 ⟨⟨c, rfl⟩, m, rfl⟩
          have HE := Lib.hid (HD.out.drewN m)
          have hce : (w1.drewN m).cell? ⟨p, 3, none⟩ = some (.slice oa bs.length cap) := hcd
          clear hcd HD
          generalize w1.drewN m = w2 at *
          cases c with
          | false =>
            go_wp2
            go_ret
            exact ⟨⟨_, rfl⟩, bs', HE.out⟩
          | true =>
            go_wp2_with fail
            rw [show bs.length = bs'.length from hlen.out.symm]
            refine (swap_any oa cap bs' fd k j1 _ HE.out.2.2.1 (by have := hlen.out; omega) (by have := hlen.out; omega) (by omega) (by have := hlen.out; omega)).mono ?_
            rintro e w3 ⟨rfl, h3, hc3⟩
            have H3 := Lib.hid (HE.out.swap (by have := hlen.out; omega) (by have := hlen.out; omega) h3 hc3)
            have hc4 := hc3.cell hce (fun hf => HP.out (hf.of HE.out.2.1))
            clear h3 hc3 hce HE
            go_wp2
            go_roundw
            case rel => exact ⟨j1, _, by omega, rfl, H3, hc4⟩
            case measure => simp [intOf]; omega
      · obtain ⟨w1, rfl⟩ : ∃ w1, w1 = wr := ⟨_, rfl⟩
        have HD := H
        have hcd := hc
        clear H hc
        go_wp2_with fail
        rw [show bs.length = bs'.length from hlen.out.symm]
        refine (less_any oa cap bs' fd j1 k _ HD.out.2.2.1 (by have := hlen.out; omega) (by have := hlen.out; omega) (by have := hlen.out; omega)).mono ?_
        rintro e w2 ⟨⟨c, rfl⟩, m, rfl⟩
        have HE := Lib.hid (HD.out.drewN m)
        have hce : (w1.drewN m).cell? ⟨p, 3, none⟩ = some (.slice oa bs.length cap) := hcd
        clear hcd HD
        generalize w1.drewN m = w2 at *
        cases c with
        | false =>
          go_wp2
          go_ret
          exact ⟨⟨_, rfl⟩, bs', HE.out⟩
        | true =>
          go_wp2_with fail
          rw [show bs.length = bs'.length from hlen.out.symm]
          refine (swap_any oa cap bs' fd k j1 _ HE.out.2.2.1 (by have := hlen.out; omega) (by have := hlen.out; omega) (by omega) (by have := hlen.out; omega)).mono ?_
          rintro e w3 ⟨rfl, h3, hc3⟩
          have H3 := Lib.hid (HE.out.swap (by have := hlen.out; omega) (by have := hlen.out; omega) h3 hc3)
          have hc4 := hc3.cell hce (fun hf => HP.out (hf.of HE.out.2.1))
          clear h3 hc3 hce HE
          go_wp2
          go_roundw
          case rel => exact ⟨j1, _, by omega, rfl, H3, hc4⟩
          case measure => simp [intOf]; omega
    · go_wp2
      go_ret
      exact ⟨⟨_, rfl⟩, bs', H.out⟩
end Go.Proofs.YtnmjkgnahhbnoaaGreat
