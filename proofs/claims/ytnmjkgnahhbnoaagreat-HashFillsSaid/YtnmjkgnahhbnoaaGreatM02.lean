/- Part 2 of the walks that the laws of package hash share (Maps, Disk1, Wal1). -/
import Derived.Test.YtnmjkgnahhbnoaaGreatM01
import Derived.StillTailTactics
import Derived.WalkSpells
import Derived.BigQuiet
import Derived.Deep.RegionHeld3
set_option linter.unusedVariables false
set_option linter.unusedSimpArgs false
/- Maps whose keys are ints: what look-up, store and delete do, in plain words. -/
namespace Go.Proofs.YtnmjkgnahhbnoaaGreat
open Go.RowKit

/-- An entry's key, an int. -/
def keyI (e : MapEntry) : Int := match e.key with | .int _ a => a | _ => 0
/-- All keys are ints. -/
def KeysI (es : List MapEntry) : Prop := ∀ e ∈ es, e.key = .int .i64 (keyI e)
/-- No key twice. -/
def KeysD : List MapEntry → Prop
  | [] => True
  | e :: es => (∀ x ∈ es, keyI x ≠ keyI e) ∧ KeysD es
/-- What stands under a key. -/
def mget (k : Int) : List MapEntry → Option Value
  | [] => none
  | e :: es => if keyI e = k then some e.val else mget k es
/-- Where a key stands. -/
def midx (k : Int) : List MapEntry → Nat
  | [] => 0
  | e :: es => if keyI e = k then 0 else midx k es + 1

theorem findNow_int (k : Int) : ∀ (es : List MapEntry) (i : Nat), KeysI es →
    Instr.findNow (.int .i64) (.int .i64 k) es i = some ((mget k es).map fun v => (i + midx k es, v))
  | [], i, _ => by simp [Instr.findNow, mget]
  | e :: es, i, h => by
    have he := h e (List.mem_cons_self ..)
    have ih := findNow_int k es (i + 1) (fun x hx => h x (List.mem_cons_of_mem _ hx))
    unfold Instr.findNow
    rw [he]
    by_cases hk : keyI e = k
    · subst hk
      simp [Instr.sameNow, mget, midx]
    · simp [Instr.sameNow, mget, midx, hk, ih, show (k == keyI e) = false from by simpa using fun h => hk h.symm]
      cases mget k es with
      | none => rfl
      | some v => simp; omega

theorem mget_midx (k : Int) : ∀ (es : List MapEntry) (v : Value), mget k es = some v → ∃ e, es[midx k es]? = some e ∧ keyI e = k ∧ e.val = v
  | [], v, h => by simp [mget] at h
  | e :: es, v, h => by
    unfold mget at h
    unfold midx
    by_cases hk : keyI e = k
    · rw [if_pos hk] at h ⊢; simp at h; exact ⟨e, by simp, hk, h⟩
    · rw [if_neg hk] at h ⊢
      obtain ⟨x, h1, h2, h3⟩ := mget_midx k es v h
      exact ⟨x, by simpa using h1, h2, h3⟩
theorem mget_none (k : Int) : ∀ (es : List MapEntry), mget k es = none → ∀ e ∈ es, keyI e ≠ k
  | [], _, _, h => by simp at h
  | e :: es, h, x, hx => by
    unfold mget at h
    by_cases hk : keyI e = k
    · rw [if_pos hk] at h; cases h
    · rw [if_neg hk] at h
      rcases List.mem_cons.1 hx with rfl | hx
      · exact hk
      · exact mget_none k es h x hx

/-- A new value under a key that stands there. -/
theorem mget_modify (k : Int) (v : Value) : ∀ (es : List MapEntry) (u : Value), mget k es = some u → ∀ (k' : Int),
    mget k' (es.modify (midx k es) fun e => { e with key := .int .i64 k, val := v }) = if k' = k then some v else mget k' es
  | [], u, h, _ => by simp [mget] at h
  | e :: es, u, h, k' => by
    unfold mget at h
    unfold midx
    by_cases hk : keyI e = k
    · rw [if_pos hk]
      have hkk : keyI { e with key := .int .i64 k, val := v } = k := rfl
      simp only [List.modify_cons, if_true, mget, hkk]
      by_cases h' : k = k'
      · subst h'; simp
      · rw [if_neg h', if_neg (Ne.symm h'), if_neg (by rw [hk]; exact h')]
    · rw [if_neg hk] at h ⊢
      have ih := mget_modify k v es u h k'
      simp only [List.modify_cons, Nat.add_eq_zero_iff, Nat.one_ne_zero, and_false, if_false, Nat.add_sub_cancel, mget, ih]
      by_cases h' : keyI e = k'
      · rw [if_pos h', if_pos h', if_neg (by rw [← h']; exact hk)]
      · rw [if_neg h', if_neg h']
theorem keysI_modify {es : List MapEntry} (h : KeysI es) (i : Nat) (k : Int) (v : Value) : KeysI (es.modify i fun e => { e with key := .int .i64 k, val := v }) := by
  intro e he
  obtain ⟨j, hj, rfl⟩ := List.mem_iff_getElem.1 he
  rw [List.getElem_modify]
  split
  · rfl
  · exact h _ (List.getElem_mem _)
theorem keysD_modify (k : Int) (v : Value) : ∀ (es : List MapEntry) (u : Value), mget k es = some u → KeysD es → KeysD (es.modify (midx k es) fun e => { e with key := .int .i64 k, val := v })
  | [], u, h, _ => by simp [mget] at h
  | e :: es, u, h, hd => by
    unfold mget at h
    unfold midx
    by_cases hk : keyI e = k
    · rw [if_pos hk]
      simp only [List.modify_cons, if_true]
      exact ⟨fun x hx => by have := hd.1 x hx; simp [keyI] at this ⊢; rw [← hk]; exact this, hd.2⟩
    · rw [if_neg hk] at h ⊢
      simp only [List.modify_cons, Nat.add_eq_zero_iff, Nat.one_ne_zero, and_false, if_false, Nat.add_sub_cancel]
      refine ⟨fun x hx => ?_, keysD_modify k v es u h hd.2⟩
      obtain ⟨j, hj, rfl⟩ := List.mem_iff_getElem.1 hx
      rw [List.getElem_modify]
      split
      · simp only [keyI]; exact fun h => hk h.symm
      · exact hd.1 _ (List.getElem_mem _)

theorem mget_append (k : Int) (a b : List MapEntry) : mget k (a ++ b) = (mget k a).or (mget k b) := by
  induction a with
  | nil => simp [mget]
  | cons e a ih =>
    simp only [List.cons_append, mget]
    split
    · simp
    · exact ih
theorem keysD_push {es : List MapEntry} (hd : KeysD es) (x : MapEntry) (hx : ∀ e ∈ es, keyI e ≠ keyI x) : KeysD (es ++ [x]) := by
  induction es with
  | nil => exact ⟨by simp, trivial⟩
  | cons e es ih =>
    refine ⟨fun y hy => ?_, ih hd.2 (fun e he => hx e (List.mem_cons_of_mem _ he))⟩
    rcases List.mem_append.1 hy with hy | hy
    · exact hd.1 y hy
    · simp at hy; subst hy; exact fun h => hx e (List.mem_cons_self ..) h.symm

theorem mget_erase (k : Int) : ∀ (es : List MapEntry) (u : Value), mget k es = some u → KeysD es → ∀ (k' : Int), mget k' (es.eraseIdx (midx k es)) = if k' = k then none else mget k' es
  | [], u, h, _, _ => by simp [mget] at h
  | e :: es, u, h, hd, k' => by
    unfold mget at h
    unfold midx
    by_cases hk : keyI e = k
    · rw [if_pos hk]
      simp only [List.eraseIdx_cons_zero, mget]
      by_cases h' : k' = k
      · subst h'
        rw [if_pos rfl]
        cases hm : mget k' es with
        | none => rfl
        | some v =>
          obtain ⟨x, h1, h2, _⟩ := mget_midx _ _ _ hm
          have := hd.1 x (List.mem_of_getElem? h1)
          rw [hk] at this; exact absurd h2 this
      · rw [if_neg h', if_neg (by rw [hk]; exact fun h => h' h.symm)]
    · rw [if_neg hk] at h ⊢
      simp only [List.eraseIdx_cons_succ, mget, mget_erase k es u h hd.2 k']
      by_cases h' : keyI e = k'
      · rw [if_pos h', if_pos h', if_neg (by rw [← h']; exact hk)]
      · rw [if_neg h', if_neg h']
theorem keysI_erase {es : List MapEntry} (h : KeysI es) (i : Nat) : KeysI (es.eraseIdx i) := fun e he => h e (List.mem_of_mem_eraseIdx he)
theorem keysD_erase : ∀ {es : List MapEntry} (_ : KeysD es) (i : Nat), KeysD (es.eraseIdx i)
  | [], _, _ => by simp [KeysD]
  | e :: es, h, 0 => h.2
  | e :: es, h, i + 1 => ⟨fun x hx => h.1 x (List.mem_of_mem_eraseIdx hx), keysD_erase h.2 i⟩

/-- Block m is a map from ints, and holds f. -/
def MapI (w : World) (m : Nat) (f : Int → Option Value) : Prop :=
  ∃ (es : List MapEntry) (clock : Nat), w.heap[m]? = some (.map es.toArray clock) ∧ KeysI es ∧ KeysD es ∧ ∀ k, mget k es = f k

theorem MapI.lt {w : World} {m : Nat} {f : Int → Option Value} (h : MapI w m f) : m < w.heap.size := by
  obtain ⟨es, c, h, _⟩ := h; exact (Array.getElem?_eq_some_iff.1 h).1
theorem MapI.chg {w w1 : World} {m : Nat} {f : Int → Option Value} {F : Nat → Prop} (h : MapI w m f) (hc : Chg F w w1) (hf : ¬ F m) : MapI w1 m f := by
  obtain ⟨es, c, h, r⟩ := h; exact ⟨es, c, hc.heap h hf, r⟩
theorem MapI.new (w : World) : MapI (w.alloc (.map #[] 0)) w.heap.size (fun _ => none) :=
  ⟨[], 0, heap_alloc_new w _, fun e he => by simp at he, trivial, fun k => rfl⟩
theorem MapI.blk {w : World} {m b : Nat} {f : Int → Option Value} {e : TypeId} {cs : List Value} (h : MapI w m f) (hb : Blk w b e cs) : m ≠ b := by
  obtain ⟨es, c, h, _⟩ := h
  rintro rfl
  rw [hb] at h; simp at h
theorem MapI.owns {w : World} {m : Nat} {f : Int → Option Value} (h : MapI w m f) {base : Nat} {e : TypeId} {size : Nat} {v : Value} {n : Nat} {xs : List Value} (ho : w.ownsRow base e size v n xs) : ¬ v.ownBlock = some m := by
  obtain ⟨es, c, h, _⟩ := h
  intro hv
  rcases ho.2 with ⟨rfl, _⟩ | ⟨g, cap, cur, rfl, _, hg, _⟩
  · simp [Value.ownBlock] at hv
  · simp only [Value.ownBlock, Option.some.injEq] at hv
    subst hv
    rw [hg] at h; simp at h

section
variable {Pr : Program} {t key elem : TypeId} {w : World} {m : Nat} {f : Int → Option Value}

theorem run_getO {es : Array MapEntry} {c : Nat} (hb : w.heap[m]? = some (.map es c)) : (getObj m).run Pr w = .ok (.map es c) w := by
  simp [getObj, Sem.run, hb]
theorem run_setO {es : Array MapEntry} {c : Nat} (o : Obj) (hb : w.heap[m]? = some (.map es c)) : (setObj m o).run Pr w = .ok () { w with heap := w.heap.setIfInBounds m o } := by
  simp [setObj, Sem.run, hb]
theorem run_checkKeyS (ht : Pr.underlying key = some (.int .i64)) (b : Bool) (k : Int) (n : Nat) (w : World) : (Instr.checkKey b (n + 1) key (.int .i64 k)).run Pr w = .ok () w := by
  unfold Instr.checkKey
  simp [run_underlying ht]
theorem run_checkKeyI (ht : Pr.underlying key = some (.int .i64)) (b : Bool) (k : Int) (w : World) : (Instr.checkKey b 10000 key (.int .i64 k)).run Pr w = .ok () w :=
  run_checkKeyS ht b k 9999 w
theorem run_findKey (ht : Pr.underlying key = some (.int .i64)) (k : Int) {es : List MapEntry} (h : KeysI es) (w : World) :
    (Instr.findKey key (.int .i64 k) es).run Pr w = .ok ((mget k es).map fun v => (midx k es, v)) w := by
  simp [Instr.findKey, run_underlying ht, findNow_int k es 0 h]

theorem run_mapLookupOk (hu : Pr.underlying t = some (.map key elem)) (hk : Pr.underlying key = some (.int .i64)) (z : Value) (hz : ∀ w, (zeroValue elem).run Pr w = .ok z w) (h : MapI w m f) (k : Int) :
    (Instr.lookup t (.map (some m)) (.int .i64 k) true).run Pr w = .ok (.tuple #[(f k).getD z, .bool (f k).isSome]) w := by
  obtain ⟨es, c, hh, hI, hD, hf⟩ := h
  have hc := run_checkKeyI (Pr := Pr) hk es.toArray.isEmpty k w
  have hfk := run_findKey (Pr := Pr) hk k hI w
  rw [hf k] at hfk
  simp only [Instr.lookup, Sem.run_bind, run_underlying hu, Result.andThen_ok, run_getO hh, Sem.run_pure, hc, hfk]
  cases hfv : f k with
  | none => simp [hz]
  | some v => simp
theorem run_mapLookup (hu : Pr.underlying t = some (.map key elem)) (hk : Pr.underlying key = some (.int .i64)) (z : Value) (hz : ∀ w, (zeroValue elem).run Pr w = .ok z w) (h : MapI w m f) (k : Int) :
    (Instr.lookup t (.map (some m)) (.int .i64 k) false).run Pr w = .ok ((f k).getD z) w := by
  obtain ⟨es, c, hh, hI, hD, hf⟩ := h
  have hc := run_checkKeyI (Pr := Pr) hk es.toArray.isEmpty k w
  have hfk := run_findKey (Pr := Pr) hk k hI w
  rw [hf k] at hfk
  simp only [Instr.lookup, Sem.run_bind, run_underlying hu, Result.andThen_ok, run_getO hh, Sem.run_pure, hc, hfk]
  cases hfv : f k with
  | none => simp [hz]
  | some v => simp

/-- A map with a value under a key. -/
def mput (f : Int → Option Value) (k : Int) (v : Value) : Int → Option Value := fun j => if j = k then some v else f j
/-- A map without a key. -/
def mdel (f : Int → Option Value) (k : Int) : Int → Option Value := fun j => if j = k then none else f j

theorem Chg.putObj (w : World) (m : Nat) (o : Obj) : Chg (· = m) w { w with heap := w.heap.setIfInBounds m o } :=
  ⟨rfl, rfl, rfl, by simp, fun k _ hk => by simp [Ne.symm hk]⟩
theorem heap_putObj (w : World) (m : Nat) (o : Obj) (h : m < w.heap.size) : ({ w with heap := w.heap.setIfInBounds m o } : World).heap[m]? = some o := by
  simp [h]

theorem run_mapUpdateI (hu : Pr.underlying t = some (.map key elem)) (hk : Pr.underlying key = some (.int .i64)) (h : MapI w m f) (k : Int) (v : Value) :
    ∃ w', (Instr.mapUpdate t (.map (some m)) (.int .i64 k) v).run Pr w = .ok () w' ∧ MapI w' m (mput f k v) ∧ Chg (· = m) w w' := by
  have hlt := h.lt
  obtain ⟨es, c, hh, hI, hD, hf⟩ := h
  have hc := run_checkKeyI (Pr := Pr) hk false k w
  have hfk := run_findKey (Pr := Pr) hk k hI w
  cases hg : mget k es with
  | none =>
    rw [hg] at hfk
    refine ⟨_, ?_, ⟨es ++ [{ key := .int .i64 k, val := v, born := c }], c + 1, heap_putObj w m _ hlt, ?_, ?_, ?_⟩, Chg.putObj w m _⟩
    · simp only [Instr.mapUpdate, Sem.run_bind, run_underlying hu, Result.andThen_ok, run_getO hh, hc, hfk, Option.map_none, run_setO _ hh, List.push_toArray]
    · intro e he
      rcases List.mem_append.1 he with he | he
      · exact hI e he
      · simp at he; subst he; rfl
    · exact keysD_push hD _ (mget_none k es hg)
    · intro j
      rw [mget_append, hf j]
      have hkk : keyI { key := .int .i64 k, val := v, born := c } = k := rfl
      simp only [mget, hkk, mput]
      by_cases hj : j = k
      · subst hj; rw [if_pos rfl, if_pos rfl, ← hf, hg]; rfl
      · rw [if_neg (Ne.symm hj), if_neg hj]; simp
  | some u =>
    rw [hg] at hfk
    obtain ⟨e0, he0, hk0, _⟩ := mget_midx k es u hg
    have hkey : e0.key = .int .i64 k := by rw [hI e0 (List.mem_of_getElem? he0), hk0]
    have hst : (Instr.keyThatStays (((es.toArray[midx k es]?).map (·.key)).getD (.int .i64 k)) (.int .i64 k)).run Pr w = .ok (.int .i64 k) w := by
      simp [Instr.keyThatStays, he0, hkey, Instr.sameBits]
    refine ⟨_, ?_, ⟨es.modify (midx k es) fun e => { e with key := .int .i64 k, val := v }, c, heap_putObj w m _ hlt, keysI_modify hI _ _ _, keysD_modify k v es u hg hD, ?_⟩, Chg.putObj w m _⟩
    · simp only [Instr.mapUpdate, Sem.run_bind, run_underlying hu, Result.andThen_ok, run_getO hh, hc, hfk, Option.map_some, hst, run_setO _ hh]
      simp
    · intro j
      rw [mget_modify k v es u hg, hf j]; rfl

theorem run_mapDeleteI {t2 : TypeId} (hu : Pr.underlying t = some (.map key elem)) (hk : Pr.underlying key = some (.int .i64)) (h : MapI w m f) (k : Int) (ty : TypeId) :
    ∃ w', (Builtin.delete_ #[t, t2] ty #[.map (some m), .int .i64 k]).run Pr w = .ok (.tuple #[]) w' ∧ MapI w' m (mdel f k) ∧ Chg (· = m) w w' := by
  have hlt := h.lt
  obtain ⟨es, c, hh, hI, hD, hf⟩ := h
  have hc := run_checkKeyI (Pr := Pr) hk es.isEmpty k w
  have hfk := run_findKey (Pr := Pr) hk k hI w
  cases hg : mget k es with
  | none =>
    rw [hg] at hfk
    refine ⟨_, ?_, ⟨es, c, heap_putObj w m _ hlt, hI, hD, ?_⟩, Chg.putObj w m _⟩
    · simp [Builtin.delete_, Sem.run_bind, run_underlying hu, Result.andThen_ok, run_getO hh, hc, hfk, run_setO _ hh]
    · intro j
      rw [hf j]; unfold mdel
      by_cases hj : j = k
      · subst hj; rw [if_pos rfl, ← hf, hg]
      · rw [if_neg hj]
  | some u =>
    rw [hg] at hfk
    refine ⟨_, ?_, ⟨es.eraseIdx (midx k es), c, heap_putObj w m _ hlt, keysI_erase hI _, keysD_erase hD _, ?_⟩, Chg.putObj w m _⟩
    · simp [Builtin.delete_, Sem.run_bind, run_underlying hu, Result.andThen_ok, run_getO hh, hc, hfk, run_setO _ hh]
    · intro j
      rw [mget_erase k es u hg hD, hf j]; rfl

variable {ops : Array Oper} {rest : List Oper} {o : Oper} {a : Act} {Q : Exit → Act → World → Prop}
/-- 'm[k] = v'. -/
theorem wpList_mapUpdateI (hgd : o.guard = none) (t : TypeId) (mo ko vo : Operand) (ho : o.op = .mapUpdate t mo ko vo) (m : Nat) (k : Int) (v : Value)
    (hm : a.eval mo = .map (some m)) (hko : a.eval ko = .int .i64 k) (hv : a.eval vo = v) {key elem : TypeId} (hu : Pr.underlying t = some (.map key elem)) (hk : Pr.underlying key = some (.int .i64))
    (f : Int → Option Value) (hf : MapI w m f)
    (h : ∀ w', Hid (MapI w' m (mput f k v)) → Hid (Chg (· = m) w w') → wpList Pr ops Q rest (a.put o.dst undef) w') : wpList Pr ops Q (o :: rest) a w := by
  obtain ⟨w', hr, h1, h2⟩ := run_mapUpdateI (Pr := Pr) hu hk hf k v
  refine wpList_plain hgd fun K hK => ?_
  unfold Oper.wp execOp
  simp only [ho, hm, hko, hv, Sem.run_bind, hr, Result.andThen_ok]
  exact hK _ _ (h w' h1 h2)
/-- 'delete(m, k)'. -/
theorem wpList_mapDeleteI (hgd : o.guard = none) (t t2 : TypeId) (mo ko : Operand) (ho : o.op = .call { callee := .builtin .delete, args := #[mo, ko], argTypes := #[t, t2] }) (m : Nat) (k : Int)
    (hm : a.eval mo = .map (some m)) (hko : a.eval ko = .int .i64 k) {key elem : TypeId} (hu : Pr.underlying t = some (.map key elem)) (hk : Pr.underlying key = some (.int .i64))
    (f : Int → Option Value) (hf : MapI w m f)
    (h : ∀ w', Hid (MapI w' m (mdel f k)) → Hid (Chg (· = m) w w') → wpList Pr ops Q rest (a.put o.dst (.tuple #[])) w') : wpList Pr ops Q (o :: rest) a w := by
  obtain ⟨w', hr, h1, h2⟩ := run_mapDeleteI (Pr := Pr) (t2 := t2) hu hk hf k o.type
  refine wpList_plain hgd fun K hK => ?_
  unfold Oper.wp execOp
  simp only [ho, resolve, invoke, builtin, List.map_toArray, List.map_cons, List.map_nil, hm, hko, Sem.run_bind, Sem.run_pure, hr, Result.andThen_ok]
  exact hK _ _ (h w' h1 h2)

theorem wpStill_take {Q : Act → Prop} (hgd : o.guard = none) (v : Value) (hr : (execOp a.eval o).run Pr w = .ok (.value v) w) (h : wpStill Pr ops w Q rest (a.put o.dst v)) : wpStill Pr ops w Q (o :: rest) a := by
  refine wpStill_step fun K hK => ?_
  simp only [Region.wanted, hgd, if_true]
  unfold Oper.still
  rw [hr, Oper.stillUpon_value]
  exact hK _ h
theorem wpStill_loadA {Q : Act → Prop} (hgd : o.guard = none) (ty : TypeId) (x : Operand) (ho : o.op = .load ty x) (b off : Nat) (hx : a.eval x = .pointer (some ⟨b, off, none⟩)) (e : TypeId) (cs : List Value) (hb : Blk w b e cs) (n : Nat) (vs : List Value)
    (hv : (cs.drop off).take n = vs) (d : TypeDesc) (hu : Pr.underlying ty = some d) (hd : d.isRow = true) (hi : (Pr.info? ty).map (·.size) = some n) (hn : off + n ≤ cs.length)
    (h : wpStill Pr ops w Q rest (a.put o.dst (.agg vs.toArray))) : wpStill Pr ops w Q (o :: rest) a := by
  refine wpStill_take hgd _ ?_ h
  unfold execOp
  simp only [ho, hx, Sem.run_bind, run_loadAt_mid (P := Pr) w b off ty vs d (hb.range off n hv) hu hd (by rw [hi, ← hv]; congr 1; simp; omega), Result.andThen_ok, Sem.run_pure]
end
end Go.Proofs.YtnmjkgnahhbnoaaGreat

/- Walks of package disk: what a disk is in memory; New, Size, may, Read. -/
namespace Go.Proofs.YtnmjkgnahhbnoaaGreat
open Go.RowKit

/-- A sector of noughts. -/
def zsec : List UInt8 := List.replicate 64 0
@[simp] theorem zsec_length : zsec.length = 64 := List.length_replicate
theorem zeroSec (w : World) : (zeroValue 131).run Tryz.prog w = .ok (.agg (bvals zsec).toArray) w := Tryz.zeroValue131 w
theorem infoSec : (Tryz.prog.info? 131).map (·.size) = some 64 := by kernel_rfl

/-- A disk, as the program has it: its sectors now and as kept, the writes between. -/
structure DiskSt where
  size : Nat
  now : Int → Option (List UInt8)
  kept : Int → Option (List UInt8)
  waiting : List (Int × List UInt8)
  down : Bool
  left : Int

/-- A map of sectors. -/
def SecMap (w : World) (m : Nat) (g : Int → Option (List UInt8)) : Prop := MapI w m (fun k => (g k).map fun l => aggB l) ∧ ∀ k l, g k = some l → l.length = 64
/-- The cells of the writes that wait. -/
def waitCells : List (Int × List UInt8) → List Value
  | [] => []
  | x :: l => (.int .i64 x.1 :: bvals x.2) ++ waitCells l

structure DiskAt (w : World) (d mN mK : Nat) (wv : Value) (s : DiskSt) : Prop where
  blk : Blk w d 94 [.int .i64 s.size, .map (some mN), .map (some mK), wv, .bool s.down, .int .i64 s.left]
  now : SecMap w mN s.now
  kept : SecMap w mK s.kept
  ne : mN ≠ mK
  wait : w.ownsRow 0 183 65 wv s.waiting.length (waitCells s.waiting)
  waitLen : ∀ x ∈ s.waiting, x.2.length = 64

theorem SecMap.chg {w w1 : World} {m : Nat} {g : Int → Option (List UInt8)} {F : Nat → Prop} (h : SecMap w m g) (hc : Chg F w w1) (hf : ¬ F m) : SecMap w1 m g := ⟨h.1.chg hc hf, h.2⟩
theorem DiskAt.chg {w w1 : World} {d mN mK : Nat} {wv : Value} {s : DiskSt} {F : Nat → Prop} (h : DiskAt w d mN mK wv s) (hc : Chg F w w1) (h1 : ¬ F d) (h2 : ¬ F mN) (h3 : ¬ F mK) (h4 : ∀ b, wv.ownBlock = some b → ¬ F b) : DiskAt w1 d mN mK wv s :=
  ⟨h.blk.chg hc h1, h.now.chg hc h2, h.kept.chg hc h3, h.ne, hc.owns h.wait h4, h.waitLen⟩
theorem DiskAt.fresh {w w1 : World} {d mN mK : Nat} {wv : Value} {s : DiskSt} (h : DiskAt w d mN mK wv s) (hc : Fresh w w1) : DiskAt w1 d mN mK wv s :=
  h.chg hc id id id (fun _ _ f => f)

set_option maxHeartbeats 400000 in
theorem diskNew_any (n : Nat) (w : World) (hn : n ≤ 65536) :
    Calls Tryz.prog 13 #[.int .i64 n] w fun e w' => ∃ d mN mK, e = .returned (.pointer (some ⟨d, 0, none⟩)) ∧ DiskAt w' d mN mK (.slice none 0 0) ⟨n, fun _ => none, fun _ => none, [], false, -1⟩ ∧ w.heap.size ≤ d ∧ w.heap.size ≤ mN ∧ w.heap.size ≤ mK ∧ Fresh w w' := by
  have h1 : max (n : Int) 0 = n := by omega
  have h2 : min (n : Int) 65536 = n := by omega
  have hmm := @run_makeMap Tryz.prog
  go_enter Tryz.func13, Tryz.ntmps13
  go_wp2
  go_ret
  refine ⟨w.heap.size + 1 + 1, w.heap.size, w.heap.size + 1, rfl, ⟨Blk.newA _ _ _ (by simp), ⟨?_, fun k l h => by cases h⟩, ⟨?_, fun k l h => by cases h⟩, by omega, World.ownsRow_nil _ _ _ _, fun x hx => by cases hx⟩, by omega, by omega, by omega, (((Chg.refl _ _).alloc _).alloc _).alloc _⟩
  · exact ((MapI.new w).chg ((Chg.refl (fun _ => False) _).alloc _) id).chg ((Chg.refl (fun _ => False) _).alloc _) id
  · have := MapI.new (w.alloc (.map #[] 0))
    rw [World.size_alloc] at this
    exact this.chg ((Chg.refl (fun _ => False) _).alloc _) id

set_option maxHeartbeats 400000 in
theorem may_any (d mN mK : Nat) (wv : Value) (s : DiskSt) (n : Nat) (w : World) (h : DiskAt w d mN mK wv s) (hd : s.down = false) (hn : n < s.size) (hs : s.size ≤ 65536) :
    Calls Tryz.prog 100 #[.pointer (some ⟨d, 0, none⟩), .int .i64 n] w fun e w' => e = .returned (.int .i64 0) ∧ w = w' := by
  have c0 := h.blk.cell 0
  have c4 := h.blk.cell 4
  simp only [List.getElem?_cons_zero, List.getElem?_cons_succ, hd] at c0 c4
  have H := Lib.hid h
  have HD := Lib.hid hd
  clear h hd
  generalize s.size = sz at *
  go_enter Tryz.func100, Tryz.ntmps100
  go_wp2
  go_ret
  exact ⟨rfl, rfl⟩

/-- A sector's bytes; one that was never written is noughts. -/
def secOf (g : Int → Option (List UInt8)) (n : Nat) : List UInt8 := (g n).getD zsec
theorem SecMap.len {w : World} {m : Nat} {g : Int → Option (List UInt8)} (h : SecMap w m g) (n : Nat) : (secOf g n).length = 64 := by
  unfold secOf
  cases hg : g n with
  | none => simp
  | some l => exact h.2 _ _ hg

theorem secOf_val (g : Int → Option (List UInt8)) (n : Nat) : (((g n).map fun l => aggB l).getD (.agg (bvals zsec).toArray)) = aggB (secOf g n) := by
  unfold secOf; cases g n <;> rfl

set_option maxHeartbeats 400000 in
theorem size_any (d mN mK : Nat) (wv : Value) (s : DiskSt) (w : World) (h : DiskAt w d mN mK wv s) :
    Calls Tryz.prog 33 #[.pointer (some ⟨d, 0, none⟩)] w fun e w' => e = .returned (.int .i64 s.size) ∧ w = w' := by
  have c0 := h.blk.cell 0
  simp only [List.getElem?_cons_zero] at c0
  clear h
  go_enter Tryz.func33, Tryz.ntmps33
  go_wp2
  go_ret
  exact ⟨rfl, rfl⟩

set_option maxRecDepth 100000 in
set_option maxHeartbeats 400000 in
theorem read_any (d mN mK : Nat) (wv : Value) (s : DiskSt) (n : Nat) (w : World) (h : DiskAt w d mN mK wv s) (hd : s.down = false) (hn : n < s.size) (hs : s.size ≤ 65536) :
    Calls Tryz.prog 64 #[.pointer (some ⟨d, 0, none⟩), .int .i64 n] w fun e w' => e = .returned (.tuple #[aggB (secOf s.now n), .int .i64 0]) ∧ Fresh w w' := by
  have H := Lib.hid h
  have HD := Lib.hid hd
  clear h hd
  go_enter Tryz.func64, Tryz.ntmps64
  go_wp2_with (
    refine wpList_allocA rfl 131 rfl (bvals zsec) zeroSec ?_
    intro w1 HB1 HF1 HS1
    have HD1 := Lib.hid (H.out.fresh HF1.out)
    have c0 := HD1.out.blk.cell 0
    have c1 := HD1.out.blk.cell 1
    have hlk := run_mapLookup (Pr := Tryz.prog) Tryz.underlying91 Tryz.underlying3 _ zeroSec HD1.out.now.1 (n : Int)
    simp only [List.getElem?_cons_zero, List.getElem?_cons_succ] at c0 c1
    clear H)
  refine (may_any d mN mK wv s n _ HD1.out HD.out hn hs).mono ?_
  rintro e w2 ⟨rfl, rfl⟩
  rw [secOf_val] at hlk
  have HL : Hid ((secOf s.now n).length = 64) := HD1.out.now.len n
  generalize hq0 : secOf s.now n = q at *
  have HQ := Lib.hid hq0
  clear hq0
  go_wp2_with (refine wpList_storeA rfl 131 _ _ rfl w.heap.size 0 rfl (bvals q) rfl _ _ HB1.out (by rw [bvals_length, HL.out]; exact infoSec) (by simp [HL.out]) bvals_one ?_; intro w9 HB9 HC9)
  refine bodyPost_ret (results_cell_t Tryz.results64 _ _ w.heap.size 131 (bvals q) _ rfl ?_ Tryz.underlying131 rfl (by rw [bvals_length, HL.out]; exact infoSec)) rfl ⟨by rw [HQ.out]; rfl, HF1.out.trans HC9.out (fun b hb e => by omega)⟩
  have := HB9.out
  rwa [over_all _ _ (by simp [HL.out])] at this
end Go.Proofs.YtnmjkgnahhbnoaaGreat

/- Walks of package wal: opening a log that holds nothing. -/
namespace Go.Proofs.YtnmjkgnahhbnoaaGreat
open Go.RowKit

set_option maxHeartbeats 400000 in
theorem number_zero (b off n cap : Nat) (w : World) (hbig : n ≤ 8) (hc : ∀ j, j < n → w.cell? ⟨b, off + j, none⟩ = some (.int .u8 0)) :
    Calls Tryz.prog 65 #[.slice (some ⟨b, off, none⟩) n cap] w fun e w' => e = .returned (.int .u64 0) ∧ w = w' := by
  go_enter Tryz.func65, Tryz.ntmps65
  go_wp2
  go_loop [3, 7] (fun c i => ∃ (k : Nat), k ≤ n ∧ i = .int .i64 k ∧ c = .int .u64 0) (fun _ i => n - (intOf i).toNat)
  case atStart => exact ⟨0, Nat.zero_le _, rfl, rfl⟩
  case round =>
    obtain ⟨k, hk, rfl, rfl⟩ := hrel
    by_cases hlt : k < n
    · have hcell := hc k hlt
      clear hc
      go_wp2
      go_round
      case rel =>
        refine ⟨k + 1, by omega, by go_num, ?_⟩
        try simp
        try rfl
      case measure => simp [intOf]; omega
    · clear hc
      go_wp2
      go_ret
      exact ⟨rfl, rfl⟩

theorem zsec_get (j : Nat) (h : j < 64) : (bvals zsec)[j]? = some (.int .u8 0) := by
  rw [bvals_get, zsec, List.getElem?_replicate, if_pos h]; rfl

theorem infoHead : (Tryz.prog.info? 127).map (·.size) = some 2 := by kernel_rfl
theorem zcell {w : World} {g : Nat} {e : TypeId} (h : Blk w g e (bvals zsec)) {j : Nat} (hj : j < 64) : w.cell? ⟨g, j, none⟩ = some (.int .u8 0) := by
  rw [h.cell]; exact zsec_get j hj

set_option maxHeartbeats 400000 in
theorem records_nil (a : Option Addr) (cap : Nat) (w : World) :
    Calls Tryz.prog 67 #[.slice a 0 cap] w fun e w' => e = .returned (.tuple #[.slice none 0 0, .bool true]) ∧ w = w' := by
  go_enter Tryz.func67, Tryz.ntmps67
  go_wp2
  go_rounds 1
  go_wp2
  go_ret2
  exact ⟨rfl, rfl⟩

/-- A log that nothing was written into. -/
structure LogAt (w : World) (l d mN mK : Nat) (size : Nat) : Prop where
  blk : Blk w l 129 [.pointer (some ⟨d, 0, none⟩), .int .u64 0, .int .u64 0, .slice none 0 0, .int .i64 0]
  disk : DiskAt w d mN mK (.slice none 0 0) ⟨size, fun _ => none, fun _ => none, [], false, -1⟩

theorem LogAt.chg {w w1 : World} {l d mN mK size : Nat} {F : Nat → Prop} (h : LogAt w l d mN mK size) (hc : Chg F w w1) (h1 : ¬ F l) (h2 : ¬ F d) (h3 : ¬ F mN) (h4 : ¬ F mK) : LogAt w1 l d mN mK size :=
  ⟨h.blk.chg hc h1, h.disk.chg hc h2 h3 h4 (fun b hb => by cases hb)⟩
theorem LogAt.fresh {w w1 : World} {l d mN mK size : Nat} (h : LogAt w l d mN mK size) (hc : Fresh w w1) : LogAt w1 l d mN mK size := h.chg hc id id id id

set_option maxHeartbeats 400000 in
theorem room_any (l d mN mK size : Nat) (w : World) (h : LogAt w l d mN mK size) (hs : 3 ≤ size ∧ size ≤ 65536) :
    Calls Tryz.prog 66 #[.pointer (some ⟨l, 0, none⟩)] w fun e w' => e = .returned (.int .i64 ((size - 2 : Nat) * 64 : Nat)) ∧ w = w' := by
  have c0 := h.blk.cell 0
  simp only [List.getElem?_cons_zero] at c0
  have H := Lib.hid h
  clear h
  go_enter Tryz.func66, Tryz.ntmps66
  go_wp2_with fail
  refine (size_any d mN mK _ _ _ H.out.disk).mono ?_
  rintro e w1 ⟨rfl, rfl⟩
  go_wp2
  go_ret
  exact ⟨ret_int (by omega), rfl⟩

set_option maxRecDepth 100000 in
set_option maxHeartbeats 1000000 in
theorem walOpen_any (d mN mK size : Nat) (w : World) (h : DiskAt w d mN mK (.slice none 0 0) ⟨size, fun _ => none, fun _ => none, [], false, -1⟩) (hs : 3 ≤ size ∧ size ≤ 65536) :
    Calls Tryz.prog 34 #[.pointer (some ⟨d, 0, none⟩)] w fun e w' => ∃ l, e = .returned (.tuple #[.pointer (some ⟨l, 0, none⟩), .slice none 0 0, .int .i64 0]) ∧ LogAt w' l d mN mK size ∧ w.heap.size ≤ l ∧ Fresh w w' := by
  have H := Lib.hid h
  clear h
  go_enter Tryz.func34, Tryz.ntmps34
  go_wp2_with fail
  refine (size_any d mN mK _ _ _ H.out).mono ?_
  rintro e w1 ⟨rfl, rfl⟩
  go_wp2_with fail
  have HB := Lib.hid (Blk.newA w 129 #[.pointer (some ⟨d, 0, none⟩), .int .u64 0, .int .u64 0, .slice none 0 0, .int .i64 0] rfl)
  have HD := Lib.hid (H.out.fresh ((Chg.refl (fun _ => False) w).alloc (.cells #[.pointer (some ⟨d, 0, none⟩), .int .u64 0, .int .u64 0, .slice none 0 0, .int .i64 0] 129)))
  have HF := Lib.hid ((Chg.refl (fun _ => False) w).alloc (.cells #[.pointer (some ⟨d, 0, none⟩), .int .u64 0, .int .u64 0, .slice none 0 0, .int .i64 0] 129))
  generalize hl0 : w.heap.size = l at *
  generalize w.alloc (.cells #[.pointer (some ⟨d, 0, none⟩), .int .u64 0, .int .u64 0, .slice none 0 0, .int .i64 0] 129) = w1 at *
  have HL0 := Lib.hid hl0
  clear hl0 H
  go_loopw [25] (fun i wr => ∃ k : Nat, k ≤ 2 ∧ i = .int .i64 k ∧ LogAt wr l d mN mK size ∧ Fresh w wr) (fun i _ => 2 - (intOf i).toNat)
  case atStart => exact ⟨0, by omega, rfl, ⟨HB.out, HD.out⟩, HF.out⟩
  case round =>
    clear HB HD HF
    obtain ⟨k, hk, rfl, hl, hf⟩ := hrel
    have H := Lib.hid hl
    have HF := Lib.hid hf
    clear hl hf
    by_cases hlt : k < 2
    · go_wp2_with fail
      refine (read_any d mN mK _ _ k _ H.out.disk rfl (by show k < size; omega) hs.2).mono ?_
      rintro e w2 ⟨rfl, hf2⟩
      have hz2 : secOf (fun _ => none) k = zsec := rfl
      rw [hz2]
      clear hz2
      have H2 := Lib.hid (H.out.fresh hf2)
      have HF2 := Lib.hid (HF.out.trans hf2 (fun _ _ f => f))
      clear hf2 H HF
      go_upto_region 12 with (first
        | (refine wpList_allocA rfl 131 rfl (bvals zsec) zeroSec ?_
           intro w3 HB3 HF3 HS3
           have H3 := Lib.hid (H2.out.fresh HF3.out)
           have HG3 := Lib.hid (HF2.out.trans HF3.out (fun _ _ f => f)))
        | (refine wpList_storeA rfl 131 _ _ rfl w2.heap.size 0 rfl (bvals zsec) rfl _ _ HB3.out (by rw [bvals_length, zsec_length]; exact infoSec) (by simp) bvals_one ?_
           intro w4 HB4 HC4))
      have hb4 := HB4.out
      rw [over_all _ _ (by simp)] at hb4
      obtain ⟨s1, hs1, hr1⟩ := run_sliceArr (Pr := Tryz.prog) 131 5 64 Tryz.underlying131 (fun _ => rfl) w2.heap.size 0 0 8 .i64 .i64 (by omega) (by omega) 0 8 rfl rfl
      obtain ⟨s2, hs2, hr2⟩ := run_sliceArr (Pr := Tryz.prog) 131 5 64 Tryz.underlying131 (fun _ => rfl) w2.heap.size 0 8 12 .i64 .i64 (by omega) (by omega) 8 12 rfl rfl
      have HL4 := Lib.hid ((H3.out.chg HC4.out) (by have := H2.out.blk.lt; omega) (by have := H2.out.disk.blk.lt; omega) (by have := H2.out.disk.now.1.lt; omega) (by have := H2.out.disk.kept.1.lt; omega))
      have HF4 : Hid (Fresh w w4) := HG3.out.trans HC4.out (fun b hb e => by have := HF2.out.size; omega)
      have HZ4 := Lib.hid hb4
      obtain rfl := hs1 (by omega)
      obtain rfl := hs2 (by omega)
      clear hb4 hs1 hs2 H3 HG3 HC4 HB4 HB3 HF3
      generalize w2.heap.size = g at *
      go_cut [9] (fun t wx => ∃ nb : Nat, t = .pointer (some ⟨nb, 0, none⟩) ∧ Hid (Blk wx nb 127 [.int .u64 0, .int .u64 0]) ∧ Hid (LogAt wx l d mN mK size) ∧ Hid (Fresh w wx))
      case first =>
        clear HF2 HS3 H2
        have hS0 : Blk w4.drew g 131 (bvals zsec) ∧ LogAt w4.drew l d mN mK size ∧ Fresh w w4.drew := ⟨HZ4.out.drew, HL4.out.fresh (Chg.refl _ w4).drew, HF4.out.drew⟩
        clear HZ4 HL4 HF4
        refine wp_region_held_drew (S := fun W => Blk W g 131 (bvals zsec) ∧ LogAt W l d mN mK size ∧ Fresh w W) (by kernel_rfl) hS0 (fun hHeld => ?_)
        clear hS0
        generalize w4.drew = w5 at *
        refine wpAnyH_take (i := 0) (v := .slice (some ⟨g, 0, none⟩) 8 64) rfl (by kernel_rfl) (by kernel_rfl) (by kernel_rfl) (fun _ _ _ h => h) (Or.inl ⟨by rfl, fun w _ => by go_simp⟩) hHeld ?_
        refine wpAnyH_take (i := 2) (v := .slice (some ⟨g, 8, none⟩) 4 56) rfl (by kernel_rfl) (by kernel_rfl) (by kernel_rfl) (fun _ _ _ h => h) (Or.inl ⟨by rfl, fun w _ => by go_simp⟩) hHeld ?_
        refine wpAnyH_ready (rs := [1, 5]) (by kernel_rfl) (by simp) ?_
        refine AllReadyH.cons (o := _) rfl (fun K hK => ?_) (AllReadyH.cons (o := _) rfl (fun K hK => ?_) AllReadyH.nil)
        · go_simp
          refine (number_zero g 0 8 64 _ (by omega) (fun j hj => zcell hHeld.1 (by omega))).mono ?_
          rintro e w6 ⟨rfl, rfl⟩
          refine hK.out _ _ hHeld (fun hHeld => ?_)
          clear hK K
          refine wpAnyH_ready (rs := [3, 5]) (by kernel_rfl) (by simp) ?_
          refine AllReadyH.cons (o := _) rfl (fun K hK => ?_) (AllReadyH.cons (o := _) rfl (fun K hK => ?_) AllReadyH.nil)
          · go_simp
            refine (number_zero g 8 4 56 _ (by omega) (fun j hj => zcell hHeld.1 (by omega))).mono ?_
            rintro e w6 ⟨rfl, rfl⟩
            refine hK.out _ _ hHeld (fun hHeld => ?_)
            clear hK K
            refine wpAnyH_take (i := 4) (v := .agg #[.int .u64 0, .int .u64 0]) rfl (by kernel_rfl) (by kernel_rfl) (by kernel_rfl) (fun _ _ _ h => h) (Or.inl ⟨by rfl, fun w _ => by go_simp⟩) hHeld ?_
            refine wpAnyH_ready (rs := [5]) (by kernel_rfl) (by simp) ?_
            refine AllReadyH.cons (o := _) rfl (fun K hK => ?_) AllReadyH.nil
            go_simp
            have HN : Blk (w5.alloc (.cells #[.int .u64 0, .int .u64 0] 127)) w5.heap.size 127 [.int .u64 0, .int .u64 0] := Blk.newA _ _ _ rfl
            have hne : w5.heap.size ≠ l ∧ w5.heap.size ≠ d ∧ w5.heap.size ≠ mN ∧ w5.heap.size ≠ mK ∧ w5.heap.size ≠ g ∧ w.heap.size ≤ w5.heap.size := ⟨by have := hHeld.2.1.blk.lt; omega, by have := hHeld.2.1.disk.blk.lt; omega, by have := hHeld.2.1.disk.now.1.lt; omega, by have := hHeld.2.1.disk.kept.1.lt; omega, by have := hHeld.1.lt; omega, hHeld.2.2.size⟩
            refine hK.out _ _ ⟨hHeld.1.alloc _, hHeld.2.1.fresh ((Chg.refl _ _).alloc _), hHeld.2.2.alloc _⟩ (fun hHeld => ?_)
            clear hK K
            generalize w5.heap.size = nb at *
            generalize w5.alloc (.cells #[.int .u64 0, .int .u64 0] 127) = w5 at *
            refine wpAnyH_ready (rs := [6]) (by kernel_rfl) (by simp) ?_
            refine AllReadyH.cons (o := _) rfl (fun K hK => ?_) AllReadyH.nil
            rw [if_pos (by rfl)]
            refine wp_storeA 127 _ _ rfl nb 0 rfl [.int .u64 0, .int .u64 0] rfl _ _ HN infoHead (by simp) (by intro u hu; simp at hu; subst hu; rfl) ?_
            intro w9 HB9 HC9
            refine hK.out _ _ ⟨hHeld.1.chg HC9.out (by omega), hHeld.2.1.chg HC9.out (by omega) (by omega) (by omega) (by omega), hHeld.2.2.trans HC9.out (fun b hb e => by omega)⟩ (fun hHeld => ?_)
            clear hK K
            refine wpAnyH_done (by kernel_rfl) ?_ _
            go_wp2
            go_meet
            exact ⟨nb, rfl, HB9, hHeld.2.1, hHeld.2.2⟩
          · go_simp
            have HN : Blk (w5.alloc (.cells #[.int .u64 0, .int .u64 0] 127)) w5.heap.size 127 [.int .u64 0, .int .u64 0] := Blk.newA _ _ _ rfl
            have hne : w5.heap.size ≠ l ∧ w5.heap.size ≠ d ∧ w5.heap.size ≠ mN ∧ w5.heap.size ≠ mK ∧ w5.heap.size ≠ g ∧ w.heap.size ≤ w5.heap.size := ⟨by have := hHeld.2.1.blk.lt; omega, by have := hHeld.2.1.disk.blk.lt; omega, by have := hHeld.2.1.disk.now.1.lt; omega, by have := hHeld.2.1.disk.kept.1.lt; omega, by have := hHeld.1.lt; omega, hHeld.2.2.size⟩
            refine hK.out _ _ ⟨hHeld.1.alloc _, hHeld.2.1.fresh ((Chg.refl _ _).alloc _), hHeld.2.2.alloc _⟩ (fun hHeld => ?_)
            clear hK K
            generalize w5.heap.size = nb at *
            generalize w5.alloc (.cells #[.int .u64 0, .int .u64 0] 127) = w5 at *
            refine wpAnyH_ready (rs := [3]) (by kernel_rfl) (by simp) ?_
            refine AllReadyH.cons (o := _) rfl (fun K hK => ?_) AllReadyH.nil
            go_simp
            refine (number_zero g 8 4 56 _ (by omega) (fun j hj => zcell hHeld.1 (by omega))).mono ?_
            rintro e w6 ⟨rfl, rfl⟩
            refine hK.out _ _ hHeld (fun hHeld => ?_)
            clear hK K
            refine wpAnyH_take (i := 4) (v := .agg #[.int .u64 0, .int .u64 0]) rfl (by kernel_rfl) (by kernel_rfl) (by kernel_rfl) (fun _ _ _ h => h) (Or.inl ⟨by rfl, fun w _ => by go_simp⟩) hHeld ?_
            refine wpAnyH_ready (rs := [6]) (by kernel_rfl) (by simp) ?_
            refine AllReadyH.cons (o := _) rfl (fun K hK => ?_) AllReadyH.nil
            rw [if_pos (by rfl)]
            refine wp_storeA 127 _ _ rfl nb 0 rfl [.int .u64 0, .int .u64 0] rfl _ _ HN infoHead (by simp) (by intro u hu; simp at hu; subst hu; rfl) ?_
            intro w9 HB9 HC9
            refine hK.out _ _ ⟨hHeld.1.chg HC9.out (by omega), hHeld.2.1.chg HC9.out (by omega) (by omega) (by omega) (by omega), hHeld.2.2.trans HC9.out (fun b hb e => by omega)⟩ (fun hHeld => ?_)
            clear hK K
            refine wpAnyH_done (by kernel_rfl) ?_ _
            go_wp2
            go_meet
            exact ⟨nb, rfl, HB9, hHeld.2.1, hHeld.2.2⟩
        · go_simp
          have HN : Blk (w5.alloc (.cells #[.int .u64 0, .int .u64 0] 127)) w5.heap.size 127 [.int .u64 0, .int .u64 0] := Blk.newA _ _ _ rfl
          have hne : w5.heap.size ≠ l ∧ w5.heap.size ≠ d ∧ w5.heap.size ≠ mN ∧ w5.heap.size ≠ mK ∧ w5.heap.size ≠ g ∧ w.heap.size ≤ w5.heap.size := ⟨by have := hHeld.2.1.blk.lt; omega, by have := hHeld.2.1.disk.blk.lt; omega, by have := hHeld.2.1.disk.now.1.lt; omega, by have := hHeld.2.1.disk.kept.1.lt; omega, by have := hHeld.1.lt; omega, hHeld.2.2.size⟩
          refine hK.out _ _ ⟨hHeld.1.alloc _, hHeld.2.1.fresh ((Chg.refl _ _).alloc _), hHeld.2.2.alloc _⟩ (fun hHeld => ?_)
          clear hK K
          generalize w5.heap.size = nb at *
          generalize w5.alloc (.cells #[.int .u64 0, .int .u64 0] 127) = w5 at *
          refine wpAnyH_ready (rs := [1]) (by kernel_rfl) (by simp) ?_
          refine AllReadyH.cons (o := _) rfl (fun K hK => ?_) AllReadyH.nil
          go_simp
          refine (number_zero g 0 8 64 _ (by omega) (fun j hj => zcell hHeld.1 (by omega))).mono ?_
          rintro e w6 ⟨rfl, rfl⟩
          refine hK.out _ _ hHeld (fun hHeld => ?_)
          clear hK K
          refine wpAnyH_ready (rs := [3]) (by kernel_rfl) (by simp) ?_
          refine AllReadyH.cons (o := _) rfl (fun K hK => ?_) AllReadyH.nil
          go_simp
          refine (number_zero g 8 4 56 _ (by omega) (fun j hj => zcell hHeld.1 (by omega))).mono ?_
          rintro e w6 ⟨rfl, rfl⟩
          refine hK.out _ _ hHeld (fun hHeld => ?_)
          clear hK K
          refine wpAnyH_take (i := 4) (v := .agg #[.int .u64 0, .int .u64 0]) rfl (by kernel_rfl) (by kernel_rfl) (by kernel_rfl) (fun _ _ _ h => h) (Or.inl ⟨by rfl, fun w _ => by go_simp⟩) hHeld ?_
          refine wpAnyH_ready (rs := [6]) (by kernel_rfl) (by simp) ?_
          refine AllReadyH.cons (o := _) rfl (fun K hK => ?_) AllReadyH.nil
          rw [if_pos (by rfl)]
          refine wp_storeA 127 _ _ rfl nb 0 rfl [.int .u64 0, .int .u64 0] rfl _ _ HN infoHead (by simp) (by intro u hu; simp at hu; subst hu; rfl) ?_
          intro w9 HB9 HC9
          refine hK.out _ _ ⟨hHeld.1.chg HC9.out (by omega), hHeld.2.1.chg HC9.out (by omega) (by omega) (by omega) (by omega), hHeld.2.2.trans HC9.out (fun b hb e => by omega)⟩ (fun hHeld => ?_)
          clear hK K
          refine wpAnyH_done (by kernel_rfl) ?_ _
          go_wp2
          go_meet
          exact ⟨nb, rfl, HB9, hHeld.2.1, hHeld.2.2⟩
      case rest =>
        obtain ⟨nb, rfl, HB, HL, HF⟩ := hcut
        clear hr1 hr2 HZ4 HL4 HF4 HS3 H2 HF2 HL0
        have c0 := HB.out.cell 0
        have c1 := HL.out.blk.cell 1
        simp only [List.getElem?_cons_zero, List.getElem?_cons_succ] at c0 c1
        go_wp2
        go_quiet (fail)
        go_wp2
        go_roundw
        case rel => exact ⟨k + 1, by omega, by go_num, HL.out.fresh ((Chg.refl _ _).drewN _), HF.out.drewN _⟩
        case measure => simp [intOf]; omega
    · obtain rfl : k = 2 := by omega
      have c2 := H.out.blk.cell 2
      simp only [List.getElem?_cons_zero, List.getElem?_cons_succ] at c2
      go_wp2_with fail
      go_quiet (exact (room_any l d mN mK size _ (H.out.fresh ((Chg.refl _ _).drewN _)) hs).mono (fun e w2 h => ⟨h.1, _, h.2.symm⟩))
      have HL := Lib.hid (H.out.fresh ((Chg.refl _ wr).drewN nq))
      have HF1 := Lib.hid (HF.out.drewN nq)
      clear c2 H HF
      generalize (wr.drewN nq) = wr at *
      have c2 := HL.out.blk.cell 2
      have c3 := HL.out.blk.cell 3
      simp only [List.getElem?_cons_zero, List.getElem?_cons_succ] at c2 c3
      go_wp2_with fail
      refine wp_loop_rounds 1 ?_
      rw [rounds_succ]
      go_wp2_with fail
      go_quiet (fail)
      have HL2 := Lib.hid (HL.out.fresh ((Chg.refl _ wr).drewN nq))
      have HF2 := Lib.hid (HF1.out.drewN nq)
      clear c2 c3 HL HF1
      have HL := HL2
      clear HL2
      generalize (wr.drewN nq) = w2 at *
      go_wp2_with fail
      have c2 := HL.out.blk.cell 2
      have c3 := HL.out.blk.cell 3
      have z3 := HL.out.blk.frozen 3
      simp only [List.getElem?_cons_zero, List.getElem?_cons_succ] at c2 c3
      go_still_tail 13, (by kernel_rfl)
      change wpList _ _ _ _ _ w2.drew
      have z4 : w2.drew.frozen? ⟨l, 3, none⟩ = false := z3
      have HL3 : Hid (LogAt (w2.drew.setCell ⟨l, 3, none⟩ (.slice none 0 0)) l d mN mK size) := ⟨HL.out.blk.drew.set 3 _, (HL.out.disk.fresh (Chg.refl _ _).drew).chg ((Chg.refl (· = l) _).setCell (.inl rfl) _) (fun e => by have := HL.out.blk; rw [← e, Blk, HL.out.disk.blk] at this; simp at this) (fun e => (HL.out.disk.now.1.blk HL.out.blk) e) (fun e => (HL.out.disk.kept.1.blk HL.out.blk) e) (fun b hb => by cases hb)⟩
      have c4 : w2.drew.cell? ⟨l, 3, none⟩ = some (.slice none 0 0) := c3
      have HF3 : Hid (Fresh w (w2.drew.setCell ⟨l, 3, none⟩ (.slice none 0 0))) := HF2.out.drew.setCell (.inr (by rw [HL0.out]; exact Nat.le_refl _)) _
      clear c2 c3 z3 HF2 HL
      generalize w2.drew = w3 at *
      go_wp2_with fail
      generalize w3.setCell ⟨l, 3, none⟩ (.slice none 0 0) = w4 at *
      refine (records_nil _ _ _).mono ?_
      rintro e w5 ⟨rfl, rfl⟩
      go_wp2
      go_ret3
      exact ⟨l, rfl, HL3.out, by rw [HL0.out]; exact Nat.le_refl _, HF3.out⟩
end Go.Proofs.YtnmjkgnahhbnoaaGreat
