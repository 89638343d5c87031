/- Part 3 of the walks that the laws of package hash share (PageFn, Page1, Page2, Page3). -/
import Derived.Test.YtnmjkgnahhbnoaaGreatM01
import Derived.WalkSpells
set_option linter.unusedVariables false
set_option linter.unusedSimpArgs false
/- The functions of package page, in plain Lean (no program in sight). -/
namespace Go.Proofs.YtnmjkgnahhbnoaaGreat

def crcBit (c : Int) : Int := bits BinOp.xor IntKind.u32 (c / 2) (bits BinOp.and IntKind.u32 3988292384 (-bits BinOp.and IntKind.u32 c 1 % 4294967296))
def crcBits : Nat → Int → Int
  | 0, c => c
  | n + 1, c => crcBit (crcBits n c)
def crcByte (c : Int) (x : UInt8) : Int := crcBits 8 (bits BinOp.xor IntKind.u32 c ((x.toNat : Int) % 4294967296))
def crcF (zs : List UInt8) : Int := zs.foldl crcByte 4294967295

/-- A page of noughts. -/
def zpage : List UInt8 := List.replicate 512 0
@[simp] theorem zpage_length : zpage.length = 512 := List.length_replicate
/-- The sum of some bytes. -/
def sumF (zs : List UInt8) : Int := bits BinOp.xor IntKind.u32 IntKind.u32.max (crcF zs)

/-- A number's lowest byte. -/
def lowB (x : Int) : UInt8 := UInt8.ofNat (x % 256).toNat
theorem lowB_val (x : Int) : B (lowB x) = .int .u8 (x % 256) := by
  have h1 := Int.emod_nonneg x (show (256 : Int) ≠ 0 by omega)
  have h2 := Int.emod_lt_of_pos x (show (0 : Int) < 256 by omega)
  simp only [B, lowB, UInt8.toNat_ofNat']
  congr 1
  omega

/-- The page with the first k bytes of a sum. -/
def sealTo (p : List UInt8) (c : Int) : Nat → List UInt8
  | 0 => p
  | k + 1 => (sealTo p c k).set k (lowB (c / 2 ^ (8 * k)))
/-- The page with its checksum. -/
def sealF (p : List UInt8) : List UInt8 := sealTo p (sumF (p.drop 4)) 4
@[simp] theorem sealTo_length (p : List UInt8) (c : Int) (k : Nat) : (sealTo p c k).length = p.length := by
  induction k with
  | zero => rfl
  | succ k ih => simp [sealTo, ih]

theorem crcF_snoc (zs : List UInt8) (k : Nat) (h : k < zs.length) : crcF (zs.take (k + 1)) = crcByte (crcF (zs.take k)) zs[k] := by
  unfold crcF
  rw [List.take_succ_eq_append_getElem h, List.foldl_append]; rfl


/-- A page's byte, as a number. -/
def byteAt (p : List UInt8) (i : Nat) : Nat := (p.getD i 0).toNat
theorem byteAt_lt (p : List UInt8) (i : Nat) : byteAt p i < 256 := UInt8.toNat_lt _
/-- Two bytes, as a number. -/
def wordAt (p : List UInt8) (i : Nat) : Nat := byteAt p i + 256 * byteAt p (i + 1)
theorem wordAt_lt (p : List UInt8) (i : Nat) : wordAt p i < 65536 := by
  have := byteAt_lt p i; have := byteAt_lt p (i + 1); unfold wordAt; omega
/-- What stands in slot i. -/
def slotAt (p : List UInt8) (i : Nat) : Option (List UInt8) :=
  let f := wordAt p (6 + 4 * i)
  let n := wordAt p (6 + 4 * i + 2)
  if n = 0 ∨ f < 6 ∨ 513 < f + n then none else some ((p.drop f).take (n - 1))
def nslots (p : List UInt8) : Nat := min (byteAt p 5) 124
/-- A page's records. -/
def slotsF (p : List UInt8) : List (Option (List UInt8)) := (List.range (nslots p)).map (slotAt p)
@[simp] theorem slotsF_length (p : List UInt8) : (slotsF p).length = nslots p := by simp [slotsF]
theorem slotsF_take (p : List UInt8) (k : Nat) (h : k < nslots p) : (slotsF p).take (k + 1) = (slotsF p).take k ++ [slotAt p k] := by
  rw [List.take_succ_eq_append_getElem (by simpa using h)]; simp [slotsF]


/-- Without the empty slots at the end. -/
def trimF : List (Option (List UInt8)) → List (Option (List UInt8))
  | [] => []
  | r :: rs => match trimF rs, r with
    | [], none => []
    | l, r => r :: l
/-- A slot's entry. -/
def set4 (p : List UInt8) (at_ e n : Nat) : List UInt8 :=
  (((p.set at_ (lowB e)).set (at_ + 1) (lowB (e / 256))).set (at_ + 2) (lowB n)).set (at_ + 3) (lowB (n / 256))
@[simp] theorem set4_length (p : List UInt8) (at_ e n : Nat) : (set4 p at_ e n).length = p.length := by simp [set4]
/-- One record is laid. -/
def layF (p : List UInt8) (i e : Nat) (l : List UInt8) : List UInt8 := set4 (over p e l) (6 + 4 * i) e (l.length + 1)
/-- Where the records begin. -/
def endF : List (Option (List UInt8)) → Nat
  | [] => 0
  | none :: rs => endF rs
  | some l :: rs => l.length + endF rs
/-- The records are laid, one by one: from slot i on, above e. -/
def layAll (p : List UInt8) (i e : Nat) : List (Option (List UInt8)) → List UInt8
  | [] => p
  | none :: rs => layAll p (i + 1) e rs
  | some l :: rs => layAll (layF p i (e - l.length) l) (i + 1) (e - l.length) rs
/-- An empty page's head. -/
def headF (kind : UInt8) (n : Nat) : List UInt8 := (zpage.set 4 kind).set 5 (lowB n)
/-- The page of a kind and records. -/
def madeF (kind : UInt8) (rs : List (Option (List UInt8))) : List UInt8 := sealF (layAll (headF kind (trimF rs).length) 0 512 (trimF rs))
@[simp] theorem sealF_length (p : List UInt8) : (sealF p).length = p.length := by simp [sealF]

theorem trim_snoc_some (l : List (Option (List UInt8))) (x : List UInt8) : trimF (l ++ [some x]) = l ++ [some x] := by
  induction l with
  | nil => simp [trimF]
  | cons r l ih =>
    simp only [List.cons_append, trimF, ih]
    split
    · rename_i h; simp at h
    · rfl
theorem trim_snoc_none (l : List (Option (List UInt8))) : trimF (l ++ [none]) = trimF l := by
  induction l with
  | nil => simp [trimF]
  | cons r l ih => simp only [List.cons_append, trimF, ih]
theorem trim_length (l : List (Option (List UInt8))) : (trimF l).length ≤ l.length := by
  induction l with
  | nil => simp [trimF]
  | cons r l ih =>
    simp only [trimF]
    split
    · simp
    · simp; omega
theorem endF_append (a b : List (Option (List UInt8))) : endF (a ++ b) = endF a + endF b := by
  induction a with
  | nil => simp [endF]
  | cons r a ih => cases r <;> simp [endF, ih]; omega
/-- The records' bytes do not grow by cutting. -/
theorem endF_take (l : List (Option (List UInt8))) (k : Nat) : endF (l.take k) ≤ endF l := by
  have := endF_append (l.take k) (l.drop k)
  rw [List.take_append_drop] at this; omega
theorem layAll_snoc (p : List UInt8) (i e : Nat) (a : List (Option (List UInt8))) (r : Option (List UInt8)) :
    layAll p i e (a ++ [r]) = layAll (layAll p i e a) (i + a.length) (e - endF a) [r] := by
  induction a generalizing p i e with
  | nil => simp [layAll, endF]
  | cons x a ih =>
    cases x with
    | none => simp only [List.cons_append, layAll, ih, endF, List.length_cons]; congr 1; omega
    | some l => simp only [List.cons_append, layAll, ih, endF, List.length_cons]; congr 1 <;> omega

@[simp] theorem headF_length (kind : UInt8) (n : Nat) : (headF kind n).length = 512 := by simp [headF]
@[simp] theorem layF_length (p : List UInt8) (i e : Nat) (l : List UInt8) (h : e + l.length ≤ p.length) : (layF p i e l).length = p.length := by
  simp [layF, over_length _ _ _ h]
theorem layAll_length (p : List UInt8) (i e : Nat) (rs : List (Option (List UInt8))) (h : endF rs ≤ e) (he : e ≤ p.length) : (layAll p i e rs).length = p.length := by
  induction rs generalizing p i e with
  | nil => rfl
  | cons r rs ih =>
    cases r with
    | none => exact ih _ _ _ h he
    | some l =>
      simp only [endF] at h
      simp only [layAll]
      rw [ih _ _ _ (by omega) (by rw [layF_length _ _ _ _ (by omega)]; omega), layF_length _ _ _ _ (by omega)]

theorem endF_trim (l : List (Option (List UInt8))) : endF (trimF l) = endF l := by
  induction l with
  | nil => rfl
  | cons r l ih =>
    simp only [trimF]
    split
    · rename_i h; rw [h] at ih; simp [endF] at ih ⊢; exact ih
    · rename_i r1 _ _ _
      cases r1 <;> simp [endF, ih]
theorem madeF_length (kind : UInt8) (rs : List (Option (List UInt8))) (h : endF rs ≤ 512) : (madeF kind rs).length = 512 := by
  rw [madeF, sealF_length, layAll_length _ _ _ _ (by rw [endF_trim]; exact h) (by simp), headF_length]

end Go.Proofs.YtnmjkgnahhbnoaaGreat

/- Walks of package page. -/
namespace Go.Proofs.YtnmjkgnahhbnoaaGreat
open Go.RowKit

theorem zeroPage : Tryz.zeroCells111.toList = bvals zpage := by kernel_rfl
theorem zeroPageA : Tryz.zeroCells111 = (bvals zpage).toArray := by rw [← zeroPage]
theorem infoPage : (Tryz.prog.info? 111).map (·.size) = some 512 := by kernel_rfl

set_option maxHeartbeats 400000 in
theorem sum_any (b off n cap : Nat) (zs : List UInt8) (w : World) (hn : zs.length = n) (hbig : zs.length ≤ 9223372036854775807) (hc : BytesAt w b off zs) :
    Calls Tryz.prog 127 #[.slice (some ⟨b, off, none⟩) n cap] w fun e w' => e = .returned (.int .u32 (sumF zs)) ∧ w = w' := by
  subst hn
  go_enter Tryz.func127, Tryz.ntmps127
  go_wp2
  go_loop [3, 8] (fun c i => ∃ (k : Nat), k ≤ zs.length ∧ i = .int .i64 k ∧ c = .int .u32 (crcF (zs.take k))) (fun _ i => zs.length - (intOf i).toNat)
  case atStart => exact ⟨0, Nat.zero_le _, rfl, rfl⟩
  case round =>
    obtain ⟨k, hk, rfl, rfl⟩ := hrel
    by_cases hlt : k < zs.length
    · have hcell := hc k zs[k] (by simp [hlt])
      have hs := crcF_snoc zs k hlt
      have HS := Lib.hid hs
      clear hc hs
      go_wp2
      generalize crcF (zs.take k) = c0 at *
      go_loop [3, 16] (fun c i => ∃ (m : Nat), m ≤ 8 ∧ i = .int .i64 m ∧ c = .int .u32 (crcBits m (bits BinOp.xor IntKind.u32 c0 ((zs[k].toNat : Int) % 4294967296)))) (fun _ i => 8 - (intOf i).toNat)
      case atStart => exact ⟨0, by omega, rfl, rfl⟩
      case round =>
        obtain ⟨m, hm, rfl, rfl⟩ := hrel
        by_cases hm8 : m < 8
        · go_wp2
          go_round
          case rel => exact ⟨m + 1, by omega, by go_num, rfl⟩
          case measure => simp [intOf]; omega
        · obtain rfl : m = 8 := by omega
          go_wp2
          go_round
          case rel => exact ⟨k + 1, by omega, by go_num, by rw [HS.out]; rfl⟩
          case measure => simp [intOf]; omega
    · clear hc
      go_wp2
      go_ret
      obtain rfl : k = zs.length := by omega
      exact ⟨by rw [List.take_length]; rfl, rfl⟩

set_option maxRecDepth 100000 in
set_option maxHeartbeats 400000 in
theorem seal_any (p : List UInt8) (w : World) (hp : p.length = 512) :
    Calls Tryz.prog 118 #[aggB p] w fun e w' => e = .returned (aggB (sealF p)) ∧ Fresh w w' := by
  go_enter Tryz.func118, Tryz.ntmps118
  go_wp2_with fail
  have hb1 := Blk.new w 111 (bvals p)
  have hb := hb1.alloc (.cells Tryz.zeroCells111 111)
  refine (sum_any _ _ _ _ (p.drop 4) _ (by simp [hp]) (by simp [hp]) (fun j c hj => ?_)).mono ?_
  · rw [hb.cell, bvals_get]; simp at hj; simp [hj]
  rintro e w' ⟨rfl, rfl⟩
  generalize hc0 : sumF (p.drop 4) = c at *
  have HC0 := Lib.hid hc0
  clear hc0
  go_wp2
  have hz : Blk ((w.alloc (.cells (bvals p).toArray 111)).alloc (.cells Tryz.zeroCells111 111)) (w.heap.size + 1) 111 (bvals zpage) := zeroPage ▸ Blk.newA _ _ _ (by simp)
  have hf : Fresh w ((w.alloc (.cells (bvals p).toArray 111)).alloc (.cells Tryz.zeroCells111 111)) := (Chg.alloc (Chg.alloc (Chg.refl _ _) _) _)
  generalize (w.alloc (.cells (bvals p).toArray 111)).alloc (.cells Tryz.zeroCells111 111) = w0 at *
  clear hb1
  go_loopw [7] (fun i wr => ∃ k : Nat, k ≤ 4 ∧ i = .int .i64 k ∧ Blk wr w.heap.size 111 (bvals (sealTo p c k)) ∧ Blk wr (w.heap.size + 1) 111 (bvals zpage) ∧ Fresh w wr) (fun i _ => 4 - (intOf i).toNat)
  case atStart => exact ⟨0, by omega, rfl, hb, hz, hf⟩
  case round =>
    obtain ⟨k, hk, rfl, hb, hz, hf⟩ := hrel
    have HB := Lib.hid hb
    have HZ := Lib.hid hz
    have HF := Lib.hid hf
    clear hb hz hf
    by_cases hlt : k < 4
    · have hcell : wr.cell? ⟨w.heap.size, k, none⟩ = some (B ((sealTo p c k)[k]'(by simp; omega))) := by
        rw [HB.out.cell, bvals_get]; simp [hp, show k < 512 by omega]
      have hfro := HB.out.frozen k
      go_wp2
      go_roundw
      case rel =>
        refine ⟨k + 1, by omega, by go_num, ?_, HZ.out.setOther (by simp) _, HF.out.setCell (.inr (Nat.le_refl _)) _⟩
        have := HB.out.set k (B (lowB (c / 2 ^ (8 * k))))
        rw [lowB_val] at this
        simpa [sealTo, bvals, List.map_set, lowB_val] using this
      case measure => simp [intOf]; omega
    · obtain rfl : k = 4 := by omega
      go_wp2_with (first
        | (refine wpList_loadA rfl 111 _ rfl _ 0 rfl _ _ HB.out 512 (bvals (sealTo p c 4)) (take_all _ _ (by simp [hp])) _ Tryz.underlying111 rfl infoPage (by simp [hp]) ?_)
        | (refine wpList_storeA rfl 111 _ _ rfl (w.heap.size + 1) 0 rfl (bvals (sealTo p c 4)) rfl _ _ HZ.out (by rw [bvals_length, sealTo_length, hp]; exact infoPage) (by simp [hp]) bvals_one ?_; intro w2 HB2 HC2))
      refine bodyPost_ret (results_cellA Tryz.results118 _ _ (w.heap.size + 1) 111 (bvals (sealTo p c 4)) _ rfl ?_ Tryz.underlying111 rfl (by rw [bvals_length, sealTo_length, hp]; exact infoPage)) rfl ?_
      · have := HB2.out
        rwa [over_all _ _ (by simp [hp])] at this
      · exact ⟨by rw [sealF, HC0.out], HF.out.trans HC2.out (by intro b hb e; omega)⟩
end Go.Proofs.YtnmjkgnahhbnoaaGreat

/- Walks of package page: slots. -/
namespace Go.Proofs.YtnmjkgnahhbnoaaGreat
open Go.RowKit

theorem or_word (p : List UInt8) (i : Nat) : bits BinOp.or IntKind.i64 (byteAt p i : Int) ((byteAt p (i + 1) : Int) * 256) = (wordAt p i : Int) :=
  or_bytes _ _ (byteAt_lt p i) (by have := byteAt_lt p (i + 1); omega)
section
variable {ops : Array Oper} {rest : List Oper} {o : Oper} {a : Act} {w : World} {Q : Exit → Act → World → Prop}
/-- 'append([]byte{}, x...)': x's bytes in a block of their own. -/
theorem wpList_appBytesC (hgd : o.guard = none) (s x : Operand) (ho : o.op = .call { callee := .builtin .append, args := #[s, x], argTypes := #[23, 23] })
    (g0 : Nat) (hs : a.eval s = .slice (some ⟨g0, 0, none⟩) 0 0) (hg0 : Blk w g0 5 []) (bs : List UInt8) (m : Nat) (hm : bs.length = m) (hb : m ≤ 140737488355328)
    (hx : (a.eval x = .slice none 0 0 ∧ m = 0) ∨ ∃ ad c, a.eval x = .slice (some ad) m c ∧ ∀ (j : Nat) (u : Value), (bvals bs)[j]? = some u → w.cell? (ad.add j) = some u)
    (h : ∀ g' cap' w', Hid (SlB w' (.slice (some ⟨g', 0, none⟩) m cap') g' bs) → Hid (Chg (· = g0) w w') → Hid (g' = g0 ∨ w.heap.size ≤ g') → Hid (m ≤ cap') →
      wpList Tryz.prog ops Q rest (a.put o.dst (.slice (some ⟨g', 0, none⟩) m cap')) w') : wpList Tryz.prog ops Q (o :: rest) a w := by
  have hown : w.ownsRow 0 5 1 (.slice (some ⟨g0, 0, none⟩) 0 0) 0 [] := ⟨rfl, .inr ⟨g0, 0, #[], rfl, Nat.zero_le _, by simpa [Blk] using hg0, Nat.le_refl _, Nat.zero_le _, rfl, rfl⟩⟩
  rcases hx with ⟨hx, rfl⟩ | ⟨ad, c, hx, hsrc⟩
  · obtain rfl : bs = [] := List.eq_nil_of_length_eq_zero hm
    refine wpList_appNil hgd s x _ ho 5 (.int .u8 0) 1 1 Tryz.underlying23 infoByte 0 _ 0 [] hs hown hx ?_
    exact h g0 0 w ⟨0, 0, #[], rfl, by simpa [Blk] using hg0, fun j c hj => by simp at hj⟩ (Chg.refl _ _) (.inl rfl) (Nat.le_refl _)
  · refine wpList_app hgd s x _ ho 5 (.int .u8 0) 1 1 Tryz.underlying23 infoByte rfl (by decide) 0 _ 0 [] hs hown ad m c (bvals bs) hx (by simp [hm]) hsrc bvals_one
      (by unfold maxLen; omega) (by omega) (Nat.zero_le _) (.inl (by simp)) ?_
    intro g' cap' w' h1 h2 h3
    have h1' := h1.out
    have h2' := h2.out
    have h3' := h3.out
    simp only [Nat.zero_add, List.nil_append] at h1' ⊢
    refine h g' cap' w' ?_ (h2'.mono fun b _ e => by simpa [Value.ownBlock, eq_comm] using e) (by rcases h3' with e | e; exact .inl (by simpa [Value.ownBlock, eq_comm] using e); exact .inr e) (by
      rcases h1'.2 with ⟨e, _⟩ | ⟨g, cap, cur, e, _, _, hnc, _⟩
      · cases e
      · simp only [Value.slice.injEq] at e
        obtain ⟨_, _, rfl⟩ := e
        exact hnc)
    obtain ⟨hl, h1'⟩ := h1'
    rcases h1' with ⟨e, _⟩ | ⟨g, cap, cur, e, _, hg, _, _, _, ht⟩
    · cases e
    · simp only [Value.slice.injEq, Option.some.injEq, Addr.mk.injEq, and_true, true_and] at e
      obtain ⟨rfl, rfl⟩ := e
      refine ⟨0, cap', cur, by rw [hm], hg, fun j c hj => ?_⟩
      have : (bvals bs)[j]? = some (B c) := by rw [bvals_get, hj]; rfl
      rw [← ht, List.getElem?_take] at this
      split at this
      · simpa using this
      · cases this

end
/-- A value whose block is new; it has room for what it holds. -/
def OwnV (base : Nat) (v : Value) : Prop := (∀ b, v.ownBlock = some b → base ≤ b) ∧ ∀ a n c, v = .slice a n c → n ≤ c
theorem OwnV.le {base base' : Nat} {v : Value} (h : OwnV base v) (hb : base' ≤ base) : OwnV base' v := ⟨fun b hv => Nat.le_trans hb (h.1 b hv), h.2⟩
theorem OwnV.nil (base : Nat) : OwnV base (.slice none 0 0) := ⟨fun b hb => by simp [Value.ownBlock] at hb, fun a n c e => by cases e; exact Nat.le_refl _⟩
/-- Values whose blocks are new. -/
def OwnB (base : Nat) (vs : List Value) : Prop := ∀ v ∈ vs, OwnV base v
theorem OwnB.snoc {base : Nat} {vs : List Value} {v : Value} (h : OwnB base vs) (hv : OwnV base v) : OwnB base (vs ++ [v]) := by
  intro u hu
  rcases List.mem_append.1 hu with hu | hu
  · exact h u hu
  · simp only [List.mem_singleton] at hu; subst hu; exact hv
set_option maxRecDepth 100000 in
set_option maxHeartbeats 400000 in
theorem slots_any (p : List UInt8) (w : World) (hp : p.length = 512) :
    Calls Tryz.prog 89 #[aggB p] w fun e w' => ∃ v vs, e = .returned v ∧ w'.ownsRow w.heap.size 23 1 v (nslots p) vs ∧ RecsV w' vs (slotsF p) ∧ Fresh w w' ∧ OwnB w.heap.size vs := by
  go_enter Tryz.func89, Tryz.ntmps89
  have hb := Blk.new w 111 (bvals p)
  have c5 : (w.alloc (.cells (bvals p).toArray 111)).cell? ⟨w.heap.size, 5, none⟩ = some (.int .u8 (byteAt p 5 : Int)) := by
    rw [hb.cell, bvals_get]; simp [hp, byteAt]
  have l5 := byteAt_lt p 5
  have hf : Fresh w (w.alloc (.cells (bvals p).toArray 111)) := (Chg.alloc (Chg.refl _ _) _)
  have HB := Lib.hid hb
  have HF := Lib.hid hf
  clear hb hf
  have hmin : min (byteAt p 5 : Int) 124 = (nslots p : Int) := by simp only [nslots]; omega
  go_wp2
  all_goals
    go_loopw [3, 12] (fun v i wr => ∃ (k : Nat) (vs : List Value), k ≤ nslots p ∧ i = .int .i64 k ∧ wr.ownsRow (w.heap.size + 1) 23 1 v k vs ∧
        RecsV wr vs ((slotsF p).take k) ∧ Blk wr w.heap.size 111 (bvals p) ∧ Fresh w wr ∧ Hid (OwnB w.heap.size vs)) (fun _ i _ => nslots p - (intOf i).toNat)
    case atStart => exact ⟨0, [], Nat.zero_le _, rfl, World.ownsRow_nil _ _ _ _, RecsV.nil _, HB.out, HF.out, fun v hv => by cases hv⟩
    case round =>
      clear HB HF c5 l5 hmin
      obtain ⟨k, vs, hk, rfl, how, hrs, hb, hf, HOB⟩ := hrel
      have HB := Lib.hid hb
      have HF := Lib.hid hf
      have HO := Lib.hid how
      have HR := Lib.hid hrs
      have hn : nslots p ≤ 124 := Nat.min_le_right _ _
      by_cases hlt : k < nslots p
      · have c0 : wr.cell? ⟨w.heap.size, 6 + 4 * k, none⟩ = some (.int .u8 (byteAt p (6 + 4 * k) : Int)) := by
          rw [hb.cell, bvals_get]; simp [hp, byteAt, show 6 + 4 * k < 512 by omega]
        have c1 : wr.cell? ⟨w.heap.size, 6 + 4 * k + 1, none⟩ = some (.int .u8 (byteAt p (6 + 4 * k + 1) : Int)) := by
          rw [hb.cell, bvals_get]; simp [hp, byteAt, show 6 + 4 * k + 1 < 512 by omega]
        have c2 : wr.cell? ⟨w.heap.size, 6 + 4 * k + 2, none⟩ = some (.int .u8 (byteAt p (6 + 4 * k + 2) : Int)) := by
          rw [hb.cell, bvals_get]; simp [hp, byteAt, show 6 + 4 * k + 2 < 512 by omega]
        have c3 : wr.cell? ⟨w.heap.size, 6 + 4 * k + 3, none⟩ = some (.int .u8 (byteAt p (6 + 4 * k + 3) : Int)) := by
          rw [hb.cell, bvals_get]; simp [hp, byteAt, show 6 + 4 * k + 3 < 512 by omega]
        have l0 := byteAt_lt p (6 + 4 * k)
        have l1 := byteAt_lt p (6 + 4 * k + 1)
        have l2 := byteAt_lt p (6 + 4 * k + 2)
        have l3 := byteAt_lt p (6 + 4 * k + 3)
        have o1 := or_word p (6 + 4 * k)
        have o2 := or_word p (6 + 4 * k + 2)
        have HS := Lib.hid (slotsF_take p k hlt)
        have w1 := wordAt_lt p (6 + 4 * k)
        have w2 := wordAt_lt p (6 + 4 * k + 2)
        clear hb hf how hrs
        go_wp2
        go_quiet (fail)
        clear o1 o2 c0 c1 c2 c3 l0 l1 l2 l3
        have HB1 : Hid (Blk (wr.drewN nq) w.heap.size 111 (bvals p)) := HB.out
        have HF1 : Hid (Fresh w (wr.drewN nq)) := HF.out.drewN nq
        have HO1 : Hid ((wr.drewN nq).ownsRow (w.heap.size + 1) 23 1 u3 k vs) := HO.out
        have HR1 : Hid (RecsV (wr.drewN nq) vs ((slotsF p).take k)) := HR.out.fresh ((Chg.refl _ _).drewN nq)
        generalize wr.drewN nq = wq at *
        clear HB HF HO HR
        have HSL : Hid (slotAt p k = if wordAt p (6 + 4 * k + 2) = 0 ∨ wordAt p (6 + 4 * k) < 6 ∨ 513 < wordAt p (6 + 4 * k) + wordAt p (6 + 4 * k + 2) then none else some ((p.drop (wordAt p (6 + 4 * k))).take (wordAt p (6 + 4 * k + 2) - 1))) := rfl
        generalize wordAt p (6 + 4 * k) = f at *
        generalize wordAt p (6 + 4 * k + 2) = n at *
        have hcase : (n = 0) ∨ (n ≠ 0 ∧ f < 6) ∨ (n ≠ 0 ∧ ¬ f < 6 ∧ 513 < f + n) ∨ (n ≠ 0 ∧ ¬ f < 6 ∧ ¬ 513 < f + n) := by omega
        by_cases hyes : n ≠ 0 ∧ ¬ f < 6 ∧ ¬ 513 < f + n
        · obtain ⟨h0, h1, h2⟩ := hyes
          clear hcase
          have e0 : ((n : Int) == 0) = false := by rw [beq_eq_false_iff_ne]; omega
          obtain ⟨so, hso, hsl⟩ := run_sliceArr (Pr := Tryz.prog) 111 5 512 Tryz.underlying111 Tryz.sizeOf5 w.heap.size 0 f (f + n - 1) .i64 .i64 (by omega) (by omega) f ((f : Int) + n - 1) rfl (by omega)
          have hlen : ((p.drop f).take (n - 1)).length = n - 1 := by simp [hp]; omega
          have hsrc : ∀ (j : Nat) (u : Value), (bvals ((p.drop f).take (n - 1)))[j]? = some u → wq.cell? ((⟨w.heap.size, so, none⟩ : Addr).add j) = some u := by
            intro j u hj
            have hjl : j < n - 1 := by
              rw [← hlen, ← bvals_length]; exact (List.getElem?_eq_some_iff.1 hj).1
            rw [Addr.add_mid, HB1.out.cell, ← hj, bvals_get, bvals_get, List.getElem?_take, if_pos hjl, List.getElem?_drop, hso (by omega)]
            simp
          rw [show f + n - 1 - f = n - 1 from by omega] at hsl
          have HSS : Hid (slotAt p k = some ((p.drop f).take (n - 1))) := by rw [HSL.out, if_neg (by omega)]; rfl
          have HSRC := Lib.hid hsrc
          have HLEN := Lib.hid hlen
          generalize (p.drop f).take (n - 1) = bs at *
          clear hsrc hso hlen HSL
          go_wp2_with (first
            | (at_builtin; refine wpList_appBytesC rfl _ _ rfl wq.heap.size rfl (Blk.new wq 5 []) bs (n - 1) HLEN.out (by omega) (.inr ⟨⟨w.heap.size, so, none⟩, 512 - f, rfl, fun j u hj => cell_alloc (HSRC.out j u hj) _⟩) ?_; intro g1 cap1 w3 HO3 HC3 HG3 HCP3;
                have hw := ((Chg.refl (fun _ => False) wq).alloc _).trans HC3.out (fun b hb e => by omega);
                have HO4 := Lib.hid (hw.owns HO1.out (fun _ _ f => f)); have HB4 := Lib.hid (HB1.out.chg hw id); have HF4 := Lib.hid (HF1.out.trans hw (fun _ _ f => f)); have HR4 := Lib.hid (HR1.out.fresh hw);
                have HG4 : Hid (w.heap.size ≤ g1) := (by show _ ≤ _; have h5 := HG3.out; have h6 := HF1.out.size; simp at h5; omega);
                clear hw HO1 HB1 HF1 HR1 HC3 HG3 HSRC)
            | (at_builtin; go_must (refine wpList_app rfl _ _ 22 rfl 23 (.slice none 0 0) 1 24 Tryz.underlying22 infoRecs rfl (by decide) (w.heap.size + 1) u3 k vs rfl (HO4.out.alloc _) ⟨w3.heap.size, 0, none⟩ 1 1 [.slice (some ⟨g1, 0, none⟩) (n - 1) cap1] rfl rfl (new_cells _ _ _) (one_of _ rfl) (by unfold maxLen; omega) (by omega) (by have := HB4.out.lt; simp; omega) (.inr (by omega)) ?_); intro g' cap' w' HO2 HC2 HG2))
          go_roundw
          case rel =>
            refine ⟨k + 1, _, by omega, by go_num, HO2.out, ?_, ?_, ?_, HOB.out.snoc ⟨fun b hb => by simp [Value.ownBlock] at hb; subst hb; exact HG4.out, fun a n c e => by cases e; exact HCP3.out⟩⟩
            · rw [HS.out, HSS.out]
              refine RecsV.snoc ((HR4.out.fresh ((Chg.refl _ _).alloc _)).chg HC2.out fun b cur hb => owns_other (HO4.out.alloc _) hb (by decide)) ?_
              exact RecV.chg (r := some bs) (RecV.fresh (r := some bs) ⟨g1, HO3.out⟩ ((Chg.refl _ _).alloc _)) HC2.out fun b cur hb => owns_other (HO4.out.alloc _) hb (by decide)
            · exact (HB4.out.alloc _).chg HC2.out (owns_other HO4.out HB4.out (by decide))
            · exact (HF4.out.alloc _).trans HC2.out fun b hb h => by have := (HO4.out.lt b h).1; omega
          case measure => simp [intOf]; omega
        · have HSN : Hid (slotAt p k = none) := by rw [HSL.out, if_pos (by omega)]; rfl
          clear HSL
          rcases hcase with h0 | ⟨h0, h1⟩ | ⟨h0, h1, h2⟩ | h3
          rotate_right
          · exact absurd h3 hyes
          all_goals
            clear hyes
            go_wp2_with (at_builtin; go_must (refine wpList_app rfl _ _ 22 rfl 23 (.slice none 0 0) 1 24 Tryz.underlying22 infoRecs rfl (by decide) (w.heap.size + 1) u3 k vs rfl (HO1.out.alloc _) ⟨wq.heap.size, 0, none⟩ 1 1 [.slice none 0 0] rfl rfl (new_cells _ _ _) (one_of _ rfl) (by unfold maxLen; omega) (by omega) (by have := HB1.out.lt; simp; omega) (.inr (by omega)) ?_); intro g' cap' w' HO2 HC2 HG2)
            go_roundw
            case rel =>
              refine ⟨k + 1, _, by omega, by go_num, HO2.out, ?_, ?_, ?_, HOB.out.snoc (OwnV.nil _)⟩
              · rw [HS.out, HSN.out]
                exact RecsV.snoc ((HR1.out.fresh ((Chg.refl _ _).alloc _)).chg HC2.out fun b cur hb => owns_other (HO1.out.alloc _) hb (by decide)) rfl
              · exact (HB1.out.alloc _).chg HC2.out (owns_other HO1.out HB1.out (by decide))
              · exact (HF1.out.alloc _).trans HC2.out fun b hb h => by have := (HO1.out.lt b h).1; omega
            case measure => simp [intOf]; omega
      · obtain rfl : k = nslots p := by omega
        clear hb hf how hrs
        go_wp2
        go_ret
        refine ⟨_, vs, rfl, owns_base HO.out (Nat.le_succ _), ?_, HF.out, HOB.out⟩
        have := HR.out
        rwa [List.take_of_length_le (by simp)] at this
end Go.Proofs.YtnmjkgnahhbnoaaGreat

/- Walks of package page: made. -/
namespace Go.Proofs.YtnmjkgnahhbnoaaGreat
open Go.RowKit

def lenV : Value → Nat
  | .slice _ n _ => n
  | _ => 0
theorem headBlk (kind : UInt8) (n : Nat) (hn : n < 256) : ((bvals zpage).set 4 (B kind)).set 5 (.int .u8 (n : Int)) = bvals (headF kind n) := by
  rw [show (n : Int) = (n : Int) % 256 by omega, ← lowB_val, bvals_set, bvals_set]; rfl
theorem set4Blk (p : List UInt8) (at_ e n : Nat) (he : e < 65536) (hn : n < 65536) : ((((bvals p).set at_ (.int .u8 ((e : Int) % 256))).set (at_ + 1) (.int .u8 ((e : Int) / 256))).set (at_ + 2) (.int .u8 ((n : Int) % 256))).set (at_ + 3) (.int .u8 ((n : Int) / 256)) = bvals (set4 p at_ e n) := by
  rw [show (e : Int) / 256 = (e : Int) / 256 % 256 by omega, show (n : Int) / 256 = (n : Int) / 256 % 256 by omega]
  simp only [← lowB_val, bvals_set, set4]

set_option maxRecDepth 100000 in
set_option maxHeartbeats 1000000 in
theorem made_some (kind : UInt8) (g cap n : Nat) (vs : List Value) (rs : List (Option (List UInt8))) (base : Nat) (w : World) (hn : rs.length = n)
    (hown : w.ownsRow base 23 1 (.slice (some ⟨g, 0, none⟩) n cap) n vs) (hrs : RecsV w vs rs) (hfit : 6 + 4 * rs.length + endF rs ≤ 512) :
    Calls Tryz.prog 87 #[B kind, .slice (some ⟨g, 0, none⟩) n cap] w fun e w' => e = .returned (aggB (madeF kind rs)) ∧ Fresh w w' := by
  subst hn
  have hcap : rs.length ≤ cap := by
    rcases hown.2 with ⟨h, _⟩ | ⟨g', cap', cur, h, _, hg, hnc, _⟩
    · cases h
    · simp only [Value.slice.injEq] at h; obtain ⟨_, _, rfl⟩ := h; exact hnc
  have HRS := Lib.hid hrs
  have HOWN := Lib.hid hown
  have hlen : vs.length = rs.length := hrs.1
  have HLEN := Lib.hid hlen
  clear hrs hown hlen
  go_enter Tryz.func87, Tryz.ntmps87
  go_upto_block 0 with (fail)
  have hz0 : Blk ((w.alloc (.cells Tryz.zeroCells111 111)).alloc (.cells Tryz.zeroCells111 111)) w.heap.size 111 (bvals zpage) := zeroPage ▸ (Blk.newA w 111 _ rfl).alloc _
  have hz1 : Blk ((w.alloc (.cells Tryz.zeroCells111 111)).alloc (.cells Tryz.zeroCells111 111)) (w.heap.size + 1) 111 (bvals zpage) := zeroPage ▸ Blk.newA _ _ _ (by simp)
  have hf : Fresh w ((w.alloc (.cells Tryz.zeroCells111 111)).alloc (.cells Tryz.zeroCells111 111)) := (Chg.alloc (Chg.alloc (Chg.refl _ _) _) _)
  have HZ0 := Lib.hid hz0
  have HZ1 := Lib.hid hz1
  have HF := Lib.hid hf
  clear hz0 hz1 hf
  generalize (w.alloc (.cells Tryz.zeroCells111 111)).alloc (.cells Tryz.zeroCells111 111) = w0 at *
  go_cut [1] (fun v wx => wx = w0 ∧ ∃ m : Nat, m ≤ rs.length ∧ v = .slice (some ⟨g, 0, none⟩) m cap ∧ Hid (trimF rs = rs.take m))
  case first =>
    go_wp2_with fail
    go_loop [1] (fun v => ∃ m : Nat, m ≤ rs.length ∧ v = .slice (some ⟨g, 0, none⟩) m cap ∧ Hid (trimF (rs.take m) = trimF rs)) (fun v => lenV v)
    case atStart => exact ⟨rs.length, Nat.le_refl _, rfl, by rw [List.take_length]; rfl⟩
    case round =>
      obtain ⟨m, hm, rfl, HT⟩ := hrel
      have hcase : m = 0 ∨ (∃ k l, m = k + 1 ∧ rs[k]? = some (some l)) ∨ (∃ k, m = k + 1 ∧ rs[k]? = some none) := by
        cases m with
        | zero => exact .inl rfl
        | succ k =>
          have hk : k < rs.length := hm
          cases hr : rs[k] with
          | none => exact .inr (.inr ⟨k, rfl, by rw [List.getElem?_eq_getElem hk, hr]⟩)
          | some l => exact .inr (.inl ⟨k, l, rfl, by rw [List.getElem?_eq_getElem hk, hr]⟩)
      rcases hcase with h0 | ⟨k, l, h0, hk⟩ | ⟨k, h0, hk⟩
      rotate_right
      · subst h0
        have hkl : k < rs.length := hm
        have hv : vs[k]? = some (.slice none 0 0) := by
          have hkv : k < vs.length := by rw [HLEN.out]; exact hkl
          have := HRS.out.2 k vs[k] none (List.getElem?_eq_getElem hkv) hk
          rw [List.getElem?_eq_getElem hkv, this]
        have hc : w0.cell? ⟨g, k, none⟩ = some (.slice none 0 0) := by
          rw [(HF.out.owns HOWN.out (fun _ _ f => f)).cellAt k (by omega)]; exact hv
        have HT2 : Hid (trimF (rs.take k) = trimF rs) := by
          have := HT.out
          rw [List.take_succ_eq_append_getElem hkl] at this
          rw [List.getElem?_eq_getElem hkl] at hk
          simp only [Option.some.injEq] at hk
          rw [hk, trim_snoc_none] at this
          exact this
        clear hv hk
        go_wp2
        go_round
        case rel => exact ⟨k, by omega, rfl, HT2⟩
        case measure => simp [lenV]
      · subst h0
        go_wp2
        go_meet
        exact ⟨rfl, 0, Nat.zero_le _, rfl, HT.out.symm⟩
      · subst h0
        have hkl : k < rs.length := hm
        have hkv : k < vs.length := by rw [HLEN.out]; exact hkl
        obtain ⟨b, o, cp, cur, hv, _⟩ := HRS.out.2 k vs[k] (some l) (List.getElem?_eq_getElem hkv) hk
        have hc : w0.cell? ⟨g, k, none⟩ = some (.slice (some ⟨b, o, none⟩) l.length cp) := by
          rw [(HF.out.owns HOWN.out (fun _ _ f => f)).cellAt k (by omega), List.getElem?_eq_getElem hkv, hv]
        have HT2 : Hid (trimF rs = rs.take (k + 1)) := by
          have := HT.out
          rw [List.getElem?_eq_getElem hkl] at hk
          simp only [Option.some.injEq] at hk
          rw [← this, List.take_succ_eq_append_getElem hkl, hk, trim_snoc_some]; rfl
        clear hv hk HT
        go_wp2
        go_meet
        exact ⟨rfl, k + 1, by omega, rfl, HT2⟩
  case rest =>
    obtain ⟨rfl, m, hm, rfl, HT⟩ := hcut
    have c4 : wc.cell? ⟨w.heap.size + 1, 4, none⟩ = some (B 0) := by rw [HZ1.out.cell]; rfl
    have c5 : wc.cell? ⟨w.heap.size + 1, 5, none⟩ = some (B 0) := by rw [HZ1.out.cell]; rfl
    have f4 := HZ1.out.frozen 4
    have f5 := HZ1.out.frozen 5
    go_wp2
    have hb : Blk ((wc.setCell ⟨w.heap.size + 1, 4, none⟩ (B kind)).setCell ⟨w.heap.size + 1, 5, none⟩ (.int .u8 (m : Int))) (w.heap.size + 1) 111 (bvals (headF kind m)) :=
      headBlk kind m (by omega) ▸ (HZ1.out.set 4 (B kind)).set 5 _
    have hz : Blk ((wc.setCell ⟨w.heap.size + 1, 4, none⟩ (B kind)).setCell ⟨w.heap.size + 1, 5, none⟩ (.int .u8 (m : Int))) w.heap.size 111 (bvals zpage) :=
      (HZ0.out.setOther (by simp) _).setOther (by simp) _
    have hf : Fresh w ((wc.setCell ⟨w.heap.size + 1, 4, none⟩ (B kind)).setCell ⟨w.heap.size + 1, 5, none⟩ (.int .u8 (m : Int))) :=
      (HF.out.setCell (.inr (by simp)) _).setCell (.inr (by simp)) _
    have HB := Lib.hid hb
    have HZ := Lib.hid hz
    have HF1 := Lib.hid hf
    clear hb hz hf c4 c5 f4 f5
    generalize (wc.setCell ⟨w.heap.size + 1, 4, none⟩ (B kind)).setCell ⟨w.heap.size + 1, 5, none⟩ (.int .u8 (m : Int)) = w1 at *
    clear HZ0 HZ1 HF
    go_loopw [6, 36] (fun en i wr => ∃ (k e : Nat), k ≤ m ∧ i = .int .i64 k ∧ en = .int .i64 e ∧ Hid (e + endF (rs.take k) = 512) ∧ Hid (Blk wr (w.heap.size + 1) 111 (bvals (layAll (headF kind m) 0 512 (rs.take k)))) ∧
      Hid (Blk wr w.heap.size 111 (bvals zpage)) ∧ Hid (Fresh w wr)) (fun _ i _ => m - (intOf i).toNat)
    case atStart => exact ⟨0, 512, Nat.zero_le _, rfl, rfl, rfl, HB, HZ, HF1⟩
    case round =>
      clear HB HZ HF1
      obtain ⟨k, e, hk, rfl, rfl, HE, HB, HZ, HF⟩ := hrel
      by_cases hlt : k < m
      · have hkl : k < rs.length := by omega
        have hkv : k < vs.length := by rw [HLEN.out]; exact hkl
        have hc : wr.cell? ⟨g, k, none⟩ = some vs[k] := by
          rw [(HF.out.owns HOWN.out (fun _ _ f => f)).cellAt k (by omega), List.getElem?_eq_getElem hkv]
        have hr := HRS.out.2 k vs[k] rs[k] (List.getElem?_eq_getElem hkv) (List.getElem?_eq_getElem hkl)
        have HTK := Lib.hid (List.take_succ_eq_append_getElem hkl)
        generalize vs[k] = v at *
        generalize rs[k] = r at *
        have HEK : Hid (endF (rs.take (k + 1)) = endF (rs.take k) + endF [r]) := by rw [HTK.out, endF_append]; rfl
        have hle : Hid (endF (rs.take (k + 1)) ≤ endF rs) := endF_take _ _
        cases r with
        | none =>
          obtain rfl : v = .slice none 0 0 := hr
          go_wp2
          go_roundw
          case rel =>
            refine ⟨k + 1, e, by omega, by go_num, rfl, ?_, ?_, HZ, HF⟩
            · have := HE.out; have := HEK.out; simp [endF] at this; show _ = _; omega
            · rw [HTK.out, layAll_snoc]; exact HB
          case measure => simp [intOf]; omega
        | some l =>
          obtain ⟨b, hsl⟩ := hr
          obtain ⟨o, cp, cur, rfl, hheap, hcur⟩ := hsl
          have HSRC : Hid (∀ (j : Nat) (u : Value), (bvals l)[j]? = some u → w.cell? ((⟨b, o, none⟩ : Addr).add j) = some u) := by
            intro j u hj
            rw [bvals_get] at hj
            cases hlj : l[j]? with
            | none => rw [hlj] at hj; cases hj
            | some c =>
              rw [hlj] at hj
              rw [Addr.add_mid, cell_of_row w b (o + j) cur _ _ hheap, hcur j c hlj]
              simpa using hj
          clear hheap hcur
          have hfin : l.length + 6 + 4 * rs.length ≤ e := by
            have h1 := HE.out; have h2 := HEK.out; have h3 := hle.out; simp [endF] at h2; omega
          obtain ⟨e', rfl⟩ : ∃ e', e = e' + l.length := ⟨e - l.length, by omega⟩
          have he' : e' + l.length ≤ 512 := by have := HE.out; omega
          obtain ⟨so, hso, hsl⟩ := run_sliceArrL (Pr := Tryz.prog) 111 5 512 Tryz.underlying111 Tryz.sizeOf5 (w.heap.size + 1) 0 e' .i64 (by omega) e' rfl
          have HSO := Lib.hid hso
          clear hso
          have hpl : (layAll (headF kind m) 0 512 (rs.take k)).length = 512 := by
            rw [layAll_length _ _ _ _ (by have := HE.out; omega) (by simp)]; simp
          have HPL := Lib.hid hpl
          have HLS := layAll_snoc (headF kind m) 0 512 (rs.take k) (some l)
          have HLS2 := Lib.hid HLS
          have hkt : (rs.take k).length = k := by simp; omega
          have HKT := Lib.hid hkt
          have HEE : Hid (512 - endF (rs.take k) - l.length = e') := by have := HE.out; show _ = _; omega
          clear HLS hpl hkt
          generalize layAll (headF kind m) 0 512 (rs.take k) = pg at *
          have hat : 6 + 4 * k + 3 < 512 := by omega
          go_wp2_with (
            (with_reducible refine wpList_copyB rfl _ _ rfl (w.heap.size + 1) e' _ _ HB.out l _ _ _ _ _ _ rfl rfl (by omega) (fun hp => ⟨by rw [HSO.out (by omega), Nat.zero_add], _, rfl, fun j v hj => HF.out.cell (HSRC.out j v hj) id⟩) (by rw [bvals_length, HPL.out]; omega) ?_)
            intro w2 HB2 HC2
            have HB3 : Hid (Blk w2 (w.heap.size + 1) 111 (bvals (over pg e' l))) := by rw [← bvals_over]; exact HB2.out
            have hov : (over pg e' l).length = 512 := by rw [over_length _ _ _ (by have := HPL.out; omega), HPL.out]
            have c0 : w2.cell? ⟨w.heap.size + 1, 6 + 4 * k, none⟩ = some (B ((over pg e' l)[6 + 4 * k]'(by omega))) := by rw [HB3.out.cell, bvals_get, List.getElem?_eq_getElem]; rfl
            have c1 : w2.cell? ⟨w.heap.size + 1, 6 + 4 * k + 1, none⟩ = some (B ((over pg e' l)[6 + 4 * k + 1]'(by omega))) := by rw [HB3.out.cell, bvals_get, List.getElem?_eq_getElem]; rfl
            have c2 : w2.cell? ⟨w.heap.size + 1, 6 + 4 * k + 2, none⟩ = some (B ((over pg e' l)[6 + 4 * k + 2]'(by omega))) := by rw [HB3.out.cell, bvals_get, List.getElem?_eq_getElem]; rfl
            have c3 : w2.cell? ⟨w.heap.size + 1, 6 + 4 * k + 3, none⟩ = some (B ((over pg e' l)[6 + 4 * k + 3]'(by omega))) := by rw [HB3.out.cell, bvals_get, List.getElem?_eq_getElem]; rfl
            generalize (over pg e' l)[6 + 4 * k] = x0 at c0
            generalize (over pg e' l)[6 + 4 * k + 1] = x1 at c1
            generalize (over pg e' l)[6 + 4 * k + 2] = x2 at c2
            generalize (over pg e' l)[6 + 4 * k + 3] = x3 at c3
            have f0 := HB3.out.frozen (6 + 4 * k)
            have f1 := HB3.out.frozen (6 + 4 * k + 1)
            have f2 := HB3.out.frozen (6 + 4 * k + 2)
            have f3 := HB3.out.frozen (6 + 4 * k + 3)
            have HZ2 := Lib.hid (HZ.out.chg HC2.out (by simp))
            have HF2 : Hid (Fresh w w2) := HF.out.trans HC2.out (by intro b hb e; omega)
            clear hov HB2 HC2 HB HZ HF HSRC HSO hc)
          go_roundw
          case rel =>
            refine ⟨k + 1, e', by omega, by go_num, rfl, ?_, ?_, ?_, ?_⟩
            · have := HE.out; have := HEK.out; simp [endF] at this; show _ = _; omega
            · rw [HTK.out, HLS2.out, HKT.out]
              simp only [layAll, layF, HEE.out, Nat.zero_add]
              have hq := set4Blk (over pg e' l) (6 + 4 * k) e' (l.length + 1) (by omega) (by omega)
              rw [← hq]
              have := (((HB3.out.set (6 + 4 * k) (.int .u8 ((e' : Int) % 256))).set (6 + 4 * k + 1) (.int .u8 ((e' : Int) / 256))).set (6 + 4 * k + 2) (.int .u8 (((l.length + 1 : Nat) : Int) % 256))).set (6 + 4 * k + 3) (.int .u8 (((l.length + 1 : Nat) : Int) / 256))
              show Blk _ _ _ _
              simpa using this
            · exact (((HZ2.out.setOther (by simp) _).setOther (by simp) _).setOther (by simp) _).setOther (by simp) _
            · exact (((HF2.out.setCell (.inr (by simp)) _).setCell (.inr (by simp)) _).setCell (.inr (by simp)) _).setCell (.inr (by simp)) _
          case measure => simp [intOf]; omega
      · obtain rfl : k = m := by omega
        have hpl : (layAll (headF kind k) 0 512 (rs.take k)).length = 512 := by
          rw [layAll_length _ _ _ _ (by have := HE.out; omega) (by simp)]; simp
        have HPL := Lib.hid hpl
        have HM : Hid (madeF kind rs = sealF (layAll (headF kind k) 0 512 (rs.take k))) := by
          rw [madeF, HT.out, show (rs.take k).length = k by simp; omega]; rfl
        clear hpl
        generalize layAll (headF kind k) 0 512 (rs.take k) = pg at *
        go_wp2_with (first
          | (refine wpList_loadA rfl 111 _ rfl (w.heap.size + 1) 0 rfl _ _ HB.out 512 (bvals pg) (take_all _ _ (by simp [HPL.out])) _ Tryz.underlying111 rfl infoPage (by simp [HPL.out]) ?_)
          | (go_at_call 118; refine (seal_any pg _ HPL.out).mono ?_; rintro e1 w3 ⟨rfl, hw3⟩; have HW3 := Lib.hid hw3; clear hw3)
          | (refine wpList_storeA rfl 111 _ _ rfl w.heap.size 0 rfl (bvals (sealF pg)) rfl _ _ (HZ.out.chg HW3.out id) (by rw [bvals_length, sealF_length, HPL.out]; exact infoPage) (by simp [HPL.out]) bvals_one ?_; intro w4 HB4 HC4))
        refine bodyPost_ret (results_cellA Tryz.results87 _ _ w.heap.size 111 (bvals (sealF pg)) _ rfl ?_ Tryz.underlying111 rfl (by rw [bvals_length, sealF_length, HPL.out]; exact infoPage)) rfl ?_
        · have := HB4.out
          rwa [over_all _ _ (by simp [HPL.out])] at this
        · exact ⟨by rw [HM.out], (HF.out.trans HW3.out (fun _ _ f => f)).trans HC4.out (by intro b hb e; omega)⟩
end Go.Proofs.YtnmjkgnahhbnoaaGreat
