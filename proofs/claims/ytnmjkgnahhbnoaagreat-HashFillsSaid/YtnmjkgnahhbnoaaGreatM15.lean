/- Part 15 of the walks that the laws of package hash share (HashC, HashD). -/
import Derived.Test.YtnmjkgnahhbnoaaGreatM14
import Derived.Laws.IdiomStrings
import Derived.Lib.BufferRead
set_option linter.unusedVariables false
set_option linter.unusedSimpArgs false
/- Walks of package hash: count. -/
namespace Go.Proofs.YtnmjkgnahhbnoaaGreat
open Go.RowKit
set_option linter.unusedSimpArgs false

set_option maxRecDepth 100000 in
set_option maxHeartbeats 1000000 in
theorem hcount_any {b N root base cnt n' : Nat} {T : Nat → Bool} {V : Nat → Option (List UInt8)} {F : Nat → Prop} {rs : Rs} {pg2 : List UInt8} {sv : Value} {E : List Ent} (by_ : Int) (w : World) (h : BatchV w b N T V F) (hm : 1 ≤ root ∧ root < N) (hv : V root = some (hpage 0 rs)) (hf : HFit rs)
    (hE : EntsS w base sv E) (hE0 : E[0]? = some ((root, 1), num3 cnt)) (hsF : ∀ k, sv.ownBlock = some k → ¬ F k) (hg : getF (hpage 0 rs) 1 = some (num3 cnt)) (hset : setpF (hpage 0 rs) 1 (num3 n') = some pg2) (hpl : pg2.length = 512)
    (hcnt : cnt < 16000000) (hn : (n' : Int) = cnt + by_) (hn' : n' < 16777216) (hby : -10 ≤ by_ ∧ by_ ≤ 10) :
    Calls Tryz.prog 44 #[.agg #[.pointer (some ⟨b, 0, none⟩), sv], .int .i64 by_] w fun e w' => e = .returned (.tuple #[.int .i64 n', .int .i64 0]) ∧ BatchTo w w' b N T (vput V root pg2) F := by
  obtain ⟨g, cap, vx, bx, rfl, hbg, c0, c1, c2, hx, hbx⟩ := hE.cells hE0
  obtain ⟨ox, cx, rfl⟩ := hx.shape
  have HX := Lib.hid hx
  have C2 := Lib.hid c2
  have C0 := Lib.hid c0
  have C1 := Lib.hid c1
  have hlt : 0 < E.length := (List.getElem?_eq_some_iff.1 hE0).1
  have hn3 : (num3 cnt).length = 3 := rfl
  rw [hn3] at C2 HX
  have HL3 := Lib.hid hn3
  have HB := Lib.hid h
  have HV := Lib.hid hv
  have HF := Lib.hid hf
  have HG := Lib.hid hg
  have HSE := Lib.hid hset
  have HPL2 := Lib.hid hpl
  have HN := Lib.hid hn
  have hgF : ¬ F g := hsF g rfl
  have hqF : ¬ F w.heap.size := fun hk => by have := h.lt hk; omega
  clear h hv hf hE hE0 hg hset hpl hx c0 c1 c2 hn3 hsF hn
  go_enter Tryz.func44, Tryz.ntmps44
  go_wp2_with (
    refine wpList_boxA rfl 65 _ rfl [.pointer (some ⟨b, 0, none⟩), .slice (some ⟨g, 0, none⟩) E.length cap] rfl ?_
    intro w1 HB1 HF1 HS1
    have c1 := cells2 HB1.out
    have c2 := HF1.out.cell C2.out id)
  refine (hnum_any bx ox cx cnt w1 (by omega) (HX.out.chg HF1.out id)).mono ?_
  rintro e w2 ⟨rfl, hf2⟩
  have HF2 := Lib.hid (HF1.out.trans hf2 (fun _ _ f => f))
  have HB2 := Lib.hid (HB1.out.chg hf2 id)
  clear hf2 HB1 HF1 HS1 c1 c2
  go_wp2_with fail
  rw [← HN.out]
  have c2 := cells2 HB2.out.drew
  have hS0 : w2.drew.cell? ⟨w.heap.size, 0, none⟩ = some (.pointer (some ⟨b, 0, none⟩)) ∧ w2.drew.cell? ⟨w.heap.size, 1, none⟩ = some (.slice (some ⟨g, 0, none⟩) E.length cap) ∧ w2.drew.rangeAt g 0 [.int .i64 root, .int .i64 1] ∧ Chg F w w2.drew := by
    refine ⟨c2.1, c2.2, fun j v hj => HF2.out.drew.cell ?_ id, HF2.out.drew.fresh⟩
    match j, hj with
    | 0, hj => simp at hj; subst hj; exact C0.out
    | 1, hj => simp at hj; subst hj; exact C1.out
    | j + 2, hj => simp at hj
  have HF3 := Lib.hid HF2.out.drew
  clear HF2 HB2 c2
  generalize hq : w.heap.size = q at *
  have HQ := Lib.hid hq
  clear hq
  refine wp_region_held_drew (S := fun W => W.cell? ⟨q, 0, none⟩ = some (.pointer (some ⟨b, 0, none⟩)) ∧ W.cell? ⟨q, 1, none⟩ = some (.slice (some ⟨g, 0, none⟩) E.length cap) ∧ W.rangeAt g 0 [.int .i64 root, .int .i64 1] ∧ Chg F w W) (by kernel_rfl) hS0 (fun hHeld => ?_)
  clear hS0
  generalize w2.drew = w3 at *
  refine takeL 0 (.int .i64 n') rfl (by kernel_rfl) (by kernel_rfl) (by kernel_rfl) (fun _ _ _ h => h) (Or.inl ⟨by rfl, fun W hW => by rfl⟩) hHeld ?_
  try simp only [Act.put, List.setIfInBounds_toArray, List.set_cons_zero, List.set_cons_succ]
  refine takeL 1 (.pointer (some ⟨q, 0, none⟩)) rfl (by kernel_rfl) (by kernel_rfl) (by kernel_rfl) (fun _ _ _ h => h) (Or.inl ⟨by rfl, fun W hW => by go_simp⟩) hHeld ?_
  try simp only [Act.put, List.setIfInBounds_toArray, List.set_cons_zero, List.set_cons_succ]
  refine takeL 2 (.pointer (some ⟨b, 0, none⟩)) rfl (by kernel_rfl) (by kernel_rfl) (by kernel_rfl) (fun _ _ _ h => h) (Or.inl ⟨by rfl, fun W hW => by obtain ⟨h1, h2, h3, h4⟩ := hW; go_simp⟩) hHeld ?_
  try simp only [Act.put, List.setIfInBounds_toArray, List.set_cons_zero, List.set_cons_succ]
  refine takeL 3 (.pointer (some ⟨q, 1, none⟩)) rfl (by kernel_rfl) (by kernel_rfl) (by kernel_rfl) (fun _ _ _ h => h) (Or.inl ⟨by rfl, fun W hW => by go_simp⟩) hHeld ?_
  try simp only [Act.put, List.setIfInBounds_toArray, List.set_cons_zero, List.set_cons_succ]
  refine takeL 4 (.slice (some ⟨g, 0, none⟩) E.length cap) rfl (by kernel_rfl) (by kernel_rfl) (by kernel_rfl) (fun _ _ _ h => h) (Or.inl ⟨by rfl, fun W hW => by obtain ⟨h1, h2, h3, h4⟩ := hW; go_simp⟩) hHeld ?_
  try simp only [Act.put, List.setIfInBounds_toArray, List.set_cons_zero, List.set_cons_succ]
  refine takeL 5 (.pointer (some ⟨g, 0, none⟩)) rfl (by kernel_rfl) (by kernel_rfl) (by kernel_rfl) (fun _ _ _ h => h) (Or.inl ⟨by rfl, fun W hW => by go_simp⟩) hHeld ?_
  try simp only [Act.put, List.setIfInBounds_toArray, List.set_cons_zero, List.set_cons_succ]
  refine takeL 6 (.pointer (some ⟨g, 0, none⟩)) rfl (by kernel_rfl) (by kernel_rfl) (by kernel_rfl) (fun _ _ _ h => h) (Or.inl ⟨by rfl, fun W hW => by go_simp⟩) hHeld ?_
  try simp only [Act.put, List.setIfInBounds_toArray, List.set_cons_zero, List.set_cons_succ]
  refine takeL 7 (.agg ([.int .i64 root, .int .i64 1]).toArray) rfl (by kernel_rfl) (by kernel_rfl) (by kernel_rfl) (fun _ _ _ h => h) (yieldsIf_load_mid (by rfl) _ _ rfl _ _ rfl _ _ (fun W hW => hW.2.2.1) Tryz.underlying45 rfl infoRid) hHeld ?_
  try simp only [Act.put, List.setIfInBounds_toArray, List.set_cons_zero, List.set_cons_succ]
  refine takeL 8 (.int .i64 n') rfl (by kernel_rfl) (by kernel_rfl) (by kernel_rfl) (fun _ _ _ h => h) (Or.inl ⟨by rfl, fun W hW => by rfl⟩) hHeld ?_
  try simp only [Act.put, List.setIfInBounds_toArray, List.set_cons_zero, List.set_cons_succ]
  refine oneL 9 rfl (by kernel_rfl) (by rfl) (fun K hK => ?_)
  go_simp
  refine (hbytes_any n' _ hn').mono ?_
  rintro e w4 ⟨rfl, hb4, hf4⟩
  have HR4 : Hid (BytesO w4 (.slice (some ⟨w3.heap.size, 0, none⟩) 3 3) (num3 n') F) := .inr ⟨w3.heap.size, Blk.slB hb4 rfl, fun hk => by have := HF3.out.size; have := HB.out.lt hk; omega⟩
  have HF4 := Lib.hid (HF3.out.trans hf4 (fun _ _ f => f))
  refine hK.out _ _ ⟨hf4.cell hHeld.1 id, hf4.cell hHeld.2.1 id, rangeAt_chg hHeld.2.2.1 hf4 id, hHeld.2.2.2.trans hf4 (fun _ _ f => f.elim)⟩ (fun hHeld => ?_)
  clear hK K
  try simp only [Act.put, List.setIfInBounds_toArray, List.set_cons_zero, List.set_cons_succ]
  clear hb4 hf4
  refine oneL 10 rfl (by kernel_rfl) (by rfl) (fun K hK => ?_)
  go_simp
  refine (hset_any w4 (HB.out.fresh HF4.out) hm HV.out HF.out (by omega) (by omega) HG.out HR4.out (by rw [HL3.out]; simp [num3]) (by rw [HL3.out]; omega) HSE.out HPL2.out).mono ?_
  rintro e w5 ⟨rfl, hb5⟩
  have HB5 := Lib.hid (BatchTo.trans (fun k hk => .inl hk) HF4.out.fresh hb5)
  obtain ⟨F5, _, _, hc5⟩ := hb5
  refine hK.out _ _ ⟨hc5.cell hHeld.1 hqF, hc5.cell hHeld.2.1 hqF, rangeAt_chg hHeld.2.2.1 hc5 hgF, hHeld.2.2.2.trans hc5 (fun _ _ h => h)⟩ (fun hHeld => ?_)
  clear hK K
  try simp only [Act.put, List.setIfInBounds_toArray, List.set_cons_zero, List.set_cons_succ]
  refine takeL 11 (.int .i64 n') rfl (by kernel_rfl) (by kernel_rfl) (by kernel_rfl) (fun _ _ _ h => h) (Or.inl ⟨by rfl, fun W hW => by rfl⟩) hHeld ?_
  try simp only [Act.put, List.setIfInBounds_toArray, List.set_cons_zero, List.set_cons_succ]
  refine takeL 12 (.int .i64 0) rfl (by kernel_rfl) (by kernel_rfl) (by kernel_rfl) (fun _ _ _ h => h) (Or.inl ⟨by rfl, fun W hW => by rfl⟩) hHeld ?_
  try simp only [Act.put, List.setIfInBounds_toArray, List.set_cons_zero, List.set_cons_succ]
  refine wpAnyH_done (by kernel_rfl) ?_ _
  go_wp2
  go_ret2
  exact ⟨rfl, HB5.out⟩
end Go.Proofs.YtnmjkgnahhbnoaaGreat

/- Walks of package hash: find. -/
namespace Go.Proofs.YtnmjkgnahhbnoaaGreat
open Go.RowKit
set_option linter.unusedSimpArgs false

theorem run_toStr {w : World} {v : Value} {l : List UInt8} (h : BytesV w v l) : (convert 23 9 v).run Tryz.prog w = .ok (.string ⟨l.toArray⟩) w := by
  rcases h with ⟨rfl, rfl⟩ | ⟨ad, c, rfl, hr⟩
  · exact Lib.run_convert_nil_bytes w _ _ 5 0 Tryz.underlying23 Tryz.underlying5 Tryz.underlying9
  · exact run_convert_bytes_back w _ _ 5 ad c l Tryz.underlying23 Tryz.underlying5 Tryz.underlying9 (fun j hj => hr j _ (by rw [bvals_get, List.getElem?_eq_getElem hj]; rfl))
section
variable {ops : Array Oper} {rest : List Oper} {o : Oper} {a : Act} {w : World} {Q : Exit → Act → World → Prop}
/-- 'string(b)'. -/
theorem wpList_toStr (hgd : o.guard = none) (x : Operand) (ho : o.op = .convert 23 9 x) {v : Value} (hx : a.eval x = v) (l : List UInt8) (hb : BytesV w v l) (h : wpList Tryz.prog ops Q rest (a.put o.dst (.string ⟨l.toArray⟩)) w) : wpList Tryz.prog ops Q (o :: rest) a w :=
  wpList_plain hgd fun K hK => by
    unfold Oper.wp execOp
    simp only [ho, hx, Sem.run_bind, run_toStr hb, Sem.run_pure, Result.andThen_ok]
    exact hK _ _ h
end
/-- Where a record is. -/
def ffind (want : List UInt8) (E : List Ent) : Option (Nat × Nat) := (E.find? fun e => e.2 == want).map (·.1)
def FindPost (want : List UInt8) (E : List Ent) (w : World) (e : Ending) (w' : World) : Prop :=
  e = .returned (.tuple #[.agg #[.int .i64 (((ffind want E).getD (0, 0)).1 : Nat), .int .i64 (((ffind want E).getD (0, 0)).2 : Nat)], .bool (ffind want E).isSome, .int .i64 0]) ∧ Fresh w w'

set_option maxRecDepth 100000 in
set_option maxHeartbeats 1000000 in
theorem hfind_any {b N base n p s p0 : Nat} {T : Nat → Bool} {V : Nat → Option (List UInt8)} {F : Nat → Prop} {L : List (Nat × Rs)} {sv vk : Value} {key : List UInt8} {E : List Ent} {rid0 : Nat × Nat} (w : World) (h : BatchV w b N T V F) (hV : HeapV V N L)
    (hE : EntsS w base sv E) (hEn : E.length = n + 1) (hn : 1 ≤ n ∧ n ≤ 1000) (hEk : E[bucketF key n + 1]? = some (rid0, num3 p0)) (hp0 : p0 < 16777216) (hp : p0 = nextAt L 0) (hk : BytesV w vk key) (hkl : key.length ≤ 1000) (hps : p < 65536 ∧ s < 65536) :
    Calls Tryz.prog 42 #[.agg #[.pointer (some ⟨b, 0, none⟩), sv], vk, .agg #[.int .i64 p, .int .i64 s]] w (FindPost (entB key (p, s)) (entsL L) w) := by
  obtain ⟨g, cap, vx, bx, rfl, hbg, _, _, _, _, _⟩ := hE.cells hEk
  obtain ⟨ak, ck, rfl⟩ := hk.slice
  have HB := Lib.hid h
  have HV := Lib.hid hV
  have HE := Lib.hid hE
  have HEK := Lib.hid hEk
  have HP0 := Lib.hid hp
  have HK := Lib.hid hk
  have HEN := Lib.hid hEn
  rw [hEn] at HE ⊢
  have hnw : IntKind.i64.wrap (n : Int) = n := IntWalk.i64_in _ (by omega)
  clear h hV hE hEk hp hk hEn
  go_enter Tryz.func42, Tryz.ntmps42
  go_wp2_with (first
    | (refine wpList_boxA rfl 65 _ rfl [.pointer (some ⟨b, 0, none⟩), .slice (some ⟨g, 0, none⟩) (n + 1) cap] rfl ?_
       intro w1 HB1 HF1 HS1)
    | (refine wpList_boxA rfl 45 _ rfl [.int .i64 p, .int .i64 s] rfl ?_
       intro w2 HB2 HF2 HS2)
    | (refine wpList_allocA rfl 45 rfl [.int .i64 0, .int .i64 0] Tryz.zeroValue45 ?_
       intro w3 HB3 HF3 HS3)
    | (refine wpList_loadA rfl 45 _ rfl w1.heap.size 0 rfl _ _ (HB2.out.chg HF3.out id) 2 [.int .i64 p, .int .i64 s] (take_all _ _ (by simp)) _ Tryz.underlying45 rfl infoRid (by simp) ?_))
  have hf03 : Fresh w w3 := (HF1.out.trans HF2.out (fun _ _ f => f)).trans HF3.out (fun _ _ f => f)
  refine (hentry_any _ key p s w3 (HK.out.fresh hf03) (by omega) hps.1 hps.2).mono ?_
  rintro e w4 ⟨ve, rfl, hsn, hf4⟩
  have HSN := Lib.hid hsn
  have HFA := Lib.hid (hf03.trans hf4 (fun _ _ f => f))
  have HBA := Lib.hid (((HB1.out.chg HF2.out id).chg HF3.out id).chg hf4 id)
  have HRA := Lib.hid (HB3.out.chg hf4 id)
  have hwr : w.heap.size ≤ w2.heap.size := by have := HF1.out.size; have := HF2.out.size; omega
  clear hsn hf03 hf4 HB1 HF1 HS1 HB2 HF2 HS2 HB3 HF3 HS3
  generalize w2.heap.size = qr at *
  go_wp2_with (
    obtain ⟨be, hbe, _⟩ := HSN.out
    refine wpList_toStr rfl _ rfl rfl (entB key (p, s)) hbe.bytesV ?_)
  clear HSN
  generalize hwant : entB key (p, s) = want at *
  have HW := Lib.hid hwant
  clear hwant
  have HF3 := Lib.hid HFA.out.drew
  have HB3 := Lib.hid HBA.out.drew
  have HR3 := Lib.hid HRA.out.drew
  have HK3 := Lib.hid (HK.out.fresh HF3.out)
  have HE3 := Lib.hid (HE.out.fresh HF3.out)
  have hqle : w.heap.size ≤ w.heap.size := Nat.le_refl _
  generalize hq : w.heap.size = q at *
  have HQ := Lib.hid hq
  refine wp_region_held_drew (S := fun W => Fresh w4.drew W) (by kernel_rfl) (Chg.refl _ _) (fun hHeld => ?_)
  clear HFA HBA HRA hq
  generalize w4.drew = w3 at *
  refine takeL 0 (.pointer (some ⟨q, 0, none⟩)) rfl (by kernel_rfl) (by kernel_rfl) (by kernel_rfl) (fun _ _ _ h => h) (Or.inl ⟨by rfl, fun W hW => by go_simp⟩) hHeld ?_
  try simp only [Act.put, List.setIfInBounds_toArray, List.set_cons_zero, List.set_cons_succ]
  refine takeL 1 (.pointer (some ⟨b, 0, none⟩)) rfl (by kernel_rfl) (by kernel_rfl) (by kernel_rfl) (fun _ _ _ h => h) (Or.inl ⟨by rfl, fun W hW => by have c := cells2 (HB3.out.chg hW id); go_simp⟩) hHeld ?_
  try simp only [Act.put, List.setIfInBounds_toArray, List.set_cons_zero, List.set_cons_succ]
  refine takeL 2 (.agg ([.pointer (some ⟨b, 0, none⟩), .slice (some ⟨g, 0, none⟩) (n + 1) cap]).toArray) rfl (by kernel_rfl) (by kernel_rfl) (by kernel_rfl) (fun _ _ _ h => h) (yieldsIf_load_mid (by rfl) _ _ rfl _ _ rfl _ _ (fun W hW => (HB3.out.chg hW id).range 0 2 rfl) Tryz.underlying65 rfl infoIdx) hHeld ?_
  try simp only [Act.put, List.setIfInBounds_toArray, List.set_cons_zero, List.set_cons_succ]
  refine takeL 3 (.slice ak key.length ck) rfl (by kernel_rfl) (by kernel_rfl) (by kernel_rfl) (fun _ _ _ h => h) (Or.inl ⟨by rfl, fun W hW => by rfl⟩) hHeld ?_
  try simp only [Act.put, List.setIfInBounds_toArray, List.set_cons_zero, List.set_cons_succ]
  refine takeL 4 (.pointer (some ⟨q, 1, none⟩)) rfl (by kernel_rfl) (by kernel_rfl) (by kernel_rfl) (fun _ _ _ h => h) (Or.inl ⟨by rfl, fun W hW => by go_simp⟩) hHeld ?_
  try simp only [Act.put, List.setIfInBounds_toArray, List.set_cons_zero, List.set_cons_succ]
  refine takeL 5 (.slice (some ⟨g, 0, none⟩) (n + 1) cap) rfl (by kernel_rfl) (by kernel_rfl) (by kernel_rfl) (fun _ _ _ h => h) (Or.inl ⟨by rfl, fun W hW => by have c := cells2 (HB3.out.chg hW id); go_simp⟩) hHeld ?_
  try simp only [Act.put, List.setIfInBounds_toArray, List.set_cons_zero, List.set_cons_succ]
  refine takeL 6 (.int .i64 ((n : Int) + 1)) rfl (by kernel_rfl) (by kernel_rfl) (by kernel_rfl) (fun _ _ _ h => h) (Or.inl ⟨by rfl, fun W hW => by go_simp⟩) hHeld ?_
  try simp only [Act.put, List.setIfInBounds_toArray, List.set_cons_zero, List.set_cons_succ]
  refine takeL 7 (.int .i64 (n : Int)) rfl (by kernel_rfl) (by kernel_rfl) (by kernel_rfl) (fun _ _ _ h => h) (Or.inl ⟨by rfl, fun W hW => by go_simp⟩) hHeld ?_
  try simp only [Act.put, List.setIfInBounds_toArray, List.set_cons_zero, List.set_cons_succ]
  refine oneL 8 rfl (by kernel_rfl) (by rfl) (fun K hK => ?_)
  go_simp
  refine (hbucket_any _ key n _ (HK3.out.fresh hHeld) (by omega) (by omega)).mono ?_
  rintro e w4 ⟨rfl, rfl⟩
  refine hK.out _ _ hHeld (fun hHeld => ?_)
  clear hK K
  try simp only [Act.put, List.setIfInBounds_toArray, List.set_cons_zero, List.set_cons_succ]
  refine oneL 9 rfl (by kernel_rfl) (by rfl) (fun K hK => ?_)
  go_simp
  refine (hpage_any b base (bucketF key n) p0 _ E rid0 _ (HE3.out.fresh hHeld) HEK.out hp0 (by have h9 := HEN.out; omega)).mono ?_
  rintro e w4 ⟨rfl, hf4⟩
  refine hK.out _ _ (hHeld.trans hf4 (fun _ _ f => f)) (fun hHeld => ?_)
  clear hK K
  try simp only [Act.put, List.setIfInBounds_toArray, List.set_cons_zero, List.set_cons_succ]
  clear hf4
  refine oneL 10 rfl (by kernel_rfl) (by rfl) (fun K hK => ?_)
  go_simp
  rw [HP0.out]
  refine (hscan_any w4 (HB.out.fresh (HF3.out.trans hHeld (fun _ _ f => f))) HV.out).mono ?_
  rintro e w5 ⟨sv5, rfl, he5, hf5⟩
  obtain ⟨a5, cap5, rfl⟩ := he5.slice
  have HE5 := Lib.hid he5
  refine hK.out _ _ (hHeld.trans hf5 (fun _ _ f => f)) (fun hHeld => ?_)
  clear hK K
  try simp only [Act.put, List.setIfInBounds_toArray, List.set_cons_zero, List.set_cons_succ]
  clear he5 hf5
  generalize hEE : entsL L = E5 at *
  have HEE := Lib.hid hEE
  clear hEE
  refine takeL 11 (.tuple #[.slice a5 E5.length cap5, .int .i64 0]) rfl (by kernel_rfl) (by kernel_rfl) (by kernel_rfl) (fun _ _ _ h => h) (Or.inl ⟨by rfl, fun W hW => by rfl⟩) hHeld ?_
  try simp only [Act.put, List.setIfInBounds_toArray, List.set_cons_zero, List.set_cons_succ]
  refine takeL 12 (.slice a5 E5.length cap5) rfl (by kernel_rfl) (by kernel_rfl) (by kernel_rfl) (fun _ _ _ h => h) (Or.inl ⟨by rfl, fun W hW => by rfl⟩) hHeld ?_
  try simp only [Act.put, List.setIfInBounds_toArray, List.set_cons_zero, List.set_cons_succ]
  refine takeL 13 (.int .i64 0) rfl (by kernel_rfl) (by kernel_rfl) (by kernel_rfl) (fun _ _ _ h => h) (Or.inl ⟨by rfl, fun W hW => by rfl⟩) hHeld ?_
  try simp only [Act.put, List.setIfInBounds_toArray, List.set_cons_zero, List.set_cons_succ]
  refine takeL 14 (.slice a5 E5.length cap5) rfl (by kernel_rfl) (by kernel_rfl) (by kernel_rfl) (fun _ _ _ h => h) (Or.inl ⟨by rfl, fun W hW => by rfl⟩) hHeld ?_
  try simp only [Act.put, List.setIfInBounds_toArray, List.set_cons_zero, List.set_cons_succ]
  refine takeL 15 (.int .i64 0) rfl (by kernel_rfl) (by kernel_rfl) (by kernel_rfl) (fun _ _ _ h => h) (Or.inl ⟨by rfl, fun W hW => by rfl⟩) hHeld ?_
  try simp only [Act.put, List.setIfInBounds_toArray, List.set_cons_zero, List.set_cons_succ]
  refine wpAnyH_done (by kernel_rfl) ?_ _
  have HF5 : Hid (Fresh w w5) := HF3.out.trans hHeld (fun _ _ f => f)
  have HR5 := Lib.hid (HR3.out.chg hHeld id)
  have hq5 := hHeld.size
  have hqr := HR3.out.lt
  clear hHeld HR3 HB3 HK3 HE3 HF3
  go_wp2
  have HLN : Hid (E5.length ≤ 416000) := by
    show _ ≤ _
    rw [← HEE.out]
    have h1 := HV.out.ents_le L.length
    rw [List.take_length] at h1
    have := HB.out.le; omega
  go_loopw [34] (fun i wr => ∃ k : Nat, k ≤ E5.length ∧ i = .int .i64 k ∧ Hid (∀ j e, j < k → E5[j]? = some e → (e.2 == want) = false) ∧ Hid (Fresh w5 wr)) (fun i _ => E5.length - (intOf i).toNat)
  case atStart => exact ⟨0, Nat.zero_le _, rfl, fun j e h => by omega, Chg.refl _ _⟩
  case round =>
    obtain ⟨k, hk, rfl, HNO, HFR⟩ := hrel
    have HR6 := Lib.hid (HR5.out.chg HFR.out id)
    have HF6 : Hid (Fresh w wr) := HF5.out.trans HFR.out (fun _ _ f => f)
    have hln := HLN.out
    by_cases hlt : k < E5.length
    · have hx := List.getElem?_eq_getElem hlt
      generalize E5[k] = x at *
      obtain ⟨⟨xm, xs⟩, xr⟩ := x
      have HX := Lib.hid hx
      obtain ⟨g5, c5, cs5, vx5, bx5, he1, _, hb5, hcs5, hcl5, hsl5, _, _⟩ := (HE5.out.fresh HFR.out).at_ hx
      simp only [Value.slice.injEq, true_and] at he1
      obtain ⟨rfl, rfl⟩ := he1
      obtain ⟨ox5, cx5, rfl⟩ := hsl5.shape
      have HB5 := Lib.hid hb5
      have HCS5 := Lib.hid hcs5
      have HCL5 := Lib.hid hcl5
      have HSL5 := Lib.hid hsl5
      clear hx hb5 hcs5 hcl5 hsl5
      by_cases hxw : xr = want
      · subst hxw
        go_wp2_with (first
          | (refine wpList_loadA rfl 73 _ rfl g5 (k * 3) rfl _ _ HB5.out 3 _ HCS5.out _ Tryz.underlying73 rfl infoEnt HCL5.out ?_)
          | (refine wpList_allocA rfl 73 rfl [.int .i64 0, .int .i64 0, .slice none 0 0] Tryz.zeroValue73 ?_
             intro w7 HB7 HF7 HS7)
          | (refine wpList_storeA rfl 73 _ _ rfl wr.heap.size 0 rfl [.int .i64 xm, .int .i64 xs, .slice (some ⟨bx5, ox5, none⟩) xr.length cx5] rfl _ _ HB7.out infoEnt (by simp) (by simp [Value.oneCell']) ?_
             intro w8 HB8 HC8
             have c8 : w8.cell? ⟨wr.heap.size, 2, none⟩ = some (.slice (some ⟨bx5, ox5, none⟩) xr.length cx5) := (by rw [HB8.out.cell]; rfl)
             have HF8 : Hid (Fresh wr w8) := HF7.out.trans HC8.out (fun k hk e => by omega))
          | (refine wpList_toStr rfl _ rfl rfl xr (HSL5.out.chg HF8.out id).bytesV ?_)
          | (refine wpList_loadA rfl 45 _ rfl wr.heap.size 0 rfl _ _ HB8.out 2 [.int .i64 xm, .int .i64 xs] rfl _ Tryz.underlying45 rfl infoRid (by simp [over]) ?_)
          | (refine wpList_storeA rfl 45 _ _ rfl qr 0 rfl [.int .i64 xm, .int .i64 xs] rfl _ _ (HR6.out.chg HF8.out id) infoRid (by simp) (by simp [Value.oneCell']) ?_
             intro w9 HB9 HC9))
        refine bodyPost_ret (results_cell_tt Tryz.results42 _ _ qr 45 [.int .i64 xm, .int .i64 xs] _ rfl HB9.out Tryz.underlying45 rfl infoRid) rfl ⟨?_, ?_⟩
        · have hf : ffind xr E5 = some (xm, xs) := by
            unfold ffind
            have h5 : E5.find? (fun e => e.2 == xr) = some ((xm, xs), xr) := by
              refine List.find?_eq_some_iff_append.2 ⟨by simp, E5.take k, E5.drop (k + 1), ?_, fun e he => ?_⟩
              · have h1 := List.getElem?_eq_some_iff.1 HX.out
                rw [← h1.2, List.getElem_cons_drop, List.take_append_drop]
              · obtain ⟨j, hj⟩ := List.getElem?_of_mem he
                rw [List.getElem?_take] at hj
                split at hj
                · rename_i hjk
                  simp [HNO.out j e hjk hj]
                · cases hj
            rw [h5]; rfl
          rw [hf]; rfl
        · exact (HF6.out.trans HF8.out (fun _ _ f => f)).trans HC9.out (fun k hk e => by have := HQ.out; omega)
      · have HXW := Lib.hid hxw
        have hs1 : (xr == want) = false := by rw [beq_eq_false_iff_ne]; exact hxw
        go_wp2_with (first
          | (refine wpList_loadA rfl 73 _ rfl g5 (k * 3) rfl _ _ HB5.out 3 _ HCS5.out _ Tryz.underlying73 rfl infoEnt HCL5.out ?_)
          | (refine wpList_allocA rfl 73 rfl [.int .i64 0, .int .i64 0, .slice none 0 0] Tryz.zeroValue73 ?_
             intro w7 HB7 HF7 HS7)
          | (refine wpList_storeA rfl 73 _ _ rfl wr.heap.size 0 rfl [.int .i64 xm, .int .i64 xs, .slice (some ⟨bx5, ox5, none⟩) xr.length cx5] rfl _ _ HB7.out infoEnt (by simp) (by simp [Value.oneCell']) ?_
             intro w8 HB8 HC8
             have c8 : w8.cell? ⟨wr.heap.size, 2, none⟩ = some (.slice (some ⟨bx5, ox5, none⟩) xr.length cx5) := (by rw [HB8.out.cell]; rfl)
             have HF8 : Hid (Fresh wr w8) := HF7.out.trans HC8.out (fun k hk e => by omega))
          | (refine wpList_toStr rfl _ rfl rfl xr (HSL5.out.chg HF8.out id).bytesV ?_))
        go_roundw
        case rel =>
          refine ⟨k + 1, by omega, by go_num, fun j e hj he => ?_, HFR.out.trans HF8.out (fun _ _ f => f)⟩
          by_cases hjk : j < k
          · exact HNO.out j e hjk he
          · obtain rfl : j = k := by omega
            rw [HX.out] at he; cases he
            simpa using HXW.out
        case measure => simp [intOf]; omega
    · have hn : ffind want E5 = none := by
        unfold ffind
        rw [List.find?_eq_none.2]
        · rfl
        · intro e he
          obtain ⟨j, hj⟩ := List.getElem?_of_mem he
          have := HNO.out j e (by have := (List.getElem?_eq_some_iff.1 hj).1; omega) hj
          simp [this]
      have HN := Lib.hid hn
      clear hn
      obtain rfl : k = E5.length := by omega
      go_wp2_with (refine wpList_storeA rfl 45 _ _ rfl qr 0 rfl [.int .i64 0, .int .i64 0] rfl _ _ HR6.out infoRid (by simp) (by simp [Value.oneCell']) ?_; intro w8 HB8 HC8)
      refine bodyPost_ret (results_cell_tt Tryz.results42 _ _ qr 45 [.int .i64 0, .int .i64 0] _ rfl HB8.out Tryz.underlying45 rfl infoRid) rfl ⟨?_, ?_⟩
      · rw [HN.out]; rfl
      · exact HF6.out.trans HC8.out (fun k hk e => by have := HQ.out; omega)
end Go.Proofs.YtnmjkgnahhbnoaaGreat
