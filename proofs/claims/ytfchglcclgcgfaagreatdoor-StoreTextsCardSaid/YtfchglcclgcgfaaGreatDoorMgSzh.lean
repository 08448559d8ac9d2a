/-
  What the proof of the laws S rests on: the texts SwO SwD SwE SwF. Conditions: each theorem names its own.
-/
import Derived.Test.YtfchglcclgcgfaaGreatDoorMgSzg
import Derived.Test.YtfchglcclgcgfaaGreatDoorMgSs
import Derived.ChangeMaps5
import Derived.Lib.SmallJoins
/-
 Opening the arguments of the laws on stores. No condition.
-/
namespace Go.Proofs.YtfchglcclgcgfaaGreatDoor.Ut
open Go.RowKit Go.ChangeShapes Go.WideShapes Go.ChangeAt Go.Deep Go.Joins Go.Proofs.YtfchglcclgcgfaaGreatDoor.Row
set_option linter.unusedVariables false
set_option linter.unusedSimpArgs false

theorem add_offS (a : Addr) (k j : Nat) (hj : 0 < j) : a.add (k + j) = ⟨(a.add k).block, (a.add k).off + j, none⟩ := by
 unfold Addr.add
 rw [if_neg (by omega)]
 by_cases h : k = 0
 ·subst h; simp
 ·rw [if_neg h]; simp; omega
theorem add_blockS (a : Addr) (n : Nat) : (a.add n).block = a.block := by unfold Addr.add; split <;> rfl
section
variable {H : Type} {P : Program} {e t : TypeId}
theorem weights_fieldS {fs : Array Field} (hu : P.underlying e = some (.struct fs)) {parts : List (DataW H)} {j : Nat} {f : Field} {dj : DataW H} (hf : fs[j]? = some f) (hd : parts[j]? = some dj) (n : Nat) (hn : n ∈ dj.weights P f.type) : n ∈ (DataW.agg parts).weights P e := by
 simp only [DataW.weights, hu]
 refine DataW.weights_mem_each (j := j) ?_ hd n hn
 rw [List.getElem?_map, Array.getElem?_toList, hf]; rfl
theorem weights_sliceS (hu : P.underlying t = some (.slice e)) {elems spare : List (DataW H)} {i : Nat} {d : DataW H} (hd : elems[i]? = some d) (n : Nat) (hn : n ∈ d.weights P e) : n ∈ (DataW.slice elems spare).weights P t := by
 simp only [DataW.weights, hu]
 exact List.mem_cons_of_mem _ (List.mem_append_left _ (weights_elem hd n hn))
theorem weights_strS (s : ByteArray) (t : TypeId) : s.size ∈ (DataW.lit (H := H) (.string s.data.toList)).weights P t := by
 simp [DataW.weights]
end
theorem array5 {α : Type} {cs : Array α} (h : cs.size = 5) : ∃ c0 c1 c2 c3 c4, cs = #[c0, c1, c2, c3, c4] := by
 obtain ⟨l⟩ := cs
 match l, h with
 | [c0, c1, c2, c3, c4], _ => exact ⟨c0, c1, c2, c3, c4, rfl⟩
section
variable {H : Type} {enc : TypeId × Value → H} {W : World} {base : Nat}
theorem trod_intS {k : IntKind} {t : TypeId} {v : Value} {n : Nat} {y : DataW H × List MemPlace} (ht : Tryz.prog.underlying t = some (.int k)) (h : DataW.trod enc Tryz.prog W 0 (fun _ => true) true n t [v] = some y) : ∃ x, v = .int k x ∧ (Lit.int k x).wf = true := by
 obtain ⟨x, h1, -, hw⟩ := DataW.trod_int ht h
 simp at h1
 exact ⟨x, h1, hw⟩
theorem trod_strS {t : TypeId} {v : Value} {n : Nat} {y : DataW H × List MemPlace} (ht : Tryz.prog.underlying t = some .string) (h : DataW.trod enc Tryz.prog W 0 (fun _ => true) true n t [v] = some y) : ∃ s : ByteArray, v = .string s ∧ y.1 = .lit (.string s.data.toList) := by
 obtain ⟨s, h1, hx, -⟩ := DataW.trod_string ht h
 simp at h1
 exact ⟨s, h1, by rw [hx]⟩
def makeV (k lo hi m : Int) (s : ByteArray) : List Value := [.int .i64 k, .int .i64 lo, .int .i64 hi, .int .i64 m, .string s]
set_option maxRecDepth 100000 in
theorem open_make {v : Value} {d : DataW H} {p : List MemPlace} (o : Value.okWide Tryz.prog W .any base 24 v) (h : DataW.Trod enc Tryz.prog W 0 (fun _ => true) true 24 v d p) (hw : ∀ n ∈ d.weights Tryz.prog 24, n ≤ reachBytes) :
  ∃ (k lo hi m : Int) (s : ByteArray), v = .agg (makeV k lo hi m s).toArray ∧ s.size ≤ reachBytes := by
 obtain ⟨cs, rfl, hsz⟩ := okWide_struct Tryz.underlying24 o
 obtain ⟨c0, c1, c2, c3, c4, rfl⟩ := array5 (hsz.trans (by kernel_rfl))
 obtain ⟨fuel, hf⟩ := h
 obtain ⟨xs, n, _, hx, hl, hlen, hfl⟩ := DataW.trod_struct Tryz.underlying24 hf
 have k0 : Tryz.prog.cellsOf 3 = 1 := by kernel_rfl
 have k1 : Tryz.prog.cellsOf 9 = 1 := by kernel_rfl
 have k2 : Tryz.prog.cellsOf 22 = 1 := by kernel_rfl
 match xs, hlen with
 | [y0, y1, y2, y3, y4], _ =>
  have h0 := hfl 0 _ rfl
  have h1 := hfl 1 _ rfl
  have h2 := hfl 2 _ rfl
  have h3 := hfl 3 _ rfl
  have h4 := hfl 4 _ rfl
  simp [Value.cells, k0, k1, k2] at h0 h1 h2 h3 h4
  obtain ⟨a, rfl, -⟩ := trod_intS Tryz.underlying22 h0
  obtain ⟨b, rfl, -⟩ := trod_intS Tryz.underlying3 h1
  obtain ⟨c, rfl, -⟩ := trod_intS Tryz.underlying3 h2
  obtain ⟨e, rfl, -⟩ := trod_intS Tryz.underlying3 h3
  obtain ⟨s, rfl, hs⟩ := trod_strS Tryz.underlying9 h4
  refine ⟨a, b, c, e, s, rfl, hw _ ?_⟩
  obtain ⟨rfl, -⟩ : d = _ ∧ p = _ := by simpa using hx
  refine weights_fieldS Tryz.underlying24 (j := 4) rfl rfl _ ?_
  rw [hs]
  exact weights_strS _ _
end
/-- One call of a script. -/
structure Opc where
 K : Int
 A : Int
 B : Int
 t : ByteArray
def OpcAt (w : World) (p : Addr) (o : Opc) : Prop :=
 w.cell? p = some (.int .i64 o.K) ∧ w.cell? ⟨p.block, p.off + 1, none⟩ = some (.int .i64 o.A) ∧ w.cell? ⟨p.block, p.off + 2, none⟩ = some (.int .i64 o.B) ∧ w.cell? ⟨p.block, p.off + 3, none⟩ = some (.string o.t)
/-- A script that is read. -/
def OpcsAt (w : World) (A : Option Addr) (ops : List Opc) : Prop := ops = [] ∨ ∃ ad, A = some ad ∧ ad.block < w.heap.size ∧ ∀ i (h : i < ops.length), OpcAt w (ad.add (i * 4)) ops[i] ∧ ops[i].t.size ≤ reachBytes
theorem OpcAt.same {w w' : World} {p : Addr} {o : Opc} (h : OpcAt w p o) (hb : w'.heap[p.block]? = w.heap[p.block]?) : OpcAt w' p o :=
 ⟨(World.cell?_of_block (w := w) (a := p) hb).trans h.1, (World.cell?_of_block (w := w) (a := ⟨p.block, _, none⟩) hb).trans h.2.1, (World.cell?_of_block (w := w) (a := ⟨p.block, _, none⟩) hb).trans h.2.2.1, (World.cell?_of_block (w := w) (a := ⟨p.block, _, none⟩) hb).trans h.2.2.2⟩
/-- A script stays where it is not among what changes. -/
theorem OpcsAt.chg {S : Nat → Prop} {w w' : World} {A : Option Addr} {ops : List Opc} (h : OpcsAt w A ops) (hc : Chg S w w') (hS : ∀ ad, A = some ad → ¬ S ad.block) : OpcsAt w' A ops := by
 rcases h with h | ⟨ad, h1, h2, h3⟩
 ·exact .inl h
 ·refine .inr ⟨ad, h1, Nat.lt_of_lt_of_le h2 hc.size, fun i hi => ⟨(h3 i hi).1.same ?_, (h3 i hi).2⟩⟩
  rw [add_blockS]
  exact hc.block _ h2 (hS ad h1)
theorem slice_cellsS {t e : TypeId} {H : Type} {enc : TypeId × Value → H} {W : World} {v : Value} {y : DataW H × List MemPlace} {n : Nat} (ht : Tryz.prog.underlying t = some (.slice e)) (h : DataW.trod enc Tryz.prog W 0 (fun _ => true) true n t [v] = some y) : v.cells.toList = [v] := by
 rcases open_slice ht h with ⟨h0, -⟩ | ⟨a, len, cap, m, n, D, Pl, hcs, -⟩
 ·obtain rfl : v = .slice none 0 0 := by simpa using h0
  rfl
 ·obtain rfl : v = .slice (some a) len cap := by simpa using hcs
  rfl
set_option maxRecDepth 100000 in
theorem open_opcs {H : Type} {enc : TypeId × Value → H} {W : World} {v : Value} {d : DataW H} {p : List MemPlace} (h : DataW.Trod enc Tryz.prog W 0 (fun _ => true) true 37 v d p) (hc : v.cells.toList = [v])
  (hw : ∀ n ∈ d.weights Tryz.prog 37, n ≤ reachBytes) :
  ∃ (A : Option Addr) (ops : List Opc) (c : Nat), v = .slice A ops.length c ∧ OpcsAt W A ops ∧ ops.length ≤ 140737488351232 := by
 obtain ⟨fuel, hf⟩ := h
 rw [hc] at hf
 rcases open_slice_fields Tryz.underlying37 Tryz.underlying44 (by kernel_rfl) (by kernel_rfl) hf with ⟨hv, hx⟩ | ⟨a, len, cap, m, D, Pl, hv, -, hl, hm, hmm, hx, hi⟩
 ·obtain rfl : v = .slice none 0 0 := by simpa using hv
  exact ⟨none, [], 0, rfl, .inl rfl, by simp⟩
 ·obtain rfl : v = .slice (some a) len cap := by simpa using hv
  simp only [if_true] at hmm
  subst hmm
  obtain ⟨rfl, -⟩ : d = _ ∧ p = _ := by simpa using hx
  have hcap : m * 40 ≤ reachBytes := by
   have := hw ((((List.range len).map D).length + ((List.range (m - len)).map fun j => D (len + j)).length) * Tryz.prog.bytesOf 44) (by simp [DataW.weights, Tryz.underlying37])
   rw [show Tryz.prog.bytesOf 44 = 40 by kernel_rfl] at this
   simp only [List.length_map, List.length_range] at this
   rwa [show len + (m - len) = m by omega] at this
  obtain ⟨ops, hdl, hds⟩ := list_of (fun i (o : Opc) => OpcAt W (a.add (i * 4)) o ∧ o.t.size ≤ reachBytes) len (fun i hil => by
   obtain ⟨ys, n, hD, -, hyl, hfld⟩ := hi i (by omega)
   obtain ⟨v0, y0, hc0, hy0, ht0⟩ := hfld 0 _ rfl
   obtain ⟨v1, y1, hc1, hy1, ht1⟩ := hfld 1 _ rfl
   obtain ⟨v2, y2, hc2, hy2, ht2⟩ := hfld 2 _ rfl
   obtain ⟨v3, y3, hc3, hy3, ht3⟩ := hfld 3 _ rfl
   obtain ⟨x0, rfl, -⟩ := trod_intS Tryz.underlying3 ht0
   obtain ⟨x1, rfl, -⟩ := trod_intS Tryz.underlying3 ht1
   obtain ⟨x2, rfl, -⟩ := trod_intS Tryz.underlying3 ht2
   obtain ⟨s, rfl, hs⟩ := trod_strS Tryz.underlying9 ht3
   refine ⟨⟨x0, x1, x2, s⟩, ⟨hc0, ?_, ?_, ?_⟩, hw _ (weights_sliceS Tryz.underlying37 (i := i) (d := D i) (by simp [hil]) _ (by rw [hD]; exact weights_fieldS Tryz.underlying44 (j := 3) rfl (by rw [List.getElem?_map, hy3]; rfl) _ (by show _ ∈ DataW.weights _ _ y3.1; rw [hs]; exact weights_strS _ _)))⟩
   ·rw [← add_offS a (i * 4) 1 (by decide)]; exact hc1
   ·rw [← add_offS a (i * 4) 2 (by decide)]; exact hc2
   ·rw [← add_offS a (i * 4) 3 (by decide)]; exact hc3)
  subst hdl
  unfold reachBytes at hcap
  refine ⟨some a, ops, m, rfl, ?_, by omega⟩
  rcases Nat.eq_zero_or_pos ops.length with h0 | h0
  ·exact .inl (List.eq_nil_of_length_eq_zero h0)
  ·have hb := World.block_lt_of_cell? W _ (hds 0 h0).1.1
   rw [add_blockS] at hb
   exact .inr ⟨a, rfl, hb, fun i hi => hds i hi⟩
end Go.Proofs.YtfchglcclgcgfaaGreatDoor.Ut
/-
 bodkinlaw09: play, over a store and the document's; steps. Condition: the two tables of unicode/utf8 lie as laid.
-/
namespace Go.Proofs.YtfchglcclgcgfaaGreatDoor.Ut
open Go.RowKit Go.Proofs.YtfchglcclgcgfaaGreatDoor.Reg
set_option linter.unusedVariables false
set_option linter.unusedSimpArgs false

theorem OpcsAt.elem {w : World} {A : Option Addr} {ops : List Opc} (h : OpcsAt w A ops) (k : Nat) (hk : k < ops.length) : ∃ ad, A = some ad ∧ ad.block < w.heap.size ∧ OpcAt w (ad.add (k * 4)) ops[k] ∧ ops[k].t.size ≤ 140737488355328 := by
 rcases h with rfl | ⟨ad, h1, h2, h3⟩
 ·simp at hk
 ·exact ⟨ad, h1, h2, (h3 k hk).1, by have := (h3 k hk).2; unfold reachBytes at this; omega⟩
theorem Own2.step {S : Nat → Prop} {b bb : Nat} {W wr : World} (hsz : W.heap.size ≤ wr.heap.size) : ∀ j, j < W.heap.size → Own2 (fun j => S j ∨ W.heap.size ≤ j) b bb j → Own2 S b bb j := by
 intro j hj h
 rcases h with (h | h) | h
 ·exact .inl h
 ·omega
 ·exact .inr h
set_option maxRecDepth 100000 in
set_option maxHeartbeats 4000000 in
theorem play_two {W : World} {p : Option Addr} {b bb : Nat} {σ0 : Sto} {S : Nat → Prop} (h : Two W p b bb σ0 S) (A : Option Addr) (ops : List Opc) (c : Nat) (hO : OpcsAt W A ops) (hA : ops ≠ [] → ∀ ad, A = some ad → ¬ Own2 S b bb ad.block) (hAW : ops ≠ [] → ∀ ad, A = some ad → ad.block < W.heap.size) (hn : ops.length ≤ 140737488355328) (hp : p = none → ∀ o ∈ ops, o.K ≠ 5) :
  Calls Tryz.prog 21 #[.pointer p, ptr b, .slice A ops.length c] W fun e w' => e = .returned (.bool true) ∧ ∃ σ', Two w' p b bb σ' (fun j => S j ∨ W.heap.size ≤ j) ∧ Mv (Own2 S b bb) W w' := by
 have HO := Lib.hid hO
 have HA := Lib.hid hA
 have HAW := Lib.hid hAW
 have hl := h.rf.lt
 have H0 : Hid (Two W p b bb σ0 (fun j => S j ∨ W.heap.size ≤ j)) := by
  refine h.mono (fun k _ hk => .inl hk) (fun e => e.elim h.nb (by omega)) (fun e => e.elim h.nbb (by omega)) ?_
  exact (h.tab.sub (fun j hj => Or.inl hj)).new h.T
 clear h hO hA hAW
 unfold ptr
 go_enter Tryz.func21, Tryz.ntmps21
 go_wp2
 go_loopw [7] (fun i wr => ∃ (k : Nat) (σ : Sto), k ≤ ops.length ∧ i = .int .i64 k ∧ Two wr p b bb σ (fun j => S j ∨ W.heap.size ≤ j) ∧ Mv (Own2 S b bb) W wr) (fun i _ => ops.length - (intOf i).toNat)
 case atStart => exact ⟨0, σ0, Nat.zero_le _, rfl, H0.out, Mv.refl _ _⟩
 case round =>
  obtain ⟨k, σ, hk, rfl, hT, hM⟩ := hrel
  have HT := Lib.hid hT
  have HM := Lib.hid hM
  have hsz := hM.1.size
  clear hT hM
  by_cases hlt : k < ops.length
  ·have hne : ops ≠ [] := by rintro rfl; simp at hlt
   have HAW := Lib.hid (HAW.out hne)
   have HA := Lib.hid (HA.out hne)
   clear hne
   obtain ⟨ad, rfl, hAd, hat, hts⟩ := (HO.out.chg HM.out.1 HA.out).elem k hlt
   have hmem : ops[k] ∈ ops := List.getElem_mem hlt
   have hp2 : p = none → ops[k].K ≠ 5 := fun e => hp e _ hmem
   have hnA := HA.out ad rfl
   generalize ops[k] = o at *
   obtain ⟨K, A, B, t⟩ := o
   have HAt := Lib.hid hat
   have Hb1 : Hid ((ad.add (k * 4)).block < wr.heap.size) := by show _ < _; rw [add_blockS]; exact hAd
   have Hb2 : Hid (¬ Own2 S b bb (ad.add (k * 4)).block) := by show ¬ _; rw [add_blockS]; exact hnA
   have Hb3 : Hid ((ad.add (k * 4)).block < W.heap.size) := by show _ < _; rw [add_blockS]; exact HAW.out ad rfl
   obtain ⟨c0, c1, c2, c3⟩ := hat
   have hi1 : (k : Int) < (ops.length : Int) := by omega
   have hi0 : (0 : Int) ≤ (k : Int) := by omega
   have hwi : IntKind.i64.wrap ((k : Int) + 1) = (k : Int) + 1 := IntWalk.i64_in _ (by omega)
   have HWk := Lib.hid (works_two HT.out K A B t hts hp2)
   unfold opV ptr at HWk
   simp only at c0 c1 c2 c3
   clear hmem hAd hnA
   go_wp2_with fail
   refine HWk.out.mono ?_
   rintro e w2 ⟨rfl, hT2, hM2⟩
   have hM3 := HM.out.trans hM2 (Own2.step (W := W) (wr := wr) hsz)
   have hl2 := hM2.1.size
   have HT2 : Hid (Two w2 p b bb (stepS σ K A B t) (fun j => S j ∨ W.heap.size ≤ j)) := by
    refine hT2.mono (fun j _ hj => ?_) H0.out.nb H0.out.nbb (H0.out.tab.sub (fun j hj => Or.inl hj))
    rcases hj with hj | hj
    ·exact hj
    ·exact .inr (by omega)
   have HM2 := Lib.hid hM3
   have HAt2 : Hid (OpcAt w2 (ad.add (k * 4)) ⟨K, A, B, t⟩) := HAt.out.same (hM2.1.block _ Hb1.out (fun e => Hb2.out (Own2.step (W := W) (wr := wr) hsz _ Hb3.out e)))
   have hsz2 := hM3.1.size
   clear hT2 hM2 hM3 c0 c1 c2 c3 HWk
   obtain ⟨c0, c1, c2, c3⟩ := HAt2.out
   simp only at c0 c1 c2 c3
   have HAs := Lib.hid (asks_two HT2.out K A B t)
   unfold opV ptr at HAs
   go_wp2_with fail
   refine HAs.out.mono ?_
   rintro e w3 ⟨rfl, hb⟩
   have HT3 := Lib.hid (HT2.out.below hb)
   have HM3 := Lib.hid (HM2.out.then_below hb)
   clear hb HAs c0 c1 c2 c3
   have HLk := Lib.hid (looks_two HT3.out)
   unfold ptr at HLk
   go_wp2_with fail
   refine HLk.out.mono ?_
   rintro e w4 ⟨rfl, hb⟩
   have HT4 := Lib.hid (HT3.out.below hb)
   have HM4 := Lib.hid (HM3.out.then_below hb)
   clear hb HLk
   go_wp2
   go_roundw
   case rel => exact ⟨k + 1, _, hlt, by go_num, HT4.out, HM4.out⟩
   case measure => simp [intOf]; omega
  ·obtain rfl : k = ops.length := by omega
   clear hlt
   go_wp2
   go_ret
   exact ⟨rfl, σ, HT.out, HM.out⟩
/-- Where a script lies that is not empty. -/
theorem OpcsAt.lt {w : World} {A : Option Addr} {ops : List Opc} (h : OpcsAt w A ops) (hne : ops ≠ []) : ∀ ad, A = some ad → ad.block < w.heap.size := by
 rcases h with h | ⟨ad, h1, h2, -⟩
 ·exact absurd h hne
 ·intro ad' e
  rw [h1] at e
  obtain rfl : ad = ad' := by simpa using e
  exact h2
theorem OpcsAt.below {w w' : World} {A : Option Addr} {ops : List Opc} (h : OpcsAt w A ops) (hb : Below w.heap.size w w') : OpcsAt w' A ops :=
 h.chg (S := fun _ => False) ⟨hb.os, hb.tape, hb.output, hb.size, fun k hk _ => hb.block k hk⟩ (fun _ _ h => h)
end Go.Proofs.YtfchglcclgcgfaaGreatDoor.Ut
/-
 bodkinlaw09: steps, fixed, made. Condition: the two tables of unicode/utf8 lie as laid.
-/
namespace Go.Proofs.YtfchglcclgcgfaaGreatDoor.Ut
open Go.RowKit Go.Proofs.YtfchglcclgcgfaaGreatDoor.Reg
set_option linter.unusedVariables false
set_option linter.unusedSimpArgs false

theorem st_next : clN ⟨#[97]⟩ 0 = 1 := by decide +kernel
theorem st_snap : clS ⟨#[97]⟩ 1 = 1 := by decide +kernel
theorem ne_fn (f : Fn) (a b : Array Value) (w : World) : (binOp .neq 146 (.func f a b) .nilFunc).run Tryz.prog w = .ok (.bool true) w := by
 kernel_rfl
set_option maxRecDepth 100000 in
theorem steps_any (w : World) (hT : Tabs w) : Calls Tryz.prog 50 #[] w fun e w' => e = .returned (.bool true) ∧ Below w.heap.size w w' := by
 have HT := Lib.hid hT
 clear hT
 go_enter Tryz.func50, Tryz.ntmps50
 go_wp2_with fail
 refine (ClNext_any ⟨#[97]⟩ 0 w HT.out (by decide) (by decide)).mono ?_
 rintro e w1 ⟨rfl, hb⟩
 rw [st_next]
 have HB := Lib.hid (Below.refl w.heap.size w)
 have HT := Lib.hid (tabs_below HT.out hb)
 have HB := Lib.hid (HB.out.trans (hb.mono HB.out.size))
 clear hb
 go_wp2_with fail
 refine (ClSnap_any ⟨#[97]⟩ 1 w1 HT.out (by decide) (by decide)).mono ?_
 rintro e w2 ⟨rfl, hb⟩
 rw [st_snap]
 have HT := Lib.hid (tabs_below HT.out hb)
 have HB := Lib.hid (HB.out.trans (hb.mono HB.out.size))
 clear hb
 have hfn := ne_fn (.func 130) #[] #[.pointer (some ⟨w2.heap.size, 0, none⟩)]
 have hA := (Below.refl w2.heap.size w2).alloc (Nat.le_refl _) (.cells #[.string ⟨#[]⟩] 9)
 have HA := Lib.hid hA
 clear hA
 go_wp2_with fail
 refine (Walk_any ⟨#[]⟩ w2).mono ?_
 rintro e w3 ⟨rfl, rfl⟩
 go_wp2
 go_ret
 exact ⟨rfl, HB.out.trans (HA.out.mono HB.out.size)⟩
/-- A store that a walk made since world w. -/
structure One (w W : World) (b : Nat) (σ : Sto) : Prop where
 st : SP W (some ⟨b, 0, none⟩) σ (fun j => w.heap.size ≤ j)
 T : Tabs W
 N : NoTab (fun j => w.heap.size ≤ j)
 mv : Mv (fun j => w.heap.size ≤ j) w W
theorem One.below {w W W' : World} {b : Nat} {σ : Sto} (h : One w W b σ) (hb : Below W.heap.size W W') : One w W' b σ := ⟨h.st.below hb, tabs_below h.T hb, h.N, h.mv.then_below hb⟩
theorem One.next {w W W' : World} {b : Nat} {σ σ' : Sto} (h : One w W b σ) (hS : SP W' (some ⟨b, 0, none⟩) σ' (fun j => w.heap.size ≤ j ∨ W.heap.size ≤ j)) (hM : Mv (fun j => w.heap.size ≤ j) W W') : One w W' b σ' := by
 have hsz := h.mv.1.size
 exact ⟨hS.mono (fun j _ hj => hj.elim (fun h => h) (fun h => by omega)), tabs_mv h.T h.N hM, h.N, h.mv.trans hM (fun _ _ h => h)⟩
theorem noTab_new {w : World} (h : Tabs w) : NoTab (fun j => w.heap.size ≤ j) := by
 obtain ⟨l1, l2⟩ := tabs_lt h
 exact ⟨by omega, by omega⟩
theorem One.end {w W : World} {b : Nat} {σ : Sto} (h : One w W b σ) : Below w.heap.size w W := h.mv.1.below_le (Nat.le_refl _) (fun _ h => h)
def fx0 : Sto := ⟨⟨3, 4, 8, 100, 0, 0, 0⟩, 30, ⟨#[97, 98, 99, 100, 101, 102]⟩⟩
def fx1 : Sto := ⟨⟨3, 4, 8, 100, 1, 0, 2⟩, 148, ⟨#[120, 103, 97, 98, 99, 100, 101, 102]⟩⟩
def fx2 : Sto := ⟨⟨3, 4, 8, 100, 2, 0, 6⟩, 30, ⟨#[99, 100, 101, 102]⟩⟩
def fx3 : Sto := ⟨⟨3, 4, 8, 100, 2, 1, 6⟩, 148, ⟨#[99, 100, 101, 102]⟩⟩
theorem fx0_ok : fx0.ok := ⟨by decide, by decide, by decide, .inl rfl⟩
theorem fx1_ok : fx1.ok := ⟨by decide, by decide, by decide, .inr rfl⟩
theorem fx2_ok : fx2.ok := ⟨by decide, by decide, by decide, .inl rfl⟩
theorem fx3_ok : fx3.ok := ⟨by decide, by decide, by decide, .inr rfl⟩
theorem fx_new : (⟨newI 3 4 8 100, newT 3 4 8 ⟨#[97, 98, 99, 100, 101, 102]⟩, ⟨#[97, 98, 99, 100, 101, 102]⟩⟩ : Sto) = fx0 := by
 have h : newT 3 4 8 ⟨#[97, 98, 99, 100, 101, 102]⟩ = 30 := by
  unfold newT
  rw [if_neg]
  unfold ropeKind
  decide
 rw [h]; rfl
theorem fx_01 : fx0.rep 0 0 ⟨#[120, 103]⟩ = fx1 ∧ fx0.err 0 0 ⟨#[120, 103]⟩ = 0 := ⟨rfl, rfl⟩
theorem fx_12 : fx1.rep 0 4 ⟨#[]⟩ = fx2 ∧ fx1.err 0 4 ⟨#[]⟩ = 0 ∧ fx1.out 0 4 ⟨#[]⟩ = ⟨#[120, 103, 97, 98]⟩ := ⟨rfl, rfl, rfl⟩
theorem fx_23 : fx2.swt 2 = fx3 := rfl
set_option maxRecDepth 100000 in
set_option maxHeartbeats 2000000 in
theorem fixed_any (w : World) (hT : Tabs w) : Calls Tryz.prog 15 #[] w fun e w' => e = .returned (.bool true) ∧ Below w.heap.size w w' := by
 have HN := Lib.hid (noTab_new hT)
 have HT := Lib.hid hT
 clear hT
 go_enter Tryz.func15, Tryz.ntmps15
 go_wp2_with fail
 refine (steps_any w HT.out).mono ?_
 rintro e w1 ⟨rfl, hb⟩
 have HB := Lib.hid hb
 go_wp2_with fail
 refine (StNew_in 3 4 8 100 ⟨#[97, 98, 99, 100, 101, 102]⟩ w1 (tabs_below HT.out hb) (by decide) (by decide)).mono ?_
 rintro e w2 ⟨b, rfl, hS, hb2⟩
 have h0 : One w w2 b fx0 := by
  have hsz := HB.out.size
  refine ⟨.inl ⟨b, rfl, ?_⟩, tabs_below (tabs_below HT.out hb) hb2, HN.out, Mv.of_below (hb.trans (hb2.mono hb.size))⟩
  rw [← fx_new]
  exact hS.mono (fun j _ hj => Nat.le_trans hsz hj)
 have H0 := Lib.hid h0
 clear hb hS hb2 h0 HB
 unfold ptr
 go_wp2_with fail
 refine (StBackend_sp H0.out.st).mono ?_
 rintro e w3 ⟨rfl, rfl⟩
 have e1 : backT fx0.T = 1 := rfl
 rw [e1]
 clear e1
 go_wp2_with fail
 refine (StInsert_of (StReplace_sp H0.out.T H0.out.N H0.out.st fx0_ok 0 0 ⟨#[120, 103]⟩)).mono ?_
 rintro e w4 ⟨rfl, hS, hM⟩
 rw [fx_01.1] at hS
 rw [fx_01.2]
 have H1 := Lib.hid (H0.out.next hS hM)
 clear hS hM H0
 go_wp2_with fail
 refine (StBackend_sp H1.out.st).mono ?_
 rintro e w5 ⟨rfl, rfl⟩
 have e1 : backT fx1.T = 2 := rfl
 rw [e1]
 clear e1
 go_wp2_with fail
 refine (StCounts_sp H1.out.st).mono ?_
 rintro e w6 ⟨rfl, hb⟩
 have H2 := Lib.hid (H1.out.below hb)
 have e1 : fx1.i.counts = .agg #[.int .i64 1, .int .i64 0, .int .i64 2] := rfl
 rw [e1]
 clear e1 hb H1
 go_wp2_with fail
 refine (StText_any (H2.out.st.has H2.out.T fx1_ok.small)).mono ?_
 rintro e w7 ⟨rfl, hb⟩
 have H3 := Lib.hid (H2.out.below hb)
 have e1 : fx1.s = ⟨#[120, 103, 97, 98, 99, 100, 101, 102]⟩ := rfl
 rw [e1]
 clear e1 hb H2
 go_wp2_with fail
 refine (StDelete_of (StReplace_sp H3.out.T H3.out.N H3.out.st fx1_ok 0 4 ⟨#[]⟩)).mono ?_
 rintro e w8 ⟨rfl, hS, hM⟩
 rw [fx_12.1] at hS
 rw [fx_12.2.1, fx_12.2.2]
 have H4 := Lib.hid (H3.out.next hS hM)
 clear hS hM H3
 go_wp2_with fail
 refine (StBackend_sp H4.out.st).mono ?_
 rintro e w9 ⟨rfl, rfl⟩
 have e1 : backT fx2.T = 1 := rfl
 rw [e1]
 clear e1
 go_wp2_with fail
 refine (StSwitch_bad _ 3 w9 (by decide)).mono ?_
 rintro e w10 ⟨rfl, rfl⟩
 go_wp2_with fail
 refine (StSwitch_sp H4.out.T H4.out.N H4.out.st fx2_ok 2 (.inr rfl)).mono ?_
 rintro e w11 ⟨rfl, hS, hM⟩
 rw [fx_23] at hS
 have H5 := Lib.hid (H4.out.next hS hM)
 clear hS hM H4
 go_wp2_with fail
 refine (StCounts_sp H5.out.st).mono ?_
 rintro e w12 ⟨rfl, hb⟩
 have H6 := Lib.hid (H5.out.below hb)
 have e1 : fx3.i.counts = .agg #[.int .i64 2, .int .i64 1, .int .i64 6] := rfl
 rw [e1]
 clear e1 hb H5
 go_wp2
 go_ret
 exact ⟨rfl, H6.out.end⟩
end Go.Proofs.YtfchglcclgcgfaaGreatDoor.Ut
/-
 bodkinlaw09: made; the law StorePlays, walked. Condition: the two tables of unicode/utf8 lie as laid.
-/
namespace Go.Proofs.YtfchglcclgcgfaaGreatDoor.Ut
open Go.RowKit Go.Proofs.YtfchglcclgcgfaaGreatDoor.Reg
set_option linter.unusedVariables false
set_option linter.unusedSimpArgs false

set_option maxRecDepth 100000 in
theorem StNew_full (k lo hi m : Int) (n : Nat) (s : ByteArray) (w : World) (hm : min (max m 0) 1073741824 = (n : Int)) (hs : n < s.size) :
  Calls Tryz.prog 22 #[.int .i64 k, .int .i64 lo, .int .i64 hi, .int .i64 m, .string s] w fun e w' => e = .returned (.tuple #[.pointer none, .int .i64 2]) ∧ Below w.heap.size w w' := by
 have e2 : (n : Int) < (s.size : Int) := by omega
 obtain ⟨low, hlow⟩ : ∃ low, min (max lo 0) 1073741824 = low := ⟨_, rfl⟩
 have hw1 : IntKind.i64.wrap (low + 1) = low + 1 := IntWalk.i64_in _ (by omega)
 obtain ⟨top, htop⟩ : ∃ top, max hi (low + 1) = top := ⟨_, rfl⟩
 go_enter Tryz.func22, Tryz.ntmps22
 go_wp2
 refine bodyPost_ret (v := .tuple #[.pointer none, .int .i64 2]) (by simp [results, Tryz.results22, go_sem]) rfl ⟨rfl, ?_⟩
 exact (Below.refl _ _).alloc (Nat.le_refl _) _
noncomputable def newS (k lo hi : Int) (n : Nat) (s : ByteArray) : Sto := ⟨newI k lo hi n, newT k lo hi s, s⟩
theorem newS_ok {k lo hi : Int} {n : Nat} {s : ByteArray} (hn : n ≤ 1073741824) (hs : s.size ≤ n) : (newS k lo hi n s).ok := by
 refine ⟨hs, hn, ?_, newT_ty _ _ _ _⟩
 show min (max lo 0) 1073741824 < max hi (min (max lo 0) 1073741824 + 1)
 omega
/-- A limit as it counts. -/
def limN (m : Int) : Nat := (min (max m 0) 1073741824).toNat
theorem limN_is (m : Int) : min (max m 0) 1073741824 = (limN m : Int) ∧ limN m ≤ 1073741824 := by unfold limN; omega
/-- Two new stores that look alike. -/
def Fresh2 (w W : World) (b bw bb : Nat) (σ : Sto) (S : Nat → Prop) : Prop := Two W (some ⟨b, 0, none⟩) bw bb σ S ∧ (∀ j, S j → w.heap.size ≤ j ∧ j < W.heap.size) ∧ w.heap.size ≤ bw ∧ w.heap.size ≤ bb
theorem Fresh2.own {w W : World} {b bw bb : Nat} {σ : Sto} {S : Nat → Prop} (h : Fresh2 w W b bw bb σ S) : ∀ j, Own2 S bw bb j → w.heap.size ≤ j := by
 rintro j (hj | rfl | rfl)
 ·exact (h.2.1 j hj).1
 ·exact h.2.2.1
 ·exact h.2.2.2
set_option maxRecDepth 100000 in
set_option maxHeartbeats 2000000 in
theorem made_two (k lo hi m : Int) (s : ByteArray) (w : World) (hT : Tabs w) :
  Calls Tryz.prog 16 #[.agg (makeV k lo hi m s).toArray] w fun e w' => ((limN m < s.size ∧ e = .returned (.tuple #[.pointer none, .pointer none, .bool true])) ∨
   (s.size ≤ limN m ∧ ∃ b bw bb S, e = .returned (.tuple #[ptr b, ptr bw, .bool true]) ∧ Fresh2 w w' b bw bb (newS k lo hi (limN m) s) S)) ∧ Below w.heap.size w w' := by
 obtain ⟨hm, hn⟩ := limN_is m
 obtain ⟨W1, hW1, L0, b0, -⟩ := boxL1 w (makeV k lo hi m s) 24
 have HE := Lib.hid hW1
 have HL := Lib.hid L0
 have HB := Lib.hid b0
 have HT := Lib.hid (tabs_below hT b0)
 have HN := Lib.hid (noTab_new hT)
 clear hW1 L0 b0 hT
 unfold makeV at *
 generalize limN m = n at *
 have HM := Lib.hid hm
 by_cases hs : s.size ≤ n
 ·have HA := Lib.hid (fun w hT => StNewM_in k lo hi m n s w hT hm hn hs)
  have HR := Lib.hid (fun w => RfNew9_ok k lo hi m n s w hm hs)
  have Hok := Lib.hid (newS_ok (k := k) (lo := lo) (hi := hi) hn hs)
  clear hm hn
  go_enter Tryz.func16, Tryz.ntmps16
  go_upto_region 1 with fail
  rw [HE.out]
  obtain ⟨a0, a1, a2, a3, a4⟩ : W1.cell? ⟨w.heap.size, 0, none⟩ = some (.int .i64 k) ∧ W1.cell? ⟨w.heap.size, 1, none⟩ = some (.int .i64 lo) ∧ W1.cell? ⟨w.heap.size, 2, none⟩ = some (.int .i64 hi) ∧ W1.cell? ⟨w.heap.size, 3, none⟩ = some (.int .i64 m) ∧ W1.cell? ⟨w.heap.size, 4, none⟩ = some (.string s) :=
   ⟨(HL.out.2 0 _ rfl).1, (HL.out.2 1 _ rfl).1, (HL.out.2 2 _ rfl).1, (HL.out.2 3 _ rfl).1, (HL.out.2 4 _ rfl).1⟩
  go_wp2_with fail
  refine (HA.out W1 HT.out).mono ?_
  rintro e w2 ⟨b, rfl, hS, hb⟩
  have hsz1 := HB.out.size
  have HS : Hid (SP w2 (some ⟨b, 0, none⟩) (newS k lo hi n s) (fun j => w.heap.size ≤ j ∧ j < w2.heap.size)) := .inl ⟨b, rfl, hS.mono (fun j hl hj => ⟨Nat.le_trans hsz1 hj, hl⟩)⟩
  have HL := Lib.hid (HL.out.below hb)
  have HT := Lib.hid (tabs_below HT.out hb)
  have HB := Lib.hid (HB.out.trans (hb.mono HB.out.size))
  clear hb
  clear hS a0 a1 a2 a3 a4
  obtain ⟨a0, a1, a2, a3, a4⟩ : w2.cell? ⟨w.heap.size, 0, none⟩ = some (.int .i64 k) ∧ w2.cell? ⟨w.heap.size, 1, none⟩ = some (.int .i64 lo) ∧ w2.cell? ⟨w.heap.size, 2, none⟩ = some (.int .i64 hi) ∧ w2.cell? ⟨w.heap.size, 3, none⟩ = some (.int .i64 m) ∧ w2.cell? ⟨w.heap.size, 4, none⟩ = some (.string s) :=
   ⟨(HL.out.2 0 _ rfl).1, (HL.out.2 1 _ rfl).1, (HL.out.2 2 _ rfl).1, (HL.out.2 3 _ rfl).1, (HL.out.2 4 _ rfl).1⟩
  unfold ptr
  go_wp2_with fail
  refine (HR.out w2).mono ?_
  rintro e w3 ⟨bw, bb, rfl, hR, h1, h2, hb⟩
  have hsz2 := HB.out.size
  have hsz3 := hb.size
  have HF : Hid (Fresh2 w w3 b bw bb (newS k lo hi n s) (fun j => w.heap.size ≤ j ∧ j < w2.heap.size)) := by
   refine ⟨⟨HS.out.below hb, hR, Hok.out, fun h => by omega, fun h => by omega, ⟨fun e => HN.out.1 ?_, fun e => HN.out.2 ?_⟩, tabs_below HT.out hb⟩, fun j hj => ⟨hj.1, by omega⟩, by omega, by omega⟩
   ·rcases e with e | e | e
    ·exact e.1
    ·show w.heap.size ≤ _; omega
    ·show w.heap.size ≤ _; omega
   ·rcases e with e | e | e
    ·exact e.1
    ·show w.heap.size ≤ _; omega
    ·show w.heap.size ≤ _; omega
  have HB := Lib.hid (HB.out.trans (hb.mono HB.out.size))
  clear hb
  clear hR a0 a1 a2 a3 a4 HA HR HS HL HE
  unfold ptr
  go_wp2
  refine bodyPost_ret (v := .tuple #[.pointer (some ⟨b, 0, none⟩), .pointer (some ⟨bw, 0, none⟩), .bool true]) (by simp [results, Tryz.results16, go_sem]) rfl ⟨.inr ⟨hs, b, bw, bb, _, rfl, HF.out⟩, HB.out⟩
 ·have hs2 : n < s.size := by omega
  have HA := Lib.hid (fun w => StNew_full k lo hi m n s w hm hs2)
  have HR := Lib.hid (fun w => RfNew9_full k lo hi m n s w hm hs2)
  clear hm hn hs
  go_enter Tryz.func16, Tryz.ntmps16
  go_upto_region 1 with fail
  rw [HE.out]
  obtain ⟨a0, a1, a2, a3, a4⟩ : W1.cell? ⟨w.heap.size, 0, none⟩ = some (.int .i64 k) ∧ W1.cell? ⟨w.heap.size, 1, none⟩ = some (.int .i64 lo) ∧ W1.cell? ⟨w.heap.size, 2, none⟩ = some (.int .i64 hi) ∧ W1.cell? ⟨w.heap.size, 3, none⟩ = some (.int .i64 m) ∧ W1.cell? ⟨w.heap.size, 4, none⟩ = some (.string s) :=
   ⟨(HL.out.2 0 _ rfl).1, (HL.out.2 1 _ rfl).1, (HL.out.2 2 _ rfl).1, (HL.out.2 3 _ rfl).1, (HL.out.2 4 _ rfl).1⟩
  go_wp2_with fail
  refine (HA.out W1).mono ?_
  rintro e w2 ⟨rfl, hb⟩
  have HL := Lib.hid (HL.out.below hb)
  have HT := Lib.hid (tabs_below HT.out hb)
  have HB := Lib.hid (HB.out.trans (hb.mono HB.out.size))
  clear hb
  clear a0 a1 a2 a3 a4
  obtain ⟨a0, a1, a2, a3, a4⟩ : w2.cell? ⟨w.heap.size, 0, none⟩ = some (.int .i64 k) ∧ w2.cell? ⟨w.heap.size, 1, none⟩ = some (.int .i64 lo) ∧ w2.cell? ⟨w.heap.size, 2, none⟩ = some (.int .i64 hi) ∧ w2.cell? ⟨w.heap.size, 3, none⟩ = some (.int .i64 m) ∧ w2.cell? ⟨w.heap.size, 4, none⟩ = some (.string s) :=
   ⟨(HL.out.2 0 _ rfl).1, (HL.out.2 1 _ rfl).1, (HL.out.2 2 _ rfl).1, (HL.out.2 3 _ rfl).1, (HL.out.2 4 _ rfl).1⟩
  go_wp2_with fail
  refine (HR.out w2).mono ?_
  rintro e w3 ⟨rfl, rfl⟩
  clear a0 a1 a2 a3 a4 HA HR
  go_wp2
  refine bodyPost_ret (v := .tuple #[.pointer none, .pointer none, .bool true]) (by simp [results, Tryz.results16, go_sem]) rfl ⟨.inl ⟨hs2, rfl⟩, HB.out⟩
set_option maxRecDepth 100000 in
set_option maxHeartbeats 2000000 in
theorem law_StorePlays (k lo hi m : Int) (s : ByteArray) (A : Option Addr) (ops : List Opc) (c : Nat) (w : World) (hT : Tabs w) (hO : OpcsAt w A ops) (hn : ops.length ≤ 140737488355328) :
  Calls Tryz.prog 4 #[.agg (makeV k lo hi m s).toArray, .slice A ops.length c] w fun e w' => e = .returned (.bool true) ∧ Below w.heap.size w w' := by
 obtain ⟨W1, hW1, L0, b0, -⟩ := boxL1 w (makeV k lo hi m s) 24
 have HE := Lib.hid hW1
 have HL := Lib.hid L0
 have HB := Lib.hid b0
 have HO := Lib.hid hO
 have HT := Lib.hid (tabs_below hT b0)
 clear hW1 L0 b0 hT hO
 have HMk := Lib.hid (fun w hT => made_two k lo hi m s w hT)
 unfold makeV at *
 go_enter Tryz.func4, Tryz.ntmps4
 go_wp2_with fail
 rw [HE.out]
 refine (fixed_any W1 HT.out).mono ?_
 rintro e w1 ⟨rfl, hb⟩
 have HL := Lib.hid (HL.out.below hb)
 have HT := Lib.hid (tabs_below HT.out hb)
 have HB := Lib.hid (HB.out.trans (hb.mono HB.out.size))
 clear hb
 have a0 := (HL.out.2 0 _ rfl).1
 have a1 := (HL.out.2 1 _ rfl).1
 have a2 := (HL.out.2 2 _ rfl).1
 have a3 := (HL.out.2 3 _ rfl).1
 have a4 := (HL.out.2 4 _ rfl).1
 go_wp2_with fail
 refine (HMk.out w1 HT.out).mono ?_
 rintro e w2 ⟨hcs, hb⟩
 have hsz := HB.out.size
 have HB2 := Lib.hid (HB.out.trans (hb.mono HB.out.size))
 clear hb a0 a1 a2 a3 a4 HMk HL HE
 rcases hcs with ⟨-, rfl⟩ | ⟨-, b, bw, bb, S, rfl, hF⟩
 ·go_wp2
  go_ret
  exact ⟨rfl, HB2.out⟩
 ·have hown : ∀ j, Own2 S bw bb j → w.heap.size ≤ j := fun j hj => Nat.le_trans hsz (hF.own j hj)
  have H2 := Lib.hid hF.1
  have Hown := Lib.hid hown
  have HO2 := Lib.hid (HO.out.below HB2.out)
  clear hF hown
  have HLk := Lib.hid (looks_two H2.out)
  unfold ptr at HLk ⊢
  go_wp2_with fail
  refine HLk.out.mono ?_
  rintro e w3 ⟨rfl, hb⟩
  have H3 := Lib.hid (H2.out.below hb)
  have HO3 := Lib.hid (HO2.out.below hb)
  have HB3 := Lib.hid (HB2.out.trans (hb.mono HB2.out.size))
  clear hb HLk
  have hsz3 := HB3.out.size
  have HP := Lib.hid (play_two H3.out A ops c HO3.out (fun hne ad e h => by have := HO.out.lt hne ad e; have := Hown.out _ h; omega) (fun hne ad e => by have := HO.out.lt hne ad e; omega) hn (fun e => by cases e))
  unfold ptr at HP
  go_wp2_with fail
  refine HP.out.mono ?_
  rintro e w4 ⟨rfl, σ', -, hM⟩
  have HB4 := Lib.hid ((Chg.trans (S := fun j => w.heap.size ≤ j) (Chg.of_below HB3.out) hM.1 (fun j _ hj => Hown.out j hj)).below_le (Nat.le_refl _) (fun _ h => h))
  clear hM HP
  go_wp2
  go_ret
  exact ⟨rfl, HB4.out⟩
end Go.Proofs.YtfchglcclgcgfaaGreatDoor.Ut
