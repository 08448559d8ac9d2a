/-
  What the proof of the laws S rests on: the texts GapC Region5 Region4 Region7. Conditions: each theorem names its own.
-/
import Derived.Test.YtfchglcclgcgfaaGreatDoorMgSd
import Derived.Test.YtfchglcclgcgfaaGreatDoorMgSc
/-
 Package gap: lay, New; a nil buffer. No condition.
-/
namespace Go.Proofs.YtfchglcclgcgfaaGreatDoor.Ut
open Go.RowKit Go.Proofs.YtfchglcclgcgfaaGreatDoor.Reg
set_option linter.unusedVariables false
set_option linter.unusedSimpArgs false

def zerosB (m : Nat) : ByteArray := ⟨(List.replicate m 0).toArray⟩
theorem zerosB_size (m : Nat) : (zerosB m).size = m := by simp [zerosB, ByteArray.size]
def layR (a c : ByteArray) (n : Nat) : ByteArray := a ++ zerosB (n - a.size - c.size) ++ c
theorem layR_size {a c : ByteArray} {n : Nat} (h : a.size + c.size ≤ n) : (layR a c n).size = n := by
 unfold layR; simp [ByteArray.size_append, zerosB_size]; omega
theorem layR_list (a c : ByteArray) (n : Nat) : (layR a c n).data.toList = a.data.toList ++ List.replicate (n - a.size - c.size) 0 ++ c.data.toList := by
 unfold layR zerosB; simp [ByteArray.data_append]
theorem layR_text {a c : ByteArray} {n : Nat} (h : a.size + c.size ≤ n) : gtext (layR a c n) a.size (n - c.size) = a ++ c := by
 apply ext_of_list
 rw [gtext_list _ _ _ (by rw [layR_size h]; omega), layR_list, ByteArray.data_append, Array.toList_append]
 have ha : a.data.toList.length = a.size := by rw [← Lib.size_eq]
 have hc : c.data.toList.length = c.size := by rw [← Lib.size_eq]
 rw [List.append_assoc, List.take_left' ha, ← List.append_assoc, List.drop_left' (by simp [ha]; omega)]

theorem infoByte : (Tryz.prog.info? 5).map (fun i => (i.zero, i.size, i.bytes)) = some (some (.int .u8 0), 1, 1) := by kernel_rfl

theorem Lies.set {W : World} {g : Nat} {vs : List Value} (h : Lies W g vs) (k : Nat) (v : Value) : Lies (W.setCell ⟨g, k, none⟩ v) g (vs.set k v) := by
 refine ⟨Nat.lt_of_lt_of_le h.1 (Chg.set W ⟨g, k, none⟩ v).size, fun j u hj => ?_⟩
 have hjl : j < vs.length := by have := (List.getElem?_eq_some_iff.1 hj).1; simpa using this
 obtain ⟨x1, x2⟩ := h.2 j _ (List.getElem?_eq_getElem hjl)
 refine ⟨?_, by simpa using x2⟩
 rw [setAt W g k j v _ x1]
 by_cases e : j = k
 ·subst e; rw [if_pos rfl]; rw [List.getElem?_set_self hjl] at hj; exact hj
 ·rw [if_neg e]; rw [List.getElem?_set_ne (Ne.symm e), List.getElem?_eq_getElem hjl] at hj; exact hj
def RowIs (W : World) (g : Nat) (l : List UInt8) : Prop := W.heap[g]? = some (.cells (Lib.byteCells l).toArray 5 (0, 0))
theorem setRow_chg (W : World) (g : Nat) (cs : Array Value) : Chg (fun k => k = g) W (W.setRow g cs) := ⟨rfl, rfl, rfl, by simp [World.setRow], fun k _ hk => setRow_other _ _ _ _ hk⟩
theorem byteCells_take (l : List UInt8) (k : Nat) : (Lib.byteCells l).take k = Lib.byteCells (l.take k) := by simp [Lib.byteCells, List.map_take]
theorem byteCells_drop (l : List UInt8) (k : Nat) : (Lib.byteCells l).drop k = Lib.byteCells (l.drop k) := by simp [Lib.byteCells, List.map_drop]
theorem copy_at {W : World} {g : Nat} {l : List UInt8} (h : RowIs W g l) (o dLen dCap : Nat) (s : ByteArray) (h1 : s.size ≤ dLen) (h2 : o + s.size ≤ l.length) :
  ∃ W', (Builtin.copy_ #[74, 9] 3 #[.slice (some ⟨g, o, none⟩) dLen dCap, .string s]).run Tryz.prog W = .ok (goInt s.size) W' ∧ RowIs W' g (l.take o ++ s.data.toList ++ l.drop (o + s.size)) ∧ Chg (fun k => k = g) W W' := by
 have hz : (Tryz.prog.info? 5).map (·.size) = some 1 := by kernel_rfl
 have := Lib.run_copy_row_string (P := Tryz.prog) W 74 9 3 5 g o dLen dCap s _ _ Tryz.underlying74 hz h h1 (by simpa [Lib.byteCells] using h2)
 refine ⟨_, this, ?_, setRow_chg _ _ _⟩
 have := setRow_heap W g _ ((Lib.byteCells l).toArray.toList.take o ++ Lib.byteCells s.data.toList ++ (Lib.byteCells l).toArray.toList.drop (o + s.size)).toArray _ _ h
 unfold RowIs
 rw [this]
 simp only [byteCells_take, byteCells_drop, ← Lib.byteCells_append]

set_option maxRecDepth 100000 in
set_option maxHeartbeats 1000000 in
theorem lay_any (b : Nat) (v0 v1 v2 : Value) (lim : Nat) (a c : ByteArray) (n : Nat) (w : World) (hb : Blk w b 107 [v0, v1, v2, .int .i64 lim]) (h : a.size + c.size ≤ n) (h64 : 64 ≤ n) (hn : n ≤ 4294967296) :
  Calls Tryz.prog 55 #[.pointer (some ⟨b, 0, none⟩), .string a, .string c, .int .i64 n] w fun e w' => e = .returned (.tuple #[]) ∧ Gap w' b w.heap.size (layR a c n) a.size (n - c.size) lim ∧ Chg (fun k => k = b) w w' := by
 obtain ⟨i0, hi, hz0, hz1, hz2⟩ := info_parts infoByte
 have hbl : b < w.heap.size := hb.lies.1
 have hmk := run_make (P := Tryz.prog) w 74 5 i0 (.int .u8 0) Tryz.underlying74 hi hz0 .i64 .i64 n n (by omega) (Int.le_refl _) (by rw [hz2]; omega) (by omega)
 simp only [Int.toNat_natCast] at hmk
 obtain ⟨W1, hW1⟩ : ∃ W1, w.alloc (.cells (madeCells (Value.int .u8 0).cells (n * i0.size)) 5) = W1 := ⟨_, rfl⟩
 rw [hW1] at hmk
 have r1 : RowIs W1 w.heap.size (List.replicate n 0) := by
  rw [← hW1]
  unfold RowIs
  rw [World.alloc_heap_new]
  congr 2
  rw [hz1, Nat.mul_one]
  apply Array.ext
  ·rw [size_madeCells]; simp [Lib.byteCells]
  ·intro k h1 h2
   simp [madeCells, Lib.byteCells, Value.cells, Nat.mod_one]
 have g1 : Chg (fun _ => False) w W1 := by rw [← hW1]; exact Chg.alloc _ _
 generalize hg : w.heap.size = g at *
 clear hW1
 obtain ⟨W2, hc2, r2, g2⟩ := copy_at r1 0 n n a (by omega) (by simp; omega)
 have hl2 : (List.take 0 (List.replicate n (0 : UInt8)) ++ a.data.toList ++ List.drop (0 + a.size) (List.replicate n 0)) = a.data.toList ++ List.replicate (n - a.size) 0 := by simp
 rw [hl2] at r2
 have ha : a.data.toList.length = a.size := by rw [← Lib.size_eq]
 have hc : c.data.toList.length = c.size := by rw [← Lib.size_eq]
 obtain ⟨W3, hc3, r3, g3⟩ := copy_at r2 (offs n (n - c.size)) c.size c.size c (Nat.le_refl _) (by unfold offs; split <;> simp [ha] <;> omega)
 have hl3 : (List.take (offs n (n - c.size)) (a.data.toList ++ List.replicate (n - a.size) (0 : UInt8)) ++ c.data.toList ++ List.drop (offs n (n - c.size) + c.size) (a.data.toList ++ List.replicate (n - a.size) 0)) = (layR a c n).data.toList := by
  rw [layR_list]
  unfold offs
  split
  ·have : c.size = 0 := by omega
   have hc0 : c.data.toList = [] := List.eq_nil_of_length_eq_zero (by omega)
   rw [hc0, this]; simp
  ·rw [List.take_append, ha, List.take_of_length_le (by omega), List.drop_eq_nil_of_le (by simp; omega), List.append_nil]
   rw [List.take_replicate]
   have e : min (n - c.size - a.size) (n - a.size) = n - a.size - c.size := by omega
   rw [e]
 rw [hl3] at r3
 have hs3 : g < W1.heap.size := (Array.getElem?_eq_some_iff.1 r1).1
 have hbox : Blk W3 b 107 [v0, v1, v2, .int .i64 lim] := ((hb.chg g1 (fun h => h)).chg g2 (by show ¬ b = g; omega)).chg g3 (by show ¬ b = g; omega)
 have hch : Chg (fun _ => False) w W3 := (g1.trans g2 (fun x hx h => by have : x = g := h; omega)).trans g3 (fun x hx h => by have : x = g := h; omega)
 have hk : Gap ((((W3.setCell ⟨b, 0, none⟩ (.slice (some ⟨g, 0, none⟩) n n)).setCell ⟨b, 1, none⟩ (.int .i64 a.size)).setCell ⟨b, 2, none⟩ (.int .i64 ((n - c.size : Nat) : Int)))) b g (layR a c n) a.size (n - c.size) lim ∧ Chg (fun k => k = b) w ((((W3.setCell ⟨b, 0, none⟩ (.slice (some ⟨g, 0, none⟩) n n)).setCell ⟨b, 1, none⟩ (.int .i64 a.size)).setCell ⟨b, 2, none⟩ (.int .i64 ((n - c.size : Nat) : Int)))) := by
  have B3 := ((hbox.set 0 (.slice (some ⟨g, 0, none⟩) n n)).set 1 (.int .i64 a.size)).set 2 (.int .i64 ((n - c.size : Nat) : Int))
  have C3 : Chg (fun k => k = b) W3 ((((W3.setCell ⟨b, 0, none⟩ (.slice (some ⟨g, 0, none⟩) n n)).setCell ⟨b, 1, none⟩ (.int .i64 a.size)).setCell ⟨b, 2, none⟩ (.int .i64 ((n - c.size : Nat) : Int)))) :=
   ((Chg.set W3 ⟨b, 0, none⟩ _).trans (Chg.set _ ⟨b, 1, none⟩ _) (fun _ _ h => h)).trans (Chg.set _ ⟨b, 2, none⟩ _) (fun _ _ h => h)
  have hlt3 : g < W3.heap.size := (Array.getElem?_eq_some_iff.1 r3).1
  refine ⟨⟨?_, (C3.block g hlt3 (by show ¬ g = b; omega)).trans r3, by omega, by omega, by rw [layR_size h]; omega, by rw [layR_size h]; omega, by rw [layR_size h]; omega⟩, (hch.mono (fun _ f => f.elim)).trans C3 (fun _ _ h => h)⟩
  rw [layR_size h]
  exact B3
 have n1 : IntKind.i64.wrap ((n : Int) - (c.size : Int)) = (n : Int) - (c.size : Int) := IntWalk.i64_in _ (by omega)
 have n2 : (n : Int) - (c.size : Int) = ((n - c.size : Nat) : Int) := by omega
 have n3 : ((n - c.size : Nat) : Int) ≤ (n : Int) := by omega
 have hK := Lib.hid hk
 obtain ⟨-, K⟩ := hbox.lies
 obtain ⟨c0, f0⟩ := K 0 _ rfl
 obtain ⟨c1, f1⟩ := K 1 _ rfl
 obtain ⟨c2, f2⟩ := K 2 _ rfl
 clear K hb r1 r2 r3 g1 g2 g3 hl2 hl3 ha hc hch hk hi hz0 hz1 hz2
 have hsub : n - (n - c.size) = c.size := by omega
 generalize n - c.size = k at *
 by_cases he : n = k
 ·have o : offs n k = 0 := by unfold offs; rw [if_pos he]
  rw [o] at hc3
  subst he
  have hc0 : c.size = 0 := by omega
  rw [hc0] at hc3
  clear hsub o
  go_enter Tryz.func55, Tryz.ntmps55
  go_wp2
  go_end0
  exact ⟨rfl, hK.out⟩
 ·have o : offs n k = k := by unfold offs; rw [if_neg he]
  rw [o] at hc3
  go_enter Tryz.func55, Tryz.ntmps55
  go_wp2
  go_end0
  exact ⟨rfl, hK.out⟩

/-- A nil buffer. -/
theorem nilLen_any (w : World) : Calls Tryz.prog 231 #[.pointer none] w fun e w' => e = .returned (.int .i64 0) ∧ w' = w := by
 go_enter Tryz.func231, Tryz.ntmps231
 go_wp2
 go_ret
 exact ⟨rfl, rfl⟩
theorem nilPiece_any (i j : Int) (w : World) : Calls Tryz.prog 236 #[.pointer none, .int .i64 i, .int .i64 j] w fun e w' => e = .returned (.string ⟨#[]⟩) ∧ w' = w := by
 go_enter Tryz.func236, Tryz.ntmps236
 go_wp2
 go_ret
 exact ⟨rfl, rfl⟩
set_option maxRecDepth 100000 in
theorem nilSlice_any (w : World) : Calls Tryz.prog 234 #[.pointer none, .int .i64 0, .int .i64 0] w fun e w' => e = .returned (.tuple #[.string ⟨#[]⟩, .int .i64 0]) ∧ Below w.heap.size w w' := by
 go_enter Tryz.func234, Tryz.ntmps234
 go_wp2_with fail
 refine (nilLen_any w).mono ?_
 rintro e w1 ⟨rfl, rfl⟩
 go_wp2_with fail
 refine (nilPiece_any 0 0 w1).mono ?_
 rintro e w2 ⟨rfl, rfl⟩
 go_wp2
 refine bodyPost_ret (v := .tuple #[.string ⟨#[]⟩, .int .i64 0]) (by simp [results, Tryz.results234, go_sem]) rfl ⟨rfl, Below.refl _ _⟩

set_option maxRecDepth 100000 in
set_option maxHeartbeats 1000000 in
theorem GapNew_any (s : ByteArray) (n : Nat) (w : World) (hn : n ≤ 1073741824) (hs : s.size ≤ n) :
  Calls Tryz.prog 17 #[.string s, .int .i64 n] w fun e w' => ∃ b g r fr tq, e = .returned (.tuple #[.pointer (some ⟨b, 0, none⟩), .int .i64 0]) ∧ Gap w' b g r fr tq n ∧ gtext r fr tq = s ∧ w.heap.size ≤ b ∧ w.heap.size ≤ g ∧ Below w.heap.size w w' := by
 have e1 : min (max (n : Int) 0) 1073741824 = (n : Int) := by omega
 have e2 : ¬ (n : Int) < (s.size : Int) := by omega
 have e3 : max (s.size : Int) 64 = ((max s.size 64 : Nat) : Int) := by omega
 have h1 : s.size + (⟨#[]⟩ : ByteArray).size ≤ max s.size 64 := by show s.size + 0 ≤ _; omega
 have h2 : 64 ≤ max s.size 64 := by omega
 have h3 : max s.size 64 ≤ 4294967296 := by omega
 have ht := layR_text h1
 generalize max s.size 64 = k at *
 go_enter Tryz.func17, Tryz.ntmps17
 go_wp2_with fail
 refine (held_any n w).mono ?_
 rintro e w1 ⟨rfl, rfl⟩
 rw [e1]
 go_wp2_with fail
 refine (held_any n w1).mono ?_
 rintro e w2 ⟨rfl, rfl⟩
 rw [e1]
 go_wp2_with fail
 have kb : Blk (w2.alloc (.cells ([.slice none 0 0, .int .i64 0, .int .i64 0, .int .i64 n] : List Value).toArray 107)) w2.heap.size 107 [.slice none 0 0, .int .i64 0, .int .i64 0, .int .i64 n] := Blk.new _ _ _
 have b1 : Below w2.heap.size w2 (w2.alloc (.cells ([.slice none 0 0, .int .i64 0, .int .i64 0, .int .i64 n] : List Value).toArray 107)) := (Below.refl _ _).alloc (Nat.le_refl _) _
 change Calls _ _ _ (w2.alloc (.cells ([.slice none 0 0, .int .i64 0, .int .i64 0, .int .i64 n] : List Value).toArray 107)) _
 generalize w2.alloc (.cells ([.slice none 0 0, .int .i64 0, .int .i64 0, .int .i64 n] : List Value).toArray 107) = w3 at *
 refine (lay_any w2.heap.size _ _ _ n s ⟨#[]⟩ k w3 kb h1 h2 h3).mono ?_
 rintro e w4 ⟨rfl, hG, hC⟩
 have HG := Lib.hid hG
 have HB := Lib.hid (chg_mine b1 hC (Nat.le_refl _))
 have hw3 := b1.size
 clear hG hC kb b1
 go_wp2
 refine bodyPost_ret (v := .tuple #[.pointer (some ⟨w2.heap.size, 0, none⟩), .int .i64 0]) (by simp [results, Tryz.results17, go_sem]) rfl ⟨_, _, _, _, _, rfl, HG.out, ?_, Nat.le_refl _, hw3, HB.out⟩
 rw [ht]
 apply ext_of_list
 simp
end Go.Proofs.YtfchglcclgcgfaaGreatDoor.Ut
/-
 A region that draws its order and whose last operations come one behind the other, each behind all that stand ahead of it. No condition.
-/
namespace Go.Proofs.YtfchglcclgcgfaaGreatDoor.Reg
open Go.RowKit Go.Maps
set_option linter.unusedVariables false
set_option linter.unusedSimpArgs false

section
variable {P : Program} {ops : Array Oper} {Q : Exit → Act → World → Prop}

theorem list_step {i : Nat} {o : Oper} {a : Act} {w : World} (ho : ops[i]? = some o) (h : wpList P ops Q (ops.toList.drop i) a w) : wpOp P ops Q i (wpList P ops Q (ops.toList.drop (i + 1))) a w := by
 have hi : i < ops.toList.length := by have := (Array.getElem?_eq_some_iff.1 ho).1; simpa using this
 have he : ops.toList[i] = o := by
  have := (Array.getElem?_eq_some_iff.1 ho).2
  simpa using this
 rw [List.drop_eq_getElem_cons hi, he] at h
 unfold wpOp
 rw [ho]
 exact h

/-- The operations from n on are run in their order, when all slots of those ahead of them are as said. -/
theorem wp_held_tail {id : Nat} {a0 : Act} {w0 : World} (hm : P.follows .mixedOrders = true) (V : Nat → Value → World → Prop)
  (hV : ∀ d v w w', V d v w → Below w.heap.size w w' → V d v w') (ht : tidy ops = true) (fu n : Nat) (hn : n < ops.size) (D : List Nat)
  (hD1 : ((List.range n).all fun j => match (ops[j]?).bind (·.dst) with | some d => D.contains d | none => true) = true) (hD2 : (D.all fun d => (List.range n).any fun j => writes ops j d) = true)
  (hlast : ((List.range ops.size).all fun i => decide (i < n) || (List.range i).all fun j => far ops fu i j) = true)
  (hsz : (ops.all fun o => match o.dst with | some d => decide (d < a0.tmps.size) | none => true) = true)
  (h : ∀ i, i < n → Owes P ops Q V a0 w0 i)
  (hd : ∀ (f : Nat → Value) w, (∀ d ∈ D, V d (f d) w) → Below w0.heap.size w0 w → wpList P ops Q (ops.toList.drop n) (putAll a0 (D.map fun d => (d, f d))) w) :
  (Code.region id ops true).wp P Q a0 w0 := by
 have hdr : Below w0.heap.size w0 { w0 with drawn := w0.drawn + 1 } := ⟨rfl, rfl, rfl, Nat.le_refl _, fun _ _ => rfl⟩
 have hnone : ∀ j, (Array.replicate ops.size false).getD j false = false := fun j => by
  rw [Array.getD_eq_getD_getElem?]
  by_cases hj : j < ops.size <;> simp [hj]
 refine wp_inv hm (fun listed a w => (Inv ops V a0 w0 listed a w ∧ ∀ j, n ≤ j → listed.getD j false = false) ∨ ∃ k, n < k ∧ k ≤ ops.size ∧ (∀ j, j < k → listed.getD j false = true) ∧ (∀ j, k ≤ j → listed.getD j false = false) ∧ (∀ j k, waits ops j k = true → listed.getD j false = true → listed.getD k false = true) ∧ wpList P ops Q (ops.toList.drop k) a w)
  (.inl ⟨⟨rfl, rfl, hdr, fun j d _ hl => ?_, fun j k _ hl => ?_, fun d _ => rfl⟩, fun j _ => hnone j⟩) ?_ ?_
 ·rw [hnone] at hl; cases hl
 ·rw [hnone] at hl; cases hl
 ·intro listed a w i hI hs hi
  obtain ⟨hun, o, ho, haf⟩ := mem_ready.1 hi
  have hil : i < ops.size := (Array.getElem?_eq_some_iff.1 ho).1
  have hilt : i < listed.size := by omega
  have hnl : listed.getD i false = false := by
   rw [Array.getD_eq_getD_getElem?] at hun ⊢
   simp [hilt] at hun ⊢
   exact hun
  have hwl : ∀ k, waits ops i k = true → listed.getD k false = true := fun k hk => by
   unfold waits at hk
   rw [ho] at hk
   simp only [Option.map_some, Option.getD_some, Array.any_eq_true', Bool.and_eq_true, beq_iff_eq] at hk
   obtain ⟨e, he, rfl, hb⟩ := hk
   exact haf e he hb
  have hself : (listed.setIfInBounds i true).getD i false = true := by
   rw [Array.getD_eq_getD_getElem?]; simp [hilt]
  have hkeep : ∀ j, listed.getD j false = true → (listed.setIfInBounds i true).getD j false = true := fun j hj => by
   by_cases e : j = i
   ·subst e; exact hself
   ·rw [getD_set_ne false (fun h => e h.symm)]; exact hj
  have hfar : ∀ j, n ≤ i → j < i → far ops fu i j = true := fun j h1 h2 => by
   have := List.all_eq_true.1 hlast i (List.mem_range.2 hil)
   rw [Bool.or_eq_true] at this
   rcases this with h | h
   ·simp at h; omega
   ·exact List.all_eq_true.1 h j (List.mem_range.2 h2)
  have hgo : (∀ j k, waits ops j k = true → listed.getD j false = true → listed.getD k false = true) → (∀ j, j < i → listed.getD j false = true) → (∀ j, i ≤ j → listed.getD j false = false) → n ≤ i → wpList P ops Q (ops.toList.drop i) a w →
    wpOp P ops Q i (fun a w => (Inv ops V a0 w0 (listed.setIfInBounds i true) a w ∧ ∀ j, n ≤ j → (listed.setIfInBounds i true).getD j false = false) ∨ ∃ k, n < k ∧ k ≤ ops.size ∧ (∀ j, j < k → (listed.setIfInBounds i true).getD j false = true) ∧ (∀ j, k ≤ j → (listed.setIfInBounds i true).getD j false = false) ∧ (∀ j k, waits ops j k = true → (listed.setIfInBounds i true).getD j false = true → (listed.setIfInBounds i true).getD k false = true) ∧ wpList P ops Q (ops.toList.drop k) a w) a w := by
   intro hcl h1 h2 hni hw
   refine wpOp_mono (fun a' w' hq => .inr ⟨i + 1, by omega, by omega, fun j hj => ?_, fun j hj => ?_, fun j k hjk hj => ?_, hq⟩) (list_step ho hw)
   ·by_cases e : j = i
    ·subst e; exact hself
    ·exact hkeep j (h1 j (by omega))
   ·rw [getD_set_ne false (by omega)]; exact h2 j (by omega)
   ·by_cases e : j = i
    ·subst e; exact hkeep k (hwl k hjk)
    ·rw [getD_set_ne false (fun h => e h.symm)] at hj
     exact hkeep k (hcl j k hjk hj)
  rcases hI with ⟨hI, hunl⟩ | ⟨k, hk1, hk2, hk3, hk4, hk5, hw⟩
  ·by_cases hin : i < n
   ·refine wpOp_mono (fun a' w' hq => .inl ⟨hq, fun j hj => ?_⟩) (inv_step hV ht hsz hI hs hi (h i hin))
    rw [getD_set_ne false (by omega)]; exact hunl j hj
   ·have hall : ∀ j, j < i → listed.getD j false = true := fun j hj => far_once hwl hI.closed (hfar j (by omega) hj)
    have hni : i = n := by
     rcases Nat.lt_or_ge n i with h3 | h3
     ·have := hall n h3; rw [hunl n (Nat.le_refl _)] at this; cases this
     ·omega
    subst hni
    have hdw : ∀ d, d ∈ D → ∃ j, j < i ∧ writes ops j d = true := fun d hd' => by
     have := List.all_eq_true.1 hD2 d hd'
     rw [List.any_eq_true] at this
     obtain ⟨j, hj, hw⟩ := this
     exact ⟨j, List.mem_range.1 hj, hw⟩
    have e := putAll_eq a D a0 hI.size hI.defers (fun d hdm => by
     obtain ⟨j, -, hj⟩ := hdw d hdm
     unfold writes at hj
     cases hx : ops[j]? with
     | none => rw [hx] at hj; simp at hj
     | some o =>
      rw [hx] at hj
      have h3 : o.dst = some d := by simpa using hj
      have h2 := Array.all_eq_true_iff_forall_mem.1 hsz o (Array.mem_of_getElem? hx)
      rw [h3] at h2
      exact of_decide_eq_true h2) (fun d hn => hI.rest d (fun j hw => by
       rcases Nat.lt_or_ge j i with h3 | h3
       ·exfalso
        apply hn
        have := List.all_eq_true.1 hD1 j (List.mem_range.2 h3)
        unfold writes at hw
        cases hx : ops[j]? with
        | none => rw [hx] at hw; simp at hw
        | some o =>
         rw [hx] at hw this
         have h4 : o.dst = some d := by simpa using hw
         simp only [Option.bind_some, h4] at this
         simpa using this
       ·exact hunl j h3))
    refine hgo hI.closed hall hunl (Nat.le_refl _) ?_
    rw [e]
    exact hd (fun d => a.tmps.getD d undef) w (fun d hdm => by obtain ⟨j, hj1, hj⟩ := hdw d hdm; exact hI.done j d hj (hall j hj1)) hI.below
  ·have hik : i = k := by
    rcases Nat.lt_or_ge i k with h3 | h3
    ·rw [hk3 i h3] at hnl; cases hnl
    ·rcases Nat.lt_or_ge k i with h4 | h4
     ·have := far_once hwl hk5 (hfar k (by omega) h4)
      rw [hk4 k (Nat.le_refl _)] at this; cases this
     ·omega
   subst hik
   exact hgo hk5 hk3 hk4 (by omega) hw
 ·intro listed a w hI hs hr
  have hal := all_listed ht hr hs
  rcases hI with ⟨-, h1⟩ | ⟨k, hk1, hk2, hk3, hk4, hk5, hw⟩
  ·have := h1 n (Nat.le_refl _); rw [hal n hn] at this; cases this
  ·have hk : k = ops.size := by
    rcases Nat.lt_or_eq_of_le hk2 with h3 | h3
    ·have := hk4 k (Nat.le_refl _); rw [hal k h3] at this; cases this
    ·exact h3
   rw [hk, List.drop_eq_nil_of_le (by simp)] at hw
   exact hw
end
end Go.Proofs.YtfchglcclgcgfaaGreatDoor.Reg
/-
 A region that draws its order and in which two operations write, the second behind the first. No condition.
-/
namespace Go.Proofs.YtfchglcclgcgfaaGreatDoor.Reg
open Go.RowKit Go.Maps
set_option linter.unusedVariables false
set_option linter.unusedSimpArgs false

section
variable {P : Program} {ops : Array Oper} {Q : Exit → Act → World → Prop}

structure InvJ (ops : Array Oper) (V : Nat → Value → World → Prop) (a0 : Act) (listed : Array Bool) (a : Act) (w : World) : Prop where
 size : a.tmps.size = a0.tmps.size
 defers : a.defers = a0.defers
 done : ∀ j d, writes ops j d = true → listed.getD j false = true → V d (a.tmps.getD d undef) w
 closed : ∀ j k, waits ops j k = true → listed.getD j false = true → listed.getD k false = true
 rest : ∀ d, (∀ j, writes ops j d = true → listed.getD j false = false) → a.tmps.getD d undef = a0.tmps.getD d undef

/-- What an operation owes that leads from worlds of J to worlds of J'. -/
def OwesJ (P : Program) (ops : Array Oper) (Q : Exit → Act → World → Prop) (V : Nat → Value → World → Prop) (a0 : Act) (J J' : World → Prop) (i : Nat) : Prop :=
 ∀ a w, a.tmps.size = a0.tmps.size → a.defers = a0.defers → J w →
  (∀ x ∈ reads ops i, (x.2 = true → V x.1 (a.tmps.getD x.1 undef) w) ∧ (x.2 = false → a.tmps.getD x.1 undef = a0.tmps.getD x.1 undef)) →
  wpOp P ops Q i (fun a' w' => ∃ v, a' = a.put ((ops[i]?).bind (·.dst)) v ∧ J' w' ∧ ∀ d, writes ops i d = true → V d v w') a w

theorem owesJ_val {V : Nat → Value → World → Prop} {a0 : Act} {J J' : World → Prop} {i d : Nat} {o : Oper} {L : List (Nat × Bool)} (ho : ops[i]? = some o) (hg : o.guard = none) (hd : o.dst = some d) (hL : reads ops i = L)
  (h : ∀ a w, J w → Facts V a0 a w L → o.wp P a w (fun a' w' => ∃ v, a' = a.put (some d) v ∧ J' w' ∧ V d v w') Q) : OwesJ P ops Q V a0 J J' i := by
 intro a w _ _ hb hr
 rw [hL] at hr
 have h1 := h a w hb (facts_of hr)
 unfold wpOp
 rw [ho]
 have hw : Region.wanted o (yielded ops a.tmps) = true := by simp [Region.wanted, hg]
 simp only [hw, if_true]
 refine .inl (Oper.wp_mono (fun a' w' hh => ?_) h1)
 obtain ⟨v, rfl, hb', hv⟩ := hh
 refine ⟨v, by rw [Option.bind_some, hd], hb', fun e he => ?_⟩
 have : d = e := by simpa [writes, ho, hd] using he
 subst this
 exact hv

theorem inv_step2 {a0 : Act} {V : Nat → Value → World → Prop}
  (hV : ∀ d v w w', V d v w → V d v w') {J' : World → Prop} (ht : tidy ops = true)
  (hsz : (ops.all fun o => match o.dst with | some d => decide (d < a0.tmps.size) | none => true) = true)
  {listed : Array Bool} {a : Act} {w : World} {i : Nat} (hI : InvJ ops V a0 listed a w) (hs : listed.size = ops.size) (hi : i ∈ Region.ready .any ops listed) {Jw : World → Prop} (hJ : Jw w) (h : OwesJ P ops Q V a0 Jw J' i) :
  wpOp P ops Q i (fun a' w' => InvJ ops V a0 (listed.setIfInBounds i true) a' w' ∧ J' w') a w := by
 obtain ⟨hun, o, ho, haf⟩ := mem_ready.1 hi
 have hil : i < ops.size := (Array.getElem?_eq_some_iff.1 ho).1
 have hwl : ∀ j, waits ops i j = true → listed.getD j false = true := fun j hj => by
  unfold waits at hj
  rw [ho] at hj
  simp only [Option.map_some, Option.getD_some, Array.any_eq_true', Bool.and_eq_true, beq_iff_eq] at hj
  obtain ⟨e, he, rfl, hb⟩ := hj
  exact haf e he hb
 have hilt : i < listed.size := by omega
 have hnl : listed.getD i false = false := by
  rw [Array.getD_eq_getD_getElem?] at hun ⊢
  simp [hilt] at hun ⊢
  exact hun
 have htd : ∀ j, j < ops.size → i ≠ j → ∀ d, writes ops j d = true → writes ops i d = false ∧ (d ∈ o.looksAt ops → waits ops i j = true ∨ waits ops j i = true) := fun j hj hne d hw => by
  unfold tidy at ht
  rw [Bool.and_eq_true] at ht
  have h1 := List.all_eq_true.1 (List.all_eq_true.1 ht.2 i (List.mem_range.2 hil)) j (List.mem_range.2 hj)
  unfold writes at hw
  have hdj : (ops[j]?).bind (·.dst) = some d := by simpa using hw
  rw [hdj, ho] at h1
  have hb : (i == j) = false := by simpa using hne
  rw [hb] at h1
  simp only [Bool.false_or, Bool.and_eq_true, Bool.not_eq_true', Bool.or_eq_true] at h1
  refine ⟨h1.1, fun hd => ?_⟩
  rcases h1.2 with (h2 | h2) | h2
  ·have : (o.looksAt ops).contains d = true := by simpa using hd
   rw [this] at h2; cases h2
  ·exact .inl h2
  ·exact .inr h2
 have hwn : ∀ j, waits ops j i = true → listed.getD j false = false := fun j hj => by
  cases hx : listed.getD j false with
  | false => rfl
  | true => have := hI.closed j i hj hx; rw [hnl] at this; cases this
 refine wpOp_mono (fun a' w' hh => ?_) (h a w hI.size hI.defers hJ (fun x hx => ?_))
 ·obtain ⟨v, rfl, hb, hv⟩ := hh
  have hdl : ∀ t, (ops[i]?).bind (·.dst) = some t → t < a.tmps.size := fun t hte => by
   rw [ho] at hte
   have h2 := Array.all_eq_true_iff_forall_mem.1 hsz o (Array.mem_of_getElem? ho)
   have h3 : o.dst = some t := hte
   rw [h3] at h2
   rw [hI.size]
   exact of_decide_eq_true h2
  have hli : ∀ j, j ≠ i → (listed.setIfInBounds i true).getD j false = listed.getD j false := fun j hj => getD_set_ne false (Ne.symm hj)
  have hself : (listed.setIfInBounds i true).getD i false = true := by
   rw [Array.getD_eq_getD_getElem?]; simp [hilt]
  refine ⟨⟨?_, ?_, fun j d hw hl => ?_, fun j k hjk hl => ?_, fun d hd => ?_⟩, hb⟩
  ·cases hx : (ops[i]?).bind (·.dst) <;> simp [Act.put, hI.size]
  ·cases hx : (ops[i]?).bind (·.dst) <;> simp [Act.put, hI.defers]
  ·rw [getD_put a _ v d hdl]
   by_cases hji : j = i
   ·subst hji
    have : (ops[j]?).bind (·.dst) = some d := by simpa [writes] using hw
    rw [if_pos this]
    exact hv d hw
   ·have hne := (htd j (writes_lt hw) (Ne.symm hji) d hw).1
    rw [if_neg (by intro e; simp [writes, e] at hne)]
    rw [hli j hji] at hl
    exact hV _ _ _ _ (hI.done j d hw hl)
  ·by_cases hki : k = i
   ·subst hki; exact hself
   ·rw [hli k hki]
    by_cases hji : j = i
    ·subst hji; exact hwl k hjk
    ·rw [hli j hji] at hl; exact hI.closed j k hjk hl
  ·rw [getD_put a _ v d hdl]
   rw [if_neg]
   ·refine hI.rest d (fun j hw => ?_)
    have := hd j hw
    by_cases hji : j = i
    ·subst hji; rw [hself] at this; cases this
    ·rwa [hli j hji] at this
   ·intro e
    have := hd i (by simp [writes, e])
    rw [hself] at this; cases this
 ·unfold reads at hx
  rw [ho] at hx
  obtain ⟨d, hdm, rfl⟩ := List.mem_map.1 hx
  refine ⟨fun hf => ?_, fun hf => ?_⟩
  ·simp only [List.any_eq_true, List.mem_range, Bool.and_eq_true] at hf
   obtain ⟨j, _, hw, hwt⟩ := hf
   exact hI.done j d hw (hwl j hwt)
  ·refine hI.rest d (fun j hw => ?_)
   by_cases hji : j = i
   ·subst hji; exact hnl
   ·rcases (htd j (writes_lt hw) (Ne.symm hji) d hw).2 hdm with h1 | h1
    ·exfalso
     rw [List.any_eq_false] at hf
     have := hf j (List.mem_range.2 (writes_lt hw))
     simp [hw, h1] at this
    ·exact hwn j h1


theorem wp_held_two {id : Nat} {a0 : Act} {w0 : World} (hm : P.follows .mixedOrders = true) (V : Nat → Value → World → Prop)
  (hV : ∀ d v w w', V d v w → V d v w') (ht : tidy ops = true) (D : List Nat) (hD : dsts ops = D) (J : Nat → World → Prop) (p q : Nat) (hpq : p ≠ q) (hps : p < ops.size) (hqs : q < ops.size) (hqp : far ops 4 q p = true)
  (hsz : (ops.all fun o => match o.dst with | some d => decide (d < a0.tmps.size) | none => true) = true)
  (hJ : J 0 { w0 with drawn := w0.drawn + 1 })
  (h : ∀ i, i < ops.size → i ≠ p → i ≠ q → ∀ m, OwesJ P ops Q V a0 (J m) (J m) i) (hp : OwesJ P ops Q V a0 (J 0) (J 1) p) (hq : OwesJ P ops Q V a0 (J 1) (J 2) q)
  (hd : ∀ (f : Nat → Value) w, (∀ d ∈ D, V d (f d) w) → J 2 w → Q .normal (putAll a0 (D.map fun d => (d, f d))) w) :
  (Code.region id ops true).wp P Q a0 w0 := by
 have hnone : ∀ j, (Array.replicate ops.size false).getD j false = false := fun j => by
  rw [Array.getD_eq_getD_getElem?]
  by_cases hj : j < ops.size <;> simp [hj]
 let cnt : Array Bool → Nat := fun listed => (if listed.getD p false = true then 1 else 0) + (if listed.getD q false = true then 1 else 0)
 refine wp_inv hm (fun listed a w => InvJ ops V a0 listed a w ∧ J (cnt listed) w) ⟨⟨rfl, rfl, fun j d _ hl => ?_, fun j k _ hl => ?_, fun d _ => rfl⟩, ?_⟩ ?_ ?_
 ·rw [hnone] at hl; cases hl
 ·rw [hnone] at hl; cases hl
 ·show J ((if (Array.replicate ops.size false).getD p false = true then 1 else 0) + (if (Array.replicate ops.size false).getD q false = true then 1 else 0)) _
  rw [hnone, hnone]
  exact hJ
 ·intro listed a w i ⟨hI, hJw⟩ hs hi
  obtain ⟨hun, o, ho, haf⟩ := mem_ready.1 hi
  have hil : i < ops.size := (Array.getElem?_eq_some_iff.1 ho).1
  have hilt : i < listed.size := by omega
  have hnl : listed.getD i false = false := by
   rw [Array.getD_eq_getD_getElem?] at hun ⊢
   simp [hilt] at hun ⊢
   exact hun
  have hself : (listed.setIfInBounds i true).getD i false = true := by
   rw [Array.getD_eq_getD_getElem?]; simp [hilt]
  by_cases hip : i = p
  ·subst hip
   have hnq : listed.getD q false = false := by
    cases hx : listed.getD q false with
    | false => rfl
    | true =>
     have := far_listed hI.closed 4 q i hx hqp
     rw [hnl] at this; cases this
   have e0 : cnt listed = 0 := by show (if _ then _ else _) + (if _ then _ else _) = 0; rw [hnl, hnq]; rfl
   have e1 : cnt (listed.setIfInBounds i true) = 1 := by show (if _ then _ else _) + (if _ then _ else _) = 1; rw [hself, getD_set_ne false hpq, hnq]; rfl
   rw [e0] at hJw
   refine wpOp_mono (fun a' w' hh => ?_) (inv_step2 hV ht hsz hI hs hi hJw hp)
   rw [e1]; exact hh
  ·by_cases hiq : i = q
   ·subst hiq
    have hlp : listed.getD p false = true := by
     refine far_once (fun k hk => ?_) hI.closed hqp
     unfold waits at hk
     rw [ho] at hk
     simp only [Option.map_some, Option.getD_some, Array.any_eq_true', Bool.and_eq_true, beq_iff_eq] at hk
     obtain ⟨e, he, rfl, hb⟩ := hk
     exact haf e he hb
    have e0 : cnt listed = 1 := by show (if _ then _ else _) + (if _ then _ else _) = 1; rw [hnl, hlp]; rfl
    have e1 : cnt (listed.setIfInBounds i true) = 2 := by show (if _ then _ else _) + (if _ then _ else _) = 2; rw [hself, getD_set_ne false hip, hlp]; rfl
    rw [e0] at hJw
    refine wpOp_mono (fun a' w' hh => ?_) (inv_step2 hV ht hsz hI hs hi hJw hq)
    rw [e1]; exact hh
   ·have e1 : cnt (listed.setIfInBounds i true) = cnt listed := by show (if _ then _ else _) + (if _ then _ else _) = (if _ then _ else _) + (if _ then _ else _); rw [getD_set_ne false hip, getD_set_ne false hiq]
    refine wpOp_mono (fun a' w' hh => ?_) (inv_step2 hV ht hsz hI hs hi hJw (h i hil hip hiq _))
    rw [e1]; exact hh
 ·intro listed a w ⟨hI, hJw⟩ hs hr
  have hal := all_listed ht hr hs
  have e2 : cnt listed = 2 := by show (if _ then _ else _) + (if _ then _ else _) = 2; rw [hal p hps, hal q hqs]; rfl
  rw [e2] at hJw
  subst hD
  have e := putAll_eq a (dsts ops) a0 hI.size hI.defers (fun d hdm => by
   obtain ⟨j, hj⟩ := mem_dsts.1 hdm
   unfold writes at hj
   cases hx : ops[j]? with
   | none => rw [hx] at hj; simp at hj
   | some o =>
    rw [hx] at hj
    have h3 : o.dst = some d := by simpa using hj
    have h2 := Array.all_eq_true_iff_forall_mem.1 hsz o (Array.mem_of_getElem? hx)
    rw [h3] at h2
    exact of_decide_eq_true h2) (fun d hn => hI.rest d (fun j hw => absurd (mem_dsts.2 ⟨j, hw⟩) hn))
  rw [e]
  exact hd (fun d => a.tmps.getD d undef) w (fun d hdm => by obtain ⟨j, hj⟩ := mem_dsts.1 hdm; exact hI.done j d hj (hal j (writes_lt hj))) hJw
end
end Go.Proofs.YtfchglcclgcgfaaGreatDoor.Reg
/-
 A region that draws its order, in which one operation (p) writes and the last one waits for all the others. No condition.
-/
namespace Go.Proofs.YtfchglcclgcgfaaGreatDoor.Reg
open Go.RowKit Go.Maps
set_option linter.unusedVariables false
set_option linter.unusedSimpArgs false

section
variable {P : Program} {ops : Array Oper} {Q : Exit → Act → World → Prop}

theorem wp_held_mid {id : Nat} {a0 : Act} {w0 : World} (hm : P.follows .mixedOrders = true) (V : Nat → Value → World → Prop)
  (hV : ∀ d v w w', V d v w → V d v w') (ht : tidy ops = true) (D : List Nat) (hD : dsts ops = D) (J : Nat → World → Prop) (p n : Nat) (hn : ops.size = n + 1) (hpn : p < n) (hnd : (ops[n]?).bind (·.dst) = none) (fuel : Nat)
  (hlast : ((List.range n).all fun j => far ops fuel n j) = true)
  (hsz : (ops.all fun o => match o.dst with | some d => decide (d < a0.tmps.size) | none => true) = true)
  (hJ : J 0 { w0 with drawn := w0.drawn + 1 })
  (h : ∀ i, i < n → i ≠ p → ∀ m, OwesJ P ops Q V a0 (J m) (J m) i) (hp : OwesJ P ops Q V a0 (J 0) (J 1) p)
  (hd : ∀ (f : Nat → Value) w, (∀ d ∈ D, V d (f d) w) → J 1 w → wpOp P ops Q n (Q .normal) (putAll a0 (D.map fun d => (d, f d))) w) :
  (Code.region id ops true).wp P Q a0 w0 := by
 have hnone : ∀ j, (Array.replicate ops.size false).getD j false = false := fun j => by
  rw [Array.getD_eq_getD_getElem?]
  by_cases hj : j < ops.size <;> simp [hj]
 let cnt : Array Bool → Nat := fun listed => if listed.getD p false = true then 1 else 0
 refine wp_inv hm (fun listed a w => (listed.getD n false = false ∧ InvJ ops V a0 listed a w ∧ J (cnt listed) w) ∨ (listed.getD n false = true ∧ (∀ j, j < n → listed.getD j false = true) ∧ Q .normal a w))
  (.inl ⟨hnone n, ⟨rfl, rfl, fun j d _ hl => ?_, fun j k _ hl => ?_, fun d _ => rfl⟩, ?_⟩) ?_ ?_
 ·rw [hnone] at hl; cases hl
 ·rw [hnone] at hl; cases hl
 ·show J (if (Array.replicate ops.size false).getD p false = true then 1 else 0) _
  rw [hnone]
  exact hJ
 ·intro listed a w i hI hs hi
  obtain ⟨hun, o, ho, haf⟩ := mem_ready.1 hi
  have hil : i < ops.size := (Array.getElem?_eq_some_iff.1 ho).1
  have hilt : i < listed.size := by omega
  have hnl : listed.getD i false = false := by
   rw [Array.getD_eq_getD_getElem?] at hun ⊢
   simp [hilt] at hun ⊢
   exact hun
  have hself : (listed.setIfInBounds i true).getD i false = true := by
   rw [Array.getD_eq_getD_getElem?]; simp [hilt]
  rcases hI with ⟨hln, hI, hJw⟩ | ⟨h1, h2, -⟩
  ·by_cases hin : i = n
   ·subst hin
    have hall : ∀ j, j < i → listed.getD j false = true := fun j hj => by
     have hw := List.all_eq_true.1 hlast j (List.mem_range.2 hj)
     refine far_once (fun k hk => ?_) hI.closed hw
     unfold waits at hk
     rw [ho] at hk
     simp only [Option.map_some, Option.getD_some, Array.any_eq_true', Bool.and_eq_true, beq_iff_eq] at hk
     obtain ⟨e, he, rfl, hb⟩ := hk
     exact haf e he hb
    have e1 : cnt listed = 1 := by show (if _ then _ else _) = 1; rw [hall p hpn]; rfl
    rw [e1] at hJw
    subst hD
    have hwn : ∀ j d, writes ops j d = true → j < i := fun j d hw => by
     have := writes_lt hw
     rcases Nat.lt_or_ge j i with h | h
     ·exact h
     ·obtain rfl : j = i := by omega
      simp [writes, hnd] at hw
    have e := putAll_eq a (dsts ops) a0 hI.size hI.defers (fun d hdm => by
     obtain ⟨j, hj⟩ := mem_dsts.1 hdm
     unfold writes at hj
     cases hx : ops[j]? with
     | none => rw [hx] at hj; simp at hj
     | some o =>
      rw [hx] at hj
      have h3 : o.dst = some d := by simpa using hj
      have h2 := Array.all_eq_true_iff_forall_mem.1 hsz o (Array.mem_of_getElem? hx)
      rw [h3] at h2
      exact of_decide_eq_true h2) (fun d hn => hI.rest d (fun j hw => absurd (mem_dsts.2 ⟨j, hw⟩) hn))
    rw [e]
    refine wpOp_mono (fun a' w' hq => .inr ⟨?_, fun j hj => ?_, hq⟩) (hd (fun d => a.tmps.getD d undef) w (fun d hdm => by obtain ⟨j, hj⟩ := mem_dsts.1 hdm; exact hI.done j d hj (hall j (hwn j d hj))) hJw)
    ·rw [Array.getD_eq_getD_getElem?]; simp [hilt]
    ·rw [getD_set_ne false (by omega)]; exact hall j hj
   ·by_cases hip : i = p
    ·subst hip
     have e0 : cnt listed = 0 := by show (if _ then _ else _) = 0; rw [hnl]; rfl
     have e1 : cnt (listed.setIfInBounds i true) = 1 := by show (if _ then _ else _) = 1; rw [hself]; rfl
     rw [e0] at hJw
     refine wpOp_mono (fun a' w' hq => .inl ⟨?_, ?_⟩) (inv_step2 hV ht hsz hI hs hi hJw hp)
     ·rw [getD_set_ne false hin]; exact hln
     ·rw [e1]; exact hq
    ·have e1 : cnt (listed.setIfInBounds i true) = cnt listed := by show (if _ then _ else _) = (if _ then _ else _); rw [getD_set_ne false hip]
     refine wpOp_mono (fun a' w' hq => .inl ⟨?_, ?_⟩) (inv_step2 hV ht hsz hI hs hi hJw (h i (by omega) hip _))
     ·rw [getD_set_ne false hin]; exact hln
     ·rw [e1]; exact hq
  ·exfalso
   rcases Nat.lt_or_ge i n with hlt | hge
   ·rw [h2 i hlt] at hnl; cases hnl
   ·obtain rfl : i = n := by omega
    rw [h1] at hnl; cases hnl
 ·intro listed a w hI hs hr
  have hal := all_listed ht hr hs
  rcases hI with ⟨h1, -⟩ | ⟨-, -, hq⟩
  ·rw [hal n (by omega)] at h1; cases h1
  ·exact hq
end
end Go.Proofs.YtfchglcclgcgfaaGreatDoor.Reg
