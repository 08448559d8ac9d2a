/-
  What the proof of the laws S rests on: the texts SwA SwB. Conditions: each theorem names its own.
-/
import Derived.Test.YtfchglcclgcgfaaGreatDoorMgSze
import Derived.Test.YtfchglcclgcgfaaGreatDoorMgSs
import Derived.Test.YtfchglcclgcgfaaGreatDoorMgSe
/-
 A store and the document's store side by side. No condition.
-/
namespace Go.Proofs.YtfchglcclgcgfaaGreatDoor.Ut
open Go.RowKit Go.Proofs.YtfchglcclgcgfaaGreatDoor.Reg
set_option linter.unusedVariables false
set_option linter.unusedSimpArgs false

/-- A store (or none) and the document's, of which the same is told; the store's own blocks are in S. -/
structure Two (W : World) (p : Option Addr) (b bb : Nat) (σ : Sto) (S : Nat → Prop) : Prop where
 st : SP W p σ S
 rf : RefIn W b bb σ
 ok : σ.ok
 nb : ¬ S b
 nbb : ¬ S bb
 tab : NoTab (fun j => S j ∨ j = b ∨ j = bb)
 T : Tabs W
def Own2 (S : Nat → Prop) (b bb : Nat) : Nat → Prop := fun j => S j ∨ j = b ∨ j = bb
theorem Two.below {W W' : World} {p : Option Addr} {b bb : Nat} {σ : Sto} {S : Nat → Prop} (h : Two W p b bb σ S) (hb : Below W.heap.size W W') : Two W' p b bb σ S :=
 ⟨h.st.below hb, h.rf.below hb, h.ok, h.nb, h.nbb, h.tab, tabs_below h.T hb⟩
theorem Two.mono {W : World} {p : Option Addr} {b bb : Nat} {σ : Sto} {S S' : Nat → Prop} (h : Two W p b bb σ S) (hS : ∀ k, k < W.heap.size → S k → S' k) (h1 : ¬ S' b) (h2 : ¬ S' bb) (h3 : NoTab S') : Two W p b bb σ S' := by
 refine ⟨h.st.mono hS, h.rf, h.ok, h1, h2, ⟨fun e => ?_, fun e => ?_⟩, h.T⟩
 ·rcases e with e | e
  ·exact h3.1 e
  ·exact h.tab.1 (.inr e)
 ·rcases e with e | e
  ·exact h3.2 e
  ·exact h.tab.2 (.inr e)
/-- It stays where other blocks change. -/
theorem Two.chg {W W' : World} {p : Option Addr} {b bb : Nat} {σ : Sto} {S R : Nat → Prop} (h : Two W p b bb σ S) (hc : Mv R W W') (hR : ∀ j, j < W.heap.size → Own2 S b bb j → ¬ R j) (hT : Tabs W') (hS : ∀ j, S j → j < W.heap.size) : Two W' p b bb σ S := by
 refine ⟨h.st.chg hc (fun j hj => hR j (hS j hj) (.inl hj)), h.rf.chg hc.1 (hR b h.rf.lt.1 (.inr (.inl rfl))) (hR bb h.rf.lt.2 (.inr (.inr rfl))), h.ok, h.nb, h.nbb, h.tab, hT⟩
/-- Where the walk of a call stands: 0, ahead of the program's part; 1, behind it; 2, behind the document's as well. -/
def JW (W : World) (p : Option Addr) (b bb q : Nat) (σ σ' : Sto) (S : Nat → Prop) (OP : List Value) (m : Nat) (w : World) : Prop :=
 Lies w q OP ∧ Tabs w ∧ Mv (Own2 S b bb) W w ∧ RefIn w b bb (match m with | 2 => σ' | _ => σ) ∧ ∃ S' : Nat → Prop, SP w p (match m with | 0 => σ | _ => σ') S' ∧ ∀ j, S' j → j ≠ q ∧ (S j ∨ W.heap.size ≤ j)
theorem JW.drawn {W : World} {p : Option Addr} {b bb q : Nat} {σ σ' : Sto} {S : Nat → Prop} {OP : List Value} {m : Nat} {w : World} (h : JW W p b bb q σ σ' S OP m w) (n : Nat) : JW W p b bb q σ σ' S OP m { w with drawn := n } := by
 have hb : Below w.heap.size w { w with drawn := n } := ⟨rfl, rfl, rfl, Nat.le_refl _, fun _ _ => rfl⟩
 obtain ⟨h1, h2, h3, h4, S', h5, h6⟩ := h
 exact ⟨h1.below hb, tabs_below h2 hb, h3.then_below hb, h4.below hb, S', h5.below hb, h6⟩
theorem JW.below {W : World} {p : Option Addr} {b bb q : Nat} {σ σ' : Sto} {S : Nat → Prop} {OP : List Value} {m : Nat} {w w' : World} (h : JW W p b bb q σ σ' S OP m w) (hb : Below w.heap.size w w') : JW W p b bb q σ σ' S OP m w' := by
 obtain ⟨h1, h2, h3, h4, S', h5, h6⟩ := h
 exact ⟨h1.below hb, tabs_below h2 hb, h3.then_below hb, h4.below hb, S', h5.below hb, h6⟩
/-- The walk begins: the call's argument lies in a box. -/
theorem Two.start {W : World} {p : Option Addr} {b bb : Nat} {σ : Sto} {S : Nat → Prop} (h : Two W p b bb σ S) (σ' : Sto) (vs : List Value) (t : TypeId) :
  ∃ W1, W.alloc (.cells vs.toArray t) = W1 ∧ JW W p b bb W.heap.size σ σ' S vs 0 W1 := by
 refine ⟨_, rfl, Lies.new _ _ _, ?_, ?_, ?_, fun j => S j ∧ j < W.heap.size, ?_, fun j hj => ⟨Nat.ne_of_lt hj.2, .inl hj.1⟩⟩
 ·exact tabs_below h.T ((Below.refl _ _).alloc (Nat.le_refl _) _)
 ·exact Mv.of_below ((Below.refl _ _).alloc (Nat.le_refl _) _)
 ·exact h.rf.below ((Below.refl _ _).alloc (Nat.le_refl _) _)
 ·exact (h.st.mono (fun k hk hs => ⟨hs, hk⟩)).below ((Below.refl _ _).alloc (Nat.le_refl _) _)
theorem JW.noTab {W : World} {S S' : Nat → Prop} {b bb q : Nat} (hT : Tabs W) (hN : NoTab (Own2 S b bb)) (h : ∀ j, S' j → j ≠ q ∧ (S j ∨ W.heap.size ≤ j)) : NoTab S' := by
 obtain ⟨l1, l2⟩ := tabs_lt hT
 refine ⟨fun e => ?_, fun e => ?_⟩
 ·rcases (h _ e).2 with h1 | h1
  ·exact hN.1 (.inl h1)
  ·omega
 ·rcases (h _ e).2 with h1 | h1
  ·exact hN.2 (.inl h1)
  ·omega
/-- What a walk starts from, besides. -/
structure Base2 (W : World) (b bb q : Nat) (S : Nat → Prop) : Prop where
 q : q = W.heap.size
 T : Tabs W
 N : NoTab (Own2 S b bb)
 nb : ¬ S b
 nbb : ¬ S bb
 lb : b < W.heap.size
 lbb : bb < W.heap.size
theorem Two.base {W : World} {p : Option Addr} {b bb : Nat} {σ : Sto} {S : Nat → Prop} (h : Two W p b bb σ S) : Base2 W b bb W.heap.size S := ⟨rfl, h.T, h.tab, h.nb, h.nbb, h.rf.lt.1, h.rf.lt.2⟩
/-- Behind the program's part. -/
theorem JW.prog {W : World} {p : Option Addr} {b bb q : Nat} {σ σ' : Sto} {S S' : Nat → Prop} {OP : List Value} {w w' : World} (B : Base2 W b bb q S) (h1 : Lies w q OP) (h2 : Tabs w) (h3 : Mv (Own2 S b bb) W w) (h4 : RefIn w b bb σ) (h6 : ∀ j, S' j → j ≠ q ∧ (S j ∨ W.heap.size ≤ j))
  (h : SP w' p σ' (fun j => S' j ∨ w.heap.size ≤ j)) (hm : Mv S' w w') : JW W p b bb q σ σ' S OP 1 w' := by
 have hqw : q < w.heap.size := h1.1
 have hsz := h3.1.size
 have hb : ∀ j, S' j → j ≠ b ∧ j ≠ bb := fun j hj => by
  have := B.lb; have := B.lbb
  rcases (h6 j hj).2 with h | h
  ·exact ⟨fun e => B.nb (e ▸ h), fun e => B.nbb (e ▸ h)⟩
  ·omega
 refine ⟨h1.chg hm.1 (fun hj => (h6 _ hj).1 rfl), tabs_mv h2 (JW.noTab B.T B.N h6) hm, h3.trans hm (fun j hl hj => ?_), h4.chg hm.1 (fun hj => (hb _ hj).1 rfl) (fun hj => (hb _ hj).2 rfl), _, h, fun j hj => ?_⟩
 ·rcases (h6 j hj).2 with h | h
  ·exact .inl h
  ·omega
 ·rcases hj with hj | hj
  ·exact h6 j hj
  ·exact ⟨by omega, .inr (by omega)⟩
/-- Behind the document's part. -/
theorem JW.ref {W : World} {p : Option Addr} {b bb q : Nat} {σ σ' : Sto} {S : Nat → Prop} {OP : List Value} {w w' : World} (B : Base2 W b bb q S) (hJ : JW W p b bb q σ σ' S OP 1 w)
  (h : RefIn w' b bb σ') (hm : Chg (fun k => k = b ∨ k = bb) w w') : JW W p b bb q σ σ' S OP 2 w' := by
 obtain ⟨h1, h2, h3, h4, S', h5, h6⟩ := hJ
 have h4 : RefIn w b bb σ := h4
 have h5 : SP w p σ' S' := h5
 have hMv := h4.mv hm
 have hl1 := B.lb
 have hl2 := B.lbb
 have hq := B.q
 refine ⟨h1.chg hm (by omega), tabs_chg h2 (B.N.sub (fun j hj => .inr hj)) hm, h3.trans hMv (fun j _ hj => .inr hj), h, S', h5.chg hMv (fun j hj hr => ?_), h6⟩
 rcases (h6 j hj).2 with h9 | h9
 ·rcases hr with rfl | rfl
  ·exact B.nb h9
  ·exact B.nbb h9
 ·omega
/-- The walk has ended. -/
theorem JW.done {W : World} {p : Option Addr} {b bb q : Nat} {σ σ' : Sto} {S : Nat → Prop} {OP : List Value} {w : World} (B : Base2 W b bb q S) (hJ : JW W p b bb q σ σ' S OP 2 w) (hσ : σ'.ok) :
  Two w p b bb σ' (fun j => S j ∨ W.heap.size ≤ j) ∧ Mv (Own2 S b bb) W w := by
 obtain ⟨h1, h2, h3, h4, S', h5, h6⟩ := hJ
 have hl1 := B.lb
 have hl2 := B.lbb
 obtain ⟨l1, l2⟩ := tabs_lt B.T
 refine ⟨⟨h5.mono (fun j _ hj => (h6 j hj).2), h4, hσ, fun h => h.elim B.nb (by omega), fun h => h.elim B.nbb (by omega), ⟨fun e => ?_, fun e => ?_⟩, h2⟩, h3⟩
 ·rcases e with (e | e) | e
  ·exact B.N.1 (.inl e)
  ·omega
  ·exact B.N.1 (.inr e)
 ·rcases e with (e | e) | e
  ·exact B.N.2 (.inl e)
  ·omega
  ·exact B.N.2 (.inr e)
/-- Nothing has happened. -/
theorem JW.still {W : World} {p : Option Addr} {b bb q : Nat} {σ : Sto} {S : Nat → Prop} {OP : List Value} {w : World} (hJ : JW W p b bb q σ σ S OP 0 w) : JW W p b bb q σ σ S OP 2 w := hJ
theorem blk_rope {W : World} {b : Nat} {vs : List Value} (h : Blk W b 66 vs) : NoRope W (fun k => k = b) := by
 rintro k vs' T rfl hT
 exact blk_no_blk h (by decide) hT
/-- Switch of a store, to a backend that there is. -/
theorem StSwitch_sp {W : World} {b : Nat} {σ : Sto} {S : Nat → Prop} (hT : Tabs W) (hN : NoTab S) (h : SP W (some ⟨b, 0, none⟩) σ S) (hσ : σ.ok) (k : Int) (hk : k = 1 ∨ k = 2) :
  Calls Tryz.prog 23 #[.pointer (some ⟨b, 0, none⟩), .int .i64 k] W fun e w' => e = .returned (.int .i64 0) ∧ SP w' (some ⟨b, 0, none⟩) (σ.swt k) (fun j => S j ∨ W.heap.size ≤ j) ∧ Mv S W w' := by
 obtain ⟨b', hb', h1⟩ | ⟨h1, -⟩ := h
 ·obtain rfl : b = b' := by simpa using hb'
  have hS := h1.1
  have hR : NoRope W (fun k => k = b) := by obtain ⟨-, q, hq, -⟩ := h1; exact blk_rope hq
  refine (StSwitch_of (Q := fun w => w = W) hσ hk (StBackend_in h1) (fun w1 hw => by rw [hw]; exact ⟨hT, h1⟩)).mono ?_
  rintro e w' ⟨rfl, w1, rfl, h2, h3⟩
  exact ⟨rfl, .inl ⟨b, rfl, h2⟩, Mv.mono (S := fun j => j = b) ⟨h3, hR.keeps h3⟩ (fun j hj => by rw [hj]; exact hS)⟩
 ·cases h1
end Go.Proofs.YtfchglcclgcgfaaGreatDoor.Ut
/-
 bodkinlaw09: works, over a store and the document's. Condition: the two tables of unicode/utf8 lie as laid.
-/
namespace Go.Proofs.YtfchglcclgcgfaaGreatDoor.Ut
open Go.RowKit Go.Proofs.YtfchglcclgcgfaaGreatDoor.Reg
set_option linter.unusedVariables false
set_option linter.unusedSimpArgs false

def opV (K A B : Int) (t : ByteArray) : List Value := [.int .i64 K, .int .i64 A, .int .i64 B, .string t]
/-- What a call does, as the document says it. -/
def stepS (σ : Sto) (K A B : Int) (t : ByteArray) : Sto :=
 if K = 1 then σ.rep A 0 t else if K = 2 then σ.rep A B ⟨#[]⟩ else if K = 3 then σ.rep A B t else if K = 4 then σ.rep 0 σ.s.size t else if K = 5 then (if A = 1 ∨ A = 2 then σ.swt A else σ) else σ
theorem Sto.ok.step {σ : Sto} (h : σ.ok) (K A B : Int) (t : ByteArray) : (stepS σ K A B t).ok := by
 unfold stepS
 split
 ·exact h.rep _ _ _
 ·split
  ·exact h.rep _ _ _
  ·split
   ·exact h.rep _ _ _
   ·split
    ·exact h.rep _ _ _
    ·split
     ·split
      ·exact h.swt _
      ·exact h
     ·exact h
def VWk5 (q b : Nat) (p : Option Addr) (A : Int) (t : ByteArray) (E : Int) : Nat → Value → World → Prop := fun d x w => match d with
 | 15 => x = .pointer p
 | 16 => x = .pointer (some ⟨q, 1, none⟩)
 | 17 => x = .int .i64 A
 | 18 => x = .pointer (some ⟨q, 3, none⟩)
 | 19 => x = .string t
 | 20 => x = .int .i64 E
 | 21 => x = .pointer (some ⟨b, 0, none⟩)
 | 22 => x = .pointer (some ⟨q, 1, none⟩)
 | 23 => x = .int .i64 A
 | 24 => x = .pointer (some ⟨q, 3, none⟩)
 | 25 => x = .string t
 | 26 => x = .int .i64 E
 | 7 => x = .int .i64 E
 | 8 => x = .int .i64 E
 | _ => True
theorem VWk5_mono (q b : Nat) (p : Option Addr) (A : Int) (t : ByteArray) (E : Int) : ∀ d x w w', VWk5 q b p A t E d x w → Below w.heap.size w w' → VWk5 q b p A t E d x w' := by
 exact fun _ _ _ _ h _ => h
theorem VWk5_all (q b : Nat) (p : Option Addr) (A : Int) (t : ByteArray) (E : Int) : ∀ d v w w', VWk5 q b p A t E d v w → VWk5 q b p A t E d v w' := fun _ _ _ _ h => h
def VWk13 (q b : Nat) (p : Option Addr) (t : ByteArray) (E : Int) : Nat → Value → World → Prop := fun d x w => match d with
 | 73 => x = .pointer p
 | 74 => x = .pointer (some ⟨q, 3, none⟩)
 | 75 => x = .string t
 | 76 => x = .int .i64 E
 | 77 => x = .pointer (some ⟨b, 0, none⟩)
 | 78 => x = .pointer (some ⟨q, 3, none⟩)
 | 79 => x = .string t
 | 80 => x = .int .i64 E
 | 7 => x = .int .i64 E
 | 8 => x = .int .i64 E
 | _ => True
theorem VWk13_mono (q b : Nat) (p : Option Addr) (t : ByteArray) (E : Int) : ∀ d x w w', VWk13 q b p t E d x w → Below w.heap.size w w' → VWk13 q b p t E d x w' := by
 exact fun _ _ _ _ h _ => h
theorem VWk13_all (q b : Nat) (p : Option Addr) (t : ByteArray) (E : Int) : ∀ d v w w', VWk13 q b p t E d v w → VWk13 q b p t E d v w' := fun _ _ _ _ h => h
def VWk15 (q b : Nat) (p : Option Addr) (A : Int) (E : Int) : Nat → Value → World → Prop := fun d x w => match d with
 | 83 => x = .pointer p
 | 84 => x = .pointer (some ⟨q, 1, none⟩)
 | 85 => x = .int .i64 A
 | 86 => x = .int .i64 E
 | 87 => x = .pointer (some ⟨b, 0, none⟩)
 | 88 => x = .pointer (some ⟨q, 1, none⟩)
 | 89 => x = .int .i64 A
 | 90 => x = .int .i64 E
 | 7 => x = .int .i64 E
 | 8 => x = .int .i64 E
 | _ => True
theorem VWk15_mono (q b : Nat) (p : Option Addr) (A : Int) (E : Int) : ∀ d x w w', VWk15 q b p A E d x w → Below w.heap.size w w' → VWk15 q b p A E d x w' := by
 exact fun _ _ _ _ h _ => h
theorem VWk15_all (q b : Nat) (p : Option Addr) (A : Int) (E : Int) : ∀ d v w w', VWk15 q b p A E d v w → VWk15 q b p A E d v w' := fun _ _ _ _ h => h
set_option maxRecDepth 100000 in
set_option maxHeartbeats 4000000 in
theorem works_two {W : World} {p : Option Addr} {b bb : Nat} {σ : Sto} {S : Nat → Prop} (h : Two W p b bb σ S) (K A B : Int) (t : ByteArray) (ht : t.size ≤ 140737488355328) (hp : p = none → K ≠ 5) :
  Calls Tryz.prog 31 #[.pointer p, ptr b, .agg (opV K A B t).toArray] W fun e w' => e = .returned (.bool true) ∧ Two w' p b bb (stepS σ K A B t) (fun j => S j ∨ W.heap.size ≤ j) ∧ Mv (Own2 S b bb) W w' := by
 have HBs := Lib.hid h.base
 have hσ := h.ok
 have hsm := hσ.small
 have Hσ := Lib.hid hσ
 obtain ⟨σ', hσ'⟩ : ∃ σ', stepS σ K A B t = σ' := ⟨_, rfl⟩
 have Hok := Lib.hid (hσ.step K A B t)
 rw [hσ'] at Hok ⊢
 have Hst := Lib.hid hσ'
 obtain ⟨W1, hW1, hJ⟩ := h.start σ' (opV K A B t) 44
 have HE := Lib.hid hW1
 have HJ := Lib.hid hJ
 clear h hW1 hJ hσ hσ'
 unfold opV ptr at *
 rcases (by omega : K = 1 ∨ K = 2 ∨ K = 3 ∨ K = 4 ∨ K = 5 ∨ (K ≠ 1 ∧ K ≠ 2 ∧ K ≠ 3 ∧ K ≠ 4 ∧ K ≠ 5)) with rfl | rfl | rfl | rfl | rfl | ⟨k1, k2, k3, k4, k5⟩
 ·have hr : Hid (σ.rep A 0 t = σ') := Hst.out
  go_enter Tryz.func31, Tryz.ntmps31
  go_upto_region 3 with fail
  rw [HE.out]
  have a0 := (HJ.out.1.2 0 _ rfl).1
  have a1 := (HJ.out.1.2 1 _ rfl).1
  have a3 := (HJ.out.1.2 3 _ rfl).1
  go_wp2
  refine wp_held_two mixed (VWk5 W.heap.size b p A t (σ.err A 0 t)) (VWk5_all _ _ _ _ _ _) (by kernel_rfl) [15, 16, 17, 18, 19, 20, 21, 22, 23, 24, 25, 26, 7, 8] (by kernel_rfl) (JW W p b bb W.heap.size σ σ' S [.int .i64 1, .int .i64 A, .int .i64 B, .string t]) 5 11 (by decide) (by decide) (by decide) (by kernel_rfl) (by kernel_rfl) (HJ.out.drawn _) ?_ ?_ ?_ ?_
  ·intro j hj hjp hjq m
   have hj' : j < 14 := hj
   rcases (by omega : j = 0 ∨ j = 1 ∨ j = 2 ∨ j = 3 ∨ j = 4 ∨ j = 6 ∨ j = 7 ∨ j = 8 ∨ j = 9 ∨ j = 10 ∨ j = 12 ∨ j = 13) with rfl | rfl | rfl | rfl | rfl | rfl | rfl | rfl | rfl | rfl | rfl | rfl
   ·(refine owesJ_val (L := [(0, false)]) rfl rfl rfl (by kernel_rfl) ?_; intro a' w' hJ hfacts; obtain ⟨hf0, -⟩ := hfacts; replace hf0 : a'.tmps[0]?.getD undef = .pointer p := hf0)
    have a1 := (hJ.1.2 1 _ rfl).1; have a3 := (hJ.1.2 3 _ rfl).1
    (go_simp; first | exact ⟨_, rfl, hJ, rfl⟩ | exact ⟨_, rfl, rfl⟩)
   ·(refine owesJ_val (L := [(5, false)]) rfl rfl rfl (by kernel_rfl) ?_; intro a' w' hJ hfacts; obtain ⟨hf5, -⟩ := hfacts; replace hf5 : a'.tmps[5]?.getD undef = .pointer (some ⟨W.heap.size, 0, none⟩) := hf5)
    have a1 := (hJ.1.2 1 _ rfl).1; have a3 := (hJ.1.2 3 _ rfl).1
    (go_simp; first | exact ⟨_, rfl, hJ, rfl⟩ | exact ⟨_, rfl, rfl⟩)
   ·(refine owesJ_val (L := [(16, true)]) rfl rfl rfl (by kernel_rfl) ?_; intro a' w' hJ hfacts; obtain ⟨hf16, -⟩ := hfacts; try simp only [VWk5] at hf16)
    have a1 := (hJ.1.2 1 _ rfl).1; have a3 := (hJ.1.2 3 _ rfl).1
    (go_simp; first | exact ⟨_, rfl, hJ, rfl⟩ | exact ⟨_, rfl, rfl⟩)
   ·(refine owesJ_val (L := [(5, false)]) rfl rfl rfl (by kernel_rfl) ?_; intro a' w' hJ hfacts; obtain ⟨hf5, -⟩ := hfacts; replace hf5 : a'.tmps[5]?.getD undef = .pointer (some ⟨W.heap.size, 0, none⟩) := hf5)
    have a1 := (hJ.1.2 1 _ rfl).1; have a3 := (hJ.1.2 3 _ rfl).1
    (go_simp; first | exact ⟨_, rfl, hJ, rfl⟩ | exact ⟨_, rfl, rfl⟩)
   ·(refine owesJ_val (L := [(18, true)]) rfl rfl rfl (by kernel_rfl) ?_; intro a' w' hJ hfacts; obtain ⟨hf18, -⟩ := hfacts; try simp only [VWk5] at hf18)
    have a1 := (hJ.1.2 1 _ rfl).1; have a3 := (hJ.1.2 3 _ rfl).1
    (go_simp; first | exact ⟨_, rfl, hJ, rfl⟩ | exact ⟨_, rfl, rfl⟩)
   ·(refine owesJ_val (L := [(1, false)]) rfl rfl rfl (by kernel_rfl) ?_; intro a' w' hJ hfacts; obtain ⟨hf1, -⟩ := hfacts; replace hf1 : a'.tmps[1]?.getD undef = .pointer (some ⟨b, 0, none⟩) := hf1)
    have a1 := (hJ.1.2 1 _ rfl).1; have a3 := (hJ.1.2 3 _ rfl).1
    (go_simp; first | exact ⟨_, rfl, hJ, rfl⟩ | exact ⟨_, rfl, rfl⟩)
   ·(refine owesJ_val (L := [(5, false)]) rfl rfl rfl (by kernel_rfl) ?_; intro a' w' hJ hfacts; obtain ⟨hf5, -⟩ := hfacts; replace hf5 : a'.tmps[5]?.getD undef = .pointer (some ⟨W.heap.size, 0, none⟩) := hf5)
    have a1 := (hJ.1.2 1 _ rfl).1; have a3 := (hJ.1.2 3 _ rfl).1
    (go_simp; first | exact ⟨_, rfl, hJ, rfl⟩ | exact ⟨_, rfl, rfl⟩)
   ·(refine owesJ_val (L := [(22, true)]) rfl rfl rfl (by kernel_rfl) ?_; intro a' w' hJ hfacts; obtain ⟨hf22, -⟩ := hfacts; try simp only [VWk5] at hf22)
    have a1 := (hJ.1.2 1 _ rfl).1; have a3 := (hJ.1.2 3 _ rfl).1
    (go_simp; first | exact ⟨_, rfl, hJ, rfl⟩ | exact ⟨_, rfl, rfl⟩)
   ·(refine owesJ_val (L := [(5, false)]) rfl rfl rfl (by kernel_rfl) ?_; intro a' w' hJ hfacts; obtain ⟨hf5, -⟩ := hfacts; replace hf5 : a'.tmps[5]?.getD undef = .pointer (some ⟨W.heap.size, 0, none⟩) := hf5)
    have a1 := (hJ.1.2 1 _ rfl).1; have a3 := (hJ.1.2 3 _ rfl).1
    (go_simp; first | exact ⟨_, rfl, hJ, rfl⟩ | exact ⟨_, rfl, rfl⟩)
   ·(refine owesJ_val (L := [(24, true)]) rfl rfl rfl (by kernel_rfl) ?_; intro a' w' hJ hfacts; obtain ⟨hf24, -⟩ := hfacts; try simp only [VWk5] at hf24)
    have a1 := (hJ.1.2 1 _ rfl).1; have a3 := (hJ.1.2 3 _ rfl).1
    (go_simp; first | exact ⟨_, rfl, hJ, rfl⟩ | exact ⟨_, rfl, rfl⟩)
   ·(refine owesJ_val (L := [(20, true)]) rfl rfl rfl (by kernel_rfl) ?_; intro a' w' hJ hfacts; obtain ⟨hf20, -⟩ := hfacts; try simp only [VWk5] at hf20)
    have a1 := (hJ.1.2 1 _ rfl).1; have a3 := (hJ.1.2 3 _ rfl).1
    (go_simp; first | exact ⟨_, rfl, hJ, rfl⟩ | exact ⟨_, rfl, rfl⟩)
   ·(refine owesJ_val (L := [(26, true)]) rfl rfl rfl (by kernel_rfl) ?_; intro a' w' hJ hfacts; obtain ⟨hf26, -⟩ := hfacts; try simp only [VWk5] at hf26)
    have a1 := (hJ.1.2 1 _ rfl).1; have a3 := (hJ.1.2 3 _ rfl).1
    (go_simp; first | exact ⟨_, rfl, hJ, rfl⟩ | exact ⟨_, rfl, rfl⟩)
  ·skip
   refine owesJ_val (L := [(15, true), (17, true), (19, true)]) rfl rfl rfl (by kernel_rfl) ?_
   intro a' w' hJ hfacts
   obtain ⟨hf15, hf17, hf19, -⟩ := hfacts
   try simp only [VWk5] at hf15
   try simp only [VWk5] at hf17
   try simp only [VWk5] at hf19
   obtain ⟨h1, h2, h3, h4, S', h5, h6⟩ := hJ
   have hN := JW.noTab HBs.out.T HBs.out.N h6
   go_simp
   refine (StInsert_of (StReplace_sp h2 hN h5 Hσ.out A 0 t)).mono ?_
   rintro e w3 ⟨rfl, hS, hM⟩
   exact ⟨_, rfl, JW.prog HBs.out h1 h2 h3 h4 h6 (hr.out ▸ hS) hM, rfl⟩
  ·skip
   refine owesJ_val (L := [(21, true), (23, true), (25, true)]) rfl rfl rfl (by kernel_rfl) ?_
   intro a' w' hJ hfacts
   obtain ⟨hf21, hf23, hf25, -⟩ := hfacts
   try simp only [VWk5] at hf21
   try simp only [VWk5] at hf23
   try simp only [VWk5] at hf25
   have h4 := hJ.2.2.2.1
   go_simp
   refine (RfInsert9 h4 Hσ.out A t (by omega)).mono ?_
   rintro e w3 ⟨rfl, hR, hC⟩
   exact ⟨_, rfl, JW.ref HBs.out hJ (hr.out ▸ hR) hC, rfl⟩
  ·intro f W3 hf hJ3
   have f7 : f 7 = .int .i64 (σ.err A 0 t) := hf 7 (by decide)
   have f8 : f 8 = .int .i64 (σ.err A 0 t) := hf 8 (by decide)
   have HJ3 := Lib.hid hJ3
   clear hf hJ3
   simp only [putAll, put_lit, List.map_cons, List.map_nil, List.set_cons_succ, List.set_cons_zero]
   simp only [f7, f8]
   clear f7 f8
   go_wp2
   go_ret
   exact ⟨rfl, HJ3.out.done HBs.out Hok.out⟩
 ·have hr : Hid (σ.rep A B ⟨#[]⟩ = σ') := Hst.out
  go_enter Tryz.func31, Tryz.ntmps31
  go_upto_region 3 with fail
  rw [HE.out]
  have a0 := (HJ.out.1.2 0 _ rfl).1
  have a1 := (HJ.out.1.2 1 _ rfl).1
  have a2 := (HJ.out.1.2 2 _ rfl).1
  obtain ⟨h1, h2, h3, h4, S', h5, h6⟩ := HJ.out
  have hN := JW.noTab HBs.out.T HBs.out.N h6
  have HP := Lib.hid (StDelete_of (StReplace_sp h2 hN h5 Hσ.out A B ⟨#[]⟩))
  have HPr := Lib.hid (fun (w' : World) (hS : SP w' p σ' _) (hM : Mv S' _ w') => JW.prog (σ := σ) (σ' := σ') HBs.out h1 h2 h3 h4 h6 hS hM)
  clear h1 h2 h3 h4 h5 h6 hN
  go_wp2_with fail
  refine HP.out.mono ?_
  rintro e w3 ⟨rfl, hS, hM⟩
  have HJ1 := Lib.hid (HPr.out w3 (hr.out ▸ hS) hM)
  clear hS hM HP HPr a0 a1 a2
  have a1 := (HJ1.out.1.2 1 _ rfl).1
  have a2 := (HJ1.out.1.2 2 _ rfl).1
  have HR := Lib.hid (RfDelete9 HJ1.out.2.2.2.1 Hσ.out A B)
  go_wp2_with fail
  refine HR.out.mono ?_
  rintro e w4 ⟨rfl, hR, hC⟩
  have HJ2 := Lib.hid (JW.ref HBs.out HJ1.out (hr.out ▸ hR) hC)
  clear hR hC HR a1 a2
  go_wp2
  go_ret
  exact ⟨rfl, HJ2.out.done HBs.out Hok.out⟩
 ·have hr : Hid (σ.rep A B t = σ') := Hst.out
  go_enter Tryz.func31, Tryz.ntmps31
  go_upto_region 3 with fail
  rw [HE.out]
  have a0 := (HJ.out.1.2 0 _ rfl).1
  have a1 := (HJ.out.1.2 1 _ rfl).1
  have a2 := (HJ.out.1.2 2 _ rfl).1
  have a3 := (HJ.out.1.2 3 _ rfl).1
  obtain ⟨h1, h2, h3, h4, S', h5, h6⟩ := HJ.out
  have hN := JW.noTab HBs.out.T HBs.out.N h6
  have HP := Lib.hid (StReplace_sp h2 hN h5 Hσ.out A B t)
  have HPr := Lib.hid (fun (w' : World) (hS : SP w' p σ' _) (hM : Mv S' _ w') => JW.prog (σ := σ) (σ' := σ') HBs.out h1 h2 h3 h4 h6 hS hM)
  clear h1 h2 h3 h4 h5 h6 hN
  go_wp2_with fail
  refine HP.out.mono ?_
  rintro e w3 ⟨rfl, hS, hM⟩
  have HJ1 := Lib.hid (HPr.out w3 (hr.out ▸ hS) hM)
  clear hS hM HP HPr a0 a1 a2 a3
  have a1 := (HJ1.out.1.2 1 _ rfl).1
  have a2 := (HJ1.out.1.2 2 _ rfl).1
  have a3 := (HJ1.out.1.2 3 _ rfl).1
  have HR := Lib.hid (RfReplace9 HJ1.out.2.2.2.1 Hσ.out A B t (by omega))
  go_wp2_with fail
  refine HR.out.mono ?_
  rintro e w4 ⟨rfl, hR, hC⟩
  have HJ2 := Lib.hid (JW.ref HBs.out HJ1.out (hr.out ▸ hR) hC)
  clear hR hC HR a1 a2 a3
  go_wp2
  go_ret
  exact ⟨rfl, HJ2.out.done HBs.out Hok.out⟩
 ·have hr : Hid (σ.rep 0 σ.s.size t = σ') := Hst.out
  go_enter Tryz.func31, Tryz.ntmps31
  go_upto_region 3 with fail
  rw [HE.out]
  have a0 := (HJ.out.1.2 0 _ rfl).1
  have a3 := (HJ.out.1.2 3 _ rfl).1
  go_wp2
  refine wp_held_two mixed (VWk13 W.heap.size b p t (σ.err 0 σ.s.size t)) (VWk13_all _ _ _ _ _) (by kernel_rfl) [73, 74, 75, 76, 77, 78, 79, 80, 7, 8] (by kernel_rfl) (JW W p b bb W.heap.size σ σ' S [.int .i64 4, .int .i64 A, .int .i64 B, .string t]) 3 7 (by decide) (by decide) (by decide) (by kernel_rfl) (by kernel_rfl) (HJ.out.drawn _) ?_ ?_ ?_ ?_
  ·intro j hj hjp hjq m
   have hj' : j < 10 := hj
   rcases (by omega : j = 0 ∨ j = 1 ∨ j = 2 ∨ j = 4 ∨ j = 5 ∨ j = 6 ∨ j = 8 ∨ j = 9) with rfl | rfl | rfl | rfl | rfl | rfl | rfl | rfl
   ·(refine owesJ_val (L := [(0, false)]) rfl rfl rfl (by kernel_rfl) ?_; intro a' w' hJ hfacts; obtain ⟨hf0, -⟩ := hfacts; replace hf0 : a'.tmps[0]?.getD undef = .pointer p := hf0)
    have a3 := (hJ.1.2 3 _ rfl).1
    (go_simp; first | exact ⟨_, rfl, hJ, rfl⟩ | exact ⟨_, rfl, rfl⟩)
   ·(refine owesJ_val (L := [(5, false)]) rfl rfl rfl (by kernel_rfl) ?_; intro a' w' hJ hfacts; obtain ⟨hf5, -⟩ := hfacts; replace hf5 : a'.tmps[5]?.getD undef = .pointer (some ⟨W.heap.size, 0, none⟩) := hf5)
    have a3 := (hJ.1.2 3 _ rfl).1
    (go_simp; first | exact ⟨_, rfl, hJ, rfl⟩ | exact ⟨_, rfl, rfl⟩)
   ·(refine owesJ_val (L := [(74, true)]) rfl rfl rfl (by kernel_rfl) ?_; intro a' w' hJ hfacts; obtain ⟨hf74, -⟩ := hfacts; try simp only [VWk13] at hf74)
    have a3 := (hJ.1.2 3 _ rfl).1
    (go_simp; first | exact ⟨_, rfl, hJ, rfl⟩ | exact ⟨_, rfl, rfl⟩)
   ·(refine owesJ_val (L := [(1, false)]) rfl rfl rfl (by kernel_rfl) ?_; intro a' w' hJ hfacts; obtain ⟨hf1, -⟩ := hfacts; replace hf1 : a'.tmps[1]?.getD undef = .pointer (some ⟨b, 0, none⟩) := hf1)
    have a3 := (hJ.1.2 3 _ rfl).1
    (go_simp; first | exact ⟨_, rfl, hJ, rfl⟩ | exact ⟨_, rfl, rfl⟩)
   ·(refine owesJ_val (L := [(5, false)]) rfl rfl rfl (by kernel_rfl) ?_; intro a' w' hJ hfacts; obtain ⟨hf5, -⟩ := hfacts; replace hf5 : a'.tmps[5]?.getD undef = .pointer (some ⟨W.heap.size, 0, none⟩) := hf5)
    have a3 := (hJ.1.2 3 _ rfl).1
    (go_simp; first | exact ⟨_, rfl, hJ, rfl⟩ | exact ⟨_, rfl, rfl⟩)
   ·(refine owesJ_val (L := [(78, true)]) rfl rfl rfl (by kernel_rfl) ?_; intro a' w' hJ hfacts; obtain ⟨hf78, -⟩ := hfacts; try simp only [VWk13] at hf78)
    have a3 := (hJ.1.2 3 _ rfl).1
    (go_simp; first | exact ⟨_, rfl, hJ, rfl⟩ | exact ⟨_, rfl, rfl⟩)
   ·(refine owesJ_val (L := [(76, true)]) rfl rfl rfl (by kernel_rfl) ?_; intro a' w' hJ hfacts; obtain ⟨hf76, -⟩ := hfacts; try simp only [VWk13] at hf76)
    have a3 := (hJ.1.2 3 _ rfl).1
    (go_simp; first | exact ⟨_, rfl, hJ, rfl⟩ | exact ⟨_, rfl, rfl⟩)
   ·(refine owesJ_val (L := [(80, true)]) rfl rfl rfl (by kernel_rfl) ?_; intro a' w' hJ hfacts; obtain ⟨hf80, -⟩ := hfacts; try simp only [VWk13] at hf80)
    have a3 := (hJ.1.2 3 _ rfl).1
    (go_simp; first | exact ⟨_, rfl, hJ, rfl⟩ | exact ⟨_, rfl, rfl⟩)
  ·skip
   refine owesJ_val (L := [(73, true), (75, true)]) rfl rfl rfl (by kernel_rfl) ?_
   intro a' w' hJ hfacts
   obtain ⟨hf73, hf75, -⟩ := hfacts
   try simp only [VWk13] at hf73
   try simp only [VWk13] at hf75
   obtain ⟨h1, h2, h3, h4, S', h5, h6⟩ := hJ
   have hN := JW.noTab HBs.out.T HBs.out.N h6
   go_simp
   refine (StReset_of (Q := fun w4 => SP w4 p (σ.rep 0 σ.s.size t) (fun j => S' j ∨ w'.heap.size ≤ j) ∧ Mv S' w' w4) (Q0 := fun w1 => Below w'.heap.size w' w1) (n := σ.s.size) ((h5.has h2 hsm).len w' (Below.refl _ _)) (fun w1 hb => (StReplace_sp (tabs_below h2 hb) hN (h5.below hb) Hσ.out 0 σ.s.size t).mono (fun e w4 hh => ⟨hh.1, hh.2.1.mono (fun j _ hj => hj.imp (fun h => h) (fun h => Nat.le_trans hb.size h)), (Mv.of_below hb).trans hh.2.2 (fun _ _ h => h)⟩))).mono ?_
   rintro e w3 ⟨rfl, hS, hM⟩
   exact ⟨_, rfl, JW.prog HBs.out h1 h2 h3 h4 h6 (hr.out ▸ hS) hM, rfl⟩
  ·skip
   refine owesJ_val (L := [(77, true), (79, true)]) rfl rfl rfl (by kernel_rfl) ?_
   intro a' w' hJ hfacts
   obtain ⟨hf77, hf79, -⟩ := hfacts
   try simp only [VWk13] at hf77
   try simp only [VWk13] at hf79
   have h4 := hJ.2.2.2.1
   go_simp
   refine (RfReset9 h4 Hσ.out t).mono ?_
   rintro e w3 ⟨rfl, hR, hC⟩
   exact ⟨_, rfl, JW.ref HBs.out hJ (hr.out ▸ hR) hC, rfl⟩
  ·intro f W3 hf hJ3
   have f7 : f 7 = .int .i64 (σ.err 0 σ.s.size t) := hf 7 (by decide)
   have f8 : f 8 = .int .i64 (σ.err 0 σ.s.size t) := hf 8 (by decide)
   have HJ3 := Lib.hid hJ3
   clear hf hJ3
   simp only [putAll, put_lit, List.map_cons, List.map_nil, List.set_cons_succ, List.set_cons_zero]
   simp only [f7, f8]
   clear f7 f8
   go_wp2
   go_ret
   exact ⟨rfl, HJ3.out.done HBs.out Hok.out⟩
 ·obtain ⟨c, rfl⟩ : ∃ c : Nat, p = some ⟨c, 0, none⟩ := by
   obtain ⟨-, -, -, -, S', h5, -⟩ := HJ.out
   rcases h5 with ⟨c, h, -⟩ | ⟨h, -⟩
   ·exact ⟨c, h⟩
   ·exact absurd rfl (hp h)
  by_cases hA : A = 1 ∨ A = 2
  ·have hr : Hid (σ.swt A = σ') := by
    have h := Hst.out
    unfold stepS at h
    simp only [if_pos hA] at h
    exact h
   go_enter Tryz.func31, Tryz.ntmps31
   go_upto_region 3 with fail
   rw [HE.out]
   have a0 := (HJ.out.1.2 0 _ rfl).1
   have a1 := (HJ.out.1.2 1 _ rfl).1
   go_wp2
   refine wp_held_two mixed (VWk15 W.heap.size b (some ⟨c, 0, none⟩) A 0) (VWk15_all _ _ _ _ _) (by kernel_rfl) [83, 84, 85, 86, 87, 88, 89, 90, 7, 8] (by kernel_rfl) (JW W (some ⟨c, 0, none⟩) b bb W.heap.size σ σ' S [.int .i64 5, .int .i64 A, .int .i64 B, .string t]) 3 7 (by decide) (by decide) (by decide) (by kernel_rfl) (by kernel_rfl) (HJ.out.drawn _) ?_ ?_ ?_ ?_
   ·intro j hj hjp hjq m
    have hj' : j < 10 := hj
    rcases (by omega : j = 0 ∨ j = 1 ∨ j = 2 ∨ j = 4 ∨ j = 5 ∨ j = 6 ∨ j = 8 ∨ j = 9) with rfl | rfl | rfl | rfl | rfl | rfl | rfl | rfl
    ·(refine owesJ_val (L := [(0, false)]) rfl rfl rfl (by kernel_rfl) ?_; intro a' w' hJ hfacts; obtain ⟨hf0, -⟩ := hfacts; replace hf0 : a'.tmps[0]?.getD undef = .pointer (some ⟨c, 0, none⟩) := hf0)
     have a1 := (hJ.1.2 1 _ rfl).1
     (go_simp; first | exact ⟨_, rfl, hJ, rfl⟩ | exact ⟨_, rfl, rfl⟩)
    ·(refine owesJ_val (L := [(5, false)]) rfl rfl rfl (by kernel_rfl) ?_; intro a' w' hJ hfacts; obtain ⟨hf5, -⟩ := hfacts; replace hf5 : a'.tmps[5]?.getD undef = .pointer (some ⟨W.heap.size, 0, none⟩) := hf5)
     have a1 := (hJ.1.2 1 _ rfl).1
     (go_simp; first | exact ⟨_, rfl, hJ, rfl⟩ | exact ⟨_, rfl, rfl⟩)
    ·(refine owesJ_val (L := [(84, true)]) rfl rfl rfl (by kernel_rfl) ?_; intro a' w' hJ hfacts; obtain ⟨hf84, -⟩ := hfacts; try simp only [VWk15] at hf84)
     have a1 := (hJ.1.2 1 _ rfl).1
     (go_simp; first | exact ⟨_, rfl, hJ, rfl⟩ | exact ⟨_, rfl, rfl⟩)
    ·(refine owesJ_val (L := [(1, false)]) rfl rfl rfl (by kernel_rfl) ?_; intro a' w' hJ hfacts; obtain ⟨hf1, -⟩ := hfacts; replace hf1 : a'.tmps[1]?.getD undef = .pointer (some ⟨b, 0, none⟩) := hf1)
     have a1 := (hJ.1.2 1 _ rfl).1
     (go_simp; first | exact ⟨_, rfl, hJ, rfl⟩ | exact ⟨_, rfl, rfl⟩)
    ·(refine owesJ_val (L := [(5, false)]) rfl rfl rfl (by kernel_rfl) ?_; intro a' w' hJ hfacts; obtain ⟨hf5, -⟩ := hfacts; replace hf5 : a'.tmps[5]?.getD undef = .pointer (some ⟨W.heap.size, 0, none⟩) := hf5)
     have a1 := (hJ.1.2 1 _ rfl).1
     (go_simp; first | exact ⟨_, rfl, hJ, rfl⟩ | exact ⟨_, rfl, rfl⟩)
    ·(refine owesJ_val (L := [(88, true)]) rfl rfl rfl (by kernel_rfl) ?_; intro a' w' hJ hfacts; obtain ⟨hf88, -⟩ := hfacts; try simp only [VWk15] at hf88)
     have a1 := (hJ.1.2 1 _ rfl).1
     (go_simp; first | exact ⟨_, rfl, hJ, rfl⟩ | exact ⟨_, rfl, rfl⟩)
    ·(refine owesJ_val (L := [(86, true)]) rfl rfl rfl (by kernel_rfl) ?_; intro a' w' hJ hfacts; obtain ⟨hf86, -⟩ := hfacts; try simp only [VWk15] at hf86)
     have a1 := (hJ.1.2 1 _ rfl).1
     (go_simp; first | exact ⟨_, rfl, hJ, rfl⟩ | exact ⟨_, rfl, rfl⟩)
    ·(refine owesJ_val (L := [(90, true)]) rfl rfl rfl (by kernel_rfl) ?_; intro a' w' hJ hfacts; obtain ⟨hf90, -⟩ := hfacts; try simp only [VWk15] at hf90)
     have a1 := (hJ.1.2 1 _ rfl).1
     (go_simp; first | exact ⟨_, rfl, hJ, rfl⟩ | exact ⟨_, rfl, rfl⟩)
   ·skip
    refine owesJ_val (L := [(83, true), (85, true)]) rfl rfl rfl (by kernel_rfl) ?_
    intro a' w' hJ hfacts
    obtain ⟨hf83, hf85, -⟩ := hfacts
    try simp only [VWk15] at hf83
    try simp only [VWk15] at hf85
    obtain ⟨h1, h2, h3, h4, S', h5, h6⟩ := hJ
    have hN := JW.noTab HBs.out.T HBs.out.N h6
    go_simp
    refine (StSwitch_sp h2 hN h5 Hσ.out A hA).mono ?_
    rintro e w3 ⟨rfl, hS, hM⟩
    exact ⟨_, rfl, JW.prog HBs.out h1 h2 h3 h4 h6 (hr.out ▸ hS) hM, rfl⟩
   ·skip
    refine owesJ_val (L := [(87, true), (89, true)]) rfl rfl rfl (by kernel_rfl) ?_
    intro a' w' hJ hfacts
    obtain ⟨hf87, hf89, -⟩ := hfacts
    try simp only [VWk15] at hf87
    try simp only [VWk15] at hf89
    have h4 := hJ.2.2.2.1
    go_simp
    refine (RfSwitch9_ok h4 A hA).mono ?_
    rintro e w3 ⟨rfl, hR, hC⟩
    exact ⟨_, rfl, JW.ref HBs.out hJ (hr.out ▸ hR) hC, rfl⟩
   ·intro f W3 hf hJ3
    have f7 : f 7 = .int .i64 (0) := hf 7 (by decide)
    have f8 : f 8 = .int .i64 (0) := hf 8 (by decide)
    have HJ3 := Lib.hid hJ3
    clear hf hJ3
    simp only [putAll, put_lit, List.map_cons, List.map_nil, List.set_cons_succ, List.set_cons_zero]
    simp only [f7, f8]
    clear f7 f8
    go_wp2
    go_ret
    exact ⟨rfl, HJ3.out.done HBs.out Hok.out⟩
  ·have hr : Hid (σ = σ') := by
    have h := Hst.out
    unfold stepS at h
    simp only [if_neg hA] at h
    exact h
   go_enter Tryz.func31, Tryz.ntmps31
   go_upto_region 3 with fail
   rw [HE.out]
   have a0 := (HJ.out.1.2 0 _ rfl).1
   have a1 := (HJ.out.1.2 1 _ rfl).1
   go_wp2
   refine wp_held_two mixed (VWk15 W.heap.size b (some ⟨c, 0, none⟩) A 13) (VWk15_all _ _ _ _ _) (by kernel_rfl) [83, 84, 85, 86, 87, 88, 89, 90, 7, 8] (by kernel_rfl) (JW W (some ⟨c, 0, none⟩) b bb W.heap.size σ σ' S [.int .i64 5, .int .i64 A, .int .i64 B, .string t]) 3 7 (by decide) (by decide) (by decide) (by kernel_rfl) (by kernel_rfl) (HJ.out.drawn _) ?_ ?_ ?_ ?_
   ·intro j hj hjp hjq m
    have hj' : j < 10 := hj
    rcases (by omega : j = 0 ∨ j = 1 ∨ j = 2 ∨ j = 4 ∨ j = 5 ∨ j = 6 ∨ j = 8 ∨ j = 9) with rfl | rfl | rfl | rfl | rfl | rfl | rfl | rfl
    ·(refine owesJ_val (L := [(0, false)]) rfl rfl rfl (by kernel_rfl) ?_; intro a' w' hJ hfacts; obtain ⟨hf0, -⟩ := hfacts; replace hf0 : a'.tmps[0]?.getD undef = .pointer (some ⟨c, 0, none⟩) := hf0)
     have a1 := (hJ.1.2 1 _ rfl).1
     (go_simp; first | exact ⟨_, rfl, hJ, rfl⟩ | exact ⟨_, rfl, rfl⟩)
    ·(refine owesJ_val (L := [(5, false)]) rfl rfl rfl (by kernel_rfl) ?_; intro a' w' hJ hfacts; obtain ⟨hf5, -⟩ := hfacts; replace hf5 : a'.tmps[5]?.getD undef = .pointer (some ⟨W.heap.size, 0, none⟩) := hf5)
     have a1 := (hJ.1.2 1 _ rfl).1
     (go_simp; first | exact ⟨_, rfl, hJ, rfl⟩ | exact ⟨_, rfl, rfl⟩)
    ·(refine owesJ_val (L := [(84, true)]) rfl rfl rfl (by kernel_rfl) ?_; intro a' w' hJ hfacts; obtain ⟨hf84, -⟩ := hfacts; try simp only [VWk15] at hf84)
     have a1 := (hJ.1.2 1 _ rfl).1
     (go_simp; first | exact ⟨_, rfl, hJ, rfl⟩ | exact ⟨_, rfl, rfl⟩)
    ·(refine owesJ_val (L := [(1, false)]) rfl rfl rfl (by kernel_rfl) ?_; intro a' w' hJ hfacts; obtain ⟨hf1, -⟩ := hfacts; replace hf1 : a'.tmps[1]?.getD undef = .pointer (some ⟨b, 0, none⟩) := hf1)
     have a1 := (hJ.1.2 1 _ rfl).1
     (go_simp; first | exact ⟨_, rfl, hJ, rfl⟩ | exact ⟨_, rfl, rfl⟩)
    ·(refine owesJ_val (L := [(5, false)]) rfl rfl rfl (by kernel_rfl) ?_; intro a' w' hJ hfacts; obtain ⟨hf5, -⟩ := hfacts; replace hf5 : a'.tmps[5]?.getD undef = .pointer (some ⟨W.heap.size, 0, none⟩) := hf5)
     have a1 := (hJ.1.2 1 _ rfl).1
     (go_simp; first | exact ⟨_, rfl, hJ, rfl⟩ | exact ⟨_, rfl, rfl⟩)
    ·(refine owesJ_val (L := [(88, true)]) rfl rfl rfl (by kernel_rfl) ?_; intro a' w' hJ hfacts; obtain ⟨hf88, -⟩ := hfacts; try simp only [VWk15] at hf88)
     have a1 := (hJ.1.2 1 _ rfl).1
     (go_simp; first | exact ⟨_, rfl, hJ, rfl⟩ | exact ⟨_, rfl, rfl⟩)
    ·(refine owesJ_val (L := [(86, true)]) rfl rfl rfl (by kernel_rfl) ?_; intro a' w' hJ hfacts; obtain ⟨hf86, -⟩ := hfacts; try simp only [VWk15] at hf86)
     have a1 := (hJ.1.2 1 _ rfl).1
     (go_simp; first | exact ⟨_, rfl, hJ, rfl⟩ | exact ⟨_, rfl, rfl⟩)
    ·(refine owesJ_val (L := [(90, true)]) rfl rfl rfl (by kernel_rfl) ?_; intro a' w' hJ hfacts; obtain ⟨hf90, -⟩ := hfacts; try simp only [VWk15] at hf90)
     have a1 := (hJ.1.2 1 _ rfl).1
     (go_simp; first | exact ⟨_, rfl, hJ, rfl⟩ | exact ⟨_, rfl, rfl⟩)
   ·skip
    refine owesJ_val (L := [(83, true), (85, true)]) rfl rfl rfl (by kernel_rfl) ?_
    intro a' w' hJ hfacts
    obtain ⟨hf83, hf85, -⟩ := hfacts
    try simp only [VWk15] at hf83
    try simp only [VWk15] at hf85
    obtain ⟨h1, h2, h3, h4, S', h5, h6⟩ := hJ
    have hN := JW.noTab HBs.out.T HBs.out.N h6
    go_simp
    refine (StSwitch_bad _ A _ hA).mono ?_
    rintro e w3 ⟨rfl, rfl⟩
    exact ⟨_, rfl, ⟨h1, h2, h3, h4, S', hr.out ▸ h5, h6⟩, rfl⟩
   ·skip
    refine owesJ_val (L := [(87, true), (89, true)]) rfl rfl rfl (by kernel_rfl) ?_
    intro a' w' hJ hfacts
    obtain ⟨hf87, hf89, -⟩ := hfacts
    try simp only [VWk15] at hf87
    try simp only [VWk15] at hf89
    have h4 := hJ.2.2.2.1
    go_simp
    refine (RfSwitch9_bad b A _ hA).mono ?_
    rintro e w3 ⟨rfl, rfl⟩
    exact ⟨_, rfl, ⟨hJ.1, hJ.2.1, hJ.2.2.1, hr.out ▸ h4, hJ.2.2.2.2⟩, rfl⟩
   ·intro f W3 hf hJ3
    have f7 : f 7 = .int .i64 (13) := hf 7 (by decide)
    have f8 : f 8 = .int .i64 (13) := hf 8 (by decide)
    have HJ3 := Lib.hid hJ3
    clear hf hJ3
    simp only [putAll, put_lit, List.map_cons, List.map_nil, List.set_cons_succ, List.set_cons_zero]
    simp only [f7, f8]
    clear f7 f8
    go_wp2
    go_ret
    exact ⟨rfl, HJ3.out.done HBs.out Hok.out⟩
 ·have hr : Hid (σ = σ') := by
   have h := Hst.out
   unfold stepS at h
   rw [if_neg k1, if_neg k2, if_neg k3, if_neg k4, if_neg k5] at h
   exact h
  have e1 : (K == 1) = false := by rw [beq_eq_false_iff_ne]; exact k1
  have e2 : (K == 2) = false := by rw [beq_eq_false_iff_ne]; exact k2
  have e3 : (K == 3) = false := by rw [beq_eq_false_iff_ne]; exact k3
  have e4 : (K == 4) = false := by rw [beq_eq_false_iff_ne]; exact k4
  have e5 : (K == 5) = false := by rw [beq_eq_false_iff_ne]; exact k5
  go_enter Tryz.func31, Tryz.ntmps31
  go_upto_region 3 with fail
  rw [HE.out]
  have a0 := (HJ.out.1.2 0 _ rfl).1
  go_wp2
  go_ret
  exact ⟨rfl, JW.done HBs.out ((hr.out ▸ HJ.out : JW W p b bb W.heap.size σ' σ' S _ 0 _).still) Hok.out⟩
end Go.Proofs.YtfchglcclgcgfaaGreatDoor.Ut
