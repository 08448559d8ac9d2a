/-
  What the proof of the row StoreClones rests on: the texts SwH SwHr. Conditions: each theorem names its own.
-/
import Derived.Test.YtfchglcclgcgfaaGreatDoorMgSzh
import Derived.Test.YtfchglcclgcgfaaGreatDoorMgSs
/-
 Two pairs of stores side by side; the law StoreClones, walked. Condition: the two tables of unicode/utf8 lie as laid.
-/
namespace Go.Proofs.YtfchglcclgcgfaaGreatDoor.Ut
open Go.RowKit Go.Proofs.YtfchglcclgcgfaaGreatDoor.Reg
set_option linter.unusedVariables false
set_option linter.unusedSimpArgs false

/-- A pair of stores that was made since n0. -/
structure Side (n0 : Nat) (W : World) (p : Option Addr) (b bb : Nat) (σ : Sto) (S : Nat → Prop) : Prop where
 two : Two W p b bb σ S
 lt : ∀ j, S j → j < W.heap.size
 ge : ∀ j, Own2 S b bb j → n0 ≤ j
 n : n0 ≤ W.heap.size
/-- Two pairs share no block. -/
def Apart (S : Nat → Prop) (b bb : Nat) (R : Nat → Prop) (d dd : Nat) : Prop := ∀ j, Own2 S b bb j → ¬ Own2 R d dd j
theorem Apart.symm {S R : Nat → Prop} {b bb d dd : Nat} (h : Apart S b bb R d dd) : Apart R d dd S b bb := fun j h1 h2 => h j h2 h1
theorem Side.below {n0 : Nat} {W W' : World} {p : Option Addr} {b bb : Nat} {σ : Sto} {S : Nat → Prop} (h : Side n0 W p b bb σ S) (hb : Below W.heap.size W W') : Side n0 W' p b bb σ S :=
 ⟨h.two.below hb, fun j hj => Nat.lt_of_lt_of_le (h.lt j hj) hb.size, h.ge, Nat.le_trans h.n hb.size⟩
theorem Side.chg {n0 : Nat} {W W' : World} {p : Option Addr} {b bb d dd : Nat} {σ : Sto} {S R : Nat → Prop} (h : Side n0 W p b bb σ S) (hM : Mv (Own2 R d dd) W W') (hA : Apart S b bb R d dd) (hT : Tabs W') : Side n0 W' p b bb σ S :=
 ⟨h.two.chg hM (fun j _ hj => hA j hj) hT h.lt, fun j hj => Nat.lt_of_lt_of_le (h.lt j hj) hM.1.size, h.ge, Nat.le_trans h.n hM.1.size⟩
/-- Behind what a pair does. -/
theorem Side.next {n0 : Nat} {W W' : World} {p : Option Addr} {b bb : Nat} {σ σ' : Sto} {S : Nat → Prop} (h : Side n0 W p b bb σ S) (h2 : Two W' p b bb σ' (fun j => S j ∨ W.heap.size ≤ j)) (hM : Mv (Own2 S b bb) W W') :
  Side n0 W' p b bb σ' (fun j => (S j ∨ W.heap.size ≤ j) ∧ j < W'.heap.size) := by
 have hn := h.n
 refine ⟨h2.mono (fun k hk hs => ⟨hs, hk⟩) (fun hj => h2.nb hj.1) (fun hj => h2.nbb hj.1) (h2.tab.sub (fun j hj => .inl hj.1)), fun j hj => hj.2, fun j hj => ?_, Nat.le_trans h.n hM.1.size⟩
 rcases hj with ⟨hj | hj, -⟩ | hj
 ·exact h.ge j (.inl hj)
 ·omega
 ·exact h.ge j (.inr hj)
theorem Apart.next {n0 : Nat} {W : World} {N : Nat} {p q : Option Addr} {b bb d dd : Nat} {σ τ : Sto} {S R : Nat → Prop} (hA : Apart S b bb R d dd) (h : Side n0 W p b bb σ S) (h2 : Side n0 W q d dd τ R) : Apart (fun j => (S j ∨ W.heap.size ≤ j) ∧ j < N) b bb R d dd := by
 intro j hj hr
 have hl := h2.two.rf.lt
 rcases hj with ⟨hj | hj, -⟩ | hj
 ·exact hA j (.inl hj) hr
 ·rcases hr with hr | rfl | rfl
  ·have := h2.lt j hr; omega
  ·omega
  ·omega
 ·exact hA j (.inr hj) hr
theorem Side.mv {n0 : Nat} {W W' : World} {p : Option Addr} {b bb : Nat} {σ : Sto} {S : Nat → Prop} (h : Side n0 W p b bb σ S) (hM : Mv (Own2 S b bb) W W') : Mv (fun j => n0 ≤ j) W W' := hM.mono h.ge
theorem blk_ne {W : World} {k k' : Nat} {T T' : TypeId} {vs us : List Value} (h : Blk W k T vs) (h' : Blk W k' T' us) (hT : T ≠ T') : k ≠ k' := fun e => hT ((e ▸ h : Blk W k' T vs).same h')
/-- A store's own blocks are none of the document's. -/
theorem StoreIn.sep {W : World} {b v q : Nat} {i : Stt} {T : TypeId} {s : ByteArray} {S : Nat → Prop} {σ : Sto} (h : StoreIn W b i T s S) (hR : RefIn W v q σ) : StoreIn W b i T s (fun k => (S k ∧ k < W.heap.size) ∧ k ≠ v ∧ k ≠ q) := by
 obtain ⟨r1, P, r2⟩ := hR
 obtain ⟨h0, p, h1, h2, h3⟩ := h
 have hb := h1.lies.1
 refine ⟨⟨⟨h0, hb⟩, blk_ne h1 r1 (by decide), blk_ne h1 r2 (by decide)⟩, p, h1, ?_⟩
 rcases h3 with ⟨rfl, g, r, fr, tv, k1, k2, k3⟩ | ⟨rfl, rb, k1, k2⟩
 ·have hg : ∀ {k : Nat} {T' : TypeId} {us : List Value}, Blk W k T' us → T' ≠ 5 → g ≠ k := by
   intro k T' us hk hT e
   subst e
   have hx := k1.row
   unfold Blk at hk
   rw [hx] at hk
   simp at hk
   exact hT hk.2.symm
  exact ⟨⟨⟨h2, k1.box.lies.1⟩, blk_ne k1.box r1 (by decide), blk_ne k1.box r2 (by decide)⟩, .inl ⟨rfl, g, r, fr, tv, k1, k2, ⟨k3, k1.lt⟩, hg r1 (by decide), hg r2 (by decide)⟩⟩
 ·exact ⟨⟨⟨h2, k1.lies.1⟩, blk_ne k1 r1 (by decide), blk_ne k1 r2 (by decide)⟩, .inr ⟨rfl, rb, k1, k2⟩⟩
/-- A store and its clones. -/
theorem Side.clone {n0 : Nat} {W W' : World} {c v q : Nat} {σ : Sto} (hσ : σ.ok) (hS : StoreIn W' c σ.i σ.T σ.s (fun j => W.heap.size ≤ j)) (hR : RefIn W' v q σ) (h1 : W.heap.size ≤ v) (h2 : W.heap.size ≤ q) (hn : n0 ≤ W.heap.size) (hsz : W.heap.size ≤ W'.heap.size) (hT : Tabs W) (hT' : Tabs W') :
  ∃ S : Nat → Prop, Side n0 W' (some ⟨c, 0, none⟩) v q σ S ∧ ∀ j, Own2 S v q j → W.heap.size ≤ j := by
 have hN := noTab_new hT
 have hge : ∀ j, Own2 (fun k => (W.heap.size ≤ k ∧ k < W'.heap.size) ∧ k ≠ v ∧ k ≠ q) v q j → W.heap.size ≤ j := by
  rintro j (hj | rfl | rfl)
  ·exact hj.1.1
  ·exact h1
  ·exact h2
 refine ⟨_, ⟨⟨.inl ⟨c, rfl, hS.sep hR⟩, hR, hσ, fun h => h.2.1 rfl, fun h => h.2.2 rfl, hN.sub hge, hT'⟩, fun j hj => hj.1.2, fun j hj => Nat.le_trans hn (hge j hj), by omega⟩, hge⟩
/-- A script that lies below what changes. -/
theorem OpcsAt.far {w W : World} {A : Option Addr} {ops : List Opc} (h : OpcsAt w A ops) (hM : Mv (fun j => w.heap.size ≤ j) w W) : OpcsAt W A ops := by
 by_cases hne : ops = []
 ·exact .inl hne
 ·exact h.chg hM.1 (fun ad e => by have := h.lt hne ad e; show ¬ w.heap.size ≤ _; omega)
/-- Two pairs that share nothing, made since w. -/
structure Duo (w W : World) (p : Option Addr) (b bb : Nat) (σ : Sto) (S : Nat → Prop) (q : Option Addr) (d dd : Nat) (τ : Sto) (R : Nat → Prop) : Prop where
 l : Side w.heap.size W p b bb σ S
 r : Side w.heap.size W q d dd τ R
 a : Apart S b bb R d dd
 m : Mv (fun j => w.heap.size ≤ j) w W
theorem Duo.swap {w W : World} {p q : Option Addr} {b bb d dd : Nat} {σ τ : Sto} {S R : Nat → Prop} (h : Duo w W p b bb σ S q d dd τ R) : Duo w W q d dd τ R p b bb σ S := ⟨h.r, h.l, h.a.symm, h.m⟩
theorem Duo.below {w W W' : World} {p q : Option Addr} {b bb d dd : Nat} {σ τ : Sto} {S R : Nat → Prop} (h : Duo w W p b bb σ S q d dd τ R) (hb : Below W.heap.size W W') : Duo w W' p b bb σ S q d dd τ R := ⟨h.l.below hb, h.r.below hb, h.a, h.m.then_below hb⟩
theorem Duo.left {w W W' : World} {p q : Option Addr} {b bb d dd : Nat} {σ σ' τ : Sto} {S R : Nat → Prop} (h : Duo w W p b bb σ S q d dd τ R) (h2 : Two W' p b bb σ' (fun j => S j ∨ W.heap.size ≤ j)) (hM : Mv (Own2 S b bb) W W') :
  ∃ S', Duo w W' p b bb σ' S' q d dd τ R :=
 ⟨_, h.l.next h2 hM, h.r.chg hM h.a.symm h2.T, h.a.next h.l h.r, h.m.trans (h.l.mv hM) (fun _ _ h => h)⟩
theorem Duo.right {w W W' : World} {p q : Option Addr} {b bb d dd : Nat} {σ τ τ' : Sto} {S R : Nat → Prop} (h : Duo w W p b bb σ S q d dd τ R) (h2 : Two W' q d dd τ' (fun j => R j ∨ W.heap.size ≤ j)) (hM : Mv (Own2 R d dd) W W') :
  ∃ R', Duo w W' p b bb σ S q d dd τ' R' := by
 obtain ⟨R', h'⟩ := h.swap.left h2 hM
 exact ⟨R', h'.swap⟩
theorem Duo.play {w W : World} {p q : Option Addr} {b bb d dd : Nat} {σ τ : Sto} {S R : Nat → Prop} (h : Duo w W p b bb σ S q d dd τ R) (A : Option Addr) (ops : List Opc) (c : Nat) (hO : OpcsAt w A ops) (hn : ops.length ≤ 140737488355328) (hp : p ≠ none) :
  Calls Tryz.prog 21 #[.pointer p, ptr b, .slice A ops.length c] W fun e w' => e = .returned (.bool true) ∧ ∃ σ' S', Duo w w' p b bb σ' S' q d dd τ R := by
 have hO' := hO.far h.m
 refine (play_two h.l.two A ops c hO' (fun hne ad e hx => by have := hO.lt hne ad e; have := h.l.ge _ hx; omega) (fun hne ad e => by have := hO.lt hne ad e; have := h.l.n; omega) hn (fun e => absurd e hp)).mono ?_
 rintro e w3 ⟨rfl, σ1, hT2, hM2⟩
 obtain ⟨S', h'⟩ := h.left hT2 hM2
 exact ⟨rfl, σ1, S', h'⟩
theorem Duo.looks {w W : World} {p q : Option Addr} {b bb d dd : Nat} {σ τ : Sto} {S R : Nat → Prop} (h : Duo w W p b bb σ S q d dd τ R) :
  Calls Tryz.prog 20 #[.pointer p, ptr b] W fun e w' => e = .returned (.bool true) ∧ Duo w w' p b bb σ S q d dd τ R := by
 refine (looks_two h.l.two).mono ?_
 rintro e w3 ⟨rfl, hb⟩
 exact ⟨rfl, h.below hb⟩
set_option maxRecDepth 100000 in
set_option maxHeartbeats 4000000 in
theorem law_StoreClones (k lo hi m : Int) (s : ByteArray) (A : Option Addr) (ops : List Opc) (c : Nat) (B : Option Addr) (ops2 : List Opc) (c2 : Nat) (w : World) (hT : Tabs w) (hO : OpcsAt w A ops) (hn : ops.length ≤ 140737488355328) (hO2 : OpcsAt w B ops2) (hn2 : ops2.length ≤ 140737488355328) :
  Calls Tryz.prog 6 #[.agg (makeV k lo hi m s).toArray, .slice A ops.length c, .slice B ops2.length c2] w fun e w' => e = .returned (.bool true) ∧ Below w.heap.size w w' := by
 obtain ⟨W1, hW1, L0, b0, -⟩ := boxL1 w (makeV k lo hi m s) 24
 have HE := Lib.hid hW1
 have HL := Lib.hid L0
 have HB := Lib.hid b0
 have HO := Lib.hid hO
 have HO2 := Lib.hid hO2
 have HT := Lib.hid (tabs_below hT b0)
 clear hW1 L0 b0 hT hO hO2
 have HMk := Lib.hid (fun w hT => made_two k lo hi m s w hT)
 unfold makeV at *
 go_enter Tryz.func6, Tryz.ntmps6
 go_wp2_with fail
 rw [HE.out]
 refine (fixed_any W1 HT.out).mono ?_
 rintro e w1 ⟨rfl, hb⟩
 have HL := Lib.hid (HL.out.below hb)
 have HT := Lib.hid (tabs_below HT.out hb)
 have HB := Lib.hid (HB.out.trans (hb.mono HB.out.size))
 clear hb
 have a0 := (HL.out.2 0 _ rfl).1
 have a1 := (HL.out.2 1 _ rfl).1
 have a2 := (HL.out.2 2 _ rfl).1
 have a3 := (HL.out.2 3 _ rfl).1
 have a4 := (HL.out.2 4 _ rfl).1
 go_wp2_with fail
 refine (HMk.out w1 HT.out).mono ?_
 rintro e w2 ⟨hcs, hb⟩
 have hsz := HB.out.size
 have HB2 := Lib.hid (HB.out.trans (hb.mono HB.out.size))
 have hb2 := hb.size
 clear hb a0 a1 a2 a3 a4 HMk HL HE
 rcases hcs with ⟨-, rfl⟩ | ⟨-, b, bw, bb, S, rfl, hF⟩
 ·go_wp2
  go_ret
  exact ⟨rfl, HB2.out⟩
 ·have H1 : Hid (Side w.heap.size w2 (some ⟨b, 0, none⟩) bw bb (newS k lo hi (limN m) s) S) := ⟨hF.1, fun j hj => (hF.2.1 j hj).2, fun j hj => Nat.le_trans hsz (hF.own j hj), by omega⟩
  generalize newS k lo hi (limN m) s = σ0 at *
  have HM := Lib.hid (Mv.of_below (S := fun j => w.heap.size ≤ j) HB2.out)
  clear hF HB2
  unfold ptr
  have HP := Lib.hid (play_two H1.out.two A ops c (HO.out.far HM.out) (fun hne ad e h => by have := HO.out.lt hne ad e; have := H1.out.ge _ h; omega) (fun hne ad e => by have := HO.out.lt hne ad e; have := H1.out.n; omega) hn (fun e => by cases e))
  unfold ptr at HP
  go_wp2_with fail
  refine HP.out.mono ?_
  rintro e w3 ⟨rfl, σ1, hT2, hM2⟩
  have H3 := Lib.hid (H1.out.next hT2 hM2)
  have HM3 := Lib.hid (HM.out.trans (H1.out.mv hM2) (fun _ _ h => h))
  clear hT2 hM2 H1 HM HP
  obtain ⟨S1, hS1⟩ : ∃ S1 : Nat → Prop, (fun j => (S j ∨ w2.heap.size ≤ j) ∧ j < w3.heap.size) = S1 := ⟨_, rfl⟩
  rw [hS1] at H3
  clear hS1
  obtain ⟨b', hb', hSt⟩ | ⟨hno, -⟩ := H3.out.two.st
  rotate_left
  ·cases hno
  obtain rfl : b = b' := by simpa using hb'
  have HSt := Lib.hid hSt
  clear hSt hb'
  have hund : Calls Tryz.prog 75 #[.pointer (some ⟨b, 0, none⟩)] w3 fun e w' => (∃ v, e = .returned v) ∧ w' = w3 := by
   obtain ⟨-, p, hp, -⟩ := HSt.out
   exact (under_any b _ _ _ w3 hp.lies).mono (by rintro e w' ⟨rfl, rfl⟩; exact ⟨⟨_, rfl⟩, rfl⟩)
  have HCl := Lib.hid (StClone_of (Q := fun x => x = w3) (S := S1) H3.out.two.ok hund (fun w1 hw => by rw [hw]; exact ⟨H3.out.two.T, HSt.out⟩))
  clear hund
  go_wp2_with fail
  refine HCl.out.mono ?_
  rintro e w4 ⟨cc, wx, rfl, rfl, hSc, hb⟩
  have HSc := Lib.hid hSc
  have H4 := Lib.hid (H3.out.below hb)
  have Hb4 := Lib.hid hb
  clear hSc hb HCl HSt
  unfold ptr
  have HRc := Lib.hid (RfClone9 H4.out.two.rf)
  unfold ptr at HRc
  go_wp2_with fail
  refine HRc.out.mono ?_
  rintro e w5 ⟨v, q, rfl, hR, hv, hq, hb⟩
  have hl4 := Hb4.out.size
  have hl5 := hb.size
  have H5 := Lib.hid (H4.out.below hb)
  have HM5 := Lib.hid ((HM3.out.then_below Hb4.out).then_below hb)
  obtain ⟨S2, hS2, hge2⟩ := Side.clone (n0 := w.heap.size) H3.out.two.ok (HSc.out.below hb) hR (by omega) (by omega) H3.out.n (by omega) H3.out.two.T H5.out.two.T
  have HC := Lib.hid hS2
  have HAp : Hid (Apart S1 bw bb S2 v q) := by
   intro j hj hr
   have := hge2 j hr
   have := H3.out.two.rf.lt
   rcases hj with hj | rfl | rfl
   ·have := H3.out.lt j hj; omega
   ·omega
   ·omega
  have HD := Lib.hid (Duo.mk H5.out HC.out HAp.out HM5.out)
  clear hR hv hq hb hS2 hge2 HRc HSc H4 Hb4 hl4 hl5 HM3 H3 HC HAp HM5 H5
  have HK := Lib.hid (HD.out.swap.looks)
  unfold ptr at HK
  go_wp2_with fail
  refine HK.out.mono ?_
  rintro e w6 ⟨rfl, hd⟩
  have HD := Lib.hid hd.swap
  clear hd HK
  have HK := Lib.hid (HD.out.play B ops2 c2 HO2.out hn2 (fun e => by cases e))
  unfold ptr at HK
  go_wp2_with fail
  refine HK.out.mono ?_
  rintro e w7 ⟨rfl, σ7, S7, hd⟩
  have HD := Lib.hid hd
  clear hd HK
  have HK := Lib.hid (HD.out.swap.looks)
  unfold ptr at HK
  go_wp2_with fail
  refine HK.out.mono ?_
  rintro e w8 ⟨rfl, hd⟩
  have HD := Lib.hid hd.swap
  clear hd HK
  have HK := Lib.hid (HD.out.swap.play A ops c HO.out hn (fun e => by cases e))
  unfold ptr at HK
  go_wp2_with fail
  refine HK.out.mono ?_
  rintro e w9 ⟨rfl, σ9, S9, hd⟩
  have HD := Lib.hid hd.swap
  clear hd HK
  have HK := Lib.hid (HD.out.looks)
  unfold ptr at HK
  go_wp2_with fail
  refine HK.out.mono ?_
  rintro e w10 ⟨rfl, hd⟩
  have HD := Lib.hid hd
  clear hd HK
  have HK := Lib.hid (HD.out.swap.play B ops2 c2 HO2.out hn2 (fun e => by cases e))
  unfold ptr at HK
  go_wp2_with fail
  refine HK.out.mono ?_
  rintro e w11 ⟨rfl, σ11, S11, hd⟩
  have HD := Lib.hid hd.swap
  clear hd HK
  have HK := Lib.hid (HD.out.looks)
  unfold ptr at HK
  go_wp2_with fail
  refine HK.out.mono ?_
  rintro e w12 ⟨rfl, hd⟩
  have HD := Lib.hid hd
  clear hd HK
  have HB9 := Lib.hid (HD.out.m.1.below_le (Nat.le_refl _) (fun _ h => h))
  go_wp2
  go_ret
  exact ⟨rfl, HB9.out⟩
end Go.Proofs.YtfchglcclgcgfaaGreatDoor.Ut
/-
 The law StoreClones over its arguments. No condition.
-/
namespace Go.Proofs.YtfchglcclgcgfaaGreatDoor.Ut
open Go.RowKit Go.Proofs.YtfchglcclgcgfaaGreatDoor.Reg Go.ChangeShapes Go.WideShapes Go.ChangeAt Go.Deep Go.Joins Go.Proofs.YtfchglcclgcgfaaGreatDoor.Row
set_option linter.unusedVariables false
set_option linter.unusedSimpArgs false

set_option maxRecDepth 100000 in
theorem calls_StoreClones {H : Type} {enc : TypeId × Value → H} {W : World} {base : Nat} {v0 v1 v2 : Value} {d0 d1 d2 : DataW H} {p0 p1 p2 : List MemPlace} (hL : laidMetH Tryz.prog Rows.storeClonesRow.laid W)
  (o0 : Value.okWide Tryz.prog W .any base 24 v0) (h0 : DataW.Trod enc Tryz.prog W 0 (fun _ => true) true 24 v0 d0 p0) (w0 : ∀ n ∈ d0.weights Tryz.prog 24, n ≤ reachBytes)
  (o1 : Value.okWide Tryz.prog W .any base 37 v1) (h1 : DataW.Trod enc Tryz.prog W 0 (fun _ => true) true 37 v1 d1 p1) (w1 : ∀ n ∈ d1.weights Tryz.prog 37, n ≤ reachBytes)
  (o2 : Value.okWide Tryz.prog W .any base 37 v2) (h2 : DataW.Trod enc Tryz.prog W 0 (fun _ => true) true 37 v2 d2 p2) (w2 : ∀ n ∈ d2.weights Tryz.prog 37, n ≤ reachBytes) :
  Calls Tryz.prog 6 #[v0, v1, v2] W fun e W' => e = .returned (.bool true) ∧ Below W.heap.size W W' := by
 obtain ⟨k, lo, hi, m, s, rfl, -⟩ := open_make o0 h0 w0
 obtain ⟨A, ops, c, rfl, hO, hn⟩ := open_opcs h1 (by obtain ⟨a, l, c, rfl⟩ := okWide_slice Tryz.underlying37 o1; rfl) w1
 obtain ⟨B, ops2, c2, rfl, hO2, hn2⟩ := open_opcs h2 (by obtain ⟨a, l, c, rfl⟩ := okWide_slice Tryz.underlying37 o2; rfl) w2
 exact law_StoreClones k lo hi m s A ops c B ops2 c2 W (tabs_of_laid hL) hO (by omega) hO2 (by omega)
end Go.Proofs.YtfchglcclgcgfaaGreatDoor.Ut
