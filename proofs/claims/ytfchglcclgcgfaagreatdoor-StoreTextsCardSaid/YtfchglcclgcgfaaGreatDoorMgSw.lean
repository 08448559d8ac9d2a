/-
  What the proof of the laws S rests on: the texts StV StW StY GapF StX. Conditions: each theorem names its own.
-/
import Derived.Test.YtfchglcclgcgfaaGreatDoorMgSv
import Derived.Deep.DeepCutAuto
import Derived.Test.YtfchglcclgcgfaaGreatDoorMgSt
/-
 store: a store with blocks of its own; Kind, Backend, move. Condition: the two tables of unicode/utf8 lie as laid.
-/
namespace Go.Proofs.YtfchglcclgcgfaaGreatDoor.Ut
open Go.RowKit Go.Proofs.YtfchglcclgcgfaaGreatDoor.Reg
set_option linter.unusedVariables false
set_option linter.unusedSimpArgs false

theorem GapIn.below {W W' : World} {b lim : Nat} {s : ByteArray} {S : Nat → Prop} (h : GapIn W b lim s S) (hb : Below W.heap.size W W') : GapIn W' b lim s S := by
 obtain ⟨g, r, fr, tv, h1, h2, h3⟩ := h; exact ⟨g, r, fr, tv, h1.below hb, h2, h3⟩
theorem GapIn.mono {W : World} {b lim : Nat} {s : ByteArray} {S S' : Nat → Prop} (h : GapIn W b lim s S) (hS : ∀ k, k < W.heap.size → S k → S' k) : GapIn W b lim s S' := by
 obtain ⟨g, r, fr, tv, h1, h2, h3⟩ := h; exact ⟨g, r, fr, tv, h1, h2, hS g h1.lt h3⟩
/-- What keeps a store's text, with blocks of S. -/
def InnerIn (W : World) (T : TypeId) (p lim : Nat) (s : ByteArray) (S : Nat → Prop) : Prop := S p ∧ ((T = 30 ∧ GapIn W p lim s S) ∨ (T = 148 ∧ IsRoped W p lim s))
theorem InnerIn.below {W W' : World} {T : TypeId} {p lim : Nat} {s : ByteArray} {S : Nat → Prop} (h : InnerIn W T p lim s S) (hb : Below W.heap.size W W') : InnerIn W' T p lim s S := ⟨h.1, h.2.imp (fun h => ⟨h.1, h.2.below hb⟩) (fun h => ⟨h.1, h.2.below hb⟩)⟩
theorem InnerIn.lt {W : World} {T : TypeId} {p lim : Nat} {s : ByteArray} {S : Nat → Prop} (h : InnerIn W T p lim s S) : p < W.heap.size := by
 rcases h.2 with ⟨-, g, r, fr, tv, h1, -⟩ | ⟨-, rb, h1, -⟩
 ·exact h1.box.lies.1
 ·exact h1.lies.1
theorem InnerIn.mono {W : World} {T : TypeId} {p lim : Nat} {s : ByteArray} {S S' : Nat → Prop} (h : InnerIn W T p lim s S) (hS : ∀ k, k < W.heap.size → S k → S' k) : InnerIn W T p lim s S' :=
 ⟨hS p h.lt h.1, h.2.imp (fun h => ⟨h.1, h.2.mono hS⟩) (fun h => h)⟩
/-- What is told of a store besides its text. -/
structure Stt where
 kind : Int
 low : Int
 top : Int
 lim : Nat
 moves : Int
 forced : Int
 edited : Int
def Stt.vals (i : Stt) (T : TypeId) (p : Nat) : List Value := [.iface T (ptr p), .int .i64 i.kind, .int .i64 i.low, .int .i64 i.top, .int .i64 i.lim, .int .i64 i.moves, .int .i64 i.forced, .int .i64 i.edited]
/-- A store in block b with the text s, its own blocks in S. -/
def StoreIn (W : World) (b : Nat) (i : Stt) (T : TypeId) (s : ByteArray) (S : Nat → Prop) : Prop := S b ∧ ∃ p, Blk W b 66 (i.vals T p) ∧ InnerIn W T p i.lim s S
theorem StoreIn.below {W W' : World} {b : Nat} {i : Stt} {T : TypeId} {s : ByteArray} {S : Nat → Prop} (h : StoreIn W b i T s S) (hb : Below W.heap.size W W') : StoreIn W' b i T s S := by
 obtain ⟨h0, p, h1, h2⟩ := h; exact ⟨h0, p, h1.below hb, h2.below hb⟩
theorem StoreIn.lt {W : World} {b : Nat} {i : Stt} {T : TypeId} {s : ByteArray} {S : Nat → Prop} (h : StoreIn W b i T s S) : b < W.heap.size := by
 obtain ⟨h0, p, h1, h2⟩ := h; exact h1.lies.1
theorem StoreIn.mono {W : World} {b : Nat} {i : Stt} {T : TypeId} {s : ByteArray} {S S' : Nat → Prop} (h : StoreIn W b i T s S) (hS : ∀ k, k < W.heap.size → S k → S' k) : StoreIn W b i T s S' := by
 obtain ⟨h0, p, h1, h2⟩ := h; exact ⟨hS b h1.lies.1 h0, p, h1, h2.mono hS⟩
theorem GapIn.has {W : World} {b lim : Nat} {s : ByteArray} {S : Nat → Prop} (h : GapIn W b lim s S) (hT : Tabs W) (hs : s.size ≤ 1073741824) : HasG W (some ⟨b, 0, none⟩) s := by
 obtain ⟨g, r, fr, tv, h1, h2, h3⟩ := h; exact hasG_of hT hs ⟨g, r, fr, tv, h1, h2⟩
theorem StoreIn.has {W : World} {b : Nat} {i : Stt} {T : TypeId} {s : ByteArray} {S : Nat → Prop} (h : StoreIn W b i T s S) (hT : Tabs W) (hs : s.size ≤ 1073741824) : HasS W (some ⟨b, 0, none⟩) s := by
 obtain ⟨-, p, h1, -, ⟨rfl, h2⟩ | ⟨rfl, h2⟩⟩ := h
 ·exact hasS_gap h1.lies (h2.has hT hs)
 ·exact hasS_rope h1.lies (hasR_of hT h2 hs)
/-- A cell of the store's block is written: the inner text stays. -/
theorem StoreIn.set {W W' : World} {b : Nat} {T : TypeId} {p lim : Nat} {s : ByteArray} {S : Nat → Prop} {vs : List Value} (hb : Blk W b 66 vs) (h : InnerIn W T p lim s S) (hc : Chg (fun k => k = b) W W') : InnerIn W' T p lim s S := by
 have hne : ∀ {k : Nat} {T' : TypeId} {us : List Value}, Blk W k T' us → T' ≠ 66 → k ≠ b := fun hk hT e => by subst e; exact hT (hk.same hb)
 refine ⟨h.1, ?_⟩
 rcases h.2 with ⟨rfl, g, r, fr, tv, h1, h2, h3⟩ | ⟨rfl, h1⟩
 ·refine .inl ⟨rfl, g, r, fr, tv, h1.chg hc (hne h1.box (by decide)) (fun e => ?_), h2, h3⟩
  subst e
  have := h1.row
  unfold Blk at hb
  rw [this] at hb
  simp at hb
 ·have hk := keeps_set hb (by decide) hc (fun _ h => h)
  obtain ⟨rb, h2, h3⟩ := h1
  exact .inr ⟨rfl, rb, h2.chg hc (hne h2 (by decide)), h3.keeps hk⟩
def backT (T : TypeId) : Int := if T = 148 then 2 else 1
theorem StKind_in {W : World} {b : Nat} {i : Stt} {T : TypeId} {s : ByteArray} {S : Nat → Prop} (h : StoreIn W b i T s S) : Calls Tryz.prog 27 #[.pointer (some ⟨b, 0, none⟩)] W fun e w' => e = .returned (.int .i64 i.kind) ∧ w' = W := by
 obtain ⟨-, p, h1, h2⟩ := h
 have c0 := (h1.lies.2 0 _ rfl).1
 have c1 := (h1.lies.2 1 _ rfl).1
 clear h1 h2
 unfold ptr at *
 go_enter Tryz.func27, Tryz.ntmps27
 go_wp2
 go_ret
 exact ⟨rfl, rfl⟩
theorem ta_gapS (p : Option Addr) (w : World) : (Instr.typeAssert (.iface 30 (.pointer p)) 64 148 true).run Tryz.prog w = .ok (.tuple #[.pointer none, .bool false]) w := by
 kernel_rfl
theorem ta_ropeS (p : Option Addr) (w : World) : (Instr.typeAssert (.iface 148 (.pointer p)) 64 148 true).run Tryz.prog w = .ok (.tuple #[.pointer p, .bool true]) w := by
 kernel_rfl
set_option maxRecDepth 100000 in
theorem StBackend_in {W : World} {b : Nat} {i : Stt} {T : TypeId} {s : ByteArray} {S : Nat → Prop} (h : StoreIn W b i T s S) : Calls Tryz.prog 51 #[.pointer (some ⟨b, 0, none⟩)] W fun e w' => e = .returned (.int .i64 (backT T)) ∧ w' = W := by
 obtain ⟨-, p, h1, -, h2⟩ := h
 have HL := Lib.hid h1.lies
 have hT : T = 30 ∨ T = 148 := h2.imp (fun h => h.1) (fun h => h.1)
 clear h1 h2
 have t1 := ta_gapS (some ⟨p, 0, none⟩)
 have t2 := ta_ropeS (some ⟨p, 0, none⟩)
 unfold Stt.vals ptr at HL
 rcases hT with rfl | rfl
 all_goals
  go_enter Tryz.func51, Tryz.ntmps51
  go_wp2_with fail
  refine (under_any b _ _ _ W HL.out).mono ?_
  rintro e w1 ⟨rfl, rfl⟩
  go_wp2
  go_ret
  exact ⟨rfl, rfl⟩
/-- The type of what keeps a text behind a move. -/
def typeK (k : Int) : TypeId := if k = 2 then 148 else 30
theorem kept_in (k : Int) (n : Nat) (s : ByteArray) (w : World) (hT : Tabs w) (hn : n ≤ 1073741824) (hs : s.size ≤ n) :
  Calls Tryz.prog 67 #[.int .i64 k, .int .i64 n, .string s] w fun e w' => ∃ p, e = .returned (.iface (typeK k) (ptr p)) ∧ InnerIn w' (typeK k) p n s (fun j => w.heap.size ≤ j) ∧ Below w.heap.size w w' := by
 by_cases hk : k = 2
 ·subst hk
  refine (kept_rope n s w hT (by omega)).mono ?_
  rintro e w' ⟨b, rfl, h1, h2, h3⟩
  exact ⟨b, rfl, ⟨h2, .inr ⟨rfl, h1⟩⟩, h3⟩
 ·refine (kept_gap k n s w hT (by simpa using hk) hn hs).mono ?_
  rintro e w' ⟨b, rfl, ⟨g, r, fr, tv, h1, h2, h3, h4⟩, h5⟩
  have : typeK k = 30 := by unfold typeK; rw [if_neg hk]
  rw [this]
  exact ⟨b, rfl, ⟨h3, .inl ⟨rfl, g, r, fr, tv, h1, h2, h4⟩⟩, h5⟩
def VMo0 (b lim n0 : Nat) (k : Int) (s : ByteArray) : Nat → Value → World → Prop := fun d x w => match d with
 | 4 => x = .pointer (some ⟨b, 0, none⟩)
 | 5 => x = .int .i64 k
 | 6 => x = .pointer (some ⟨b, 0, none⟩)
 | 7 => x = .pointer (some ⟨b, 0, none⟩)
 | 8 => x = .pointer (some ⟨b, 4, none⟩)
 | 9 => x = .int .i64 lim
 | 10 => x = .pointer (some ⟨b, 0, none⟩)
 | 11 => x = .string s
 | 12 => ∃ p, x = .iface (typeK k) (ptr p) ∧ InnerIn w (typeK k) p lim s (fun j => n0 ≤ j)
 | 13 => x = .pointer (some ⟨b, 0, none⟩)
 | 14 => x = .pointer (some ⟨b, 0, none⟩)
 | _ => True
theorem VMo0_mono (b lim n0 : Nat) (k : Int) (s : ByteArray) : ∀ d x w w', VMo0 b lim n0 k s d x w → Below w.heap.size w w' → VMo0 b lim n0 k s d x w' := by
 intro d x w w' h hb
 unfold VMo0 at *
 split <;> first | exact h | exact trivial | skip
 obtain ⟨p, h1, h2⟩ := h
 exact ⟨p, h1, h2.below hb⟩
set_option maxRecDepth 100000 in
set_option maxHeartbeats 1000000 in
theorem StMove_in {W : World} {b : Nat} {i : Stt} {T : TypeId} {s : ByteArray} {S : Nat → Prop} (hT : Tabs W) (h : StoreIn W b i T s S) (hs : s.size ≤ i.lim) (hl : i.lim ≤ 1073741824) (k : Int) :
  Calls Tryz.prog 68 #[.pointer (some ⟨b, 0, none⟩), .int .i64 k] W fun e w' => e = .returned (.tuple #[]) ∧ StoreIn w' b i (typeK k) s (fun j => S j ∨ W.heap.size ≤ j) ∧ Chg (fun j => j = b) W w' := by
 have HH := Lib.hid (h.has hT (by omega))
 have HTb := Lib.hid hT
 obtain ⟨hSb, p0, h1, -⟩ := h
 have H1 := Lib.hid h1
 clear h1 hT
 go_enter Tryz.func68, Tryz.ntmps68
 go_wp2
 refine wp_held_tail mixed (VMo0 b i.lim W.heap.size k s) (VMo0_mono _ _ _ _ _) (by kernel_rfl) 8 11 (by decide) [4, 5, 6, 7, 8, 9, 10, 11, 12, 13, 14] (by kernel_rfl) (by kernel_rfl) (by kernel_rfl) (by kernel_rfl) ?_ ?_
 ·intro j hj
  have hj' : j < 11 := hj
  rcases (by omega : j = 0 ∨ j = 1 ∨ j = 2 ∨ j = 3 ∨ j = 4 ∨ j = 5 ∨ j = 6 ∨ j = 7 ∨ j = 8 ∨ j = 9 ∨ j = 10) with rfl | rfl | rfl | rfl | rfl | rfl | rfl | rfl | rfl | rfl | rfl
  ·(refine owes_val (L := [(0, false)]) rfl rfl rfl (by kernel_rfl) ?_; intro a' w' hb' hfacts; obtain ⟨hf0, -⟩ := hfacts; replace hf0 : a'.tmps[0]?.getD undef = .pointer (some ⟨b, 0, none⟩) := hf0)
   have p4 := ((H1.out.below hb').lies.2 4 _ rfl).1
   (go_simp; first | exact ⟨_, rfl, Br _, rfl⟩ | exact ⟨_, rfl, Br _, trivial⟩ | exact ⟨_, rfl, Ba _ _, trivial⟩ | exact ⟨_, rfl, Br _, congrArg (Value.int _) (IntWalk.i64_in _ (by omega))⟩)
  ·(refine owes_val (L := [(1, false)]) rfl rfl rfl (by kernel_rfl) ?_; intro a' w' hb' hfacts; obtain ⟨hf1, -⟩ := hfacts; replace hf1 : a'.tmps[1]?.getD undef = .int .i64 k := hf1)
   have p4 := ((H1.out.below hb').lies.2 4 _ rfl).1
   (go_simp; first | exact ⟨_, rfl, Br _, rfl⟩ | exact ⟨_, rfl, Br _, trivial⟩ | exact ⟨_, rfl, Ba _ _, trivial⟩ | exact ⟨_, rfl, Br _, congrArg (Value.int _) (IntWalk.i64_in _ (by omega))⟩)
  ·(refine owes_val (L := [(0, false)]) rfl rfl rfl (by kernel_rfl) ?_; intro a' w' hb' hfacts; obtain ⟨hf0, -⟩ := hfacts; replace hf0 : a'.tmps[0]?.getD undef = .pointer (some ⟨b, 0, none⟩) := hf0)
   have p4 := ((H1.out.below hb').lies.2 4 _ rfl).1
   (go_simp; first | exact ⟨_, rfl, Br _, rfl⟩ | exact ⟨_, rfl, Br _, trivial⟩ | exact ⟨_, rfl, Ba _ _, trivial⟩ | exact ⟨_, rfl, Br _, congrArg (Value.int _) (IntWalk.i64_in _ (by omega))⟩)
  ·(refine owes_val (L := [(6, true)]) rfl rfl rfl (by kernel_rfl) ?_; intro a' w' hb' hfacts; obtain ⟨hf6, -⟩ := hfacts; try simp only [VMo0] at hf6)
   have p4 := ((H1.out.below hb').lies.2 4 _ rfl).1
   (go_simp; first | exact ⟨_, rfl, Br _, rfl⟩ | exact ⟨_, rfl, Br _, trivial⟩ | exact ⟨_, rfl, Ba _ _, trivial⟩ | exact ⟨_, rfl, Br _, congrArg (Value.int _) (IntWalk.i64_in _ (by omega))⟩)
  ·(refine owes_val (L := [(7, true)]) rfl rfl rfl (by kernel_rfl) ?_; intro a' w' hb' hfacts; obtain ⟨hf7, -⟩ := hfacts; try simp only [VMo0] at hf7)
   have p4 := ((H1.out.below hb').lies.2 4 _ rfl).1
   (go_simp; first | exact ⟨_, rfl, Br _, rfl⟩ | exact ⟨_, rfl, Br _, trivial⟩ | exact ⟨_, rfl, Ba _ _, trivial⟩ | exact ⟨_, rfl, Br _, congrArg (Value.int _) (IntWalk.i64_in _ (by omega))⟩)
  ·(refine owes_val (L := [(8, true)]) rfl rfl rfl (by kernel_rfl) ?_; intro a' w' hb' hfacts; obtain ⟨hf8, -⟩ := hfacts; try simp only [VMo0] at hf8)
   have p4 := ((H1.out.below hb').lies.2 4 _ rfl).1
   (go_simp; first | exact ⟨_, rfl, Br _, rfl⟩ | exact ⟨_, rfl, Br _, trivial⟩ | exact ⟨_, rfl, Ba _ _, trivial⟩ | exact ⟨_, rfl, Br _, congrArg (Value.int _) (IntWalk.i64_in _ (by omega))⟩)
  ·(refine owes_val (L := [(0, false)]) rfl rfl rfl (by kernel_rfl) ?_; intro a' w' hb' hfacts; obtain ⟨hf0, -⟩ := hfacts; replace hf0 : a'.tmps[0]?.getD undef = .pointer (some ⟨b, 0, none⟩) := hf0)
   have p4 := ((H1.out.below hb').lies.2 4 _ rfl).1
   (go_simp; first | exact ⟨_, rfl, Br _, rfl⟩ | exact ⟨_, rfl, Br _, trivial⟩ | exact ⟨_, rfl, Ba _ _, trivial⟩ | exact ⟨_, rfl, Br _, congrArg (Value.int _) (IntWalk.i64_in _ (by omega))⟩)
  ·(refine owes_val (L := [(10, true)]) rfl rfl rfl (by kernel_rfl) ?_; intro a' w' hb' hfacts; obtain ⟨hf10, -⟩ := hfacts; try simp only [VMo0] at hf10)
   go_simp
   refine (StText_any (HH.out.below hb')).mono ?_
   rintro e w3 ⟨rfl, hb3⟩
   exact ⟨_, rfl, hb3, rfl⟩
  ·(refine owes_val (L := [(5, true), (9, true), (11, true)]) rfl rfl rfl (by kernel_rfl) ?_; intro a' w' hb' hfacts; obtain ⟨hf5, hf9, hf11, -⟩ := hfacts; try simp only [VMo0] at hf5; try simp only [VMo0] at hf9; try simp only [VMo0] at hf11)
   go_simp
   refine (kept_in k i.lim s _ (tabs_below HTb.out hb') hl hs).mono ?_
   rintro e w3 ⟨p, rfl, hI, hb3⟩
   exact ⟨_, rfl, hb3, p, rfl, hI.mono (fun j _ hj => Nat.le_trans hb'.size hj)⟩
  ·(refine owes_val (L := [(4, true)]) rfl rfl rfl (by kernel_rfl) ?_; intro a' w' hb' hfacts; obtain ⟨hf4, -⟩ := hfacts; try simp only [VMo0] at hf4)
   have p4 := ((H1.out.below hb').lies.2 4 _ rfl).1
   (go_simp; first | exact ⟨_, rfl, Br _, rfl⟩ | exact ⟨_, rfl, Br _, trivial⟩ | exact ⟨_, rfl, Ba _ _, trivial⟩ | exact ⟨_, rfl, Br _, congrArg (Value.int _) (IntWalk.i64_in _ (by omega))⟩)
  ·(refine owes_val (L := [(13, true)]) rfl rfl rfl (by kernel_rfl) ?_; intro a' w' hb' hfacts; obtain ⟨hf13, -⟩ := hfacts; try simp only [VMo0] at hf13)
   have p4 := ((H1.out.below hb').lies.2 4 _ rfl).1
   (go_simp; first | exact ⟨_, rfl, Br _, rfl⟩ | exact ⟨_, rfl, Br _, trivial⟩ | exact ⟨_, rfl, Ba _ _, trivial⟩ | exact ⟨_, rfl, Br _, congrArg (Value.int _) (IntWalk.i64_in _ (by omega))⟩)
 ·intro f W2 hf hb
  have e14 : f 14 = .pointer (some ⟨b, 0, none⟩) := hf 14 (by decide)
  obtain ⟨p, e12, hI⟩ := hf 12 (by decide)
  have hB := H1.out.below hb
  obtain ⟨q0, f0⟩ := hB.lies.2 0 _ rfl
  have hbl := hB.lies.1
  have hc : Chg (fun j => j = b) W2 (W2.setCell ⟨b, 0, none⟩ (.iface (typeK k) (ptr p))) := Chg.set W2 ⟨b, 0, none⟩ _
  have hE : StoreIn (W2.setCell ⟨b, 0, none⟩ (.iface (typeK k) (ptr p))) b i (typeK k) s (fun j => S j ∨ W.heap.size ≤ j) ∧ Chg (fun j => j = b) W (W2.setCell ⟨b, 0, none⟩ (.iface (typeK k) (ptr p))) :=
   ⟨⟨.inl hSb, p, hB.set 0 (.iface (typeK k) (ptr p)), (StoreIn.set hB hI hc).mono (fun j _ hj => .inr hj)⟩, (Chg.of_below hb).trans hc (fun _ _ h => h)⟩
  have HE := Lib.hid hE
  clear hf hb hB hc hE hI HH HTb H1
  simp only [putAll, put_lit, List.map_cons, List.map_nil, List.set_cons_succ, List.set_cons_zero]
  simp only [e14, e12]
  clear e14 e12
  dsimp only [List.drop]
  unfold ptr at *
  go_wp2
  go_end0
  exact ⟨rfl, HE.out⟩
end Go.Proofs.YtfchglcclgcgfaaGreatDoor.Ut
/-
 store: edited, Replace. Condition: the two tables of unicode/utf8 lie as laid.
-/
namespace Go.Proofs.YtfchglcclgcgfaaGreatDoor.Ut
open Go.RowKit Go.Proofs.YtfchglcclgcgfaaGreatDoor.Reg
set_option linter.unusedVariables false
set_option linter.unusedSimpArgs false

def edT (i : Stt) (T : TypeId) (n : Nat) : TypeId := if i.kind = 3 ∧ T ≠ 148 ∧ i.top ≤ n then 148 else if i.kind = 3 ∧ T = 148 ∧ (n : Int) ≤ i.low then 30 else T
def edI (i : Stt) (T : TypeId) (n : Nat) (z : Int) : Stt := { i with edited := IntKind.i64.wrap (i.edited + z), moves := if edT i T n = T then i.moves else IntKind.i64.wrap (i.moves + 1) }
theorem StoreIn.inner {W : World} {b : Nat} {i : Stt} {T : TypeId} {s : ByteArray} {S : Nat → Prop} (h : StoreIn W b i T s S) : T = 30 ∨ T = 148 := by
 obtain ⟨-, p, -, -, h⟩ := h; exact h.imp (fun h => h.1) (fun h => h.1)
/-- A number of the store is written. -/
theorem StoreIn.put {W : World} {b : Nat} {i i' : Stt} {T : TypeId} {s : ByteArray} {S : Nat → Prop} (h : StoreIn W b i T s S) (k : Nat) (v : Value) (hi : ∀ p, (i.vals T p).set k v = i'.vals T p) (hl : i'.lim = i.lim) :
  StoreIn (W.setCell ⟨b, k, none⟩ v) b i' T s S ∧ Chg (fun j => j = b) W (W.setCell ⟨b, k, none⟩ v) := by
 obtain ⟨h0, p, h1, h2⟩ := h
 have hc : Chg (fun j => j = b) W (W.setCell ⟨b, k, none⟩ v) := Chg.set W ⟨b, k, none⟩ _
 refine ⟨⟨h0, p, ?_, ?_⟩, hc⟩
 ·rw [← hi p]; exact h1.set k v
 ·rw [hl]; exact StoreIn.set h1 h2 hc
/-- No table of unicode/utf8 lies in a block of S. -/
def NoTab (S : Nat → Prop) : Prop := ¬ S 0 ∧ ¬ S 1
theorem tabs_lt {w : World} (h : Tabs w) : 0 < w.heap.size ∧ 1 < w.heap.size :=
 ⟨World.block_lt_of_cell? w _ (h.1 0 (by decide)), World.block_lt_of_cell? w _ (h.2 0 (by decide)).1⟩
theorem tabs_chg {S : Nat → Prop} {w w' : World} (h : Tabs w) (hS : NoTab S) (hc : Chg S w w') : Tabs w' := by
 obtain ⟨l1, l2⟩ := tabs_lt h
 refine ⟨fun c hc' => ?_, fun i hi => ⟨?_, ?_⟩⟩
 ·exact (World.cell?_of_block (w := w) (a := ⟨0, c, none⟩) (hc.block _ l1 hS.1)).trans (h.1 c hc')
 ·exact (World.cell?_of_block (w := w) (a := ⟨1, 2 * i, none⟩) (hc.block _ l2 hS.2)).trans (h.2 i hi).1
 ·exact (World.cell?_of_block (w := w) (a := ⟨1, 2 * i + 1, none⟩) (hc.block _ l2 hS.2)).trans (h.2 i hi).2
theorem NoTab.one {S : Nat → Prop} (h : NoTab S) {b : Nat} (hb : S b) : NoTab (fun k => k = b) := ⟨fun e => h.1 (by rw [e]; exact hb), fun e => h.2 (by rw [e]; exact hb)⟩
theorem NoTab.new {S : Nat → Prop} (h : NoTab S) {w : World} (hT : Tabs w) : NoTab (fun k => S k ∨ w.heap.size ≤ k) := by
 obtain ⟨l1, l2⟩ := tabs_lt hT
 exact ⟨fun e => e.elim h.1 (by omega), fun e => e.elim h.2 (by omega)⟩
theorem edT_other {i : Stt} {T : TypeId} {n : Nat} (h : i.kind ≠ 3) : edT i T n = T := by unfold edT; rw [if_neg (fun x => h x.1), if_neg (fun x => h x.1)]
set_option maxRecDepth 100000 in
set_option maxHeartbeats 2000000 in
theorem edited_in {W : World} {b : Nat} {i : Stt} {T : TypeId} {s : ByteArray} {S : Nat → Prop} (hT : Tabs W) (hN : NoTab S) (h : StoreIn W b i T s S) (hs : s.size ≤ i.lim) (hl : i.lim ≤ 1073741824) (z : Int) :
  Calls Tryz.prog 106 #[.pointer (some ⟨b, 0, none⟩), .int .i64 z] W fun e w' => e = .returned (.tuple #[]) ∧ StoreIn w' b (edI i T s.size z) (edT i T s.size) s (fun j => S j ∨ W.heap.size ≤ j) ∧ Chg (fun j => j = b) W w' := by
 have HI := Lib.hid h
 have hTT := h.inner
 have hNb := hN.one h.1
 obtain ⟨-, p0, h1, -⟩ := h
 obtain ⟨q7, f7⟩ := h1.lies.2 7 _ rfl
 have hbl := h1.lies.1
 obtain ⟨E, hE⟩ : ∃ E, IntKind.i64.wrap (i.edited + z) = E := ⟨_, rfl⟩
 have HEE := Lib.hid hE
 obtain ⟨T', hT'⟩ : ∃ T', edT i T s.size = T' := ⟨_, rfl⟩
 obtain ⟨i', hi'⟩ : ∃ i', edI i T s.size z = i' := ⟨_, rfl⟩
 rw [hT', hi']
 have HT' := Lib.hid hT'
 have Hi' := Lib.hid hi'
 clear h1 hT' hi'
 go_enter Tryz.func106, Tryz.ntmps106
 go_upto_region 2 with fail
 obtain ⟨k1, k2⟩ := HI.out.put 7 (.int .i64 E) (i' := { i with edited := E }) (fun _ => rfl) rfl
 have HK := Lib.hid k1
 have HC := Lib.hid k2
 have HT1 := Lib.hid (tabs_chg hT hNb k2)
 generalize W.setCell ⟨b, 7, none⟩ (.int .i64 E) = w1 at *
 clear k1 k2 HI q7 f7 hbl hT hE
 go_wp2_with fail
 refine (StKind_in HK.out).mono ?_
 rintro e w2 ⟨rfl, rfl⟩
 by_cases hk : i.kind = 3
 ·have HHas := Lib.hid (HK.out.has HT1.out (by show s.size ≤ 1073741824; omega))
  go_wp2_with fail
  refine (HHas.out.len w2 (Below.refl _ _)).mono ?_
  rintro e w3 ⟨rfl, hb⟩
  have HK3 := Lib.hid (HK.out.below hb)
  have HC3 := Lib.hid (HC.out.then_below hb)
  have HT3 := Lib.hid (tabs_below HT1.out hb)
  clear HHas HK HC HT1 hb
  go_wp2_with fail
  refine (StBackend_in HK3.out).mono ?_
  rintro e w4 ⟨rfl, rfl⟩
  obtain ⟨q2, q3⟩ : w4.cell? ⟨b, 2, none⟩ = some (.int .i64 i.low) ∧ w4.cell? ⟨b, 3, none⟩ = some (.int .i64 i.top) := by
   obtain ⟨-, p, h1, -⟩ := HK3.out
   exact ⟨(h1.lies.2 2 _ rfl).1, (h1.lies.2 3 _ rfl).1⟩
  have hsz := HC3.out.size
  have hMv := Lib.hid (fun k => StMove_in HT3.out HK3.out hs hl k)
  rcases hTT with rfl | rfl
  ·have hb1 : backT 30 = 1 := rfl
   rw [hb1]
   by_cases hc : i.top ≤ s.size
   ·have hed : edT i 30 s.size = 148 := by unfold edT; rw [if_pos ⟨hk, by decide, hc⟩]
    go_wp2_with fail
    refine (hMv.out 2).mono ?_
    rintro e w5 ⟨rfl, hS5, hC5⟩
    have hk2 : typeK 2 = 148 := rfl
    rw [hk2] at hS5
    obtain ⟨m0, fm⟩ : w5.cell? ⟨b, 5, none⟩ = some (.int .i64 i.moves) ∧ w5.frozen? ⟨b, 5, none⟩ = false := by
     obtain ⟨-, p, h1, -⟩ := hS5
     exact h1.lies.2 5 _ rfl
    have hbl5 := hS5.lt
    obtain ⟨M, hM⟩ : ∃ M, IntKind.i64.wrap (i.moves + 1) = M := ⟨_, rfl⟩
    obtain ⟨k1, k2⟩ := hS5.put 5 (.int .i64 M) (i' := { i with edited := E, moves := M }) (fun _ => rfl) rfl
    have HE : Hid (StoreIn (w5.setCell ⟨b, 5, none⟩ (.int .i64 M)) b i' T' s (fun j => S j ∨ W.heap.size ≤ j) ∧ Chg (fun j => j = b) W (w5.setCell ⟨b, 5, none⟩ (.int .i64 M))) := by
     refine ⟨?_, (HC3.out.trans hC5 (fun _ _ h => h)).trans k2 (fun _ _ h => h)⟩
     rw [← Hi'.out, ← HT'.out]
     unfold edI
     rw [hed, if_neg (by decide), HEE.out, hM]
     exact k1.mono (fun j _ hj => hj.imp (fun h => h) (fun h => by omega))
    clear hS5 hC5 k1 k2 hMv HK3 HC3 HT3 q2 q3 hc hb1 hed HEE HT' Hi' hk hk2
    go_wp2
    go_end0
    exact ⟨rfl, HE.out⟩
   ·have hc' : ¬ i.top ≤ (s.size : Int) := hc
    have hed : edT i 30 s.size = 30 := by unfold edT; rw [if_neg (fun x => hc x.2.2), if_neg (fun x => absurd x.2.1 (by decide))]
    have HE : Hid (StoreIn w4 b i' T' s (fun j => S j ∨ W.heap.size ≤ j)) := by
     rw [← Hi'.out, ← HT'.out]
     unfold edI
     rw [hed, if_pos rfl, HEE.out]; exact HK3.out.mono (fun j _ hj => .inl hj)
    clear hMv hed HEE HT' Hi' q2
    go_wp2_with fail
    refine (StBackend_in HK3.out).mono ?_
    rintro e w5 ⟨rfl, rfl⟩
    rw [hb1]
    go_wp2
    go_end0
    exact ⟨rfl, HE.out, HC3.out⟩
  ·have hb1 : backT 148 = 2 := rfl
   rw [hb1]
   go_wp2_with fail
   refine (StBackend_in HK3.out).mono ?_
   rintro e w5 ⟨rfl, rfl⟩
   rw [hb1]
   by_cases hc : (s.size : Int) ≤ i.low
   ·have hed : edT i 148 s.size = 30 := by unfold edT; rw [if_neg (fun x => absurd rfl x.2.1), if_pos ⟨hk, rfl, hc⟩]
    go_wp2_with fail
    refine (hMv.out 1).mono ?_
    rintro e w6 ⟨rfl, hS5, hC5⟩
    have hk2 : typeK 1 = 30 := rfl
    rw [hk2] at hS5
    obtain ⟨m0, fm⟩ : w6.cell? ⟨b, 5, none⟩ = some (.int .i64 i.moves) ∧ w6.frozen? ⟨b, 5, none⟩ = false := by
     obtain ⟨-, p, h1, -⟩ := hS5
     exact h1.lies.2 5 _ rfl
    have hbl5 := hS5.lt
    obtain ⟨M, hM⟩ : ∃ M, IntKind.i64.wrap (i.moves + 1) = M := ⟨_, rfl⟩
    obtain ⟨k1, k2⟩ := hS5.put 5 (.int .i64 M) (i' := { i with edited := E, moves := M }) (fun _ => rfl) rfl
    have HE : Hid (StoreIn (w6.setCell ⟨b, 5, none⟩ (.int .i64 M)) b i' T' s (fun j => S j ∨ W.heap.size ≤ j) ∧ Chg (fun j => j = b) W (w6.setCell ⟨b, 5, none⟩ (.int .i64 M))) := by
     refine ⟨?_, (HC3.out.trans hC5 (fun _ _ h => h)).trans k2 (fun _ _ h => h)⟩
     rw [← Hi'.out, ← HT'.out]
     unfold edI
     rw [hed, if_neg (by decide), HEE.out, hM]
     exact k1.mono (fun j _ hj => hj.imp (fun h => h) (fun h => by omega))
    clear hS5 hC5 k1 k2 hMv HK3 HC3 HT3 q2 q3 hc hb1 hed HEE HT' Hi' hk hk2
    go_wp2
    go_end0
    exact ⟨rfl, HE.out⟩
   ·have hed : edT i 148 s.size = 148 := by unfold edT; rw [if_neg (fun x => absurd rfl x.2.1), if_neg (fun x => hc x.2.2)]
    have HE : Hid (StoreIn w5 b i' T' s (fun j => S j ∨ W.heap.size ≤ j)) := by
     rw [← Hi'.out, ← HT'.out]
     unfold edI
     rw [hed, if_pos rfl, HEE.out]; exact HK3.out.mono (fun j _ hj => .inl hj)
    clear hMv hed HEE HT' Hi' q3
    go_wp2
    go_end0
    exact ⟨rfl, HE.out, HC3.out⟩
 ·have HE : Hid (StoreIn w2 b i' T' s (fun j => S j ∨ W.heap.size ≤ j)) := by
   have he := edT_other (T := T) (n := s.size) hk
   rw [← Hi'.out, ← HT'.out]
   unfold edI
   rw [he, if_pos rfl, HEE.out]; exact HK.out.mono (fun j _ hj => .inl hj)
  have hk1 : (i.kind == 3) = false := by simpa using hk
  clear HK HT1 HT' Hi'
  go_wp2
  refine bodyPost_ret (v := .tuple #[]) (by simp [results, Tryz.results106, go_sem]) rfl ⟨rfl, HE.out, HC.out⟩
theorem repl_sizeR {s : ByteArray} {a c : Nat} {p : ByteArray} (h : a + c ≤ s.size) : (repl s a c p).size = s.size - c + p.size := repT_size h
/-- The inner text is another, in blocks of S. -/
theorem InnerIn.replace {W : World} {T : TypeId} {p lim : Nat} {s : ByteArray} {S : Nat → Prop} (h : InnerIn W T p lim s S) (hT : Tabs W) (hs : s.size ≤ lim) (hl : lim ≤ 1073741824) (a c : Nat) (u : ByteArray) (hac : a + c ≤ s.size) (hp : s.size - c + u.size ≤ lim) :
  ∃ f : Nat, ((T = 30 ∧ f = 233) ∨ (T = 148 ∧ f = 243)) ∧
   Calls Tryz.prog f #[ptr p, .int .i64 a, .int .i64 c, .string u] W fun e w' => e = .returned (.tuple #[.string (s.extract a (a + c)), .int .i64 0]) ∧ InnerIn w' T p lim (repl s a c u) (fun j => S j ∨ W.heap.size ≤ j) ∧ (∃ R : Nat → Prop, Chg R W w' ∧ (∀ k, R k → S k) ∧ ∀ k vs, R k → ¬ Blk W k 66 vs) := by
 rcases h with ⟨h0, ⟨rfl, g, r, fr, tv, h1, h2, h3⟩ | ⟨rfl, h1⟩⟩
 ·refine ⟨_, .inl ⟨rfl, rfl⟩, (GapReplace_any p g r fr tv lim a c u s W h1 h2 hs hl hac hp).mono ?_⟩
  rintro e w' ⟨rfl, ⟨g', r', fr', tv', k1, k2, k3⟩, hc⟩
  refine ⟨rfl, ⟨.inl h0, .inl ⟨rfl, g', r', fr', tv', k1, k2, k3.imp (fun e => by rw [e]; exact h3) (fun h => h)⟩⟩, _, hc, fun k hk => hk.elim (fun e => by rw [e]; exact h0) (fun e => by rw [e]; exact h3), fun k vs hk hb => ?_⟩
  rcases hk with rfl | rfl
  ·exact absurd (h1.box.same hb) (by decide)
  ·have := h1.row
   unfold Blk at hb
   rw [this] at hb
   simp at hb
 ·refine ⟨_, .inr ⟨rfl, rfl⟩, (ropedReplace_any p lim s a c u W hT h1 hs hl hac hp).mono ?_⟩
  rintro e w' ⟨rfl, hr, hc⟩
  refine ⟨rfl, ⟨.inl h0, .inr ⟨rfl, hr⟩⟩, _, hc, fun k hk => by rw [hk]; exact h0, fun k vs hk hb => ?_⟩
  subst hk
  obtain ⟨rb, h2, -⟩ := h1
  exact absurd (h2.same hb) (by decide)
set_option maxRecDepth 100000 in
set_option maxHeartbeats 2000000 in
theorem StReplace_in {W : World} {b : Nat} {i : Stt} {T : TypeId} {s : ByteArray} {S : Nat → Prop} (hT : Tabs W) (hN : NoTab S) (h : StoreIn W b i T s S) (hs : s.size ≤ i.lim) (hl : i.lim ≤ 1073741824) (a c : Nat) (p : ByteArray) (hac : a + c ≤ s.size) (hp : s.size - c + p.size ≤ i.lim) :
  Calls Tryz.prog 57 #[.pointer (some ⟨b, 0, none⟩), .int .i64 a, .int .i64 c, .string p] W fun e w' => e = .returned (.tuple #[.string (s.extract a (a + c)), .int .i64 0]) ∧
   StoreIn w' b (edI i T (repl s a c p).size ((c : Int) + p.size)) (edT i T (repl s a c p).size) (repl s a c p) (fun j => S j ∨ W.heap.size ≤ j) ∧ Chg S W w' := by
 have hSb := h.1
 have hrs := repl_sizeR (p := p) hac
 have e5 : IntKind.i64.wrap ((c : Int) + (p.size : Int)) = (c : Int) + (p.size : Int) := IntWalk.i64_in _ (by omega)
 obtain ⟨q, h1, h2⟩ := h.2
 have HL := Lib.hid h1.lies
 obtain ⟨f, hf, hR⟩ := h2.replace hT hs hl a c p hac hp
 have HR := Lib.hid hR
 have HB1 := Lib.hid h1
 have hED : Hid (∀ w1 : World, Tabs w1 → NoTab (fun j => S j ∨ W.heap.size ≤ j) → StoreIn w1 b i T (repl s a c p) (fun j => S j ∨ W.heap.size ≤ j) → _) := fun w1 hT hN h => edited_in hT hN h (by rw [hrs]; exact hp) hl ((c : Int) + p.size)
 have HT := Lib.hid hT
 have HN := Lib.hid hN
 obtain ⟨O, hO⟩ : ∃ O, s.extract a (a + c) = O := ⟨_, rfl⟩
 rw [hO] at HR ⊢
 obtain ⟨Y, hY⟩ : ∃ Y, repl s a c p = Y := ⟨_, rfl⟩
 rw [hY] at HR hED ⊢
 clear h h1 h2 hR hrs hT hN hO hY hp hac
 unfold Stt.vals ptr at HL
 unfold ptr at HR
 rcases hf with ⟨rfl, rfl⟩ | ⟨rfl, rfl⟩
 all_goals
  go_enter Tryz.func57, Tryz.ntmps57
  go_wp2_with fail
  refine (under_any b _ _ _ W HL.out).mono ?_
  rintro e w1 ⟨rfl, rfl⟩
  go_wp2_with fail
  refine HR.out.mono ?_
  rintro e w2 ⟨rfl, hI, R, hC, hRS, hRb⟩
  have hB2 := HB1.out.chg hC (fun hr => hRb _ _ hr HB1.out)
  have hS2 : StoreIn w2 b i _ Y (fun j => S j ∨ w1.heap.size ≤ j) := ⟨.inl hSb, q, hB2, hI⟩
  have hCS := hC.mono hRS
  have HE2 := Lib.hid (hED.out w2 (tabs_chg HT.out HN.out hCS) (HN.out.new HT.out) hS2)
  have HC2 := Lib.hid hCS
  have hsz := hCS.size
  clear hI hC hRS hRb hB2 hS2 hCS hED HR HB1 HL
  go_wp2_with fail
  refine HE2.out.mono ?_
  rintro e w3 ⟨rfl, hS3, hC3⟩
  have HS3 := Lib.hid (hS3.mono (S' := fun j => S j ∨ w1.heap.size ≤ j) (fun j _ hj => hj.elim (fun h => h) (fun h => .inr (by omega))))
  have HC3 := Lib.hid (HC2.out.trans hC3 (fun x _ hx => by rw [hx]; exact hSb))
  clear hS3 hC3 HE2 HC2 e5
  go_wp2
  refine bodyPost_ret (v := .tuple #[.string O, .int .i64 0]) (by simp [results, Tryz.results57, go_sem]) rfl ⟨rfl, HS3.out, HC3.out⟩
end Go.Proofs.YtfchglcclgcgfaaGreatDoor.Ut
/-
 store.New: what it makes, told whole. Condition: the two tables of unicode/utf8 lie as laid.
-/
namespace Go.Proofs.YtfchglcclgcgfaaGreatDoor.Ut
open Go.RowKit Go.Proofs.YtfchglcclgcgfaaGreatDoor.Reg
set_option linter.unusedVariables false
set_option linter.unusedSimpArgs false

def newI (k lo hi : Int) (n : Nat) : Stt := ⟨if k = 1 then 1 else if k = 2 then 2 else 3, min (max lo 0) 1073741824, max hi (min (max lo 0) 1073741824 + 1), n, 0, 0, 0⟩
open Classical in
noncomputable def newT (k lo hi : Int) (s : ByteArray) : TypeId := if ropeKind k (max hi (min (max lo 0) 1073741824 + 1)) s then 148 else 30
theorem StNewM_in (k lo hi m : Int) (n : Nat) (s : ByteArray) (w : World) (hT : Tabs w) (hm : min (max m 0) 1073741824 = (n : Int)) (hn : n ≤ 1073741824) (hs : s.size ≤ n) :
  Calls Tryz.prog 22 #[.int .i64 k, .int .i64 lo, .int .i64 hi, .int .i64 m, .string s] w fun e w' => ∃ b, e = .returned (.tuple #[ptr b, .int .i64 0]) ∧ StoreIn w' b (newI k lo hi n) (newT k lo hi s) s (fun j => w.heap.size ≤ j) ∧ Below w.heap.size w w' := by
 by_cases hk : gapKind k (max hi (min (max lo 0) 1073741824 + 1)) s
 ·have hr : ¬ ropeKind k (max hi (min (max lo 0) 1073741824 + 1)) s := by unfold ropeKind; unfold gapKind at hk; omega
  have hk2 : (if k = 1 then (1 : Int) else if k = 2 then 2 else 3) = if k = 1 then 1 else 3 := by unfold gapKind at hk; split; rfl; rw [if_neg (by omega)]
  refine (StNewM_gap k lo hi m n s w hT hm hn hs hk).mono ?_
  rintro e w' ⟨b, rfl, gb, h1, ⟨g, r, fr, tv, h2, h3, h6, h7⟩, h4, h5⟩
  refine ⟨b, rfl, ⟨h4, gb, ?_, ?_⟩, h5⟩
  ·unfold Stt.vals newI newT
   simp only
   rw [if_neg hr, hk2]; exact h1
  ·unfold newT
   rw [if_neg hr]
   exact ⟨h6, .inl ⟨rfl, g, r, fr, tv, h2, h3, h7⟩⟩
 ·have hk' : ropeKind k (max hi (min (max lo 0) 1073741824 + 1)) s := by
   unfold gapKind at hk
   unfold ropeKind
   omega
  have hk2 : (if k = 1 then (1 : Int) else if k = 2 then 2 else 3) = if k = 2 then 2 else 3 := by unfold ropeKind at hk'; rw [if_neg (by omega)]
  refine (StNewM_rope k lo hi m n s w hT hm hn hs hk').mono ?_
  rintro e w' ⟨b, rfl, gb, h1, h2, h3, h4, h5⟩
  refine ⟨b, rfl, ⟨h4, gb, ?_, ?_⟩, h5⟩
  ·unfold Stt.vals newI newT
   simp only
   rw [if_pos hk', hk2]; exact h1
  ·unfold newT
   rw [if_pos hk']
   exact ⟨h3, .inr ⟨rfl, h2⟩⟩
theorem StNew_in (k lo hi : Int) (n : Nat) (s : ByteArray) (w : World) (hT : Tabs w) (hn : n ≤ 1073741824) (hs : s.size ≤ n) :
  Calls Tryz.prog 22 #[.int .i64 k, .int .i64 lo, .int .i64 hi, .int .i64 n, .string s] w fun e w' => ∃ b, e = .returned (.tuple #[ptr b, .int .i64 0]) ∧ StoreIn w' b (newI k lo hi n) (newT k lo hi s) s (fun j => w.heap.size ≤ j) ∧ Below w.heap.size w w' :=
 StNewM_in k lo hi n n s w hT (by omega) hn hs
end Go.Proofs.YtfchglcclgcgfaaGreatDoor.Ut
/-
 Package gap: Replace, where it is refused. No condition.
-/
namespace Go.Proofs.YtfchglcclgcgfaaGreatDoor.Ut
open Go.RowKit Go.Proofs.YtfchglcclgcgfaaGreatDoor.Reg
set_option linter.unusedVariables false
set_option linter.unusedSimpArgs false

/-- Why a call of Replace is refused: 1, out of range; 2, full; 0: it is not. -/
def repE (n lim : Nat) (a c : Int) (p : Nat) : Int := if a < 0 ∨ c < 0 ∨ (n : Int) < a ∨ (n : Int) - a < c then 1 else if (lim : Int) - ((n : Int) - c) < p then 2 else 0
set_option maxRecDepth 100000 in
set_option maxHeartbeats 2000000 in
theorem GapReplace_bad (b g : Nat) (r : ByteArray) (fr tv lim : Nat) (a c : Int) (p s : ByteArray) (w : World) (h : Gap w b g r fr tv lim) (ht : gtext r fr tv = s) (hs : s.size ≤ 1073741824) (hl : lim ≤ 1073741824) (he : repE s.size lim a c p.size ≠ 0) :
  Calls Tryz.prog 233 #[.pointer (some ⟨b, 0, none⟩), .int .i64 a, .int .i64 c, .string p] w fun e w' => e = .returned (.tuple #[.string ⟨#[]⟩, .int .i64 (repE s.size lim a c p.size)]) ∧ Below w.heap.size w w' := by
 have KL := GapLen_any b g r fr tv lim w h
 rw [ht] at KL
 have KLL := Lib.hid KL
 have HG := Lib.hid h
 generalize s.size = N at *
 generalize hP : p.size = Z at *
 clear KL h ht
 by_cases hr : a < 0 ∨ c < 0 ∨ (N : Int) < a ∨ (N : Int) - a < c
 ·have e1 : repE N lim a c Z = 1 := by unfold repE; rw [if_pos hr]
  rw [e1]
  have hcs : a < 0 ∨ (¬ a < 0 ∧ c < 0) ∨ (¬ a < 0 ∧ ¬ c < 0 ∧ (N : Int) < a) ∨ (¬ a < 0 ∧ ¬ c < 0 ∧ ¬ (N : Int) < a ∧ IntKind.i64.wrap ((N : Int) - a) = (N : Int) - a ∧ (N : Int) - a < c) := by
   rcases Int.lt_or_le a 0 with h | h
   ·exact .inl h
   ·rcases Int.lt_or_le c 0 with h1 | h1
    ·exact .inr (.inl ⟨by omega, h1⟩)
    ·rcases Int.lt_or_le (N : Int) a with h2 | h2
     ·exact .inr (.inr (.inl ⟨by omega, by omega, h2⟩))
     ·exact .inr (.inr (.inr ⟨by omega, by omega, by omega, IntWalk.i64_in _ (by omega), by omega⟩))
  clear hr e1 he
  rcases hcs with h1 | ⟨h1, h2⟩ | ⟨h1, h2, h3⟩ | ⟨h1, h2, h3, h4, h5⟩
  all_goals
   go_enter Tryz.func233, Tryz.ntmps233
   go_wp2_with fail
   refine KLL.out.mono ?_
   rintro e w1 ⟨rfl, hb⟩
   have HB := Lib.hid hb
   clear hb
   go_wp2
   refine bodyPost_ret (v := .tuple #[.string ⟨#[]⟩, .int .i64 1]) (by simp [results, Tryz.results233, go_sem]) rfl ⟨rfl, HB.out⟩
 ·have hq : (lim : Int) - ((N : Int) - c) < Z := by
   unfold repE at he
   rw [if_neg hr] at he
   by_cases h : (lim : Int) - ((N : Int) - c) < Z
   ·exact h
   ·rw [if_neg h] at he; exact absurd rfl he
  have e1 : repE N lim a c Z = 2 := by unfold repE; rw [if_neg hr, if_pos hq]
  rw [e1]
  have h1 : ¬ a < 0 := by omega
  have h2 : ¬ c < 0 := by omega
  have h3 : ¬ (N : Int) < a := by omega
  have h4 : IntKind.i64.wrap ((N : Int) - a) = (N : Int) - a := IntWalk.i64_in _ (by omega)
  have h5 : ¬ (N : Int) - a < c := by omega
  have h6 : IntKind.i64.wrap ((N : Int) - c) = (N : Int) - c := IntWalk.i64_in _ (by omega)
  have h7 : IntKind.i64.wrap ((lim : Int) - ((N : Int) - c)) = (lim : Int) - ((N : Int) - c) := IntWalk.i64_in _ (by omega)
  clear hr e1 he
  go_enter Tryz.func233, Tryz.ntmps233
  go_wp2_with fail
  refine KLL.out.mono ?_
  rintro e w1 ⟨rfl, hb⟩
  have HG1 := Lib.hid (HG.out.below hb)
  have HB := Lib.hid hb
  clear hb
  go_wp2_with fail
  refine (GapLimit_any b g r fr tv lim w1 HG1.out).mono ?_
  rintro e w2 ⟨rfl, rfl⟩
  go_wp2
  refine bodyPost_ret (v := .tuple #[.string ⟨#[]⟩, .int .i64 2]) (by simp [results, Tryz.results233, go_sem]) rfl ⟨rfl, HB.out⟩
end Go.Proofs.YtfchglcclgcgfaaGreatDoor.Ut
/-
 rope and store.roped: Replace, where it is refused. No condition.
-/
namespace Go.Proofs.YtfchglcclgcgfaaGreatDoor.Ut
open Go.RowKit Go.Proofs.YtfchglcclgcgfaaGreatDoor.Reg
set_option linter.unusedVariables false
set_option linter.unusedSimpArgs false

/-- The four ways to be out of range. -/
theorem out_cases {N : Nat} {a c : Int} (hN : N ≤ 1073741824) (hr : a < 0 ∨ c < 0 ∨ (N : Int) < a ∨ (N : Int) - a < c) : a < 0 ∨ (¬ a < 0 ∧ c < 0) ∨ (¬ a < 0 ∧ ¬ c < 0 ∧ (N : Int) < a) ∨ (¬ a < 0 ∧ ¬ c < 0 ∧ ¬ (N : Int) < a ∧ IntKind.i64.wrap ((N : Int) - a) = (N : Int) - a ∧ (N : Int) - a < c) := by
 rcases Int.lt_or_le a 0 with h | h
 ·exact .inl h
 ·rcases Int.lt_or_le c 0 with h1 | h1
  ·exact .inr (.inl ⟨by omega, h1⟩)
  ·rcases Int.lt_or_le (N : Int) a with h2 | h2
   ·exact .inr (.inr (.inl ⟨by omega, by omega, h2⟩))
   ·exact .inr (.inr (.inr ⟨by omega, by omega, by omega, IntWalk.i64_in _ (by omega), by omega⟩))
set_option maxRecDepth 100000 in
set_option maxHeartbeats 2000000 in
theorem RopeReplace_bad (b : Nat) (s : ByteArray) (a c : Int) (p : ByteArray) (w : World) (h : RopeOf w b s) (hs : s.size ≤ 1073741824) (hr : a < 0 ∨ c < 0 ∨ (s.size : Int) < a ∨ (s.size : Int) - a < c) :
  Calls Tryz.prog 247 #[ptr b, .int .i64 a, .int .i64 c, .string p] w fun e w' => e = .returned (.tuple #[.pointer none, .string ⟨#[]⟩, .int .i64 1]) ∧ Below w.heap.size w w' := by
 obtain ⟨t, hR, htx, -⟩ := h
 have hcs := out_cases hs hr
 have HLen := Lib.hid (fun W hW => RopeLen_any b t W hW)
 rw [htx] at HLen
 have HR := Lib.hid hR
 generalize s.size = N at *
 clear hr htx hR
 unfold ptr at *
 rcases hcs with h1 | ⟨h1, h2⟩ | ⟨h1, h2, h3⟩ | ⟨h1, h2, h3, h4, h5⟩
 ·go_enter Tryz.func247, Tryz.ntmps247
  go_wp2_with (refine (HLen.out _ HR.out).mono ?_; rintro e w1 ⟨rfl, rfl⟩)
  refine bodyPost_ret (v := .tuple #[.pointer none, .string ⟨#[]⟩, .int .i64 1]) (by simp [results, Tryz.results247, go_sem]) rfl ⟨rfl, Below.refl _ _⟩
 ·go_enter Tryz.func247, Tryz.ntmps247
  go_wp2_with (refine (HLen.out _ HR.out).mono ?_; rintro e w1 ⟨rfl, rfl⟩)
  refine bodyPost_ret (v := .tuple #[.pointer none, .string ⟨#[]⟩, .int .i64 1]) (by simp [results, Tryz.results247, go_sem]) rfl ⟨rfl, Below.refl _ _⟩
 ·go_enter Tryz.func247, Tryz.ntmps247
  go_wp2_with (refine (HLen.out _ HR.out).mono ?_; rintro e w1 ⟨rfl, rfl⟩)
  refine bodyPost_ret (v := .tuple #[.pointer none, .string ⟨#[]⟩, .int .i64 1]) (by simp [results, Tryz.results247, go_sem]) rfl ⟨rfl, Below.refl _ _⟩
 ·go_enter Tryz.func247, Tryz.ntmps247
  go_wp2_with (refine (HLen.out _ HR.out).mono ?_; rintro e w1 ⟨rfl, rfl⟩)
  refine bodyPost_ret (v := .tuple #[.pointer none, .string ⟨#[]⟩, .int .i64 1]) (by simp [results, Tryz.results247, go_sem]) rfl ⟨rfl, Below.refl _ _⟩
set_option maxRecDepth 100000 in
set_option maxHeartbeats 2000000 in
theorem ropedReplace_bad (b lim : Nat) (s : ByteArray) (a c : Int) (p : ByteArray) (w : World) (h : IsRoped w b lim s) (hs : s.size ≤ 1073741824) (hl : lim ≤ 1073741824) (he : repE s.size lim a c p.size ≠ 0) :
  Calls Tryz.prog 243 #[ptr b, .int .i64 a, .int .i64 c, .string p] w fun e w' => e = .returned (.tuple #[.string ⟨#[]⟩, .int .i64 (repE s.size lim a c p.size)]) ∧ Below w.heap.size w w' := by
 obtain ⟨rb, h1, h2⟩ := h
 have HBad := Lib.hid (fun hr => RopeReplace_bad rb s a c p w h2 hs hr)
 obtain ⟨t, hR, htx, hg⟩ := h2
 have HL := RopeLen_any rb t w hR
 rw [htx] at HL
 have HLL := Lib.hid HL
 have c0 := (h1.lies.2 0 _ rfl).1
 have c1 := (h1.lies.2 1 _ rfl).1
 have hbl := h1.lies.1
 generalize hP : p.size = Z at *
 generalize s.size = N at *
 clear h1 hR htx hg HL
 unfold ptr at *
 by_cases hr : a < 0 ∨ c < 0 ∨ (N : Int) < a ∨ (N : Int) - a < c
 ·have e1 : repE N lim a c Z = 1 := by unfold repE; rw [if_pos hr]
  rw [e1]
  have HBd := Lib.hid (HBad.out hr)
  have hcs := out_cases hs hr
  clear hr e1 he HBad
  have hds : (¬ (0 : Int) ≤ a) ∨ ((0 : Int) ≤ a ∧ ¬ (0 : Int) ≤ c) ∨ ((0 : Int) ≤ a ∧ (0 : Int) ≤ c ∧ ¬ a ≤ (N : Int)) ∨ ((0 : Int) ≤ a ∧ (0 : Int) ≤ c ∧ a ≤ (N : Int) ∧ IntKind.i64.wrap ((N : Int) - a) = (N : Int) - a ∧ ¬ c ≤ (N : Int) - a) := by
   rcases hcs with h | ⟨h, h'⟩ | ⟨h, h', h''⟩ | ⟨h, h', h'', h3, h4⟩
   ·exact .inl (by omega)
   ·exact .inr (.inl ⟨by omega, by omega⟩)
   ·exact .inr (.inr (.inl ⟨by omega, by omega, by omega⟩))
   ·exact .inr (.inr (.inr ⟨by omega, by omega, by omega, h3, by omega⟩))
  clear hcs
  rcases hds with h1 | ⟨h1, h2⟩ | ⟨h1, h2, h3⟩ | ⟨h1, h2, h3, h4, h5⟩
  all_goals
   go_enter Tryz.func243, Tryz.ntmps243
   go_wp2_with fail
   refine HLL.out.mono ?_
   rintro e w1 ⟨rfl, rfl⟩
   go_wp2_with fail
   refine HBd.out.mono ?_
   rintro e w2 ⟨rfl, hb⟩
   have HB := Lib.hid hb
   clear hb
   go_wp2
   refine bodyPost_ret (v := .tuple #[.string ⟨#[]⟩, .int .i64 1]) (by simp [results, Tryz.results243, go_sem]) rfl ⟨rfl, HB.out⟩
 ·have hq : (lim : Int) - ((N : Int) - c) < Z := by
   unfold repE at he
   rw [if_neg hr] at he
   by_cases h : (lim : Int) - ((N : Int) - c) < Z
   ·exact h
   ·rw [if_neg h] at he; exact absurd rfl he
  have e1 : repE N lim a c Z = 2 := by unfold repE; rw [if_neg hr, if_pos hq]
  rw [e1]
  have h1 : (0 : Int) ≤ a := by omega
  have h2 : (0 : Int) ≤ c := by omega
  have h3 : a ≤ (N : Int) := by omega
  have h4 : IntKind.i64.wrap ((N : Int) - a) = (N : Int) - a := IntWalk.i64_in _ (by omega)
  have h5 : c ≤ (N : Int) - a := by omega
  have h6 : IntKind.i64.wrap ((N : Int) - c) = (N : Int) - c := IntWalk.i64_in _ (by omega)
  have h7 : IntKind.i64.wrap ((lim : Int) - ((N : Int) - c)) = (lim : Int) - ((N : Int) - c) := IntWalk.i64_in _ (by omega)
  clear hr e1 he HBad
  go_enter Tryz.func243, Tryz.ntmps243
  go_wp2_with fail
  refine HLL.out.mono ?_
  rintro e w1 ⟨rfl, rfl⟩
  go_wp2
  refine bodyPost_ret (v := .tuple #[.string ⟨#[]⟩, .int .i64 2]) (by simp [results, Tryz.results243, go_sem]) rfl ⟨rfl, Below.refl _ _⟩
/-- Replace of what keeps the text, refused. -/
theorem InnerIn.refuse {W : World} {T : TypeId} {p lim : Nat} {s : ByteArray} {S : Nat → Prop} (h : InnerIn W T p lim s S) (hs : s.size ≤ 1073741824) (hl : lim ≤ 1073741824) (a c : Int) (u : ByteArray) (he : repE s.size lim a c u.size ≠ 0) :
  ∃ f : Nat, ((T = 30 ∧ f = 233) ∨ (T = 148 ∧ f = 243)) ∧
   Calls Tryz.prog f #[ptr p, .int .i64 a, .int .i64 c, .string u] W fun e w' => e = .returned (.tuple #[.string ⟨#[]⟩, .int .i64 (repE s.size lim a c u.size)]) ∧ Below W.heap.size W w' := by
 rcases h with ⟨h0, ⟨rfl, g, r, fr, tv, h1, h2, h3⟩ | ⟨rfl, h1⟩⟩
 ·exact ⟨_, .inl ⟨rfl, rfl⟩, GapReplace_bad p g r fr tv lim a c u s W h1 h2 hs hl he⟩
 ·exact ⟨_, .inr ⟨rfl, rfl⟩, ropedReplace_bad p lim s a c u W h1 hs hl he⟩
theorem repE_not {n lim : Nat} {a c : Int} {z : Nat} (he : repE n lim a c z ≠ 0) : repE n lim a c z = 1 ∨ repE n lim a c z = 2 := by
 unfold repE at *
 split
 ·exact .inl rfl
 ·rename_i h
  rw [if_neg h] at he
  split
  ·exact .inr rfl
  ·rename_i h2; rw [if_neg h2] at he; exact absurd rfl he
set_option maxRecDepth 100000 in
set_option maxHeartbeats 2000000 in
theorem StReplace_bad {W : World} {b : Nat} {i : Stt} {T : TypeId} {s : ByteArray} {S : Nat → Prop} (h : StoreIn W b i T s S) (hs : s.size ≤ 1073741824) (hl : i.lim ≤ 1073741824) (a c : Int) (p : ByteArray) (he : repE s.size i.lim a c p.size ≠ 0) :
  Calls Tryz.prog 57 #[.pointer (some ⟨b, 0, none⟩), .int .i64 a, .int .i64 c, .string p] W fun e w' => e = .returned (.tuple #[.string ⟨#[]⟩, .int .i64 (repE s.size i.lim a c p.size)]) ∧ Below W.heap.size W w' := by
 obtain ⟨-, q, h1, h2⟩ := h
 have HL := Lib.hid h1.lies
 obtain ⟨f, hf, hR⟩ := h2.refuse hs hl a c p he
 have hE := repE_not he
 have HR := Lib.hid hR
 obtain ⟨E, hEE⟩ : ∃ E, repE s.size i.lim a c p.size = E := ⟨_, rfl⟩
 rw [hEE] at HR hE ⊢
 clear h1 h2 hR he hEE
 unfold Stt.vals ptr at HL
 unfold ptr at HR
 rcases hE with rfl | rfl <;> rcases hf with ⟨rfl, rfl⟩ | ⟨rfl, rfl⟩
 all_goals
  go_enter Tryz.func57, Tryz.ntmps57
  go_wp2_with fail
  refine (under_any b _ _ _ W HL.out).mono ?_
  rintro e w1 ⟨rfl, rfl⟩
  go_wp2_with fail
  refine HR.out.mono ?_
  rintro e w2 ⟨rfl, hb⟩
  have HB := Lib.hid hb
  clear hb
  go_wp2
  refine bodyPost_ret (by simp [results, Tryz.results57, go_sem]) rfl ⟨rfl, HB.out⟩
end Go.Proofs.YtfchglcclgcgfaaGreatDoor.Ut
