/-
  What the proof of the laws S rests on: the texts PlF StSP StOp. Conditions: each theorem names its own.
-/
import Derived.Test.YtfchglcclgcgfaaGreatDoorMgSx
import Derived.Test.YtfchglcclgcgfaaGreatDoorMgSr
/-
 How a hybrid moves, as the document says it (plain). No condition.
-/
namespace Go.Proofs.YtfchglcclgcgfaaGreatDoor.Ut
open Go.RowKit Go.Proofs.YtfchglcclgcgfaaGreatDoor.Reg
set_option linter.unusedVariables false
set_option linter.unusedSimpArgs false

/-- Where the document lays a text of n bytes. -/
def goesTo (i : Stt) (now : Int) (n : Nat) : Int := if i.kind = 3 then (if (n : Int) ≤ i.low then 1 else if i.top ≤ (n : Int) then 2 else now) else now
theorem backT_gap : backT 30 = 1 := rfl
theorem backT_rope : backT 148 = 2 := rfl
theorem edT_goes (i : Stt) {T : TypeId} (n : Nat) (hT : T = 30 ∨ T = 148) (h : i.low < i.top) : backT (edT i T n) = goesTo i (backT T) n ∧ (edT i T n = 30 ∨ edT i T n = 148) ∧ (edT i T n = T ↔ goesTo i (backT T) n = backT T) := by
 have hne : (30 : TypeId) ≠ 148 := by decide
 unfold edT goesTo
 by_cases hk : i.kind = 3
 ·rcases hT with rfl | rfl
  ·by_cases ht : i.top ≤ (n : Int)
   ·rw [if_pos ⟨hk, hne, ht⟩, if_pos hk, if_neg (by omega), if_pos ht]
    exact ⟨rfl, .inr rfl, by rw [backT_gap]; exact ⟨fun e => absurd e hne.symm, fun e => absurd e (by decide)⟩⟩
   ·rw [if_neg (fun x => ht x.2.2), if_neg (fun x => hne x.2.1), if_pos hk, if_neg ht, backT_gap]
    split <;> exact ⟨rfl, .inl rfl, by simp⟩
  ·rw [if_neg (fun x => x.2.1 rfl)]
   by_cases hl : (n : Int) ≤ i.low
   ·rw [if_pos ⟨hk, rfl, hl⟩, if_pos hk, if_pos hl]
    exact ⟨rfl, .inl rfl, by rw [backT_rope]; exact ⟨fun e => absurd e hne, fun e => absurd e (by decide)⟩⟩
   ·rw [if_neg (fun x => hl x.2.2), if_pos hk, if_neg hl, backT_rope]
    split <;> exact ⟨rfl, .inr rfl, by simp⟩
 ·rw [if_neg (fun x => hk x.1), if_neg (fun x => hk x.1), if_neg hk]
  exact ⟨rfl, hT, by simp⟩
end Go.Proofs.YtfchglcclgcgfaaGreatDoor.Ut
/-
 A store, or none at all: what its readers and Replace answer. Condition: the two tables of unicode/utf8 lie as laid.
-/
namespace Go.Proofs.YtfchglcclgcgfaaGreatDoor.Ut
open Go.RowKit Go.Proofs.YtfchglcclgcgfaaGreatDoor.Reg
set_option linter.unusedVariables false
set_option linter.unusedSimpArgs false

/-- What is told of a store, what keeps its text, and its text. -/
structure Sto where
 i : Stt
 T : TypeId
 s : ByteArray
structure Sto.ok (σ : Sto) : Prop where
 fits : σ.s.size ≤ σ.i.lim
 lim : σ.i.lim ≤ 1073741824
 low : σ.i.low < σ.i.top
 ty : σ.T = 30 ∨ σ.T = 148
theorem Sto.ok.small {σ : Sto} (h : σ.ok) : σ.s.size ≤ 1073741824 := Nat.le_trans h.fits h.lim
def Sto.rep (σ : Sto) (a c : Int) (p : ByteArray) : Sto := ⟨repI σ.i σ.T σ.s a c p, repTy σ.i σ.T σ.s a c p, (repA σ.s σ.i.lim a c p).2.2⟩
def Sto.out (σ : Sto) (a c : Int) (p : ByteArray) : ByteArray := (repA σ.s σ.i.lim a c p).1
def Sto.err (σ : Sto) (a c : Int) (p : ByteArray) : Int := (repA σ.s σ.i.lim a c p).2.1
theorem edT_ty (i : Stt) {T : TypeId} (n : Nat) (hT : T = 30 ∨ T = 148) : edT i T n = 30 ∨ edT i T n = 148 := by
 unfold edT
 split
 ·exact .inr rfl
 ·split
  ·exact .inl rfl
  ·exact hT
theorem repI_keeps (i : Stt) (T : TypeId) (s : ByteArray) (a c : Int) (p : ByteArray) : (repI i T s a c p).kind = i.kind ∧ (repI i T s a c p).low = i.low ∧ (repI i T s a c p).top = i.top ∧ (repI i T s a c p).lim = i.lim ∧ (repI i T s a c p).forced = i.forced := by
 unfold repI edI
 split <;> exact ⟨rfl, rfl, rfl, rfl, rfl⟩
theorem Sto.ok.rep {σ : Sto} (h : σ.ok) (a c : Int) (p : ByteArray) : (σ.rep a c p).ok := by
 obtain ⟨h1, h2, h3, h4, h5⟩ := repI_keeps σ.i σ.T σ.s a c p
 refine ⟨?_, ?_, ?_, ?_⟩
 ·show (repA σ.s σ.i.lim a c p).2.2.size ≤ (repI σ.i σ.T σ.s a c p).lim
  rw [h4]
  unfold repA
  split
  ·rename_i he
   obtain ⟨x, y, rfl, rfl, k1, k2⟩ := repE_zero he
   rcases k2 with k2 | k2
   ·show (repl σ.s _ _ p).size ≤ _
    simp only [Int.toNat_natCast]
    rw [repl_sizeR k1]; exact k2
   ·exact k2.elim
  ·exact h.fits
 ·show (repI σ.i σ.T σ.s a c p).lim ≤ _
  rw [h4]; exact h.lim
 ·show (repI σ.i σ.T σ.s a c p).low < (repI σ.i σ.T σ.s a c p).top
  rw [h2, h3]; exact h.low
 ·show repTy σ.i σ.T σ.s a c p = _ ∨ repTy σ.i σ.T σ.s a c p = _
  unfold repTy
  split
  ·exact edT_ty _ _ h.ty
  ·exact h.ty
def zeroS : Sto := ⟨⟨3, 0, 1, 0, 0, 0, 0⟩, 30, ⟨#[]⟩⟩
theorem zeroS_ok : zeroS.ok := ⟨by decide, by decide, by decide, .inl rfl⟩
/-- A store, or none. -/
def SP (W : World) (p : Option Addr) (σ : Sto) (S : Nat → Prop) : Prop := (∃ b, p = some ⟨b, 0, none⟩ ∧ StoreIn W b σ.i σ.T σ.s S) ∨ (p = none ∧ σ = zeroS)
theorem SP.below {W W' : World} {p : Option Addr} {σ : Sto} {S : Nat → Prop} (h : SP W p σ S) (hb : Below W.heap.size W W') : SP W' p σ S :=
 h.imp (fun ⟨b, h1, h2⟩ => ⟨b, h1, h2.below hb⟩) (fun h => h)
theorem SP.mono {W : World} {p : Option Addr} {σ : Sto} {S S' : Nat → Prop} (h : SP W p σ S) (hS : ∀ k, k < W.heap.size → S k → S' k) : SP W p σ S' :=
 h.imp (fun ⟨b, h1, h2⟩ => ⟨b, h1, h2.mono hS⟩) (fun h => h)
theorem SP.has {W : World} {p : Option Addr} {σ : Sto} {S : Nat → Prop} (h : SP W p σ S) (hT : Tabs W) (hs : σ.s.size ≤ 1073741824) : HasS W p σ.s := by
 rcases h with ⟨b, rfl, h⟩ | ⟨rfl, rfl⟩
 ·exact h.has hT hs
 ·exact hasS_nil hT
theorem SP.asks {W : World} {p : Option Addr} {σ : Sto} {S : Nat → Prop} (h : SP W p σ S) (hT : Tabs W) (hs : σ.s.size ≤ 1073741824) : Asks 69 70 W p σ.s := by
 rcases h with ⟨b, rfl, h⟩ | ⟨rfl, rfl⟩
 ·exact h.asks hT hs
 ·exact asks_nil hT
theorem StKind_sp {W : World} {p : Option Addr} {σ : Sto} {S : Nat → Prop} (h : SP W p σ S) : Calls Tryz.prog 27 #[.pointer p] W fun e w' => e = .returned (.int .i64 σ.i.kind) ∧ w' = W := by
 rcases h with ⟨b, rfl, h⟩ | ⟨rfl, rfl⟩
 ·exact StKind_in h
 ·go_enter Tryz.func27, Tryz.ntmps27
  go_wp2
  go_ret
  exact ⟨rfl, rfl⟩
set_option maxRecDepth 100000 in
theorem StBackend_sp {W : World} {p : Option Addr} {σ : Sto} {S : Nat → Prop} (h : SP W p σ S) : Calls Tryz.prog 51 #[.pointer p] W fun e w' => e = .returned (.int .i64 (backT σ.T)) ∧ w' = W := by
 rcases h with ⟨b, rfl, h⟩ | ⟨rfl, rfl⟩
 ·exact StBackend_in h
 ·have t1 := ta_gapS none
  have e1 : backT zeroS.T = 1 := rfl
  rw [e1]
  go_enter Tryz.func51, Tryz.ntmps51
  go_wp2_with fail
  refine (under_nil W).mono ?_
  rintro e w1 ⟨rfl, rfl⟩
  go_wp2
  go_ret
  exact ⟨rfl, rfl⟩
set_option maxRecDepth 100000 in
theorem StThresholds_sp {W : World} {p : Option Addr} {σ : Sto} {S : Nat → Prop} (h : SP W p σ S) : Calls Tryz.prog 26 #[.pointer p] W fun e w' => e = .returned (.tuple #[.int .i64 σ.i.low, .int .i64 σ.i.top]) ∧ Below W.heap.size W w' := by
 rcases h with ⟨b, rfl, -, q, h1, h2⟩ | ⟨rfl, rfl⟩
 ·have c0 := (h1.lies.2 0 _ rfl).1
  have c2 := (h1.lies.2 2 _ rfl).1
  have c3 := (h1.lies.2 3 _ rfl).1
  have hb := h1.lies.1
  clear h1 h2
  unfold ptr at *
  go_enter Tryz.func26, Tryz.ntmps26
  go_wp2
  go_quiet (fail)
  go_wp2
  refine bodyPost_ret (v := .tuple #[.int .i64 σ.i.low, .int .i64 σ.i.top]) (by simp [results, Tryz.results26, go_sem]) rfl ⟨rfl, Drawn.below _⟩
 ·go_enter Tryz.func26, Tryz.ntmps26
  go_wp2
  refine bodyPost_ret (v := .tuple #[.int .i64 0, .int .i64 1]) (by simp [results, Tryz.results26, go_sem]) rfl ⟨rfl, Below.refl _ _⟩
set_option maxRecDepth 100000 in
theorem StLimit_sp {W : World} {p : Option Addr} {σ : Sto} {S : Nat → Prop} (h : SP W p σ S) : Calls Tryz.prog 62 #[.pointer p] W fun e w' => e = .returned (.int .i64 σ.i.lim) ∧ w' = W := by
 rcases h with ⟨b, rfl, -, q, h1, h2⟩ | ⟨rfl, rfl⟩
 ·have c4 := (h1.lies.2 4 _ rfl).1
  clear h1 h2
  go_enter Tryz.func62, Tryz.ntmps62
  go_wp2
  go_ret
  exact ⟨rfl, rfl⟩
 ·go_enter Tryz.func62, Tryz.ntmps62
  go_wp2
  go_ret
  exact ⟨rfl, rfl⟩
def Stt.counts (i : Stt) : Value := .agg #[.int .i64 i.moves, .int .i64 i.forced, .int .i64 i.edited]
set_option maxRecDepth 100000 in
theorem StCounts_sp {W : World} {p : Option Addr} {σ : Sto} {S : Nat → Prop} (h : SP W p σ S) : Calls Tryz.prog 25 #[.pointer p] W fun e w' => e = .returned σ.i.counts ∧ Below W.heap.size W w' := by
 rcases h with ⟨b, rfl, -, q, h1, h2⟩ | ⟨rfl, rfl⟩
 ·have hL := h1.lies
  have hbl := hL.1
  have c5 := (hL.2 5 _ rfl).1
  have c6 := (hL.2 6 _ rfl).1
  have c7 := (hL.2 7 _ rfl).1
  clear h1 h2 hL
  go_enter Tryz.func25, Tryz.ntmps25
  go_wp2
  refine bodyPost_ret (v := .agg #[.int .i64 σ.i.moves, .int .i64 σ.i.forced, .int .i64 σ.i.edited]) (by simp [results, Tryz.results25, go_sem]) rfl ⟨rfl, (Below.refl _ _).alloc (Nat.le_refl _) _⟩
 ·go_enter Tryz.func25, Tryz.ntmps25
  go_wp2
  refine bodyPost_ret (v := .agg #[.int .i64 0, .int .i64 0, .int .i64 0]) (by simp [results, Tryz.results25, go_sem]) rfl ⟨rfl, (Below.refl _ _).alloc (Nat.le_refl _) _⟩
theorem nilLimit_any (w : World) : Calls Tryz.prog 235 #[.pointer none] w fun e w' => e = .returned (.int .i64 0) ∧ w' = w := by
 go_enter Tryz.func235, Tryz.ntmps235
 go_wp2
 go_ret
 exact ⟨rfl, rfl⟩
theorem nilMove_any (a : Int) (w : World) : Calls Tryz.prog 237 #[.pointer none, .int .i64 a] w fun e w' => e = .returned (.tuple #[]) ∧ w' = w := by
 go_enter Tryz.func237, Tryz.ntmps237
 go_wp2
 refine bodyPost_ret (v := .tuple #[]) (by simp [results, Tryz.results237, go_sem]) rfl ⟨rfl, rfl⟩
theorem repE_nil (a c : Int) (z : Nat) : (repE 0 0 a c z = 1 ∧ (a < 0 ∨ (¬ a < 0 ∧ c < 0) ∨ (¬ a < 0 ∧ ¬ c < 0 ∧ 0 < a) ∨ (a = 0 ∧ 0 < c))) ∨ (repE 0 0 a c z = 2 ∧ a = 0 ∧ c = 0 ∧ 0 < z) ∨ (repE 0 0 a c z = 0 ∧ a = 0 ∧ c = 0 ∧ z = 0) := by
 unfold repE
 split
 ·rename_i h
  exact .inl ⟨rfl, by omega⟩
 ·rename_i h
  split
  ·exact .inr (.inl ⟨rfl, by omega, by omega, by omega⟩)
  ·exact .inr (.inr ⟨rfl, by omega, by omega, by omega⟩)
set_option maxRecDepth 100000 in
set_option maxHeartbeats 2000000 in
theorem GapReplace_nil (a c : Int) (p : ByteArray) (w : World) : Calls Tryz.prog 233 #[.pointer none, .int .i64 a, .int .i64 c, .string p] w fun e w' => e = .returned (.tuple #[.string ⟨#[]⟩, .int .i64 (repE 0 0 a c p.size)]) ∧ Below w.heap.size w w' := by
 have KL := Lib.hid (nilLen_any w)
 have z0 : IntKind.i64.wrap 0 = 0 := by decide
 have hE := repE_nil a c p.size
 generalize repE 0 0 a c p.size = E at *
 generalize hZ : p.size = Z at *
 rcases hE with ⟨rfl, h1 | ⟨h1, h2⟩ | ⟨h1, h2, h3⟩ | ⟨rfl, h2⟩⟩ | ⟨rfl, rfl, rfl, h3⟩ | ⟨rfl, rfl, rfl, rfl⟩
 ·go_enter Tryz.func233, Tryz.ntmps233
  go_wp2_with fail
  refine KL.out.mono ?_
  rintro e w1 ⟨rfl, rfl⟩
  go_wp2
  refine bodyPost_ret (v := .tuple #[.string ⟨#[]⟩, .int .i64 1]) (by simp [results, Tryz.results233, go_sem]) rfl ⟨rfl, Below.refl _ _⟩
 ·go_enter Tryz.func233, Tryz.ntmps233
  go_wp2_with fail
  refine KL.out.mono ?_
  rintro e w1 ⟨rfl, rfl⟩
  go_wp2
  refine bodyPost_ret (v := .tuple #[.string ⟨#[]⟩, .int .i64 1]) (by simp [results, Tryz.results233, go_sem]) rfl ⟨rfl, Below.refl _ _⟩
 ·go_enter Tryz.func233, Tryz.ntmps233
  go_wp2_with fail
  refine KL.out.mono ?_
  rintro e w1 ⟨rfl, rfl⟩
  go_wp2
  refine bodyPost_ret (v := .tuple #[.string ⟨#[]⟩, .int .i64 1]) (by simp [results, Tryz.results233, go_sem]) rfl ⟨rfl, Below.refl _ _⟩
 ·have h4 : ¬ c < 0 := by omega
  go_enter Tryz.func233, Tryz.ntmps233
  go_wp2_with fail
  refine KL.out.mono ?_
  rintro e w1 ⟨rfl, rfl⟩
  go_wp2
  refine bodyPost_ret (v := .tuple #[.string ⟨#[]⟩, .int .i64 1]) (by simp [results, Tryz.results233, go_sem]) rfl ⟨rfl, Below.refl _ _⟩
 ·have h4 : (0 : Int) < (Z : Int) := by omega
  go_enter Tryz.func233, Tryz.ntmps233
  go_wp2_with fail
  refine KL.out.mono ?_
  rintro e w1 ⟨rfl, rfl⟩
  go_wp2_with fail
  refine (nilLimit_any w1).mono ?_
  rintro e w2 ⟨rfl, rfl⟩
  go_wp2
  refine bodyPost_ret (v := .tuple #[.string ⟨#[]⟩, .int .i64 2]) (by simp [results, Tryz.results233, go_sem]) rfl ⟨rfl, Below.refl _ _⟩
 ·go_enter Tryz.func233, Tryz.ntmps233
  go_wp2_with fail
  refine KL.out.mono ?_
  rintro e w1 ⟨rfl, rfl⟩
  go_wp2_with fail
  refine (nilLimit_any w1).mono ?_
  rintro e w2 ⟨rfl, rfl⟩
  go_wp2_with fail
  refine (nilPiece_any _ _ w2).mono ?_
  rintro e w3 ⟨rfl, rfl⟩
  go_wp2_with fail
  refine (nilMove_any _ w3).mono ?_
  rintro e w4 ⟨rfl, rfl⟩
  go_wp2
  refine bodyPost_ret (v := .tuple #[.string ⟨#[]⟩, .int .i64 0]) (by simp [results, Tryz.results233, go_sem]) rfl ⟨rfl, Below.refl _ _⟩
theorem nilEdited_any (z : Int) (w : World) : Calls Tryz.prog 106 #[.pointer none, .int .i64 z] w fun e w' => e = .returned (.tuple #[]) ∧ w' = w := by
 go_enter Tryz.func106, Tryz.ntmps106
 go_wp2
 refine bodyPost_ret (v := .tuple #[]) (by simp [results, Tryz.results106, go_sem]) rfl ⟨rfl, rfl⟩
set_option maxRecDepth 100000 in
set_option maxHeartbeats 2000000 in
theorem StReplace_nil (a c : Int) (p : ByteArray) (w : World) : Calls Tryz.prog 57 #[.pointer none, .int .i64 a, .int .i64 c, .string p] w fun e w' => e = .returned (.tuple #[.string ⟨#[]⟩, .int .i64 (repE 0 0 a c p.size)]) ∧ Below w.heap.size w w' := by
 have HR := Lib.hid (GapReplace_nil a c p w)
 have hE := repE_nil a c p.size
 generalize repE 0 0 a c p.size = E at *
 have hE' : E = 1 ∨ E = 2 ∨ E = 0 := by omega
 clear hE
 rcases hE' with rfl | rfl | rfl
 ·go_enter Tryz.func57, Tryz.ntmps57
  go_wp2_with fail
  refine (under_nil w).mono ?_
  rintro e w1 ⟨rfl, rfl⟩
  go_wp2_with fail
  refine HR.out.mono ?_
  rintro e w2 ⟨rfl, hb⟩
  have HB := Lib.hid hb
  clear hb
  go_wp2
  refine bodyPost_ret (v := .tuple #[.string ⟨#[]⟩, .int .i64 1]) (by simp [results, Tryz.results57, go_sem]) rfl ⟨rfl, HB.out⟩
 ·go_enter Tryz.func57, Tryz.ntmps57
  go_wp2_with fail
  refine (under_nil w).mono ?_
  rintro e w1 ⟨rfl, rfl⟩
  go_wp2_with fail
  refine HR.out.mono ?_
  rintro e w2 ⟨rfl, hb⟩
  have HB := Lib.hid hb
  clear hb
  go_wp2
  refine bodyPost_ret (v := .tuple #[.string ⟨#[]⟩, .int .i64 2]) (by simp [results, Tryz.results57, go_sem]) rfl ⟨rfl, HB.out⟩
 ·go_enter Tryz.func57, Tryz.ntmps57
  go_wp2_with fail
  refine (under_nil w).mono ?_
  rintro e w1 ⟨rfl, rfl⟩
  go_wp2_with fail
  refine HR.out.mono ?_
  rintro e w2 ⟨rfl, hb⟩
  have HB := Lib.hid hb
  clear hb
  go_wp2_with fail
  refine (nilEdited_any _ w2).mono ?_
  rintro e w3 ⟨rfl, rfl⟩
  go_wp2
  refine bodyPost_ret (v := .tuple #[.string ⟨#[]⟩, .int .i64 0]) (by simp [results, Tryz.results57, go_sem]) rfl ⟨rfl, HB.out⟩
theorem rep_nil (a c : Int) (p : ByteArray) : zeroS.rep a c p = zeroS ∧ zeroS.out a c p = ⟨#[]⟩ ∧ zeroS.err a c p = repE 0 0 a c p.size := by
 have hE := repE_nil a c p.size
 have e0 : (zeroS.s).size = 0 := rfl
 have e1 : zeroS.i.lim = 0 := rfl
 unfold Sto.rep Sto.out Sto.err repI repTy repA
 rw [e0, e1]
 rcases hE with ⟨h, -⟩ | ⟨h, -⟩ | ⟨h, rfl, rfl, hz⟩
 ·rw [h]; exact ⟨rfl, rfl, rfl⟩
 ·rw [h]; exact ⟨rfl, rfl, rfl⟩
 ·rw [h]
  have hp : p = ⟨#[]⟩ := by
   apply ByteArray.ext
   exact Array.eq_empty_of_size_eq_zero hz
  subst hp
  exact ⟨rfl, rfl, rfl⟩
/-- Blocks of S may change, others stay, and so do all that are of a rope. -/
def Mv (S : Nat → Prop) (W W' : World) : Prop := Chg S W W' ∧ Keeps W W'
theorem Mv.of_below {S : Nat → Prop} {W W' : World} (h : Below W.heap.size W W') : Mv S W W' := ⟨Chg.of_below h, Keeps.of_below h⟩
theorem Mv.refl (S : Nat → Prop) (W : World) : Mv S W W := Mv.of_below (Below.refl _ _)
theorem Mv.trans {S R : Nat → Prop} {A B C : World} (h : Mv S A B) (k : Mv R B C) (hR : ∀ j, j < A.heap.size → R j → S j) : Mv S A C := ⟨h.1.trans k.1 hR, h.2.trans k.2⟩
theorem Mv.mono {S R : Nat → Prop} {A B : World} (h : Mv S A B) (hR : ∀ j, S j → R j) : Mv R A B := ⟨h.1.mono hR, h.2⟩
theorem Mv.then_below {S : Nat → Prop} {A B C : World} (h : Mv S A B) (k : Below B.heap.size B C) : Mv S A C := h.trans (Mv.of_below (S := S) k) (fun _ _ h => h)
theorem NoTab.sub {S R : Nat → Prop} (h : NoTab S) (hR : ∀ j, R j → S j) : NoTab R := ⟨fun e => h.1 (hR _ e), fun e => h.2 (hR _ e)⟩
theorem tabs_mv {S : Nat → Prop} {w w' : World} (h : Tabs w) (hS : NoTab S) (hc : Mv S w w') : Tabs w' := tabs_chg h hS hc.1
theorem SP.chg {W W' : World} {p : Option Addr} {σ : Sto} {S R : Nat → Prop} (h : SP W p σ S) (hc : Mv R W W') (hR : ∀ j, S j → ¬ R j) : SP W' p σ S :=
 h.imp (fun ⟨b, h1, h2⟩ => ⟨b, h1, h2.chg hc.1 hR hc.2⟩) (fun h => h)
/-- Replace of a store, or of none. -/
theorem StReplace_sp {W : World} {q : Option Addr} {σ : Sto} {S : Nat → Prop} (hT : Tabs W) (hN : NoTab S) (h : SP W q σ S) (hσ : σ.ok) (a c : Int) (p : ByteArray) :
  Calls Tryz.prog 57 #[.pointer q, .int .i64 a, .int .i64 c, .string p] W fun e w' => e = .returned (.tuple #[.string (σ.out a c p), .int .i64 (σ.err a c p)]) ∧ SP w' q (σ.rep a c p) (fun j => S j ∨ W.heap.size ≤ j) ∧ Mv S W w' := by
 rcases h with ⟨b, rfl, h⟩ | ⟨rfl, rfl⟩
 ·obtain ⟨S0, k1, k2, k3, k4⟩ := h.few
  refine (StReplace_all hT (hN.sub k1) k3 hσ.fits hσ.lim a c p).mono ?_
  rintro e w' ⟨rfl, h1, h2⟩
  exact ⟨rfl, .inl ⟨b, rfl, h1.mono (fun j _ hj => hj.imp (k1 j) (fun h => h))⟩, h2.mono k1, k4.keeps h2⟩
 ·obtain ⟨e1, e2, e3⟩ := rep_nil a c p
  rw [e1, e2, e3]
  refine (StReplace_nil a c p W).mono ?_
  rintro e w' ⟨rfl, h1⟩
  exact ⟨rfl, .inr ⟨rfl, rfl⟩, Mv.of_below h1⟩
end Go.Proofs.YtfchglcclgcgfaaGreatDoor.Ut
/-
 store: Insert, Delete, Reset, Switch. Condition: what Replace, Len and Backend answer.
-/
namespace Go.Proofs.YtfchglcclgcgfaaGreatDoor.Ut
open Go.RowKit Go.Proofs.YtfchglcclgcgfaaGreatDoor.Reg
set_option linter.unusedVariables false
set_option linter.unusedSimpArgs false

set_option maxRecDepth 100000 in
theorem StInsert_of {q : Option Addr} {a E : Int} {p O : ByteArray} {w : World} {Q : World → Prop} (h : Calls Tryz.prog 57 #[.pointer q, .int .i64 a, .int .i64 0, .string p] w fun e w' => e = .returned (.tuple #[.string O, .int .i64 E]) ∧ Q w') :
  Calls Tryz.prog 52 #[.pointer q, .int .i64 a, .string p] w fun e w' => e = .returned (.int .i64 E) ∧ Q w' := by
 have H := Lib.hid h
 clear h
 go_enter Tryz.func52, Tryz.ntmps52
 go_wp2_with fail
 refine H.out.mono ?_
 rintro e w1 ⟨rfl, hq⟩
 have HQ := Lib.hid hq
 clear hq
 go_wp2
 go_ret
 exact ⟨rfl, HQ.out⟩
set_option maxRecDepth 100000 in
theorem StDelete_of {q : Option Addr} {a c E : Int} {O : ByteArray} {w : World} {Q : World → Prop} (h : Calls Tryz.prog 57 #[.pointer q, .int .i64 a, .int .i64 c, .string ⟨#[]⟩] w fun e w' => e = .returned (.tuple #[.string O, .int .i64 E]) ∧ Q w') :
  Calls Tryz.prog 53 #[.pointer q, .int .i64 a, .int .i64 c] w fun e w' => e = .returned (.tuple #[.string O, .int .i64 E]) ∧ Q w' := by
 have H := Lib.hid h
 clear h
 go_enter Tryz.func53, Tryz.ntmps53
 go_wp2_with fail
 refine H.out.mono ?_
 rintro e w1 ⟨rfl, hq⟩
 have HQ := Lib.hid hq
 clear hq
 go_wp2
 refine bodyPost_ret (v := .tuple #[.string O, .int .i64 E]) (by simp [results, Tryz.results53, go_sem]) rfl ⟨rfl, HQ.out⟩
set_option maxRecDepth 100000 in
theorem StReset_of {q : Option Addr} {E n : Int} {p O : ByteArray} {w : World} {Q0 Q : World → Prop} (h0 : Calls Tryz.prog 58 #[.pointer q] w fun e w' => e = .returned (.int .i64 n) ∧ Q0 w')
  (h : ∀ w1, Q0 w1 → Calls Tryz.prog 57 #[.pointer q, .int .i64 0, .int .i64 n, .string p] w1 fun e w' => e = .returned (.tuple #[.string O, .int .i64 E]) ∧ Q w') :
  Calls Tryz.prog 19 #[.pointer q, .string p] w fun e w' => e = .returned (.int .i64 E) ∧ Q w' := by
 have H0 := Lib.hid h0
 have H := Lib.hid h
 clear h h0
 go_enter Tryz.func19, Tryz.ntmps19
 go_wp2_with fail
 refine H0.out.mono ?_
 rintro e w1 ⟨rfl, hq⟩
 have H1 := Lib.hid (H.out w1 hq)
 clear hq H
 go_wp2_with fail
 refine H1.out.mono ?_
 rintro e w2 ⟨rfl, hq⟩
 have HQ := Lib.hid hq
 clear hq
 go_wp2
 go_ret
 exact ⟨rfl, HQ.out⟩
/-- Switch, as the document says it. -/
def Sto.swt (σ : Sto) (k : Int) : Sto := if backT σ.T = k then σ else ⟨{ σ.i with forced := IntKind.i64.wrap (σ.i.forced + 1) }, typeK k, σ.s⟩
theorem Sto.ok.swt {σ : Sto} (h : σ.ok) (k : Int) : (σ.swt k).ok := by
 unfold Sto.swt
 split
 ·exact h
 ·refine ⟨h.fits, h.lim, h.low, ?_⟩
  show typeK k = _ ∨ typeK k = _
  unfold typeK
  split
  ·exact .inr rfl
  ·exact .inl rfl
set_option maxRecDepth 100000 in
theorem StSwitch_nil (k : Int) (w : World) : Calls Tryz.prog 23 #[.pointer none, .int .i64 k] w fun e w' => e = .returned (.int .i64 13) ∧ w' = w := by
 go_enter Tryz.func23, Tryz.ntmps23
 go_wp2
 go_ret
 exact ⟨rfl, rfl⟩
set_option maxRecDepth 100000 in
theorem StSwitch_bad (q : Addr) (k : Int) (w : World) (h : ¬ (k = 1 ∨ k = 2)) : Calls Tryz.prog 23 #[.pointer (some q), .int .i64 k] w fun e w' => e = .returned (.int .i64 13) ∧ w' = w := by
 have h1 : (k != 1) = true := by simpa using fun e => h (.inl e)
 have h2 : (k != 2) = true := by simpa using fun e => h (.inr e)
 go_enter Tryz.func23, Tryz.ntmps23
 go_wp2
 go_ret
 exact ⟨rfl, rfl⟩
set_option maxRecDepth 100000 in
set_option maxHeartbeats 2000000 in
theorem StSwitch_of {b : Nat} {σ : Sto} {k : Int} {w : World} {Q : World → Prop} {S : Nat → Prop} (hσ : σ.ok) (hk : k = 1 ∨ k = 2) (hB : Calls Tryz.prog 51 #[.pointer (some ⟨b, 0, none⟩)] w fun e w' => e = .returned (.int .i64 (backT σ.T)) ∧ Q w')
  (hQ : ∀ w1, Q w1 → Tabs w1 ∧ StoreIn w1 b σ.i σ.T σ.s S) :
  Calls Tryz.prog 23 #[.pointer (some ⟨b, 0, none⟩), .int .i64 k] w fun e w' => e = .returned (.int .i64 0) ∧ ∃ w1, Q w1 ∧ StoreIn w' b (σ.swt k).i (σ.swt k).T (σ.swt k).s (fun j => S j ∨ w1.heap.size ≤ j) ∧ Chg (fun j => j = b) w1 w' := by
 have HB := Lib.hid hB
 have HQ := Lib.hid hQ
 have hbt : backT σ.T = 1 ∨ backT σ.T = 2 := by rcases hσ.ty with h | h <;> rw [h] <;> simp [backT_gap, backT_rope]
 have hf := hσ.fits
 have hl := hσ.lim
 unfold Sto.swt
 clear hB hQ hσ
 obtain ⟨B, hBT⟩ : ∃ B, backT σ.T = B := ⟨_, rfl⟩
 rw [hBT] at HB hbt ⊢
 clear hBT
 rcases hk with rfl | rfl <;> rcases hbt with rfl | rfl
 ·rw [if_pos rfl]
  go_enter Tryz.func23, Tryz.ntmps23
  go_wp2_with fail
  refine HB.out.mono ?_
  rintro e w1 ⟨rfl, hq⟩
  have HR := Lib.hid (HQ.out w1 hq).2
  have Hq := Lib.hid hq
  clear hq
  go_wp2
  go_ret
  exact ⟨rfl, w1, Hq.out, HR.out.mono (fun j _ h => .inl h), Chg.of_below (Below.refl _ _)⟩
 ·rw [if_neg (by decide)]
  go_enter Tryz.func23, Tryz.ntmps23
  go_wp2_with fail
  refine HB.out.mono ?_
  rintro e w1 ⟨rfl, hq⟩
  obtain ⟨hT1, hS1⟩ := HQ.out w1 hq
  have HM := Lib.hid (StMove_in hT1 hS1 hf hl 1)
  have Hq := Lib.hid hq
  clear hq hT1 hS1
  go_wp2_with fail
  refine HM.out.mono ?_
  rintro e w2 ⟨rfl, hS2, hC⟩
  obtain ⟨m0, fm⟩ : w2.cell? ⟨b, 6, none⟩ = some (.int .i64 σ.i.forced) ∧ w2.frozen? ⟨b, 6, none⟩ = false := by
   obtain ⟨-, p, h1, -⟩ := hS2
   exact h1.lies.2 6 _ rfl
  have hbl := hS2.lt
  obtain ⟨M, hM⟩ : ∃ M, IntKind.i64.wrap (σ.i.forced + 1) = M := ⟨_, rfl⟩
  obtain ⟨k1, k2⟩ := hS2.put 6 (.int .i64 M) (i' := { σ.i with forced := M }) (fun _ => rfl) rfl
  have HE := Lib.hid (And.intro k1 (hC.trans k2 (fun _ _ h => h)))
  have HMM := Lib.hid hM
  clear hS2 hC k1 k2 HM
  go_wp2
  go_ret
  refine ⟨rfl, w1, Hq.out, ?_⟩
  rw [HMM.out]
  exact HE.out
 ·rw [if_neg (by decide)]
  go_enter Tryz.func23, Tryz.ntmps23
  go_wp2_with fail
  refine HB.out.mono ?_
  rintro e w1 ⟨rfl, hq⟩
  obtain ⟨hT1, hS1⟩ := HQ.out w1 hq
  have HM := Lib.hid (StMove_in hT1 hS1 hf hl 2)
  have Hq := Lib.hid hq
  clear hq hT1 hS1
  go_wp2_with fail
  refine HM.out.mono ?_
  rintro e w2 ⟨rfl, hS2, hC⟩
  obtain ⟨m0, fm⟩ : w2.cell? ⟨b, 6, none⟩ = some (.int .i64 σ.i.forced) ∧ w2.frozen? ⟨b, 6, none⟩ = false := by
   obtain ⟨-, p, h1, -⟩ := hS2
   exact h1.lies.2 6 _ rfl
  have hbl := hS2.lt
  obtain ⟨M, hM⟩ : ∃ M, IntKind.i64.wrap (σ.i.forced + 1) = M := ⟨_, rfl⟩
  obtain ⟨k1, k2⟩ := hS2.put 6 (.int .i64 M) (i' := { σ.i with forced := M }) (fun _ => rfl) rfl
  have HE := Lib.hid (And.intro k1 (hC.trans k2 (fun _ _ h => h)))
  have HMM := Lib.hid hM
  clear hS2 hC k1 k2 HM
  go_wp2
  go_ret
  refine ⟨rfl, w1, Hq.out, ?_⟩
  rw [HMM.out]
  exact HE.out
 ·rw [if_pos rfl]
  go_enter Tryz.func23, Tryz.ntmps23
  go_wp2_with fail
  refine HB.out.mono ?_
  rintro e w1 ⟨rfl, hq⟩
  have HR := Lib.hid (HQ.out w1 hq).2
  have Hq := Lib.hid hq
  clear hq
  go_wp2
  go_ret
  exact ⟨rfl, w1, Hq.out, HR.out.mono (fun j _ h => .inl h), Chg.of_below (Below.refl _ _)⟩
end Go.Proofs.YtfchglcclgcgfaaGreatDoor.Ut
