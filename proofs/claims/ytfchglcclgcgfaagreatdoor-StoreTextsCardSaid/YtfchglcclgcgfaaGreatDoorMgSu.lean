/-
  What the proof of the laws S rests on: the texts RoO. Conditions: each theorem names its own.
-/
import Derived.Test.YtfchglcclgcgfaaGreatDoorMgSt
import Derived.Test.YtfchglcclgcgfaaGreatDoorMgSn
/-
 rope.put. Condition: the two tables of unicode/utf8 lie as laid.
-/
namespace Go.Proofs.YtfchglcclgcgfaaGreatDoor.Ut
open Go.RowKit Go.Proofs.YtfchglcclgcgfaaGreatDoor.Reg
set_option linter.unusedVariables false
set_option linter.unusedSimpArgs false

def OkO (o : Option Tr) : Prop := ∀ t, o = some t → t.Ok
/-- A tree, all of whose leaves have bytes, or one leaf, or none. -/
def GoodO (o : Option Tr) : Prop := ∀ t, o = some t → t.Ok ∨ ∃ s, t = .leaf s
def txt (o : Option Tr) : ByteArray := cat (lvs o)
theorem app_nil (a : ByteArray) : a ++ (⟨#[]⟩ : ByteArray) = a := by apply ext_of_list; simp [app_list]
theorem nil_app (a : ByteArray) : (⟨#[]⟩ : ByteArray) ++ a = a := by apply ext_of_list; simp [app_list]
theorem txt_none : txt none = ⟨#[]⟩ := rfl
theorem txt_some (t : Tr) : txt (some t) = t.text := (Tr.text_leaves t).symm
theorem okO_none : OkO none := fun _ h => by cases h
theorem short_cases (o : Option Tr) (h : GoodO o) (hs : (txt o).size ≤ 4294967296) : (∃ s, o = some (.leaf s) ∧ s.size < 32) ∨ (isShort o = false ∧ OkO o) := by
 match o, h with
 | none, _ => exact .inr ⟨rfl, okO_none⟩
 | some (.leaf s), h =>
  by_cases hs' : s.size < 32
  ·exact .inl ⟨s, rfl, hs'⟩
  ·exact .inr ⟨by simp [isShort]; omega, fun t ht => by
    cases ht
    refine ⟨fun x hx => ?_, by rw [txt_some] at hs; exact hs⟩
    simp [Tr.leaves] at hx; subst hx; omega⟩
 | some (.knot l r), h =>
  refine .inr ⟨rfl, fun t ht => ?_⟩
  cases ht
  rcases h _ rfl with h | ⟨s, h⟩
  ·exact h
  ·cases h

theorem partL_end {L : List ByteArray} (h : OkL L) (hn : L ≠ []) : ∃ P s, P ++ [s] = L ∧ partL L (cat L).size = (P, s, s.size, []) := by
 obtain ⟨e1, e2, e3⟩ := partL_ok L (cat L).size hn (Nat.le_refl _)
 obtain ⟨P, hP⟩ : ∃ P, (partL L (cat L).size).1 = P := ⟨_, rfl⟩
 obtain ⟨s, hS⟩ : ∃ s, (partL L (cat L).size).2.1 = s := ⟨_, rfl⟩
 obtain ⟨o, hO⟩ : ∃ o, (partL L (cat L).size).2.2.1 = o := ⟨_, rfl⟩
 obtain ⟨Q, hQ⟩ : ∃ Q, (partL L (cat L).size).2.2.2 = Q := ⟨_, rfl⟩
 rw [hP, hS, hQ] at e1
 rw [hP, hO] at e2
 rw [hO, hS] at e3
 have hz : (cat L).size = (cat P).size + (s.size + (cat Q).size) := by rw [← e1, cat_app_size, cat_cons_size]
 have hQ0 : (cat Q).size = 0 := by omega
 have hQe : Q = [] := by
  rcases Q with _ | ⟨x, r⟩
  ·rfl
  ·have := h.ne x (by rw [← e1]; simp)
   rw [cat_cons_size] at hQ0; omega
 subst hQe
 refine ⟨P, s, e1, ?_⟩
 rw [show partL L (cat L).size = ((partL L (cat L).size).1, (partL L (cat L).size).2.1, (partL L (cat L).size).2.2.1, (partL L (cat L).size).2.2.2) from rfl, hP, hS, hO, hQ]
 rw [show o = s.size by omega]
theorem partL_start {L : List ByteArray} (h : OkL L) (hn : L ≠ []) : ∃ s Q, s :: Q = L ∧ partL L 0 = ([], s, 0, Q) := by
 rcases L with _ | ⟨s, _ | ⟨t, r⟩⟩
 ·exact absurd rfl hn
 ·exact ⟨s, [], rfl, rfl⟩
 ·refine ⟨s, t :: r, rfl, ?_⟩
  have := h.ne s (by simp)
  rw [partL, if_pos (by omega)]
theorem OptV.okO {L : List ByteArray} {v : Value} {w : World} (h : OptV L v w) (ho : OkL L) : ∃ o, IsOpt w v o ∧ OkO o ∧ lvs o = L := by
 obtain ⟨o, h1, rfl⟩ := h
 refine ⟨o, h1, fun t ht => ?_, rfl⟩
 subst ht
 exact Tr.ok_iff.2 ho
theorem OkO.lvs {o : Option Tr} (h : OkO o) : OkL (lvs o) := by
 cases o with
 | none => exact ⟨by simp [Ut.lvs], by decide⟩
 | some t => exact Tr.ok_iff.1 (h t rfl)
theorem OkO.zero {o : Option Tr} (h : OkO o) (hz : (txt o).size = 0) : o = none := by
 cases o with
 | none => rfl
 | some t => rw [txt_some] at hz; have := (h t rfl).pos; omega
def VPut5 (X Y : Nat) (a b : Sm) (m : ByteArray) (q : Bool) : Nat → Value → World → Prop := fun d x w => match d with
 | 32 => x = .string m
 | 33 => x = .bool true
 | 34 => x = .bool true
 | 35 => x = .pointer (some ⟨X, 0, none⟩)
 | 36 => x = .bool false
 | 37 => x = .bool false
 | 38 => x = .pointer (some ⟨Y, 0, none⟩)
 | 39 => x = .bool false
 | 40 => x = .bool false
 | 41 => x = .bool false
 | 42 => x = .pointer (some ⟨X, 0, none⟩)
 | 43 => x = .pointer (some ⟨X, 0, none⟩)
 | 44 => x = .pointer (some ⟨X, 3, none⟩)
 | 45 => x = .pointer (some ⟨X, 9, none⟩)
 | 46 => x = .string a.tail
 | 47 => x = .pointer (some ⟨Y, 0, none⟩)
 | 48 => x = .pointer (some ⟨Y, 0, none⟩)
 | 49 => x = .pointer (some ⟨Y, 3, none⟩)
 | 50 => x = .pointer (some ⟨Y, 8, none⟩)
 | 51 => x = .string b.head
 | 52 => x = .bool q
 | 53 => x = .bool q
 | 54 => x = .bool q
 | _ => True
theorem VPut5_mono (X Y : Nat) (a b : Sm) (m : ByteArray) (q : Bool) : ∀ d x w w', VPut5 X Y a b m q d x w → Below w.heap.size w w' → VPut5 X Y a b m q d x w' := by
 exact fun _ _ _ _ h _ => h
def VPut11 (X : Nat) (a : Sm) (m : ByteArray) (q : Bool) : Nat → Value → World → Prop := fun d x w => match d with
 | 70 => x = .pointer (some ⟨X, 0, none⟩)
 | 71 => x = .bool true
 | 72 => x = .bool true
 | 73 => x = .string m
 | 74 => x = .int .i64 m.size
 | 75 => x = .bool false
 | 76 => x = .bool false
 | 77 => x = .pointer (some ⟨X, 0, none⟩)
 | 78 => x = .pointer (some ⟨X, 0, none⟩)
 | 79 => x = .pointer (some ⟨X, 3, none⟩)
 | 80 => x = .pointer (some ⟨X, 9, none⟩)
 | 81 => x = .string a.tail
 | 82 => x = .string m
 | 83 => x = .string m
 | 84 => x = .int .i64 m.size
 | 85 => x = .int .i64 16
 | 86 => x = .string (m.extract 0 16)
 | 87 => x = .bool q
 | 88 => x = .bool (!q)
 | 89 => x = .bool (!q)
 | 90 => x = .bool (!q)
 | 69 => x = .bool (!q)
 | _ => True
theorem VPut11_mono (X : Nat) (a : Sm) (m : ByteArray) (q : Bool) : ∀ d x w w', VPut11 X a m q d x w → Below w.heap.size w w' → VPut11 X a m q d x w' := by
 exact fun _ _ _ _ h _ => h
def VPut14 (Y : Nat) (b : Sm) (m : ByteArray) (k : Nat) (q : Bool) : Nat → Value → World → Prop := fun d x w => match d with
 | 108 => x = .pointer (some ⟨Y, 0, none⟩)
 | 109 => x = .bool true
 | 110 => x = .bool true
 | 111 => x = .string m
 | 112 => x = .int .i64 m.size
 | 113 => x = .bool false
 | 114 => x = .bool false
 | 115 => x = .string m
 | 116 => x = .string m
 | 117 => x = .int .i64 m.size
 | 118 => x = .int .i64 k
 | 119 => x = .int .i64 k
 | 120 => x = .string (m.extract k m.size)
 | 121 => x = .pointer (some ⟨Y, 0, none⟩)
 | 122 => x = .pointer (some ⟨Y, 0, none⟩)
 | 123 => x = .pointer (some ⟨Y, 3, none⟩)
 | 124 => x = .pointer (some ⟨Y, 8, none⟩)
 | 125 => x = .string b.head
 | 126 => x = .bool q
 | 127 => x = .bool (!q)
 | 128 => x = .bool (!q)
 | 129 => x = .bool (!q)
 | 107 => x = .bool (!q)
 | _ => True
theorem VPut14_mono (Y : Nat) (b : Sm) (m : ByteArray) (k : Nat) (q : Bool) : ∀ d x w w', VPut14 Y b m k q d x w → Below w.heap.size w w' → VPut14 Y b m k q d x w' := by
 exact fun _ _ _ _ h _ => h

set_option maxRecDepth 100000 in
set_option maxHeartbeats 4000000 in
theorem put_any (v1 v3 : Value) (l r : Option Tr) (m : ByteArray) (w : World) (hT : Tabs w) (h1 : IsOpt w v1 l) (h3 : IsOpt w v3 r) (g1 : GoodO l) (g3 : GoodO r) (hs : (txt l).size + m.size + (txt r).size ≤ 4294967296) :
  Calls Tryz.prog 132 #[v1, .string m, v3] w fun e w' => ∃ b t, e = .returned (ptr b) ∧ IsTr w' b t ∧ t.text = txt l ++ m ++ txt r ∧ (t.Ok ∨ ∃ s, t = .leaf s) ∧ Below w.heap.size w w' := by
 have HT := Lib.hid hT
 have H1 := Lib.hid h1
 have H3 := Lib.hid h3
 have G1 := Lib.hid g1
 have G3 := Lib.hid g3
 obtain ⟨T, hTT⟩ : ∃ T, txt l ++ m ++ txt r = T := ⟨_, rfl⟩
 have hTs : T.size ≤ 4294967296 := by rw [← hTT, ByteArray.size_append, ByteArray.size_append]; exact hs
 rw [hTT]
 have HTT := Lib.hid hTT
 have HT0 := HT
 clear hT h1 h3 g1 g3 hTT
 go_enter Tryz.func132, Tryz.ntmps132
 go_upto_if 17 with (refine (short_any v1 l w H1.out).mono ?_; rintro e w1 ⟨rfl, rfl⟩)
 obtain ⟨w, rfl⟩ : ∃ w, w1 = w := ⟨_, rfl⟩
 go_cut [0, 1] (fun a b wx => ∃ (l' : Option Tr) (m' : ByteArray), b = .string m' ∧ Hid (IsOpt wx a l') ∧ Hid (OkO l') ∧ Hid (txt l' ++ m' = txt l ++ m) ∧ Hid (Below w1.heap.size w1 wx))
 case first =>
  rcases short_cases l G1.out (by omega) with ⟨s, rfl, hss⟩ | ⟨hsh, hok⟩
  ·obtain ⟨X, rfl, hX⟩ := H1.out
   have hL : Lies w1 X (nodeV (.pointer none) (.pointer none) 0 (measF s) s) := Blk.lies hX
   have c10 := (hL.2 10 _ rfl).1
   have hq : isShort (some (.leaf s)) = true := by simp [isShort]; omega
   have hz : ¬ 9223372036854775807 < s.size + m.size := by omega
   rw [hq]
   clear hX hL hq
   unfold ptr
   go_wp2
   go_quiet (fail)
   go_wp2
   go_meet
   exact ⟨none, s ++ m, rfl, Lib.hid rfl, Lib.hid okO_none, Lib.hid (by rw [txt_none, nil_app, txt_some]; rfl), Lib.hid (Drawn.below _)⟩
  ·rw [hsh]
   go_wp2
   go_meet
   exact ⟨l, m, rfl, H1, Lib.hid hok, Lib.hid rfl, Lib.hid (Below.refl _ _)⟩
 case rest =>
  obtain ⟨l', m', rfl, H1', O1, E1, HB⟩ := hcut
  have HT := Lib.hid (tabs_below HT.out HB.out)
  have H3 := Lib.hid (H3.out.below HB.out)
  clear H1 G1
  go_upto_if 25 with (refine (short_any v3 r _ H3.out).mono ?_; rintro e w2 ⟨rfl, rfl⟩)
  have hz1 : (txt l').size + m'.size + (txt r).size ≤ 4294967296 := by
   have := congrArg ByteArray.size E1.out
   rw [ByteArray.size_append, ByteArray.size_append] at this
   omega
  go_cut [2, 1] (fun a b wx => ∃ (r' : Option Tr) (m2 : ByteArray), b = .string m2 ∧ Hid (IsOpt wx a r') ∧ Hid (OkO r') ∧ Hid (m2 ++ txt r' = m' ++ txt r) ∧ Hid (Below w2.heap.size w2 wx))
  case first =>
   rcases short_cases r G3.out (by omega) with ⟨s, rfl, hss⟩ | ⟨hsh, hok⟩
   ·obtain ⟨X, rfl, hX⟩ := H3.out
    have hL : Lies w2 X (nodeV (.pointer none) (.pointer none) 0 (measF s) s) := Blk.lies hX
    have c10 := (hL.2 10 _ rfl).1
    have hq : isShort (some (.leaf s)) = true := by simp [isShort]; omega
    have hz : ¬ 9223372036854775807 < m'.size + s.size := by rw [txt_some] at hz1; show ¬ _; simp only [Tr.text] at hz1; omega
    rw [hq]
    clear hX hL hq
    unfold ptr
    go_wp2
    go_quiet (fail)
    go_wp2
    go_meet
    exact ⟨none, m' ++ s, rfl, Lib.hid rfl, Lib.hid okO_none, Lib.hid (by rw [txt_none, app_nil, txt_some]; rfl), Lib.hid (Drawn.below _)⟩
   ·rw [hsh]
    go_wp2
    go_meet
    exact ⟨r, m', rfl, H3, Lib.hid hok, Lib.hid rfl, Lib.hid (Below.refl _ _)⟩
  case rest =>
   obtain ⟨r', m2, rfl, H3', O3, E3, HB2⟩ := hcut
   have ET : Hid (txt l' ++ m2 ++ txt r' = T) := Lib.hid (by rw [app_assoc, E3.out, ← app_assoc, E1.out]; exact HTT.out)
   have H1' := Lib.hid (H1'.out.below HB2.out)
   have HT := Lib.hid (tabs_below HT.out HB2.out)
   have HB := Lib.hid (HB.out.trans (HB2.out.mono HB.out.size))
   have hz2 : (txt l').size + m2.size + (txt r').size ≤ 4294967296 := by
    have h1 := congrArg ByteArray.size E3.out
    rw [ByteArray.size_append, ByteArray.size_append] at h1
    omega
   clear HB2 H3 G3 E1 E3 HTT hz1
   go_upto_region 5 with fail
   go_cut [54] (fun s wx => ∃ b : Bool, s = .bool b ∧ Hid (b = true → m2.size = 0) ∧ Hid (b = false → 0 < m2.size ∨ l' ≠ none) ∧ Hid (Below wc.heap.size wc wx))
   case first =>
    have HBr := Lib.hid (Below.refl wc.heap.size wc)
    by_cases hm : m2.size = 0
    ·obtain rfl : m2 = ⟨#[]⟩ := by apply ext_of_list; exact List.eq_nil_of_length_eq_zero (by rw [← Lib.size_eq]; exact hm)
     clear hm hz2
     cases l' with
     | none =>
      obtain rfl : u0 = .pointer none := H1'.out
      go_quiet (fail)
      go_wp2
      go_meet
      exact ⟨true, rfl, Lib.hid (fun _ => rfl), Lib.hid (fun h => by cases h), Lib.hid (Drawn.below _)⟩
     | some tl =>
      obtain ⟨X, rfl, hX⟩ := H1'.out
      unfold ptr
      cases r' with
      | none =>
       obtain rfl : u2 = .pointer none := H3'.out
       go_quiet (fail)
       go_wp2
       go_meet
       exact ⟨true, rfl, Lib.hid (fun _ => rfl), Lib.hid (fun h => by cases h), Lib.hid (Drawn.below _)⟩
      | some tr =>
       obtain ⟨Y, rfl, hY⟩ := H3'.out
       unfold ptr
       obtain ⟨vl, vr, vs, nX⟩ := hX.node
       obtain ⟨wl, wr', ws, nY⟩ := hY.node
       obtain ⟨a, ha⟩ : ∃ a, measF tl.text = a := ⟨_, rfl⟩
       obtain ⟨b, hb⟩ : ∃ b, measF tr.text = b := ⟨_, rfl⟩
       rw [ha] at nX
       rw [hb] at nY
       have zt : a.tail.size ≤ 16 := by rw [← ha]; show (tailF _).size ≤ 16; rw [tailF_size]; omega
       have zh : b.head.size ≤ 16 := by rw [← hb]; show (headF _).size ≤ 16; rw [headF_size]; omega
       have HS := Lib.hid (fun W hW => seam_any a.tail b.head W hW (by omega))
       have NX := Lib.hid nX
       have NY := Lib.hid nY
       have lX := nX.1
       have lY := nY.1
       clear ha hb nX nY hX hY
       obtain ⟨q, hq⟩ : ∃ q, seamF a.tail b.head = q := ⟨_, rfl⟩
       rw [hq] at HS
       clear hq
       refine wp_held' mixed (VPut5 X Y a b ⟨#[]⟩ q) (VPut5_mono X Y a b ⟨#[]⟩ q) (by kernel_rfl) [32, 33, 34, 35, 36, 37, 38, 39, 40, 41, 42, 43, 44, 45, 46, 47, 48, 49, 50, 51, 52, 53, 54] (by kernel_rfl) (by kernel_rfl) ?_ ?_
       ·intro j hj
        have hj' : j < 23 := hj
        rcases (by omega : j = 0 ∨ j = 1 ∨ j = 2 ∨ j = 3 ∨ j = 4 ∨ j = 5 ∨ j = 6 ∨ j = 7 ∨ j = 8 ∨ j = 9 ∨ j = 10 ∨ j = 11 ∨ j = 12 ∨ j = 13 ∨ j = 14 ∨ j = 15 ∨ j = 16 ∨ j = 17 ∨ j = 18 ∨ j = 19 ∨ j = 20 ∨ j = 21 ∨ j = 22) with rfl | rfl | rfl | rfl | rfl | rfl | rfl | rfl | rfl | rfl | rfl | rfl | rfl | rfl | rfl | rfl | rfl | rfl | rfl | rfl | rfl | rfl | rfl
        ·(refine owes_val (L := [(1, false)]) rfl rfl rfl (by kernel_rfl) ?_; intro a' w' hb' hfacts; obtain ⟨hf1, -⟩ := hfacts; replace hf1 : a'.tmps[1]?.getD undef = .string ⟨#[]⟩ := hf1)
         have pX := ((NX.out.below hb').2 9 _ rfl).1; have pY := ((NY.out.below hb').2 8 _ rfl).1
         (go_simp; first | exact ⟨_, rfl, Br _, rfl⟩ | exact ⟨_, rfl, Br _, trivial⟩ | exact ⟨_, rfl, Ba _ _, trivial⟩ | exact ⟨_, rfl, Br _, congrArg (Value.int _) (IntWalk.i64_in _ (by omega))⟩)
        ·(refine owes_val (L := [(32, true)]) rfl rfl rfl (by kernel_rfl) ?_; intro a' w' hb' hfacts; obtain ⟨hf32, -⟩ := hfacts; try simp only [VPut5] at hf32)
         have pX := ((NX.out.below hb').2 9 _ rfl).1; have pY := ((NY.out.below hb').2 8 _ rfl).1
         (go_simp; first | exact ⟨_, rfl, Br _, rfl⟩ | exact ⟨_, rfl, Br _, trivial⟩ | exact ⟨_, rfl, Ba _ _, trivial⟩ | exact ⟨_, rfl, Br _, congrArg (Value.int _) (IntWalk.i64_in _ (by omega))⟩)
        ·(refine owes_val (L := [(33, true)]) rfl rfl rfl (by kernel_rfl) ?_; intro a' w' hb' hfacts; obtain ⟨hf33, -⟩ := hfacts; try simp only [VPut5] at hf33)
         have pX := ((NX.out.below hb').2 9 _ rfl).1; have pY := ((NY.out.below hb').2 8 _ rfl).1
         (go_simp; first | exact ⟨_, rfl, Br _, rfl⟩ | exact ⟨_, rfl, Br _, trivial⟩ | exact ⟨_, rfl, Ba _ _, trivial⟩ | exact ⟨_, rfl, Br _, congrArg (Value.int _) (IntWalk.i64_in _ (by omega))⟩)
        ·(refine owes_if (L := [(0, false), (34, true)]) rfl rfl rfl rfl (by kernel_rfl) ?_; intro a' w' hb' hfacts; obtain ⟨hf0, hf34, -⟩ := hfacts; replace hf0 : a'.tmps[0]?.getD undef = .pointer (some ⟨X, 0, none⟩) := hf0; try simp only [VPut5] at hf34)
         have pX := ((NX.out.below hb').2 9 _ rfl).1; have pY := ((NY.out.below hb').2 8 _ rfl).1
         first | (go_simp; first | exact ⟨_, rfl, Br _, rfl⟩ | exact ⟨_, rfl, Br _, trivial⟩ | exact ⟨_, rfl, Br _⟩ | exact ⟨_, rfl, Ba _ _, trivial⟩) | (apply Exists.intro; apply And.intro; assumption; apply And.intro; (intro hc; first | exact absurd hc (by simp [undef]) | (go_simp; first | exact ⟨_, rfl, Br _, rfl⟩ | exact ⟨_, rfl, Br _, trivial⟩ | exact ⟨_, rfl, Br _⟩ | exact ⟨_, rfl, Ba _ _, trivial⟩)); (intro hc; first | exact absurd rfl hc | exact trivial | exact rfl)) | (apply Exists.intro; apply And.intro; assumption; intro hc; first | exact absurd hc (by simp [undef]) | (go_simp; first | exact ⟨_, rfl, Br _, rfl⟩ | exact ⟨_, rfl, Br _, trivial⟩ | exact ⟨_, rfl, Br _⟩ | exact ⟨_, rfl, Ba _ _, trivial⟩))
        ·(refine owes_if (L := [(35, true), (34, true)]) rfl rfl rfl rfl (by kernel_rfl) ?_; intro a' w' hb' hfacts; obtain ⟨hf35, hf34, -⟩ := hfacts; try simp only [VPut5] at hf35; try simp only [VPut5] at hf34)
         have pX := ((NX.out.below hb').2 9 _ rfl).1; have pY := ((NY.out.below hb').2 8 _ rfl).1
         first | (go_simp; first | exact ⟨_, rfl, Br _, rfl⟩ | exact ⟨_, rfl, Br _, trivial⟩ | exact ⟨_, rfl, Br _⟩ | exact ⟨_, rfl, Ba _ _, trivial⟩) | (apply Exists.intro; apply And.intro; assumption; apply And.intro; (intro hc; first | exact absurd hc (by simp [undef]) | (go_simp; first | exact ⟨_, rfl, Br _, rfl⟩ | exact ⟨_, rfl, Br _, trivial⟩ | exact ⟨_, rfl, Br _⟩ | exact ⟨_, rfl, Ba _ _, trivial⟩)); (intro hc; first | exact absurd rfl hc | exact trivial | exact rfl)) | (apply Exists.intro; apply And.intro; assumption; intro hc; first | exact absurd hc (by simp [undef]) | (go_simp; first | exact ⟨_, rfl, Br _, rfl⟩ | exact ⟨_, rfl, Br _, trivial⟩ | exact ⟨_, rfl, Br _⟩ | exact ⟨_, rfl, Ba _ _, trivial⟩))
        ·(refine owes_if (L := [(36, true), (34, true)]) rfl rfl rfl rfl (by kernel_rfl) ?_; intro a' w' hb' hfacts; obtain ⟨hf36, hf34, -⟩ := hfacts; try simp only [VPut5] at hf36; try simp only [VPut5] at hf34)
         have pX := ((NX.out.below hb').2 9 _ rfl).1; have pY := ((NY.out.below hb').2 8 _ rfl).1
         first | (go_simp; first | exact ⟨_, rfl, Br _, rfl⟩ | exact ⟨_, rfl, Br _, trivial⟩ | exact ⟨_, rfl, Br _⟩ | exact ⟨_, rfl, Ba _ _, trivial⟩) | (apply Exists.intro; apply And.intro; assumption; apply And.intro; (intro hc; first | exact absurd hc (by simp [undef]) | (go_simp; first | exact ⟨_, rfl, Br _, rfl⟩ | exact ⟨_, rfl, Br _, trivial⟩ | exact ⟨_, rfl, Br _⟩ | exact ⟨_, rfl, Ba _ _, trivial⟩)); (intro hc; first | exact absurd rfl hc | exact trivial | exact rfl)) | (apply Exists.intro; apply And.intro; assumption; intro hc; first | exact absurd hc (by simp [undef]) | (go_simp; first | exact ⟨_, rfl, Br _, rfl⟩ | exact ⟨_, rfl, Br _, trivial⟩ | exact ⟨_, rfl, Br _⟩ | exact ⟨_, rfl, Ba _ _, trivial⟩))
        ·(refine owes_if (L := [(2, false), (37, true)]) rfl rfl rfl rfl (by kernel_rfl) ?_; intro a' w' hb' hfacts; obtain ⟨hf2, hf37, -⟩ := hfacts; replace hf2 : a'.tmps[2]?.getD undef = .pointer (some ⟨Y, 0, none⟩) := hf2; try simp only [VPut5] at hf37)
         have pX := ((NX.out.below hb').2 9 _ rfl).1; have pY := ((NY.out.below hb').2 8 _ rfl).1
         first | (go_simp; first | exact ⟨_, rfl, Br _, rfl⟩ | exact ⟨_, rfl, Br _, trivial⟩ | exact ⟨_, rfl, Br _⟩ | exact ⟨_, rfl, Ba _ _, trivial⟩) | (apply Exists.intro; apply And.intro; assumption; apply And.intro; (intro hc; first | exact absurd hc (by simp [undef]) | (go_simp; first | exact ⟨_, rfl, Br _, rfl⟩ | exact ⟨_, rfl, Br _, trivial⟩ | exact ⟨_, rfl, Br _⟩ | exact ⟨_, rfl, Ba _ _, trivial⟩)); (intro hc; first | exact absurd rfl hc | exact trivial | exact rfl)) | (apply Exists.intro; apply And.intro; assumption; intro hc; first | exact absurd hc (by simp [undef]) | (go_simp; first | exact ⟨_, rfl, Br _, rfl⟩ | exact ⟨_, rfl, Br _, trivial⟩ | exact ⟨_, rfl, Br _⟩ | exact ⟨_, rfl, Ba _ _, trivial⟩))
        ·(refine owes_if (L := [(38, true), (37, true)]) rfl rfl rfl rfl (by kernel_rfl) ?_; intro a' w' hb' hfacts; obtain ⟨hf38, hf37, -⟩ := hfacts; try simp only [VPut5] at hf38; try simp only [VPut5] at hf37)
         have pX := ((NX.out.below hb').2 9 _ rfl).1; have pY := ((NY.out.below hb').2 8 _ rfl).1
         first | (go_simp; first | exact ⟨_, rfl, Br _, rfl⟩ | exact ⟨_, rfl, Br _, trivial⟩ | exact ⟨_, rfl, Br _⟩ | exact ⟨_, rfl, Ba _ _, trivial⟩) | (apply Exists.intro; apply And.intro; assumption; apply And.intro; (intro hc; first | exact absurd hc (by simp [undef]) | (go_simp; first | exact ⟨_, rfl, Br _, rfl⟩ | exact ⟨_, rfl, Br _, trivial⟩ | exact ⟨_, rfl, Br _⟩ | exact ⟨_, rfl, Ba _ _, trivial⟩)); (intro hc; first | exact absurd rfl hc | exact trivial | exact rfl)) | (apply Exists.intro; apply And.intro; assumption; intro hc; first | exact absurd hc (by simp [undef]) | (go_simp; first | exact ⟨_, rfl, Br _, rfl⟩ | exact ⟨_, rfl, Br _, trivial⟩ | exact ⟨_, rfl, Br _⟩ | exact ⟨_, rfl, Ba _ _, trivial⟩))
        ·(refine owes_if (L := [(37, true), (39, true), (34, true)]) rfl rfl rfl rfl (by kernel_rfl) ?_; intro a' w' hb' hfacts; obtain ⟨hf37, hf39, hf34, -⟩ := hfacts; try simp only [VPut5] at hf37; try simp only [VPut5] at hf39; try simp only [VPut5] at hf34)
         have pX := ((NX.out.below hb').2 9 _ rfl).1; have pY := ((NY.out.below hb').2 8 _ rfl).1
         first | (go_simp; first | exact ⟨_, rfl, Br _, rfl⟩ | exact ⟨_, rfl, Br _, trivial⟩ | exact ⟨_, rfl, Br _⟩ | exact ⟨_, rfl, Ba _ _, trivial⟩) | (apply Exists.intro; apply And.intro; assumption; apply And.intro; (intro hc; first | exact absurd hc (by simp [undef]) | (go_simp; first | exact ⟨_, rfl, Br _, rfl⟩ | exact ⟨_, rfl, Br _, trivial⟩ | exact ⟨_, rfl, Br _⟩ | exact ⟨_, rfl, Ba _ _, trivial⟩)); (intro hc; first | exact absurd rfl hc | exact trivial | exact rfl)) | (apply Exists.intro; apply And.intro; assumption; intro hc; first | exact absurd hc (by simp [undef]) | (go_simp; first | exact ⟨_, rfl, Br _, rfl⟩ | exact ⟨_, rfl, Br _, trivial⟩ | exact ⟨_, rfl, Br _⟩ | exact ⟨_, rfl, Ba _ _, trivial⟩))
        ·(refine owes_if (L := [(40, true), (34, true)]) rfl rfl rfl rfl (by kernel_rfl) ?_; intro a' w' hb' hfacts; obtain ⟨hf40, hf34, -⟩ := hfacts; try simp only [VPut5] at hf40; try simp only [VPut5] at hf34)
         have pX := ((NX.out.below hb').2 9 _ rfl).1; have pY := ((NY.out.below hb').2 8 _ rfl).1
         first | (go_simp; first | exact ⟨_, rfl, Br _, rfl⟩ | exact ⟨_, rfl, Br _, trivial⟩ | exact ⟨_, rfl, Br _⟩ | exact ⟨_, rfl, Ba _ _, trivial⟩) | (apply Exists.intro; apply And.intro; assumption; apply And.intro; (intro hc; first | exact absurd hc (by simp [undef]) | (go_simp; first | exact ⟨_, rfl, Br _, rfl⟩ | exact ⟨_, rfl, Br _, trivial⟩ | exact ⟨_, rfl, Br _⟩ | exact ⟨_, rfl, Ba _ _, trivial⟩)); (intro hc; first | exact absurd rfl hc | exact trivial | exact rfl)) | (apply Exists.intro; apply And.intro; assumption; intro hc; first | exact absurd hc (by simp [undef]) | (go_simp; first | exact ⟨_, rfl, Br _, rfl⟩ | exact ⟨_, rfl, Br _, trivial⟩ | exact ⟨_, rfl, Br _⟩ | exact ⟨_, rfl, Ba _ _, trivial⟩))
        ·(refine owes_if (L := [(0, false), (41, true)]) rfl rfl rfl rfl (by kernel_rfl) ?_; intro a' w' hb' hfacts; obtain ⟨hf0, hf41, -⟩ := hfacts; replace hf0 : a'.tmps[0]?.getD undef = .pointer (some ⟨X, 0, none⟩) := hf0; try simp only [VPut5] at hf41)
         have pX := ((NX.out.below hb').2 9 _ rfl).1; have pY := ((NY.out.below hb').2 8 _ rfl).1
         first | (go_simp; first | exact ⟨_, rfl, Br _, rfl⟩ | exact ⟨_, rfl, Br _, trivial⟩ | exact ⟨_, rfl, Br _⟩ | exact ⟨_, rfl, Ba _ _, trivial⟩) | (apply Exists.intro; apply And.intro; assumption; apply And.intro; (intro hc; first | exact absurd hc (by simp [undef]) | (go_simp; first | exact ⟨_, rfl, Br _, rfl⟩ | exact ⟨_, rfl, Br _, trivial⟩ | exact ⟨_, rfl, Br _⟩ | exact ⟨_, rfl, Ba _ _, trivial⟩)); (intro hc; first | exact absurd rfl hc | exact trivial | exact rfl)) | (apply Exists.intro; apply And.intro; assumption; intro hc; first | exact absurd hc (by simp [undef]) | (go_simp; first | exact ⟨_, rfl, Br _, rfl⟩ | exact ⟨_, rfl, Br _, trivial⟩ | exact ⟨_, rfl, Br _⟩ | exact ⟨_, rfl, Ba _ _, trivial⟩))
        ·(refine owes_if (L := [(42, true), (41, true)]) rfl rfl rfl rfl (by kernel_rfl) ?_; intro a' w' hb' hfacts; obtain ⟨hf42, hf41, -⟩ := hfacts; try simp only [VPut5] at hf42; try simp only [VPut5] at hf41)
         have pX := ((NX.out.below hb').2 9 _ rfl).1; have pY := ((NY.out.below hb').2 8 _ rfl).1
         first | (go_simp; first | exact ⟨_, rfl, Br _, rfl⟩ | exact ⟨_, rfl, Br _, trivial⟩ | exact ⟨_, rfl, Br _⟩ | exact ⟨_, rfl, Ba _ _, trivial⟩) | (apply Exists.intro; apply And.intro; assumption; apply And.intro; (intro hc; first | exact absurd hc (by simp [undef]) | (go_simp; first | exact ⟨_, rfl, Br _, rfl⟩ | exact ⟨_, rfl, Br _, trivial⟩ | exact ⟨_, rfl, Br _⟩ | exact ⟨_, rfl, Ba _ _, trivial⟩)); (intro hc; first | exact absurd rfl hc | exact trivial | exact rfl)) | (apply Exists.intro; apply And.intro; assumption; intro hc; first | exact absurd hc (by simp [undef]) | (go_simp; first | exact ⟨_, rfl, Br _, rfl⟩ | exact ⟨_, rfl, Br _, trivial⟩ | exact ⟨_, rfl, Br _⟩ | exact ⟨_, rfl, Ba _ _, trivial⟩))
        ·(refine owes_if (L := [(43, true), (41, true)]) rfl rfl rfl rfl (by kernel_rfl) ?_; intro a' w' hb' hfacts; obtain ⟨hf43, hf41, -⟩ := hfacts; try simp only [VPut5] at hf43; try simp only [VPut5] at hf41)
         have pX := ((NX.out.below hb').2 9 _ rfl).1; have pY := ((NY.out.below hb').2 8 _ rfl).1
         first | (go_simp; first | exact ⟨_, rfl, Br _, rfl⟩ | exact ⟨_, rfl, Br _, trivial⟩ | exact ⟨_, rfl, Br _⟩ | exact ⟨_, rfl, Ba _ _, trivial⟩) | (apply Exists.intro; apply And.intro; assumption; apply And.intro; (intro hc; first | exact absurd hc (by simp [undef]) | (go_simp; first | exact ⟨_, rfl, Br _, rfl⟩ | exact ⟨_, rfl, Br _, trivial⟩ | exact ⟨_, rfl, Br _⟩ | exact ⟨_, rfl, Ba _ _, trivial⟩)); (intro hc; first | exact absurd rfl hc | exact trivial | exact rfl)) | (apply Exists.intro; apply And.intro; assumption; intro hc; first | exact absurd hc (by simp [undef]) | (go_simp; first | exact ⟨_, rfl, Br _, rfl⟩ | exact ⟨_, rfl, Br _, trivial⟩ | exact ⟨_, rfl, Br _⟩ | exact ⟨_, rfl, Ba _ _, trivial⟩))
        ·(refine owes_if (L := [(44, true), (41, true)]) rfl rfl rfl rfl (by kernel_rfl) ?_; intro a' w' hb' hfacts; obtain ⟨hf44, hf41, -⟩ := hfacts; try simp only [VPut5] at hf44; try simp only [VPut5] at hf41)
         have pX := ((NX.out.below hb').2 9 _ rfl).1; have pY := ((NY.out.below hb').2 8 _ rfl).1
         first | (go_simp; first | exact ⟨_, rfl, Br _, rfl⟩ | exact ⟨_, rfl, Br _, trivial⟩ | exact ⟨_, rfl, Br _⟩ | exact ⟨_, rfl, Ba _ _, trivial⟩) | (apply Exists.intro; apply And.intro; assumption; apply And.intro; (intro hc; first | exact absurd hc (by simp [undef]) | (go_simp; first | exact ⟨_, rfl, Br _, rfl⟩ | exact ⟨_, rfl, Br _, trivial⟩ | exact ⟨_, rfl, Br _⟩ | exact ⟨_, rfl, Ba _ _, trivial⟩)); (intro hc; first | exact absurd rfl hc | exact trivial | exact rfl)) | (apply Exists.intro; apply And.intro; assumption; intro hc; first | exact absurd hc (by simp [undef]) | (go_simp; first | exact ⟨_, rfl, Br _, rfl⟩ | exact ⟨_, rfl, Br _, trivial⟩ | exact ⟨_, rfl, Br _⟩ | exact ⟨_, rfl, Ba _ _, trivial⟩))
        ·(refine owes_if (L := [(45, true), (41, true)]) rfl rfl rfl rfl (by kernel_rfl) ?_; intro a' w' hb' hfacts; obtain ⟨hf45, hf41, -⟩ := hfacts; try simp only [VPut5] at hf45; try simp only [VPut5] at hf41)
         have pX := ((NX.out.below hb').2 9 _ rfl).1; have pY := ((NY.out.below hb').2 8 _ rfl).1
         first | (go_simp; first | exact ⟨_, rfl, Br _, rfl⟩ | exact ⟨_, rfl, Br _, trivial⟩ | exact ⟨_, rfl, Br _⟩ | exact ⟨_, rfl, Ba _ _, trivial⟩) | (apply Exists.intro; apply And.intro; assumption; apply And.intro; (intro hc; first | exact absurd hc (by simp [undef]) | (go_simp; first | exact ⟨_, rfl, Br _, rfl⟩ | exact ⟨_, rfl, Br _, trivial⟩ | exact ⟨_, rfl, Br _⟩ | exact ⟨_, rfl, Ba _ _, trivial⟩)); (intro hc; first | exact absurd rfl hc | exact trivial | exact rfl)) | (apply Exists.intro; apply And.intro; assumption; intro hc; first | exact absurd hc (by simp [undef]) | (go_simp; first | exact ⟨_, rfl, Br _, rfl⟩ | exact ⟨_, rfl, Br _, trivial⟩ | exact ⟨_, rfl, Br _⟩ | exact ⟨_, rfl, Ba _ _, trivial⟩))
        ·(refine owes_if (L := [(2, false), (41, true)]) rfl rfl rfl rfl (by kernel_rfl) ?_; intro a' w' hb' hfacts; obtain ⟨hf2, hf41, -⟩ := hfacts; replace hf2 : a'.tmps[2]?.getD undef = .pointer (some ⟨Y, 0, none⟩) := hf2; try simp only [VPut5] at hf41)
         have pX := ((NX.out.below hb').2 9 _ rfl).1; have pY := ((NY.out.below hb').2 8 _ rfl).1
         first | (go_simp; first | exact ⟨_, rfl, Br _, rfl⟩ | exact ⟨_, rfl, Br _, trivial⟩ | exact ⟨_, rfl, Br _⟩ | exact ⟨_, rfl, Ba _ _, trivial⟩) | (apply Exists.intro; apply And.intro; assumption; apply And.intro; (intro hc; first | exact absurd hc (by simp [undef]) | (go_simp; first | exact ⟨_, rfl, Br _, rfl⟩ | exact ⟨_, rfl, Br _, trivial⟩ | exact ⟨_, rfl, Br _⟩ | exact ⟨_, rfl, Ba _ _, trivial⟩)); (intro hc; first | exact absurd rfl hc | exact trivial | exact rfl)) | (apply Exists.intro; apply And.intro; assumption; intro hc; first | exact absurd hc (by simp [undef]) | (go_simp; first | exact ⟨_, rfl, Br _, rfl⟩ | exact ⟨_, rfl, Br _, trivial⟩ | exact ⟨_, rfl, Br _⟩ | exact ⟨_, rfl, Ba _ _, trivial⟩))
        ·(refine owes_if (L := [(47, true), (41, true)]) rfl rfl rfl rfl (by kernel_rfl) ?_; intro a' w' hb' hfacts; obtain ⟨hf47, hf41, -⟩ := hfacts; try simp only [VPut5] at hf47; try simp only [VPut5] at hf41)
         have pX := ((NX.out.below hb').2 9 _ rfl).1; have pY := ((NY.out.below hb').2 8 _ rfl).1
         first | (go_simp; first | exact ⟨_, rfl, Br _, rfl⟩ | exact ⟨_, rfl, Br _, trivial⟩ | exact ⟨_, rfl, Br _⟩ | exact ⟨_, rfl, Ba _ _, trivial⟩) | (apply Exists.intro; apply And.intro; assumption; apply And.intro; (intro hc; first | exact absurd hc (by simp [undef]) | (go_simp; first | exact ⟨_, rfl, Br _, rfl⟩ | exact ⟨_, rfl, Br _, trivial⟩ | exact ⟨_, rfl, Br _⟩ | exact ⟨_, rfl, Ba _ _, trivial⟩)); (intro hc; first | exact absurd rfl hc | exact trivial | exact rfl)) | (apply Exists.intro; apply And.intro; assumption; intro hc; first | exact absurd hc (by simp [undef]) | (go_simp; first | exact ⟨_, rfl, Br _, rfl⟩ | exact ⟨_, rfl, Br _, trivial⟩ | exact ⟨_, rfl, Br _⟩ | exact ⟨_, rfl, Ba _ _, trivial⟩))
        ·(refine owes_if (L := [(48, true), (41, true)]) rfl rfl rfl rfl (by kernel_rfl) ?_; intro a' w' hb' hfacts; obtain ⟨hf48, hf41, -⟩ := hfacts; try simp only [VPut5] at hf48; try simp only [VPut5] at hf41)
         have pX := ((NX.out.below hb').2 9 _ rfl).1; have pY := ((NY.out.below hb').2 8 _ rfl).1
         first | (go_simp; first | exact ⟨_, rfl, Br _, rfl⟩ | exact ⟨_, rfl, Br _, trivial⟩ | exact ⟨_, rfl, Br _⟩ | exact ⟨_, rfl, Ba _ _, trivial⟩) | (apply Exists.intro; apply And.intro; assumption; apply And.intro; (intro hc; first | exact absurd hc (by simp [undef]) | (go_simp; first | exact ⟨_, rfl, Br _, rfl⟩ | exact ⟨_, rfl, Br _, trivial⟩ | exact ⟨_, rfl, Br _⟩ | exact ⟨_, rfl, Ba _ _, trivial⟩)); (intro hc; first | exact absurd rfl hc | exact trivial | exact rfl)) | (apply Exists.intro; apply And.intro; assumption; intro hc; first | exact absurd hc (by simp [undef]) | (go_simp; first | exact ⟨_, rfl, Br _, rfl⟩ | exact ⟨_, rfl, Br _, trivial⟩ | exact ⟨_, rfl, Br _⟩ | exact ⟨_, rfl, Ba _ _, trivial⟩))
        ·(refine owes_if (L := [(49, true), (41, true)]) rfl rfl rfl rfl (by kernel_rfl) ?_; intro a' w' hb' hfacts; obtain ⟨hf49, hf41, -⟩ := hfacts; try simp only [VPut5] at hf49; try simp only [VPut5] at hf41)
         have pX := ((NX.out.below hb').2 9 _ rfl).1; have pY := ((NY.out.below hb').2 8 _ rfl).1
         first | (go_simp; first | exact ⟨_, rfl, Br _, rfl⟩ | exact ⟨_, rfl, Br _, trivial⟩ | exact ⟨_, rfl, Br _⟩ | exact ⟨_, rfl, Ba _ _, trivial⟩) | (apply Exists.intro; apply And.intro; assumption; apply And.intro; (intro hc; first | exact absurd hc (by simp [undef]) | (go_simp; first | exact ⟨_, rfl, Br _, rfl⟩ | exact ⟨_, rfl, Br _, trivial⟩ | exact ⟨_, rfl, Br _⟩ | exact ⟨_, rfl, Ba _ _, trivial⟩)); (intro hc; first | exact absurd rfl hc | exact trivial | exact rfl)) | (apply Exists.intro; apply And.intro; assumption; intro hc; first | exact absurd hc (by simp [undef]) | (go_simp; first | exact ⟨_, rfl, Br _, rfl⟩ | exact ⟨_, rfl, Br _, trivial⟩ | exact ⟨_, rfl, Br _⟩ | exact ⟨_, rfl, Ba _ _, trivial⟩))
        ·(refine owes_if (L := [(50, true), (41, true)]) rfl rfl rfl rfl (by kernel_rfl) ?_; intro a' w' hb' hfacts; obtain ⟨hf50, hf41, -⟩ := hfacts; try simp only [VPut5] at hf50; try simp only [VPut5] at hf41)
         have pX := ((NX.out.below hb').2 9 _ rfl).1; have pY := ((NY.out.below hb').2 8 _ rfl).1
         first | (go_simp; first | exact ⟨_, rfl, Br _, rfl⟩ | exact ⟨_, rfl, Br _, trivial⟩ | exact ⟨_, rfl, Br _⟩ | exact ⟨_, rfl, Ba _ _, trivial⟩) | (apply Exists.intro; apply And.intro; assumption; apply And.intro; (intro hc; first | exact absurd hc (by simp [undef]) | (go_simp; first | exact ⟨_, rfl, Br _, rfl⟩ | exact ⟨_, rfl, Br _, trivial⟩ | exact ⟨_, rfl, Br _⟩ | exact ⟨_, rfl, Ba _ _, trivial⟩)); (intro hc; first | exact absurd rfl hc | exact trivial | exact rfl)) | (apply Exists.intro; apply And.intro; assumption; intro hc; first | exact absurd hc (by simp [undef]) | (go_simp; first | exact ⟨_, rfl, Br _, rfl⟩ | exact ⟨_, rfl, Br _, trivial⟩ | exact ⟨_, rfl, Br _⟩ | exact ⟨_, rfl, Ba _ _, trivial⟩))
        ·(refine owes_if (L := [(46, true), (51, true), (41, true)]) rfl rfl rfl rfl (by kernel_rfl) ?_; intro a' w' hb' hfacts; obtain ⟨hf46, hf51, hf41, -⟩ := hfacts; try simp only [VPut5] at hf46; try simp only [VPut5] at hf51; try simp only [VPut5] at hf41)
         refine ⟨_, hf41, fun _ => ?_, fun hc => absurd rfl hc⟩
         go_simp
         refine (HS.out _ (tabs_below HT.out hb')).mono ?_
         rintro e w3 ⟨rfl, hb3⟩
         exact ⟨_, rfl, hb3, rfl⟩
        ·(refine owes_if (L := [(41, true), (52, true), (34, true)]) rfl rfl rfl rfl (by kernel_rfl) ?_; intro a' w' hb' hfacts; obtain ⟨hf41, hf52, hf34, -⟩ := hfacts; try simp only [VPut5] at hf41; try simp only [VPut5] at hf52; try simp only [VPut5] at hf34)
         have pX := ((NX.out.below hb').2 9 _ rfl).1; have pY := ((NY.out.below hb').2 8 _ rfl).1
         first | (go_simp; first | exact ⟨_, rfl, Br _, rfl⟩ | exact ⟨_, rfl, Br _, trivial⟩ | exact ⟨_, rfl, Br _⟩ | exact ⟨_, rfl, Ba _ _, trivial⟩) | (apply Exists.intro; apply And.intro; assumption; apply And.intro; (intro hc; first | exact absurd hc (by simp [undef]) | (go_simp; first | exact ⟨_, rfl, Br _, rfl⟩ | exact ⟨_, rfl, Br _, trivial⟩ | exact ⟨_, rfl, Br _⟩ | exact ⟨_, rfl, Ba _ _, trivial⟩)); (intro hc; first | exact absurd rfl hc | exact trivial | exact rfl)) | (apply Exists.intro; apply And.intro; assumption; intro hc; first | exact absurd hc (by simp [undef]) | (go_simp; first | exact ⟨_, rfl, Br _, rfl⟩ | exact ⟨_, rfl, Br _, trivial⟩ | exact ⟨_, rfl, Br _⟩ | exact ⟨_, rfl, Ba _ _, trivial⟩))
        ·(refine owes_val (L := [(34, true), (53, true)]) rfl rfl rfl (by kernel_rfl) ?_; intro a' w' hb' hfacts; obtain ⟨hf34, hf53, -⟩ := hfacts; try simp only [VPut5] at hf34; try simp only [VPut5] at hf53)
         have pX := ((NX.out.below hb').2 9 _ rfl).1; have pY := ((NY.out.below hb').2 8 _ rfl).1
         (go_simp; first | exact ⟨_, rfl, Br _, rfl⟩ | exact ⟨_, rfl, Br _, trivial⟩ | exact ⟨_, rfl, Ba _ _, trivial⟩ | exact ⟨_, rfl, Br _, congrArg (Value.int _) (IntWalk.i64_in _ (by omega))⟩)
       ·intro f W9 hf hb3
        have f54 : f 54 = .bool q := hf 54 (by decide)
        have HB9 := Lib.hid hb3
        clear hf hb3
        simp only [putAll, put_lit, List.map_cons, List.map_nil, List.set_cons_succ, List.set_cons_zero]
        simp only [f54]
        go_wp2
        go_meet
        exact ⟨q, rfl, Lib.hid (fun _ => rfl), Lib.hid (fun _ => .inr (by simp)), HB9⟩
    ·have hm1 : m2.toList.isEmpty = false := by
      rw [List.isEmpty_eq_false_iff, toList_data]
      intro h
      exact hm (by rw [Lib.size_eq, h]; rfl)
     have hm2 : (m2.toList == []) = false := by
      rw [beq_eq_false_iff_ne]
      intro h
      rw [h] at hm1; cases hm1
     go_quiet (fail)
     go_wp2
     go_meet
     exact ⟨false, rfl, Lib.hid (fun h => by cases h), Lib.hid (fun _ => .inl (by omega)), Lib.hid (Drawn.below _)⟩
   case rest =>
    obtain ⟨b, rfl, P1, P2, HB5⟩ := hcut
    have H1' := Lib.hid (H1'.out.below HB5.out)
    have H3' := Lib.hid (H3'.out.below HB5.out)
    have HT := Lib.hid (tabs_below HT.out HB5.out)
    have HB := Lib.hid (HB.out.trans (HB5.out.mono HB.out.size))
    clear HB5
    cases b with
    | true =>
     obtain rfl : m2 = ⟨#[]⟩ := by apply ext_of_list; exact List.eq_nil_of_length_eq_zero (by rw [← Lib.size_eq]; exact P1.out rfl)
     have hok : OkL (lvs l' ++ lvs r') := by
      refine ⟨fun x hx => ?_, ?_⟩
      ·rcases List.mem_append.1 hx with h | h
       ·exact O1.out.lvs.ne x h
       ·exact O3.out.lvs.ne x h
      ·rw [cat_app_size]
       have e : (txt l').size + 0 + (txt r').size ≤ 4294967296 := hz2
       unfold txt at e; omega
     have HOK := Lib.hid hok
     clear hok P1 P2 hz2
     go_wp2_with fail
     refine (join_any u0 u2 l' r' _ HT.out H1'.out H3'.out HOK.out).mono ?_
     rintro e w5 ⟨v, t, rfl, ht, hlv, hb⟩
     have HL := Lib.hid hlv
     have HTT := Lib.hid ht
     have HT := Lib.hid (tabs_below HT.out hb)
     have HB := Lib.hid (HB.out.trans (hb.mono HB.out.size))
     clear hb
     clear ht hlv
     cases t with
     | none =>
      obtain rfl : v = .pointer none := HTT.out
      go_wp2_with fail
      refine (leaf_any ⟨#[]⟩ w5 HT.out (by decide)).mono ?_
      rintro e w6 ⟨q, rfl, hq, -, hb⟩
      have HQ := Lib.hid hq
      have HB := Lib.hid (HB.out.trans (hb.mono HB.out.size))
      clear hb
      clear hq
      unfold ptr
      go_wp2
      go_ret
      refine ⟨q, _, rfl, HQ.out, ?_, .inr ⟨_, rfl⟩, HB.out⟩
      rw [← ET.out, app_nil]
      unfold txt
      rw [← cat_app, ← HL.out]
      rfl
     | some t =>
      obtain ⟨q, rfl, hq⟩ := HTT.out
      have HQ := Lib.hid hq
      clear hq
      unfold ptr
      go_wp2
      go_ret
      refine ⟨q, t, rfl, HQ.out, ?_, .inl ?_, HB.out⟩
      ·rw [← ET.out, app_nil]
       unfold txt
       rw [← cat_app, ← HL.out, Tr.text_leaves]
       rfl
      ·have h2 : t.leaves = lvs l' ++ lvs r' := HL.out
       rw [Tr.ok_iff, h2]; exact HOK.out
    | false =>
     go_wp2
     have hP2 : 0 < m2.size ∨ l' ≠ none := by simpa using P2.out
     have P3 := Lib.hid hP2
     clear hP2 P1 P2
     go_loopg [0, 1, 2] ((lvs l').length + (lvs r').length) (fun k s0 s1 s2 wr => ∃ (l2 r2 : Option Tr) (m3 : ByteArray), s1 = .string m3 ∧ Hid (IsOpt wr s0 l2) ∧ Hid (IsOpt wr s2 r2) ∧ Hid (OkO l2) ∧ Hid (OkO r2) ∧ Hid (txt l2 ++ m3 ++ txt r2 = T) ∧ Hid (0 < m3.size ∨ l2 ≠ none ∨ r2 ≠ none) ∧ Hid ((lvs l2).length + (lvs r2).length ≤ k) ∧ Hid (Below w1.heap.size w1 wr))
     case atStart => exact ⟨l', r', m2, rfl, H1', H3', O1, O3, ET, Lib.hid (P3.out.imp id .inl), Lib.hid (Nat.le_refl _), HB⟩
     case round =>
      obtain ⟨l2, r2, m3, rfl, H1, H3, O1', O3', ET', P4, GK, HB'⟩ := hrel
      clear H1' H3' O1 O3 ET P3 HB hz2
      have HT := Lib.hid (tabs_below HT0.out HB'.out)
      have hz3 : (txt l2).size + m3.size + (txt r2).size ≤ 4294967296 := by
       have h1 := congrArg ByteArray.size ET'.out
       rw [ByteArray.size_append, ByteArray.size_append] at h1
       omega
      go_upto_region 11 with fail
      go_cut [69] (fun s wx => ∃ b : Bool, s = .bool b ∧ Hid (b = true → l2 ≠ none) ∧ Hid (b = false → l2 = none ∨ 32 ≤ m3.size) ∧ Hid (Below wr.heap.size wr wx))
      case first =>
       cases l2 with
       | none =>
        obtain rfl : u0 = .pointer none := H1.out
        go_quiet (fail)
        go_wp2
        go_meet
        exact ⟨false, rfl, Lib.hid (fun h => by cases h), Lib.hid (fun _ => by simp), Lib.hid (Drawn.below _)⟩
       | some tl =>
        obtain ⟨X, rfl, hX⟩ := H1.out
        unfold ptr
        by_cases hm : m3.size < 32
        ·have hm1 : (m3.size : Int) < 32 := by omega
         clear hX
         go_quiet (fail)
         go_wp2
         go_meet
         exact ⟨true, rfl, Lib.hid (fun _ => by simp), Lib.hid (fun h => by cases h), Lib.hid (Drawn.below _)⟩
        ·obtain ⟨vl, vr, vs, nX⟩ := hX.node
         obtain ⟨a, ha⟩ : ∃ a, measF tl.text = a := ⟨_, rfl⟩
         rw [ha] at nX
         have zt : a.tail.size ≤ 16 := by rw [← ha]; show (tailF _).size ≤ 16; rw [tailF_size]; omega
         have zm : (m3.extract 0 16).size ≤ 16 := by simp [ByteArray.size_extract]; omega
         have HS := Lib.hid (fun W hW => seam_any a.tail (m3.extract 0 16) W hW (by omega))
         have NX := Lib.hid nX
         have lX := nX.1
         have hm1 : ¬ (m3.size : Int) < 32 := by omega
         have hm2 : min (m3.size : Int) 16 = 16 := by omega
         have hm3 : (16 : Int) ≤ (m3.size : Int) := by omega
         clear ha nX hX zt zm
         obtain ⟨q, hq⟩ : ∃ q, seamF a.tail (m3.extract 0 16) = q := ⟨_, rfl⟩
         rw [hq] at HS
         clear hq
         refine wp_held' mixed (VPut11 X a m3 q) (VPut11_mono X a m3 q) (by kernel_rfl) [70, 71, 72, 73, 74, 75, 76, 77, 78, 79, 80, 81, 82, 83, 84, 85, 86, 87, 88, 89, 90, 69] (by kernel_rfl) (by kernel_rfl) ?_ ?_
         ·intro j hj
          have hj' : j < 22 := hj
          rcases (by omega : j = 0 ∨ j = 1 ∨ j = 2 ∨ j = 3 ∨ j = 4 ∨ j = 5 ∨ j = 6 ∨ j = 7 ∨ j = 8 ∨ j = 9 ∨ j = 10 ∨ j = 11 ∨ j = 12 ∨ j = 13 ∨ j = 14 ∨ j = 15 ∨ j = 16 ∨ j = 17 ∨ j = 18 ∨ j = 19 ∨ j = 20 ∨ j = 21) with rfl | rfl | rfl | rfl | rfl | rfl | rfl | rfl | rfl | rfl | rfl | rfl | rfl | rfl | rfl | rfl | rfl | rfl | rfl | rfl | rfl | rfl
          ·(refine owes_val (L := [(0, false)]) rfl rfl rfl (by kernel_rfl) ?_; intro a' w' hb' hfacts; obtain ⟨hf0, -⟩ := hfacts; replace hf0 : a'.tmps[0]?.getD undef = .pointer (some ⟨X, 0, none⟩) := hf0)
           have pX := ((NX.out.below hb').2 9 _ rfl).1
           (go_simp; first | exact ⟨_, rfl, Br _, rfl⟩ | exact ⟨_, rfl, Br _, trivial⟩ | exact ⟨_, rfl, Ba _ _, trivial⟩ | exact ⟨_, rfl, Br _, congrArg (Value.int _) (IntWalk.i64_in _ (by omega))⟩)
          ·(refine owes_val (L := [(70, true)]) rfl rfl rfl (by kernel_rfl) ?_; intro a' w' hb' hfacts; obtain ⟨hf70, -⟩ := hfacts; try simp only [VPut11] at hf70)
           have pX := ((NX.out.below hb').2 9 _ rfl).1
           (go_simp; first | exact ⟨_, rfl, Br _, rfl⟩ | exact ⟨_, rfl, Br _, trivial⟩ | exact ⟨_, rfl, Ba _ _, trivial⟩ | exact ⟨_, rfl, Br _, congrArg (Value.int _) (IntWalk.i64_in _ (by omega))⟩)
          ·(refine owes_val (L := [(71, true)]) rfl rfl rfl (by kernel_rfl) ?_; intro a' w' hb' hfacts; obtain ⟨hf71, -⟩ := hfacts; try simp only [VPut11] at hf71)
           have pX := ((NX.out.below hb').2 9 _ rfl).1
           (go_simp; first | exact ⟨_, rfl, Br _, rfl⟩ | exact ⟨_, rfl, Br _, trivial⟩ | exact ⟨_, rfl, Ba _ _, trivial⟩ | exact ⟨_, rfl, Br _, congrArg (Value.int _) (IntWalk.i64_in _ (by omega))⟩)
          ·(refine owes_if (L := [(1, false), (72, true)]) rfl rfl rfl rfl (by kernel_rfl) ?_; intro a' w' hb' hfacts; obtain ⟨hf1, hf72, -⟩ := hfacts; replace hf1 : a'.tmps[1]?.getD undef = .string m3 := hf1; try simp only [VPut11] at hf72)
           have pX := ((NX.out.below hb').2 9 _ rfl).1
           first | (go_simp; first | exact ⟨_, rfl, Br _, rfl⟩ | exact ⟨_, rfl, Br _, trivial⟩ | exact ⟨_, rfl, Br _⟩ | exact ⟨_, rfl, Ba _ _, trivial⟩) | (apply Exists.intro; apply And.intro; assumption; apply And.intro; (intro hc; first | exact absurd hc (by simp [undef]) | (go_simp; first | exact ⟨_, rfl, Br _, rfl⟩ | exact ⟨_, rfl, Br _, trivial⟩ | exact ⟨_, rfl, Br _⟩ | exact ⟨_, rfl, Ba _ _, trivial⟩)); (intro hc; first | exact absurd rfl hc | exact trivial | exact rfl)) | (apply Exists.intro; apply And.intro; assumption; intro hc; first | exact absurd hc (by simp [undef]) | (go_simp; first | exact ⟨_, rfl, Br _, rfl⟩ | exact ⟨_, rfl, Br _, trivial⟩ | exact ⟨_, rfl, Br _⟩ | exact ⟨_, rfl, Ba _ _, trivial⟩))
          ·(refine owes_if (L := [(73, true), (72, true)]) rfl rfl rfl rfl (by kernel_rfl) ?_; intro a' w' hb' hfacts; obtain ⟨hf73, hf72, -⟩ := hfacts; try simp only [VPut11] at hf73; try simp only [VPut11] at hf72)
           have pX := ((NX.out.below hb').2 9 _ rfl).1
           first | (go_simp; first | exact ⟨_, rfl, Br _, rfl⟩ | exact ⟨_, rfl, Br _, trivial⟩ | exact ⟨_, rfl, Br _⟩ | exact ⟨_, rfl, Ba _ _, trivial⟩) | (apply Exists.intro; apply And.intro; assumption; apply And.intro; (intro hc; first | exact absurd hc (by simp [undef]) | (go_simp; first | exact ⟨_, rfl, Br _, rfl⟩ | exact ⟨_, rfl, Br _, trivial⟩ | exact ⟨_, rfl, Br _⟩ | exact ⟨_, rfl, Ba _ _, trivial⟩)); (intro hc; first | exact absurd rfl hc | exact trivial | exact rfl)) | (apply Exists.intro; apply And.intro; assumption; intro hc; first | exact absurd hc (by simp [undef]) | (go_simp; first | exact ⟨_, rfl, Br _, rfl⟩ | exact ⟨_, rfl, Br _, trivial⟩ | exact ⟨_, rfl, Br _⟩ | exact ⟨_, rfl, Ba _ _, trivial⟩))
          ·(refine owes_if (L := [(74, true), (72, true)]) rfl rfl rfl rfl (by kernel_rfl) ?_; intro a' w' hb' hfacts; obtain ⟨hf74, hf72, -⟩ := hfacts; try simp only [VPut11] at hf74; try simp only [VPut11] at hf72)
           have pX := ((NX.out.below hb').2 9 _ rfl).1
           first | (go_simp; first | exact ⟨_, rfl, Br _, rfl⟩ | exact ⟨_, rfl, Br _, trivial⟩ | exact ⟨_, rfl, Br _⟩ | exact ⟨_, rfl, Ba _ _, trivial⟩) | (apply Exists.intro; apply And.intro; assumption; apply And.intro; (intro hc; first | exact absurd hc (by simp [undef]) | (go_simp; first | exact ⟨_, rfl, Br _, rfl⟩ | exact ⟨_, rfl, Br _, trivial⟩ | exact ⟨_, rfl, Br _⟩ | exact ⟨_, rfl, Ba _ _, trivial⟩)); (intro hc; first | exact absurd rfl hc | exact trivial | exact rfl)) | (apply Exists.intro; apply And.intro; assumption; intro hc; first | exact absurd hc (by simp [undef]) | (go_simp; first | exact ⟨_, rfl, Br _, rfl⟩ | exact ⟨_, rfl, Br _, trivial⟩ | exact ⟨_, rfl, Br _⟩ | exact ⟨_, rfl, Ba _ _, trivial⟩))
          ·(refine owes_if (L := [(75, true), (72, true)]) rfl rfl rfl rfl (by kernel_rfl) ?_; intro a' w' hb' hfacts; obtain ⟨hf75, hf72, -⟩ := hfacts; try simp only [VPut11] at hf75; try simp only [VPut11] at hf72)
           have pX := ((NX.out.below hb').2 9 _ rfl).1
           first | (go_simp; first | exact ⟨_, rfl, Br _, rfl⟩ | exact ⟨_, rfl, Br _, trivial⟩ | exact ⟨_, rfl, Br _⟩ | exact ⟨_, rfl, Ba _ _, trivial⟩) | (apply Exists.intro; apply And.intro; assumption; apply And.intro; (intro hc; first | exact absurd hc (by simp [undef]) | (go_simp; first | exact ⟨_, rfl, Br _, rfl⟩ | exact ⟨_, rfl, Br _, trivial⟩ | exact ⟨_, rfl, Br _⟩ | exact ⟨_, rfl, Ba _ _, trivial⟩)); (intro hc; first | exact absurd rfl hc | exact trivial | exact rfl)) | (apply Exists.intro; apply And.intro; assumption; intro hc; first | exact absurd hc (by simp [undef]) | (go_simp; first | exact ⟨_, rfl, Br _, rfl⟩ | exact ⟨_, rfl, Br _, trivial⟩ | exact ⟨_, rfl, Br _⟩ | exact ⟨_, rfl, Ba _ _, trivial⟩))
          ·(refine owes_if (L := [(0, false), (76, true)]) rfl rfl rfl rfl (by kernel_rfl) ?_; intro a' w' hb' hfacts; obtain ⟨hf0, hf76, -⟩ := hfacts; replace hf0 : a'.tmps[0]?.getD undef = .pointer (some ⟨X, 0, none⟩) := hf0; try simp only [VPut11] at hf76)
           have pX := ((NX.out.below hb').2 9 _ rfl).1
           first | (go_simp; first | exact ⟨_, rfl, Br _, rfl⟩ | exact ⟨_, rfl, Br _, trivial⟩ | exact ⟨_, rfl, Br _⟩ | exact ⟨_, rfl, Ba _ _, trivial⟩) | (apply Exists.intro; apply And.intro; assumption; apply And.intro; (intro hc; first | exact absurd hc (by simp [undef]) | (go_simp; first | exact ⟨_, rfl, Br _, rfl⟩ | exact ⟨_, rfl, Br _, trivial⟩ | exact ⟨_, rfl, Br _⟩ | exact ⟨_, rfl, Ba _ _, trivial⟩)); (intro hc; first | exact absurd rfl hc | exact trivial | exact rfl)) | (apply Exists.intro; apply And.intro; assumption; intro hc; first | exact absurd hc (by simp [undef]) | (go_simp; first | exact ⟨_, rfl, Br _, rfl⟩ | exact ⟨_, rfl, Br _, trivial⟩ | exact ⟨_, rfl, Br _⟩ | exact ⟨_, rfl, Ba _ _, trivial⟩))
          ·(refine owes_if (L := [(77, true), (76, true)]) rfl rfl rfl rfl (by kernel_rfl) ?_; intro a' w' hb' hfacts; obtain ⟨hf77, hf76, -⟩ := hfacts; try simp only [VPut11] at hf77; try simp only [VPut11] at hf76)
           have pX := ((NX.out.below hb').2 9 _ rfl).1
           first | (go_simp; first | exact ⟨_, rfl, Br _, rfl⟩ | exact ⟨_, rfl, Br _, trivial⟩ | exact ⟨_, rfl, Br _⟩ | exact ⟨_, rfl, Ba _ _, trivial⟩) | (apply Exists.intro; apply And.intro; assumption; apply And.intro; (intro hc; first | exact absurd hc (by simp [undef]) | (go_simp; first | exact ⟨_, rfl, Br _, rfl⟩ | exact ⟨_, rfl, Br _, trivial⟩ | exact ⟨_, rfl, Br _⟩ | exact ⟨_, rfl, Ba _ _, trivial⟩)); (intro hc; first | exact absurd rfl hc | exact trivial | exact rfl)) | (apply Exists.intro; apply And.intro; assumption; intro hc; first | exact absurd hc (by simp [undef]) | (go_simp; first | exact ⟨_, rfl, Br _, rfl⟩ | exact ⟨_, rfl, Br _, trivial⟩ | exact ⟨_, rfl, Br _⟩ | exact ⟨_, rfl, Ba _ _, trivial⟩))
          ·(refine owes_if (L := [(78, true), (76, true)]) rfl rfl rfl rfl (by kernel_rfl) ?_; intro a' w' hb' hfacts; obtain ⟨hf78, hf76, -⟩ := hfacts; try simp only [VPut11] at hf78; try simp only [VPut11] at hf76)
           have pX := ((NX.out.below hb').2 9 _ rfl).1
           first | (go_simp; first | exact ⟨_, rfl, Br _, rfl⟩ | exact ⟨_, rfl, Br _, trivial⟩ | exact ⟨_, rfl, Br _⟩ | exact ⟨_, rfl, Ba _ _, trivial⟩) | (apply Exists.intro; apply And.intro; assumption; apply And.intro; (intro hc; first | exact absurd hc (by simp [undef]) | (go_simp; first | exact ⟨_, rfl, Br _, rfl⟩ | exact ⟨_, rfl, Br _, trivial⟩ | exact ⟨_, rfl, Br _⟩ | exact ⟨_, rfl, Ba _ _, trivial⟩)); (intro hc; first | exact absurd rfl hc | exact trivial | exact rfl)) | (apply Exists.intro; apply And.intro; assumption; intro hc; first | exact absurd hc (by simp [undef]) | (go_simp; first | exact ⟨_, rfl, Br _, rfl⟩ | exact ⟨_, rfl, Br _, trivial⟩ | exact ⟨_, rfl, Br _⟩ | exact ⟨_, rfl, Ba _ _, trivial⟩))
          ·(refine owes_if (L := [(79, true), (76, true)]) rfl rfl rfl rfl (by kernel_rfl) ?_; intro a' w' hb' hfacts; obtain ⟨hf79, hf76, -⟩ := hfacts; try simp only [VPut11] at hf79; try simp only [VPut11] at hf76)
           have pX := ((NX.out.below hb').2 9 _ rfl).1
           first | (go_simp; first | exact ⟨_, rfl, Br _, rfl⟩ | exact ⟨_, rfl, Br _, trivial⟩ | exact ⟨_, rfl, Br _⟩ | exact ⟨_, rfl, Ba _ _, trivial⟩) | (apply Exists.intro; apply And.intro; assumption; apply And.intro; (intro hc; first | exact absurd hc (by simp [undef]) | (go_simp; first | exact ⟨_, rfl, Br _, rfl⟩ | exact ⟨_, rfl, Br _, trivial⟩ | exact ⟨_, rfl, Br _⟩ | exact ⟨_, rfl, Ba _ _, trivial⟩)); (intro hc; first | exact absurd rfl hc | exact trivial | exact rfl)) | (apply Exists.intro; apply And.intro; assumption; intro hc; first | exact absurd hc (by simp [undef]) | (go_simp; first | exact ⟨_, rfl, Br _, rfl⟩ | exact ⟨_, rfl, Br _, trivial⟩ | exact ⟨_, rfl, Br _⟩ | exact ⟨_, rfl, Ba _ _, trivial⟩))
          ·(refine owes_if (L := [(80, true), (76, true)]) rfl rfl rfl rfl (by kernel_rfl) ?_; intro a' w' hb' hfacts; obtain ⟨hf80, hf76, -⟩ := hfacts; try simp only [VPut11] at hf80; try simp only [VPut11] at hf76)
           have pX := ((NX.out.below hb').2 9 _ rfl).1
           first | (go_simp; first | exact ⟨_, rfl, Br _, rfl⟩ | exact ⟨_, rfl, Br _, trivial⟩ | exact ⟨_, rfl, Br _⟩ | exact ⟨_, rfl, Ba _ _, trivial⟩) | (apply Exists.intro; apply And.intro; assumption; apply And.intro; (intro hc; first | exact absurd hc (by simp [undef]) | (go_simp; first | exact ⟨_, rfl, Br _, rfl⟩ | exact ⟨_, rfl, Br _, trivial⟩ | exact ⟨_, rfl, Br _⟩ | exact ⟨_, rfl, Ba _ _, trivial⟩)); (intro hc; first | exact absurd rfl hc | exact trivial | exact rfl)) | (apply Exists.intro; apply And.intro; assumption; intro hc; first | exact absurd hc (by simp [undef]) | (go_simp; first | exact ⟨_, rfl, Br _, rfl⟩ | exact ⟨_, rfl, Br _, trivial⟩ | exact ⟨_, rfl, Br _⟩ | exact ⟨_, rfl, Ba _ _, trivial⟩))
          ·(refine owes_if (L := [(1, false), (76, true)]) rfl rfl rfl rfl (by kernel_rfl) ?_; intro a' w' hb' hfacts; obtain ⟨hf1, hf76, -⟩ := hfacts; replace hf1 : a'.tmps[1]?.getD undef = .string m3 := hf1; try simp only [VPut11] at hf76)
           have pX := ((NX.out.below hb').2 9 _ rfl).1
           first | (go_simp; first | exact ⟨_, rfl, Br _, rfl⟩ | exact ⟨_, rfl, Br _, trivial⟩ | exact ⟨_, rfl, Br _⟩ | exact ⟨_, rfl, Ba _ _, trivial⟩) | (apply Exists.intro; apply And.intro; assumption; apply And.intro; (intro hc; first | exact absurd hc (by simp [undef]) | (go_simp; first | exact ⟨_, rfl, Br _, rfl⟩ | exact ⟨_, rfl, Br _, trivial⟩ | exact ⟨_, rfl, Br _⟩ | exact ⟨_, rfl, Ba _ _, trivial⟩)); (intro hc; first | exact absurd rfl hc | exact trivial | exact rfl)) | (apply Exists.intro; apply And.intro; assumption; intro hc; first | exact absurd hc (by simp [undef]) | (go_simp; first | exact ⟨_, rfl, Br _, rfl⟩ | exact ⟨_, rfl, Br _, trivial⟩ | exact ⟨_, rfl, Br _⟩ | exact ⟨_, rfl, Ba _ _, trivial⟩))
          ·(refine owes_if (L := [(1, false), (76, true)]) rfl rfl rfl rfl (by kernel_rfl) ?_; intro a' w' hb' hfacts; obtain ⟨hf1, hf76, -⟩ := hfacts; replace hf1 : a'.tmps[1]?.getD undef = .string m3 := hf1; try simp only [VPut11] at hf76)
           have pX := ((NX.out.below hb').2 9 _ rfl).1
           first | (go_simp; first | exact ⟨_, rfl, Br _, rfl⟩ | exact ⟨_, rfl, Br _, trivial⟩ | exact ⟨_, rfl, Br _⟩ | exact ⟨_, rfl, Ba _ _, trivial⟩) | (apply Exists.intro; apply And.intro; assumption; apply And.intro; (intro hc; first | exact absurd hc (by simp [undef]) | (go_simp; first | exact ⟨_, rfl, Br _, rfl⟩ | exact ⟨_, rfl, Br _, trivial⟩ | exact ⟨_, rfl, Br _⟩ | exact ⟨_, rfl, Ba _ _, trivial⟩)); (intro hc; first | exact absurd rfl hc | exact trivial | exact rfl)) | (apply Exists.intro; apply And.intro; assumption; intro hc; first | exact absurd hc (by simp [undef]) | (go_simp; first | exact ⟨_, rfl, Br _, rfl⟩ | exact ⟨_, rfl, Br _, trivial⟩ | exact ⟨_, rfl, Br _⟩ | exact ⟨_, rfl, Ba _ _, trivial⟩))
          ·(refine owes_if (L := [(83, true), (76, true)]) rfl rfl rfl rfl (by kernel_rfl) ?_; intro a' w' hb' hfacts; obtain ⟨hf83, hf76, -⟩ := hfacts; try simp only [VPut11] at hf83; try simp only [VPut11] at hf76)
           have pX := ((NX.out.below hb').2 9 _ rfl).1
           first | (go_simp; first | exact ⟨_, rfl, Br _, rfl⟩ | exact ⟨_, rfl, Br _, trivial⟩ | exact ⟨_, rfl, Br _⟩ | exact ⟨_, rfl, Ba _ _, trivial⟩) | (apply Exists.intro; apply And.intro; assumption; apply And.intro; (intro hc; first | exact absurd hc (by simp [undef]) | (go_simp; first | exact ⟨_, rfl, Br _, rfl⟩ | exact ⟨_, rfl, Br _, trivial⟩ | exact ⟨_, rfl, Br _⟩ | exact ⟨_, rfl, Ba _ _, trivial⟩)); (intro hc; first | exact absurd rfl hc | exact trivial | exact rfl)) | (apply Exists.intro; apply And.intro; assumption; intro hc; first | exact absurd hc (by simp [undef]) | (go_simp; first | exact ⟨_, rfl, Br _, rfl⟩ | exact ⟨_, rfl, Br _, trivial⟩ | exact ⟨_, rfl, Br _⟩ | exact ⟨_, rfl, Ba _ _, trivial⟩))
          ·(refine owes_if (L := [(84, true), (76, true)]) rfl rfl rfl rfl (by kernel_rfl) ?_; intro a' w' hb' hfacts; obtain ⟨hf84, hf76, -⟩ := hfacts; try simp only [VPut11] at hf84; try simp only [VPut11] at hf76)
           have pX := ((NX.out.below hb').2 9 _ rfl).1
           first | (go_simp; first | exact ⟨_, rfl, Br _, rfl⟩ | exact ⟨_, rfl, Br _, trivial⟩ | exact ⟨_, rfl, Br _⟩ | exact ⟨_, rfl, Ba _ _, trivial⟩) | (apply Exists.intro; apply And.intro; assumption; apply And.intro; (intro hc; first | exact absurd hc (by simp [undef]) | (go_simp; first | exact ⟨_, rfl, Br _, rfl⟩ | exact ⟨_, rfl, Br _, trivial⟩ | exact ⟨_, rfl, Br _⟩ | exact ⟨_, rfl, Ba _ _, trivial⟩)); (intro hc; first | exact absurd rfl hc | exact trivial | exact rfl)) | (apply Exists.intro; apply And.intro; assumption; intro hc; first | exact absurd hc (by simp [undef]) | (go_simp; first | exact ⟨_, rfl, Br _, rfl⟩ | exact ⟨_, rfl, Br _, trivial⟩ | exact ⟨_, rfl, Br _⟩ | exact ⟨_, rfl, Ba _ _, trivial⟩))
          ·(refine owes_if (L := [(82, true), (85, true), (76, true)]) rfl rfl rfl rfl (by kernel_rfl) ?_; intro a' w' hb' hfacts; obtain ⟨hf82, hf85, hf76, -⟩ := hfacts; try simp only [VPut11] at hf82; try simp only [VPut11] at hf85; try simp only [VPut11] at hf76)
           have pX := ((NX.out.below hb').2 9 _ rfl).1
           first | (go_simp; first | exact ⟨_, rfl, Br _, rfl⟩ | exact ⟨_, rfl, Br _, trivial⟩ | exact ⟨_, rfl, Br _⟩ | exact ⟨_, rfl, Ba _ _, trivial⟩) | (apply Exists.intro; apply And.intro; assumption; apply And.intro; (intro hc; first | exact absurd hc (by simp [undef]) | (go_simp; first | exact ⟨_, rfl, Br _, rfl⟩ | exact ⟨_, rfl, Br _, trivial⟩ | exact ⟨_, rfl, Br _⟩ | exact ⟨_, rfl, Ba _ _, trivial⟩)); (intro hc; first | exact absurd rfl hc | exact trivial | exact rfl)) | (apply Exists.intro; apply And.intro; assumption; intro hc; first | exact absurd hc (by simp [undef]) | (go_simp; first | exact ⟨_, rfl, Br _, rfl⟩ | exact ⟨_, rfl, Br _, trivial⟩ | exact ⟨_, rfl, Br _⟩ | exact ⟨_, rfl, Ba _ _, trivial⟩))
          ·(refine owes_if (L := [(81, true), (86, true), (76, true)]) rfl rfl rfl rfl (by kernel_rfl) ?_; intro a' w' hb' hfacts; obtain ⟨hf81, hf86, hf76, -⟩ := hfacts; try simp only [VPut11] at hf81; try simp only [VPut11] at hf86; try simp only [VPut11] at hf76)
           refine ⟨_, hf76, fun _ => ?_, fun hc => absurd rfl hc⟩
           go_simp
           refine (HS.out _ (tabs_below HT.out hb')).mono ?_
           rintro e w3 ⟨rfl, hb3⟩
           exact ⟨_, rfl, hb3, rfl⟩
          ·(refine owes_if (L := [(87, true), (76, true)]) rfl rfl rfl rfl (by kernel_rfl) ?_; intro a' w' hb' hfacts; obtain ⟨hf87, hf76, -⟩ := hfacts; try simp only [VPut11] at hf87; try simp only [VPut11] at hf76)
           have pX := ((NX.out.below hb').2 9 _ rfl).1
           first | (go_simp; first | exact ⟨_, rfl, Br _, rfl⟩ | exact ⟨_, rfl, Br _, trivial⟩ | exact ⟨_, rfl, Br _⟩ | exact ⟨_, rfl, Ba _ _, trivial⟩) | (apply Exists.intro; apply And.intro; assumption; apply And.intro; (intro hc; first | exact absurd hc (by simp [undef]) | (go_simp; first | exact ⟨_, rfl, Br _, rfl⟩ | exact ⟨_, rfl, Br _, trivial⟩ | exact ⟨_, rfl, Br _⟩ | exact ⟨_, rfl, Ba _ _, trivial⟩)); (intro hc; first | exact absurd rfl hc | exact trivial | exact rfl)) | (apply Exists.intro; apply And.intro; assumption; intro hc; first | exact absurd hc (by simp [undef]) | (go_simp; first | exact ⟨_, rfl, Br _, rfl⟩ | exact ⟨_, rfl, Br _, trivial⟩ | exact ⟨_, rfl, Br _⟩ | exact ⟨_, rfl, Ba _ _, trivial⟩))
          ·(refine owes_if (L := [(76, true), (88, true), (72, true)]) rfl rfl rfl rfl (by kernel_rfl) ?_; intro a' w' hb' hfacts; obtain ⟨hf76, hf88, hf72, -⟩ := hfacts; try simp only [VPut11] at hf76; try simp only [VPut11] at hf88; try simp only [VPut11] at hf72)
           have pX := ((NX.out.below hb').2 9 _ rfl).1
           first | (go_simp; first | exact ⟨_, rfl, Br _, rfl⟩ | exact ⟨_, rfl, Br _, trivial⟩ | exact ⟨_, rfl, Br _⟩ | exact ⟨_, rfl, Ba _ _, trivial⟩) | (apply Exists.intro; apply And.intro; assumption; apply And.intro; (intro hc; first | exact absurd hc (by simp [undef]) | (go_simp; first | exact ⟨_, rfl, Br _, rfl⟩ | exact ⟨_, rfl, Br _, trivial⟩ | exact ⟨_, rfl, Br _⟩ | exact ⟨_, rfl, Ba _ _, trivial⟩)); (intro hc; first | exact absurd rfl hc | exact trivial | exact rfl)) | (apply Exists.intro; apply And.intro; assumption; intro hc; first | exact absurd hc (by simp [undef]) | (go_simp; first | exact ⟨_, rfl, Br _, rfl⟩ | exact ⟨_, rfl, Br _, trivial⟩ | exact ⟨_, rfl, Br _⟩ | exact ⟨_, rfl, Ba _ _, trivial⟩))
          ·(refine owes_val (L := [(72, true), (89, true)]) rfl rfl rfl (by kernel_rfl) ?_; intro a' w' hb' hfacts; obtain ⟨hf72, hf89, -⟩ := hfacts; try simp only [VPut11] at hf72; try simp only [VPut11] at hf89)
           have pX := ((NX.out.below hb').2 9 _ rfl).1
           (go_simp; first | exact ⟨_, rfl, Br _, rfl⟩ | exact ⟨_, rfl, Br _, trivial⟩ | exact ⟨_, rfl, Ba _ _, trivial⟩ | exact ⟨_, rfl, Br _, congrArg (Value.int _) (IntWalk.i64_in _ (by omega))⟩)
          ·(refine owes_val (L := [(90, true)]) rfl rfl rfl (by kernel_rfl) ?_; intro a' w' hb' hfacts; obtain ⟨hf90, -⟩ := hfacts; try simp only [VPut11] at hf90)
           have pX := ((NX.out.below hb').2 9 _ rfl).1
           (go_simp; first | exact ⟨_, rfl, Br _, rfl⟩ | exact ⟨_, rfl, Br _, trivial⟩ | exact ⟨_, rfl, Ba _ _, trivial⟩ | exact ⟨_, rfl, Br _, congrArg (Value.int _) (IntWalk.i64_in _ (by omega))⟩)
         ·intro f W9 hf hb3
          have f69 : f 69 = .bool (!q) := hf 69 (by decide)
          have HB9 := Lib.hid hb3
          clear hf hb3
          simp only [putAll, put_lit, List.map_cons, List.map_nil, List.set_cons_succ, List.set_cons_zero]
          simp only [f69]
          go_wp2
          go_meet
          exact ⟨!q, rfl, Lib.hid (fun _ => by simp), Lib.hid (fun _ => .inr (by omega)), HB9⟩
      case rest =>
       obtain ⟨b, rfl, Q1, Q2, HB6⟩ := hcut
       have H1 := Lib.hid (H1.out.below HB6.out)
       have H3 := Lib.hid (H3.out.below HB6.out)
       have HT := Lib.hid (tabs_below HT.out HB6.out)
       have HB' := Lib.hid (HB'.out.trans (HB6.out.mono HB'.out.size))
       clear HB6
       cases b with
       | true =>
        obtain ⟨tl, rfl⟩ : ∃ tl, l2 = some tl := by
         cases l2 with
         | none => exact absurd rfl (Q1.out rfl)
         | some t => exact ⟨t, rfl⟩
        obtain ⟨X, rfl, hX⟩ := H1.out
        have hok : tl.Ok := O1'.out _ rfl
        have hsz : tl.text.size ≤ 4294967296 := hok.sz
        obtain ⟨P, s, hPs, hpart⟩ := partL_end (Tr.ok_iff.1 hok) tl.leaves_ne
        have hp := part_any tl X tl.text.size wc HT.out hX (.inl hok) (Nat.le_refl _)
        unfold PartTo at hp
        have hae : tl.text.size = (cat tl.leaves).size := by rw [← Tr.text_leaves]
        have hpart' : partL tl.leaves tl.text.size = (P, s, s.size, []) := by rw [hae]; exact hpart
        rw [hpart'] at hp
        dsimp only at hp
        have HP := Lib.hid hp
        have c3 := hX.sumBytes
        have hcat : tl.text = cat P ++ s := by rw [Tr.text_leaves, ← hPs, cat_snoc]
        have hzs : s.size ≤ tl.text.size := by rw [hcat, ByteArray.size_append]; omega
        have hz : ¬ 9223372036854775807 < s.size + m3.size := by rw [txt_some] at hz3; omega
        have hokP : OkL P := OkL.left (B := [s]) (by rw [hPs]; exact Tr.ok_iff.1 hok)
        have ET2 := ET'.out
        rw [txt_some, hcat] at ET2
        have ET3 := Lib.hid ET2
        have hs0 : 0 < s.size := (Tr.ok_iff.1 hok).ne s (by rw [← hPs]; simp)
        have HOP := Lib.hid hokP
        have hln : P.length + 1 = tl.leaves.length := by rw [← hPs]; simp
        have hgk : P.length + (lvs r2).length < gk := by
         have h5 : tl.leaves.length + (lvs r2).length ≤ gk := GK.out
         omega
        have HGK := Lib.hid hgk
        clear hX hok hsz hPs hpart hp hae hpart' hcat hzs hokP ET2 hln hgk Q1 Q2 H1 O1' ET' P4 GK hz3
        unfold ptr at HP ⊢
        go_wp2_with fail
        refine HP.out.mono ?_
        rintro e w5 ⟨x1, x2, rfl, hx1, -, hb⟩
        obtain ⟨o1, ho1, hok1, hlv1⟩ := hx1.okO HOP.out
        have HO1 := Lib.hid ho1
        have HOK1 := Lib.hid hok1
        have HLV1 := Lib.hid hlv1
        have H3 := Lib.hid (H3.out.below hb)
        have HB' := Lib.hid (HB'.out.trans (hb.mono HB'.out.size))
        clear hb
        clear hx1 ho1 hok1 hlv1 c3 HP
        go_wp2
        go_roundg (P.length + (lvs r2).length)
        case measure => exact HGK.out
        case rel => exact ⟨o1, r2, s ++ m3, rfl, HO1, H3, HOK1, O3', Lib.hid (by rw [← ET3.out]; unfold txt; rw [HLV1.out, ← app_assoc]), Lib.hid (.inl (by rw [ByteArray.size_append]; omega)), Lib.hid (by rw [HLV1.out]; exact Nat.le_refl _), HB'⟩
       | false =>
        have q2 : l2 = none ∨ 32 ≤ m3.size := by simpa using Q2.out
        have Q3 := Lib.hid q2
        clear q2 Q1 Q2
        go_upto_region 14 with fail
        go_cut [107] (fun s wx => ∃ b : Bool, s = .bool b ∧ Hid (b = true → r2 ≠ none) ∧ Hid (b = false → r2 = none ∨ 32 ≤ m3.size) ∧ Hid (Below wc.heap.size wc wx))
        case first =>
         cases r2 with
         | none =>
          obtain rfl : u2 = .pointer none := H3.out
          go_quiet (fail)
          go_wp2
          go_meet
          exact ⟨false, rfl, Lib.hid (fun h => by cases h), Lib.hid (fun _ => by simp), Lib.hid (Drawn.below _)⟩
         | some tr =>
          obtain ⟨Y, rfl, hY⟩ := H3.out
          unfold ptr
          by_cases hm : m3.size < 32
          ·have hm1 : (m3.size : Int) < 32 := by omega
           clear hY
           go_quiet (fail)
           go_wp2
           go_meet
           exact ⟨true, rfl, Lib.hid (fun _ => by simp), Lib.hid (fun h => by cases h), Lib.hid (Drawn.below _)⟩
          ·obtain ⟨vl, vr, vs, nY⟩ := hY.node
           obtain ⟨b, hb⟩ : ∃ b, measF tr.text = b := ⟨_, rfl⟩
           rw [hb] at nY
           have zh : b.head.size ≤ 16 := by rw [← hb]; show (headF _).size ≤ 16; rw [headF_size]; omega
           obtain ⟨k, hk⟩ : ∃ k, m3.size - 16 = k := ⟨_, rfl⟩
           have zm : (m3.extract k m3.size).size ≤ 16 := by simp [ByteArray.size_extract]; omega
           have HS := Lib.hid (fun W hW => seam_any (m3.extract k m3.size) b.head W hW (by omega))
           have NY := Lib.hid nY
           have lY := nY.1
           have hm1 : ¬ (m3.size : Int) < 32 := by omega
           have e118 : IntKind.i64.wrap ((m3.size : Int) - 16) = (k : Int) := by rw [IntWalk.i64_in _ (by omega)]; omega
           have E118 := Lib.hid e118
           have hm2 : max (0 : Int) (k : Int) = (k : Int) := by omega
           have hm3 : (k : Int) ≤ (m3.size : Int) := by omega
           clear hb nY hY zm zh e118 hk
           obtain ⟨q, hq⟩ : ∃ q, seamF (m3.extract k m3.size) b.head = q := ⟨_, rfl⟩
           rw [hq] at HS
           clear hq
           refine wp_held' mixed (VPut14 Y b m3 k q) (VPut14_mono Y b m3 k q) (by kernel_rfl) [108, 109, 110, 111, 112, 113, 114, 115, 116, 117, 118, 119, 120, 121, 122, 123, 124, 125, 126, 127, 128, 129, 107] (by kernel_rfl) (by kernel_rfl) ?_ ?_
           ·intro j hj
            have hj' : j < 23 := hj
            rcases (by omega : j = 0 ∨ j = 1 ∨ j = 2 ∨ j = 3 ∨ j = 4 ∨ j = 5 ∨ j = 6 ∨ j = 7 ∨ j = 8 ∨ j = 9 ∨ j = 10 ∨ j = 11 ∨ j = 12 ∨ j = 13 ∨ j = 14 ∨ j = 15 ∨ j = 16 ∨ j = 17 ∨ j = 18 ∨ j = 19 ∨ j = 20 ∨ j = 21 ∨ j = 22) with rfl | rfl | rfl | rfl | rfl | rfl | rfl | rfl | rfl | rfl | rfl | rfl | rfl | rfl | rfl | rfl | rfl | rfl | rfl | rfl | rfl | rfl | rfl
            ·(refine owes_val (L := [(2, false)]) rfl rfl rfl (by kernel_rfl) ?_; intro a' w' hb' hfacts; obtain ⟨hf2, -⟩ := hfacts; replace hf2 : a'.tmps[2]?.getD undef = .pointer (some ⟨Y, 0, none⟩) := hf2)
             have pY := ((NY.out.below hb').2 8 _ rfl).1
             (go_simp; first | exact ⟨_, rfl, Br _, rfl⟩ | exact ⟨_, rfl, Br _, trivial⟩ | exact ⟨_, rfl, Ba _ _, trivial⟩ | exact ⟨_, rfl, Br _, congrArg (Value.int _) (IntWalk.i64_in _ (by omega))⟩)
            ·(refine owes_val (L := [(108, true)]) rfl rfl rfl (by kernel_rfl) ?_; intro a' w' hb' hfacts; obtain ⟨hf108, -⟩ := hfacts; try simp only [VPut14] at hf108)
             have pY := ((NY.out.below hb').2 8 _ rfl).1
             (go_simp; first | exact ⟨_, rfl, Br _, rfl⟩ | exact ⟨_, rfl, Br _, trivial⟩ | exact ⟨_, rfl, Ba _ _, trivial⟩ | exact ⟨_, rfl, Br _, congrArg (Value.int _) (IntWalk.i64_in _ (by omega))⟩)
            ·(refine owes_val (L := [(109, true)]) rfl rfl rfl (by kernel_rfl) ?_; intro a' w' hb' hfacts; obtain ⟨hf109, -⟩ := hfacts; try simp only [VPut14] at hf109)
             have pY := ((NY.out.below hb').2 8 _ rfl).1
             (go_simp; first | exact ⟨_, rfl, Br _, rfl⟩ | exact ⟨_, rfl, Br _, trivial⟩ | exact ⟨_, rfl, Ba _ _, trivial⟩ | exact ⟨_, rfl, Br _, congrArg (Value.int _) (IntWalk.i64_in _ (by omega))⟩)
            ·(refine owes_if (L := [(1, false), (110, true)]) rfl rfl rfl rfl (by kernel_rfl) ?_; intro a' w' hb' hfacts; obtain ⟨hf1, hf110, -⟩ := hfacts; replace hf1 : a'.tmps[1]?.getD undef = .string m3 := hf1; try simp only [VPut14] at hf110)
             have pY := ((NY.out.below hb').2 8 _ rfl).1
             first | (go_simp; first | exact ⟨_, rfl, Br _, rfl⟩ | exact ⟨_, rfl, Br _, trivial⟩ | exact ⟨_, rfl, Br _⟩ | exact ⟨_, rfl, Ba _ _, trivial⟩) | (apply Exists.intro; apply And.intro; assumption; apply And.intro; (intro hc; first | exact absurd hc (by simp [undef]) | (go_simp; first | exact ⟨_, rfl, Br _, rfl⟩ | exact ⟨_, rfl, Br _, trivial⟩ | exact ⟨_, rfl, Br _⟩ | exact ⟨_, rfl, Ba _ _, trivial⟩)); (intro hc; first | exact absurd rfl hc | exact trivial | exact rfl)) | (apply Exists.intro; apply And.intro; assumption; intro hc; first | exact absurd hc (by simp [undef]) | (go_simp; first | exact ⟨_, rfl, Br _, rfl⟩ | exact ⟨_, rfl, Br _, trivial⟩ | exact ⟨_, rfl, Br _⟩ | exact ⟨_, rfl, Ba _ _, trivial⟩))
            ·(refine owes_if (L := [(111, true), (110, true)]) rfl rfl rfl rfl (by kernel_rfl) ?_; intro a' w' hb' hfacts; obtain ⟨hf111, hf110, -⟩ := hfacts; try simp only [VPut14] at hf111; try simp only [VPut14] at hf110)
             have pY := ((NY.out.below hb').2 8 _ rfl).1
             first | (go_simp; first | exact ⟨_, rfl, Br _, rfl⟩ | exact ⟨_, rfl, Br _, trivial⟩ | exact ⟨_, rfl, Br _⟩ | exact ⟨_, rfl, Ba _ _, trivial⟩) | (apply Exists.intro; apply And.intro; assumption; apply And.intro; (intro hc; first | exact absurd hc (by simp [undef]) | (go_simp; first | exact ⟨_, rfl, Br _, rfl⟩ | exact ⟨_, rfl, Br _, trivial⟩ | exact ⟨_, rfl, Br _⟩ | exact ⟨_, rfl, Ba _ _, trivial⟩)); (intro hc; first | exact absurd rfl hc | exact trivial | exact rfl)) | (apply Exists.intro; apply And.intro; assumption; intro hc; first | exact absurd hc (by simp [undef]) | (go_simp; first | exact ⟨_, rfl, Br _, rfl⟩ | exact ⟨_, rfl, Br _, trivial⟩ | exact ⟨_, rfl, Br _⟩ | exact ⟨_, rfl, Ba _ _, trivial⟩))
            ·(refine owes_if (L := [(112, true), (110, true)]) rfl rfl rfl rfl (by kernel_rfl) ?_; intro a' w' hb' hfacts; obtain ⟨hf112, hf110, -⟩ := hfacts; try simp only [VPut14] at hf112; try simp only [VPut14] at hf110)
             have pY := ((NY.out.below hb').2 8 _ rfl).1
             first | (go_simp; first | exact ⟨_, rfl, Br _, rfl⟩ | exact ⟨_, rfl, Br _, trivial⟩ | exact ⟨_, rfl, Br _⟩ | exact ⟨_, rfl, Ba _ _, trivial⟩) | (apply Exists.intro; apply And.intro; assumption; apply And.intro; (intro hc; first | exact absurd hc (by simp [undef]) | (go_simp; first | exact ⟨_, rfl, Br _, rfl⟩ | exact ⟨_, rfl, Br _, trivial⟩ | exact ⟨_, rfl, Br _⟩ | exact ⟨_, rfl, Ba _ _, trivial⟩)); (intro hc; first | exact absurd rfl hc | exact trivial | exact rfl)) | (apply Exists.intro; apply And.intro; assumption; intro hc; first | exact absurd hc (by simp [undef]) | (go_simp; first | exact ⟨_, rfl, Br _, rfl⟩ | exact ⟨_, rfl, Br _, trivial⟩ | exact ⟨_, rfl, Br _⟩ | exact ⟨_, rfl, Ba _ _, trivial⟩))
            ·(refine owes_if (L := [(113, true), (110, true)]) rfl rfl rfl rfl (by kernel_rfl) ?_; intro a' w' hb' hfacts; obtain ⟨hf113, hf110, -⟩ := hfacts; try simp only [VPut14] at hf113; try simp only [VPut14] at hf110)
             have pY := ((NY.out.below hb').2 8 _ rfl).1
             first | (go_simp; first | exact ⟨_, rfl, Br _, rfl⟩ | exact ⟨_, rfl, Br _, trivial⟩ | exact ⟨_, rfl, Br _⟩ | exact ⟨_, rfl, Ba _ _, trivial⟩) | (apply Exists.intro; apply And.intro; assumption; apply And.intro; (intro hc; first | exact absurd hc (by simp [undef]) | (go_simp; first | exact ⟨_, rfl, Br _, rfl⟩ | exact ⟨_, rfl, Br _, trivial⟩ | exact ⟨_, rfl, Br _⟩ | exact ⟨_, rfl, Ba _ _, trivial⟩)); (intro hc; first | exact absurd rfl hc | exact trivial | exact rfl)) | (apply Exists.intro; apply And.intro; assumption; intro hc; first | exact absurd hc (by simp [undef]) | (go_simp; first | exact ⟨_, rfl, Br _, rfl⟩ | exact ⟨_, rfl, Br _, trivial⟩ | exact ⟨_, rfl, Br _⟩ | exact ⟨_, rfl, Ba _ _, trivial⟩))
            ·(refine owes_if (L := [(1, false), (114, true)]) rfl rfl rfl rfl (by kernel_rfl) ?_; intro a' w' hb' hfacts; obtain ⟨hf1, hf114, -⟩ := hfacts; replace hf1 : a'.tmps[1]?.getD undef = .string m3 := hf1; try simp only [VPut14] at hf114)
             have pY := ((NY.out.below hb').2 8 _ rfl).1
             first | (go_simp; first | exact ⟨_, rfl, Br _, rfl⟩ | exact ⟨_, rfl, Br _, trivial⟩ | exact ⟨_, rfl, Br _⟩ | exact ⟨_, rfl, Ba _ _, trivial⟩) | (apply Exists.intro; apply And.intro; assumption; apply And.intro; (intro hc; first | exact absurd hc (by simp [undef]) | (go_simp; first | exact ⟨_, rfl, Br _, rfl⟩ | exact ⟨_, rfl, Br _, trivial⟩ | exact ⟨_, rfl, Br _⟩ | exact ⟨_, rfl, Ba _ _, trivial⟩)); (intro hc; first | exact absurd rfl hc | exact trivial | exact rfl)) | (apply Exists.intro; apply And.intro; assumption; intro hc; first | exact absurd hc (by simp [undef]) | (go_simp; first | exact ⟨_, rfl, Br _, rfl⟩ | exact ⟨_, rfl, Br _, trivial⟩ | exact ⟨_, rfl, Br _⟩ | exact ⟨_, rfl, Ba _ _, trivial⟩))
            ·(refine owes_if (L := [(1, false), (114, true)]) rfl rfl rfl rfl (by kernel_rfl) ?_; intro a' w' hb' hfacts; obtain ⟨hf1, hf114, -⟩ := hfacts; replace hf1 : a'.tmps[1]?.getD undef = .string m3 := hf1; try simp only [VPut14] at hf114)
             have pY := ((NY.out.below hb').2 8 _ rfl).1
             first | (go_simp; first | exact ⟨_, rfl, Br _, rfl⟩ | exact ⟨_, rfl, Br _, trivial⟩ | exact ⟨_, rfl, Br _⟩ | exact ⟨_, rfl, Ba _ _, trivial⟩) | (apply Exists.intro; apply And.intro; assumption; apply And.intro; (intro hc; first | exact absurd hc (by simp [undef]) | (go_simp; first | exact ⟨_, rfl, Br _, rfl⟩ | exact ⟨_, rfl, Br _, trivial⟩ | exact ⟨_, rfl, Br _⟩ | exact ⟨_, rfl, Ba _ _, trivial⟩)); (intro hc; first | exact absurd rfl hc | exact trivial | exact rfl)) | (apply Exists.intro; apply And.intro; assumption; intro hc; first | exact absurd hc (by simp [undef]) | (go_simp; first | exact ⟨_, rfl, Br _, rfl⟩ | exact ⟨_, rfl, Br _, trivial⟩ | exact ⟨_, rfl, Br _⟩ | exact ⟨_, rfl, Ba _ _, trivial⟩))
            ·(refine owes_if (L := [(116, true), (114, true)]) rfl rfl rfl rfl (by kernel_rfl) ?_; intro a' w' hb' hfacts; obtain ⟨hf116, hf114, -⟩ := hfacts; try simp only [VPut14] at hf116; try simp only [VPut14] at hf114)
             have pY := ((NY.out.below hb').2 8 _ rfl).1
             first | (go_simp; first | exact ⟨_, rfl, Br _, rfl⟩ | exact ⟨_, rfl, Br _, trivial⟩ | exact ⟨_, rfl, Br _⟩ | exact ⟨_, rfl, Ba _ _, trivial⟩) | (apply Exists.intro; apply And.intro; assumption; apply And.intro; (intro hc; first | exact absurd hc (by simp [undef]) | (go_simp; first | exact ⟨_, rfl, Br _, rfl⟩ | exact ⟨_, rfl, Br _, trivial⟩ | exact ⟨_, rfl, Br _⟩ | exact ⟨_, rfl, Ba _ _, trivial⟩)); (intro hc; first | exact absurd rfl hc | exact trivial | exact rfl)) | (apply Exists.intro; apply And.intro; assumption; intro hc; first | exact absurd hc (by simp [undef]) | (go_simp; first | exact ⟨_, rfl, Br _, rfl⟩ | exact ⟨_, rfl, Br _, trivial⟩ | exact ⟨_, rfl, Br _⟩ | exact ⟨_, rfl, Ba _ _, trivial⟩))
            ·(refine owes_if (L := [(117, true), (114, true)]) rfl rfl rfl rfl (by kernel_rfl) ?_; intro a' w' hb' hfacts; obtain ⟨hf117, hf114, -⟩ := hfacts; try simp only [VPut14] at hf117; try simp only [VPut14] at hf114)
             refine ⟨_, hf114, fun _ => ?_, fun hc => absurd rfl hc⟩
             go_simp
             exact ⟨_, rfl, Below.refl _ _, congrArg (Value.int _) E118.out⟩
            ·(refine owes_if (L := [(118, true), (114, true)]) rfl rfl rfl rfl (by kernel_rfl) ?_; intro a' w' hb' hfacts; obtain ⟨hf118, hf114, -⟩ := hfacts; try simp only [VPut14] at hf118; try simp only [VPut14] at hf114)
             have pY := ((NY.out.below hb').2 8 _ rfl).1
             first | (go_simp; first | exact ⟨_, rfl, Br _, rfl⟩ | exact ⟨_, rfl, Br _, trivial⟩ | exact ⟨_, rfl, Br _⟩ | exact ⟨_, rfl, Ba _ _, trivial⟩) | (apply Exists.intro; apply And.intro; assumption; apply And.intro; (intro hc; first | exact absurd hc (by simp [undef]) | (go_simp; first | exact ⟨_, rfl, Br _, rfl⟩ | exact ⟨_, rfl, Br _, trivial⟩ | exact ⟨_, rfl, Br _⟩ | exact ⟨_, rfl, Ba _ _, trivial⟩)); (intro hc; first | exact absurd rfl hc | exact trivial | exact rfl)) | (apply Exists.intro; apply And.intro; assumption; intro hc; first | exact absurd hc (by simp [undef]) | (go_simp; first | exact ⟨_, rfl, Br _, rfl⟩ | exact ⟨_, rfl, Br _, trivial⟩ | exact ⟨_, rfl, Br _⟩ | exact ⟨_, rfl, Ba _ _, trivial⟩))
            ·(refine owes_if (L := [(115, true), (119, true), (114, true)]) rfl rfl rfl rfl (by kernel_rfl) ?_; intro a' w' hb' hfacts; obtain ⟨hf115, hf119, hf114, -⟩ := hfacts; try simp only [VPut14] at hf115; try simp only [VPut14] at hf119; try simp only [VPut14] at hf114)
             have pY := ((NY.out.below hb').2 8 _ rfl).1
             first | (go_simp; first | exact ⟨_, rfl, Br _, rfl⟩ | exact ⟨_, rfl, Br _, trivial⟩ | exact ⟨_, rfl, Br _⟩ | exact ⟨_, rfl, Ba _ _, trivial⟩) | (apply Exists.intro; apply And.intro; assumption; apply And.intro; (intro hc; first | exact absurd hc (by simp [undef]) | (go_simp; first | exact ⟨_, rfl, Br _, rfl⟩ | exact ⟨_, rfl, Br _, trivial⟩ | exact ⟨_, rfl, Br _⟩ | exact ⟨_, rfl, Ba _ _, trivial⟩)); (intro hc; first | exact absurd rfl hc | exact trivial | exact rfl)) | (apply Exists.intro; apply And.intro; assumption; intro hc; first | exact absurd hc (by simp [undef]) | (go_simp; first | exact ⟨_, rfl, Br _, rfl⟩ | exact ⟨_, rfl, Br _, trivial⟩ | exact ⟨_, rfl, Br _⟩ | exact ⟨_, rfl, Ba _ _, trivial⟩))
            ·(refine owes_if (L := [(2, false), (114, true)]) rfl rfl rfl rfl (by kernel_rfl) ?_; intro a' w' hb' hfacts; obtain ⟨hf2, hf114, -⟩ := hfacts; replace hf2 : a'.tmps[2]?.getD undef = .pointer (some ⟨Y, 0, none⟩) := hf2; try simp only [VPut14] at hf114)
             have pY := ((NY.out.below hb').2 8 _ rfl).1
             first | (go_simp; first | exact ⟨_, rfl, Br _, rfl⟩ | exact ⟨_, rfl, Br _, trivial⟩ | exact ⟨_, rfl, Br _⟩ | exact ⟨_, rfl, Ba _ _, trivial⟩) | (apply Exists.intro; apply And.intro; assumption; apply And.intro; (intro hc; first | exact absurd hc (by simp [undef]) | (go_simp; first | exact ⟨_, rfl, Br _, rfl⟩ | exact ⟨_, rfl, Br _, trivial⟩ | exact ⟨_, rfl, Br _⟩ | exact ⟨_, rfl, Ba _ _, trivial⟩)); (intro hc; first | exact absurd rfl hc | exact trivial | exact rfl)) | (apply Exists.intro; apply And.intro; assumption; intro hc; first | exact absurd hc (by simp [undef]) | (go_simp; first | exact ⟨_, rfl, Br _, rfl⟩ | exact ⟨_, rfl, Br _, trivial⟩ | exact ⟨_, rfl, Br _⟩ | exact ⟨_, rfl, Ba _ _, trivial⟩))
            ·(refine owes_if (L := [(121, true), (114, true)]) rfl rfl rfl rfl (by kernel_rfl) ?_; intro a' w' hb' hfacts; obtain ⟨hf121, hf114, -⟩ := hfacts; try simp only [VPut14] at hf121; try simp only [VPut14] at hf114)
             have pY := ((NY.out.below hb').2 8 _ rfl).1
             first | (go_simp; first | exact ⟨_, rfl, Br _, rfl⟩ | exact ⟨_, rfl, Br _, trivial⟩ | exact ⟨_, rfl, Br _⟩ | exact ⟨_, rfl, Ba _ _, trivial⟩) | (apply Exists.intro; apply And.intro; assumption; apply And.intro; (intro hc; first | exact absurd hc (by simp [undef]) | (go_simp; first | exact ⟨_, rfl, Br _, rfl⟩ | exact ⟨_, rfl, Br _, trivial⟩ | exact ⟨_, rfl, Br _⟩ | exact ⟨_, rfl, Ba _ _, trivial⟩)); (intro hc; first | exact absurd rfl hc | exact trivial | exact rfl)) | (apply Exists.intro; apply And.intro; assumption; intro hc; first | exact absurd hc (by simp [undef]) | (go_simp; first | exact ⟨_, rfl, Br _, rfl⟩ | exact ⟨_, rfl, Br _, trivial⟩ | exact ⟨_, rfl, Br _⟩ | exact ⟨_, rfl, Ba _ _, trivial⟩))
            ·(refine owes_if (L := [(122, true), (114, true)]) rfl rfl rfl rfl (by kernel_rfl) ?_; intro a' w' hb' hfacts; obtain ⟨hf122, hf114, -⟩ := hfacts; try simp only [VPut14] at hf122; try simp only [VPut14] at hf114)
             have pY := ((NY.out.below hb').2 8 _ rfl).1
             first | (go_simp; first | exact ⟨_, rfl, Br _, rfl⟩ | exact ⟨_, rfl, Br _, trivial⟩ | exact ⟨_, rfl, Br _⟩ | exact ⟨_, rfl, Ba _ _, trivial⟩) | (apply Exists.intro; apply And.intro; assumption; apply And.intro; (intro hc; first | exact absurd hc (by simp [undef]) | (go_simp; first | exact ⟨_, rfl, Br _, rfl⟩ | exact ⟨_, rfl, Br _, trivial⟩ | exact ⟨_, rfl, Br _⟩ | exact ⟨_, rfl, Ba _ _, trivial⟩)); (intro hc; first | exact absurd rfl hc | exact trivial | exact rfl)) | (apply Exists.intro; apply And.intro; assumption; intro hc; first | exact absurd hc (by simp [undef]) | (go_simp; first | exact ⟨_, rfl, Br _, rfl⟩ | exact ⟨_, rfl, Br _, trivial⟩ | exact ⟨_, rfl, Br _⟩ | exact ⟨_, rfl, Ba _ _, trivial⟩))
            ·(refine owes_if (L := [(123, true), (114, true)]) rfl rfl rfl rfl (by kernel_rfl) ?_; intro a' w' hb' hfacts; obtain ⟨hf123, hf114, -⟩ := hfacts; try simp only [VPut14] at hf123; try simp only [VPut14] at hf114)
             have pY := ((NY.out.below hb').2 8 _ rfl).1
             first | (go_simp; first | exact ⟨_, rfl, Br _, rfl⟩ | exact ⟨_, rfl, Br _, trivial⟩ | exact ⟨_, rfl, Br _⟩ | exact ⟨_, rfl, Ba _ _, trivial⟩) | (apply Exists.intro; apply And.intro; assumption; apply And.intro; (intro hc; first | exact absurd hc (by simp [undef]) | (go_simp; first | exact ⟨_, rfl, Br _, rfl⟩ | exact ⟨_, rfl, Br _, trivial⟩ | exact ⟨_, rfl, Br _⟩ | exact ⟨_, rfl, Ba _ _, trivial⟩)); (intro hc; first | exact absurd rfl hc | exact trivial | exact rfl)) | (apply Exists.intro; apply And.intro; assumption; intro hc; first | exact absurd hc (by simp [undef]) | (go_simp; first | exact ⟨_, rfl, Br _, rfl⟩ | exact ⟨_, rfl, Br _, trivial⟩ | exact ⟨_, rfl, Br _⟩ | exact ⟨_, rfl, Ba _ _, trivial⟩))
            ·(refine owes_if (L := [(124, true), (114, true)]) rfl rfl rfl rfl (by kernel_rfl) ?_; intro a' w' hb' hfacts; obtain ⟨hf124, hf114, -⟩ := hfacts; try simp only [VPut14] at hf124; try simp only [VPut14] at hf114)
             have pY := ((NY.out.below hb').2 8 _ rfl).1
             first | (go_simp; first | exact ⟨_, rfl, Br _, rfl⟩ | exact ⟨_, rfl, Br _, trivial⟩ | exact ⟨_, rfl, Br _⟩ | exact ⟨_, rfl, Ba _ _, trivial⟩) | (apply Exists.intro; apply And.intro; assumption; apply And.intro; (intro hc; first | exact absurd hc (by simp [undef]) | (go_simp; first | exact ⟨_, rfl, Br _, rfl⟩ | exact ⟨_, rfl, Br _, trivial⟩ | exact ⟨_, rfl, Br _⟩ | exact ⟨_, rfl, Ba _ _, trivial⟩)); (intro hc; first | exact absurd rfl hc | exact trivial | exact rfl)) | (apply Exists.intro; apply And.intro; assumption; intro hc; first | exact absurd hc (by simp [undef]) | (go_simp; first | exact ⟨_, rfl, Br _, rfl⟩ | exact ⟨_, rfl, Br _, trivial⟩ | exact ⟨_, rfl, Br _⟩ | exact ⟨_, rfl, Ba _ _, trivial⟩))
            ·(refine owes_if (L := [(120, true), (125, true), (114, true)]) rfl rfl rfl rfl (by kernel_rfl) ?_; intro a' w' hb' hfacts; obtain ⟨hf120, hf125, hf114, -⟩ := hfacts; try simp only [VPut14] at hf120; try simp only [VPut14] at hf125; try simp only [VPut14] at hf114)
             refine ⟨_, hf114, fun _ => ?_, fun hc => absurd rfl hc⟩
             go_simp
             refine (HS.out _ (tabs_below HT.out hb')).mono ?_
             rintro e w3 ⟨rfl, hb3⟩
             exact ⟨_, rfl, hb3, rfl⟩
            ·(refine owes_if (L := [(126, true), (114, true)]) rfl rfl rfl rfl (by kernel_rfl) ?_; intro a' w' hb' hfacts; obtain ⟨hf126, hf114, -⟩ := hfacts; try simp only [VPut14] at hf126; try simp only [VPut14] at hf114)
             have pY := ((NY.out.below hb').2 8 _ rfl).1
             first | (go_simp; first | exact ⟨_, rfl, Br _, rfl⟩ | exact ⟨_, rfl, Br _, trivial⟩ | exact ⟨_, rfl, Br _⟩ | exact ⟨_, rfl, Ba _ _, trivial⟩) | (apply Exists.intro; apply And.intro; assumption; apply And.intro; (intro hc; first | exact absurd hc (by simp [undef]) | (go_simp; first | exact ⟨_, rfl, Br _, rfl⟩ | exact ⟨_, rfl, Br _, trivial⟩ | exact ⟨_, rfl, Br _⟩ | exact ⟨_, rfl, Ba _ _, trivial⟩)); (intro hc; first | exact absurd rfl hc | exact trivial | exact rfl)) | (apply Exists.intro; apply And.intro; assumption; intro hc; first | exact absurd hc (by simp [undef]) | (go_simp; first | exact ⟨_, rfl, Br _, rfl⟩ | exact ⟨_, rfl, Br _, trivial⟩ | exact ⟨_, rfl, Br _⟩ | exact ⟨_, rfl, Ba _ _, trivial⟩))
            ·(refine owes_if (L := [(114, true), (127, true), (110, true)]) rfl rfl rfl rfl (by kernel_rfl) ?_; intro a' w' hb' hfacts; obtain ⟨hf114, hf127, hf110, -⟩ := hfacts; try simp only [VPut14] at hf114; try simp only [VPut14] at hf127; try simp only [VPut14] at hf110)
             have pY := ((NY.out.below hb').2 8 _ rfl).1
             first | (go_simp; first | exact ⟨_, rfl, Br _, rfl⟩ | exact ⟨_, rfl, Br _, trivial⟩ | exact ⟨_, rfl, Br _⟩ | exact ⟨_, rfl, Ba _ _, trivial⟩) | (apply Exists.intro; apply And.intro; assumption; apply And.intro; (intro hc; first | exact absurd hc (by simp [undef]) | (go_simp; first | exact ⟨_, rfl, Br _, rfl⟩ | exact ⟨_, rfl, Br _, trivial⟩ | exact ⟨_, rfl, Br _⟩ | exact ⟨_, rfl, Ba _ _, trivial⟩)); (intro hc; first | exact absurd rfl hc | exact trivial | exact rfl)) | (apply Exists.intro; apply And.intro; assumption; intro hc; first | exact absurd hc (by simp [undef]) | (go_simp; first | exact ⟨_, rfl, Br _, rfl⟩ | exact ⟨_, rfl, Br _, trivial⟩ | exact ⟨_, rfl, Br _⟩ | exact ⟨_, rfl, Ba _ _, trivial⟩))
            ·(refine owes_val (L := [(110, true), (128, true)]) rfl rfl rfl (by kernel_rfl) ?_; intro a' w' hb' hfacts; obtain ⟨hf110, hf128, -⟩ := hfacts; try simp only [VPut14] at hf110; try simp only [VPut14] at hf128)
             have pY := ((NY.out.below hb').2 8 _ rfl).1
             (go_simp; first | exact ⟨_, rfl, Br _, rfl⟩ | exact ⟨_, rfl, Br _, trivial⟩ | exact ⟨_, rfl, Ba _ _, trivial⟩ | exact ⟨_, rfl, Br _, congrArg (Value.int _) (IntWalk.i64_in _ (by omega))⟩)
            ·(refine owes_val (L := [(129, true)]) rfl rfl rfl (by kernel_rfl) ?_; intro a' w' hb' hfacts; obtain ⟨hf129, -⟩ := hfacts; try simp only [VPut14] at hf129)
             have pY := ((NY.out.below hb').2 8 _ rfl).1
             (go_simp; first | exact ⟨_, rfl, Br _, rfl⟩ | exact ⟨_, rfl, Br _, trivial⟩ | exact ⟨_, rfl, Ba _ _, trivial⟩ | exact ⟨_, rfl, Br _, congrArg (Value.int _) (IntWalk.i64_in _ (by omega))⟩)
           ·intro f W9 hf hb3
            have f107 : f 107 = .bool (!q) := hf 107 (by decide)
            have HB9 := Lib.hid hb3
            clear hf hb3
            simp only [putAll, put_lit, List.map_cons, List.map_nil, List.set_cons_succ, List.set_cons_zero]
            simp only [f107]
            go_wp2
            go_meet
            exact ⟨!q, rfl, Lib.hid (fun _ => by simp), Lib.hid (fun _ => .inr (by omega)), HB9⟩
        case rest =>
         obtain ⟨b, rfl, R1, R2, HB7⟩ := hcut
         have H1 := Lib.hid (H1.out.below HB7.out)
         have H3 := Lib.hid (H3.out.below HB7.out)
         have HT := Lib.hid (tabs_below HT.out HB7.out)
         have HB' := Lib.hid (HB'.out.trans (HB7.out.mono HB'.out.size))
         clear HB7
         cases b with
         | true =>
          obtain ⟨tr, rfl⟩ : ∃ tr, r2 = some tr := by
           cases r2 with
           | none => exact absurd rfl (R1.out rfl)
           | some t => exact ⟨t, rfl⟩
          obtain ⟨Y, rfl, hY⟩ := H3.out
          have hok : tr.Ok := O3'.out _ rfl
          obtain ⟨s, Q, hsQ, hpart⟩ := partL_start (Tr.ok_iff.1 hok) tr.leaves_ne
          have hp := part_any tr Y 0 _ HT.out hY (.inl hok) (Nat.zero_le _)
          unfold PartTo at hp
          rw [hpart] at hp
          dsimp only at hp
          have HP := Lib.hid hp
          have hcat : tr.text = s ++ cat Q := by rw [Tr.text_leaves, ← hsQ]; rfl
          have hzs : s.size ≤ tr.text.size := by rw [hcat, ByteArray.size_append]; omega
          have hz : ¬ 9223372036854775807 < m3.size + s.size := by rw [txt_some tr] at hz3; omega
          have hokQ : OkL Q := OkL.tail (s := s) (by rw [hsQ]; exact Tr.ok_iff.1 hok)
          have ET2 := ET'.out
          rw [txt_some tr, hcat] at ET2
          have ET3 := Lib.hid ET2
          have hs0 : 0 < s.size := (Tr.ok_iff.1 hok).ne s (by rw [← hsQ]; simp)
          have HOQ := Lib.hid hokQ
          have hln : Q.length + 1 = tr.leaves.length := by rw [← hsQ]; simp
          have hgk : (lvs l2).length + Q.length < gk := by
           have h5 : (lvs l2).length + tr.leaves.length ≤ gk := GK.out
           omega
          have HGK := Lib.hid hgk
          clear hY hok hsQ hpart hp hcat hzs hokQ ET2 hln hgk R1 R2 H3 O3' ET' P4 GK hz3 Q3
          unfold ptr at HP ⊢
          go_wp2_with fail
          refine HP.out.mono ?_
          rintro e w5 ⟨x1, x2, rfl, -, hx2, hb⟩
          obtain ⟨o1, ho1, hok1, hlv1⟩ := hx2.okO HOQ.out
          have HO1 := Lib.hid ho1
          have HOK1 := Lib.hid hok1
          have HLV1 := Lib.hid hlv1
          have H1 := Lib.hid (H1.out.below hb)
          have HB' := Lib.hid (HB'.out.trans (hb.mono HB'.out.size))
          clear hb
          clear hx2 ho1 hok1 hlv1 HP
          go_wp2
          go_roundg ((lvs l2).length + Q.length)
          case measure => exact HGK.out
          case rel => exact ⟨l2, o1, m3 ++ s, rfl, H1, HO1, O1', HOK1, Lib.hid (by rw [← ET3.out]; unfold txt; rw [HLV1.out, ← app_assoc, ← app_assoc]), Lib.hid (.inl (by rw [ByteArray.size_append]; omega)), Lib.hid (by rw [HLV1.out]; exact Nat.le_refl _), HB'⟩
         | false =>
          have r3 : r2 = none ∨ 32 ≤ m3.size := by simpa using R2.out
          have hm0 : 0 < m3.size := by
           rcases P4.out with h | h | h
           ·exact h
           ·rcases Q3.out with h' | h'
            ·exact absurd h' h
            ·omega
           ·rcases r3 with h' | h'
            ·exact absurd h' h
            ·omega
          have hms : m3.size ≤ 4294967296 := by omega
          clear r3 R1 R2 Q3 P4 GK
          go_wp2_with fail
          refine (cutUp_any m3 _ HT.out hm0 hms).mono ?_
          rintro e w5 ⟨v, L, rfl, hL, hcat, hne, hb⟩
          have hokL : OkL L := ⟨hL.ne, by rw [hcat]; exact hms⟩
          have hok2 : OkL (lvs l2 ++ L ++ lvs r2) := by
           refine ⟨fun x hx => ?_, ?_⟩
           ·rcases List.mem_append.1 hx with h | h
            ·rcases List.mem_append.1 h with h | h
             ·exact O1'.out.lvs.ne x h
             ·exact hL.ne x h
            ·exact O3'.out.lvs.ne x h
           ·rw [cat_app_size, cat_app_size, hcat]; exact hz3
          have HCAT := Lib.hid hcat
          have HNE := Lib.hid hne
          have HOK2 := Lib.hid hok2
          have HOKL := Lib.hid hokL
          have HL := Lib.hid hL
          have H1 := Lib.hid (H1.out.below hb)
          have H3 := Lib.hid (H3.out.below hb)
          have HT := Lib.hid (tabs_below HT.out hb)
          have HB' := Lib.hid (HB'.out.trans (hb.mono HB'.out.size))
          clear hb
          clear hL hcat hne hokL hok2 hz3
          go_wp2_with fail
          refine (grown_any _ v L _ HT.out HL.out HNE.out HOKL.out).mono ?_
          rintro e w6 ⟨q, t, rfl, hq, htl, -, hb⟩
          have hqv := OptV.of hq
          rw [htl] at hqv
          have HQ := Lib.hid hqv
          have H1 := Lib.hid (H1.out.below hb)
          have H3 := Lib.hid (H3.out.below hb)
          have HT := Lib.hid (tabs_below HT.out hb)
          have HB' := Lib.hid (HB'.out.trans (hb.mono HB'.out.size))
          clear hb
          clear hq htl hqv HL
          go_wp2_with fail
          refine (joinV u0 (ptr q) (lvs l2) L _ HT.out ⟨l2, H1.out, rfl⟩ HQ.out HOK2.out.left).mono ?_
          rintro e w7 ⟨v7, rfl, hv7, hb⟩
          have HV7 := Lib.hid hv7
          have H3 := Lib.hid (H3.out.below hb)
          have HT := Lib.hid (tabs_below HT.out hb)
          have HB' := Lib.hid (HB'.out.trans (hb.mono HB'.out.size))
          clear hb
          clear hv7 HQ H1
          go_wp2_with fail
          refine (joinV v7 u2 (lvs l2 ++ L) (lvs r2) _ HT.out HV7.out ⟨r2, H3.out, rfl⟩ HOK2.out).mono ?_
          rintro e w8 ⟨v8, rfl, hv8, hb⟩
          obtain ⟨o8, ho8, hok8, hlv8⟩ := hv8.okO HOK2.out
          obtain ⟨t8, rfl⟩ : ∃ t8, o8 = some t8 := by
           cases o8 with
           | none =>
            have hl0 : ([] : List ByteArray) = lvs l2 ++ L ++ lvs r2 := hlv8
            have hne := HNE.out
            simp at hl0
            exact absurd hl0.2.1 hne
           | some t => exact ⟨t, rfl⟩
          obtain ⟨q8, rfl, hq8⟩ := ho8
          have HQ8 := Lib.hid hq8
          have HOK8 := Lib.hid (hok8 t8 rfl)
          have HLV8 : Hid (t8.leaves = lvs l2 ++ L ++ lvs r2) := Lib.hid hlv8
          have HB' := Lib.hid (HB'.out.trans (hb.mono HB'.out.size))
          clear hb
          clear hv8 hq8 hok8 hlv8 H3 HV7
          unfold ptr
          go_wp2
          go_ret
          refine ⟨q8, t8, rfl, HQ8.out, ?_, .inl HOK8.out, HB'.out⟩
          rw [Tr.text_leaves, HLV8.out, cat_app, cat_app, HCAT.out, ← ET'.out]
          rfl
end Go.Proofs.YtfchglcclgcgfaaGreatDoor.Ut
