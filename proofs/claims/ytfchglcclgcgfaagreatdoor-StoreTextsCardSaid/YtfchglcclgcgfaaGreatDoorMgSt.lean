/-
  What the proof of the laws S rests on: the texts GapE RoN. Conditions: each theorem names its own.
-/
import Derived.Test.YtfchglcclgcgfaaGreatDoorMgSf
import Derived.Deep.DeepCutAuto
import Derived.Test.YtfchglcclgcgfaaGreatDoorMgSn
/-
 Package gap: Limit, Replace. No condition.
-/
namespace Go.Proofs.YtfchglcclgcgfaaGreatDoor.Ut
open Go.RowKit Go.Proofs.YtfchglcclgcgfaaGreatDoor.Reg
set_option linter.unusedVariables false
set_option linter.unusedSimpArgs false

theorem GapLimit_any (b g : Nat) (r : ByteArray) (fr tv lim : Nat) (w : World) (h : Gap w b g r fr tv lim) : Calls Tryz.prog 235 #[.pointer (some ⟨b, 0, none⟩)] w fun e w' => e = .returned (.int .i64 lim) ∧ w' = w := by
 have c3 := (h.box.lies.2 3 _ rfl).1
 clear h
 go_enter Tryz.func235, Tryz.ntmps235
 go_wp2
 go_ret
 exact ⟨rfl, rfl⟩
/-- c bytes from a on, and p in their place. -/
def repT (s : ByteArray) (a c : Nat) (p : ByteArray) : ByteArray := s.extract 0 a ++ p ++ s.extract (a + c) s.size
theorem repT_size {s : ByteArray} {a c : Nat} {p : ByteArray} (h : a + c ≤ s.size) : (repT s a c p).size = s.size - c + p.size := by
 unfold repT; simp [ByteArray.size_append, ByteArray.size_extract]; omega
theorem repT_none {s : ByteArray} {a : Nat} {p : ByteArray} (hp : p.size = 0) (h : a ≤ s.size) : repT s a 0 p = s := by
 apply ext_of_list
 have hp0 : p.data.toList = [] := List.eq_nil_of_length_eq_zero (by rw [← Lib.size_eq]; exact hp)
 have hl : s.data.toList.length = s.size := by rw [← Lib.size_eq]
 unfold repT
 rw [ByteArray.data_append, Array.toList_append, ByteArray.data_append, Array.toList_append, extract_list, extract_list, hp0]
 simp only [List.drop_zero, Nat.sub_zero, List.append_nil, Nat.add_zero]
 rw [List.take_of_length_le (l := List.drop a s.data.toList) (by simp), List.take_append_drop]
/-- A buffer in block b with the text s, its array in a block of S. -/
def GapIn (W : World) (b lim : Nat) (s : ByteArray) (S : Nat → Prop) : Prop := ∃ g r fr tv, Gap W b g r fr tv lim ∧ gtext r fr tv = s ∧ S g

theorem copyS_at {W : World} {g : Nat} {l : List UInt8} (h : RowIs W g l) (a n dLen dCap : Nat) (s : ByteArray) (hn : n = l.length) (ha : a + s.size ≤ n) (h1 : s.size ≤ dLen) :
  ∃ W', (Builtin.copy_ #[74, 9] 3 #[.slice (some ⟨g, offs n a, none⟩) dLen dCap, .string s]).run Tryz.prog W = .ok (goInt s.size) W' ∧ RowIs W' g (l.take a ++ s.data.toList ++ l.drop (a + s.size)) ∧ Chg (fun k => k = g) W W' := by
 unfold offs
 split
 ·rename_i he
  have hs : s.size = 0 := by omega
  have hs0 : s.data.toList = [] := List.eq_nil_of_length_eq_zero (by rw [← Lib.size_eq]; exact hs)
  obtain ⟨W', h2, h3, h4⟩ := copy_at h 0 dLen dCap s h1 (by omega)
  refine ⟨W', h2, ?_, h4⟩
  rw [hs, hs0] at h3 ⊢
  simpa using h3
 ·exact copy_at h a dLen dCap s h1 (by omega)

/-- What Replace leaves: before the text goes in. -/
theorem cut_text {r' : ByteArray} {a tv c : Nat} {s : ByteArray} (h1 : a ≤ tv) (h2 : tv ≤ r'.size) (ht : gtext r' a tv = s) (hc : a + c ≤ s.size) :
  s.extract 0 a = r'.extract 0 a ∧ s.extract (a + c) s.size = r'.extract (tv + c) r'.size := by
 have hz := gtext_size h1 h2
 rw [ht] at hz
 constructor
 ·rw [← ht, piece_low h2 h1 (Nat.le_refl _) (Nat.zero_le _)]
 ·have := piece_high (r := r') (i := a + c) (j := s.size) h2 h1 (by omega) hc (by rw [ht]; exact Nat.le_refl _)
  rw [ht] at this
  rw [this]
  congr 1 <;> omega

def JRp (w0 : World) (b g lim N a T : Nat) (l l' : List UInt8) (m : Nat) (w : World) : Prop :=
 Blk w b 107 [.slice (some ⟨g, 0, none⟩) N N, .int .i64 a, .int .i64 T, .int .i64 lim] ∧ RowIs w g (if m = 0 then l else l') ∧ Chg (fun k => k = b ∨ k = g) w0 w
def VRp16 (b g N a o E : Nat) (p : ByteArray) : Nat → Value → World → Prop := fun d x w => match d with
 | 109 => x = .pointer (some ⟨b, 0, none⟩)
 | 110 => x = .pointer (some ⟨b, 0, none⟩)
 | 111 => x = .pointer (some ⟨b, 1, none⟩)
 | 112 => x = .int .i64 a
 | 113 => x = .pointer (some ⟨b, 0, none⟩)
 | 114 => x = .pointer (some ⟨b, 0, none⟩)
 | 115 => x = .pointer (some ⟨b, 0, none⟩)
 | 116 => x = .slice (some ⟨g, 0, none⟩) N N
 | 117 => x = .pointer (some ⟨b, 0, none⟩)
 | 118 => x = .pointer (some ⟨b, 0, none⟩)
 | 119 => x = .pointer (some ⟨b, 1, none⟩)
 | 120 => x = .int .i64 a
 | 121 => x = .slice (some ⟨g, o, none⟩) (N - a) (N - a)
 | 122 => x = .string p
 | 123 => x = .int .i64 p.size
 | 124 => x = .int .i64 E
 | 125 => x = .pointer (some ⟨b, 0, none⟩)
 | 126 => x = .pointer (some ⟨b, 1, none⟩)
 | _ => True
theorem VRp16_all (b g N a o E : Nat) (p : ByteArray) : ∀ d v w w', VRp16 b g N a o E p d v w → VRp16 b g N a o E p d v w' := by
 intro d v w w' h
 unfold VRp16 at h ⊢
 exact h
set_option maxRecDepth 100000 in
set_option maxHeartbeats 4000000 in
theorem GapReplace_any (b g : Nat) (r : ByteArray) (fr tv lim a c : Nat) (p s : ByteArray) (w : World) (h : Gap w b g r fr tv lim) (ht : gtext r fr tv = s) (hs : s.size ≤ lim) (hl : lim ≤ 1073741824) (hac : a + c ≤ s.size) (hp : s.size - c + p.size ≤ lim) :
  Calls Tryz.prog 233 #[.pointer (some ⟨b, 0, none⟩), .int .i64 a, .int .i64 c, .string p] w fun e w' => e = .returned (.tuple #[.string (s.extract a (a + c)), .int .i64 0]) ∧ GapIn w' b lim (repT s a c p) (fun k => k = g ∨ w.heap.size ≤ k) ∧ Chg (fun k => k = b ∨ k = g) w w' := by
 have HG := Lib.hid h
 have KL := GapLen_any b g r fr tv lim w h
 rw [ht] at KL
 have KLL := Lib.hid KL
 have e1 : IntKind.i64.wrap ((s.size : Int) - (a : Int)) = (s.size : Int) - (a : Int) := IntWalk.i64_in _ (by omega)
 have e2 : IntKind.i64.wrap ((s.size : Int) - (c : Int)) = ((s.size - c : Nat) : Int) := by rw [IntWalk.i64_in _ (by omega)]; omega
 have e3 : IntKind.i64.wrap ((lim : Int) - ((s.size - c : Nat) : Int)) = (lim : Int) - ((s.size - c : Nat) : Int) := IntWalk.i64_in _ (by omega)
 have e4 : IntKind.i64.wrap ((a : Int) + (c : Int)) = ((a + c : Nat) : Int) := by rw [IntWalk.i64_in _ (by omega)]; omega
 have n1 : ¬ (a : Int) < 0 := by omega
 have n2 : ¬ (c : Int) < 0 := by omega
 have n3 : ¬ (s.size : Int) < (a : Int) := by omega
 have n4 : ¬ (s.size : Int) - (a : Int) < (c : Int) := by omega
 have n5 : ¬ (lim : Int) - ((s.size - c : Nat) : Int) < (p.size : Int) := by omega
 have HT := Lib.hid ht
 clear h ht KL
 go_enter Tryz.func233, Tryz.ntmps233
 go_wp2_with fail
 refine KLL.out.mono ?_
 rintro e w1 ⟨rfl, hb⟩
 have HG1 := Lib.hid (HG.out.below hb)
 have HC1 := Lib.hid (Chg.of_below (S := fun k => k = b ∨ k = g) hb)
 clear KLL HG hb
 go_wp2_with fail
 refine (GapLimit_any b g r fr tv lim w1 HG1.out).mono ?_
 rintro e w2 ⟨rfl, rfl⟩
 have KP := piece_any b g r fr tv lim a (a + c) w2 HG1.out (by omega) (by rw [HT.out]; exact hac)
 rw [HT.out] at KP
 have KPP := Lib.hid KP
 clear KP
 go_wp2_with fail
 refine KPP.out.mono ?_
 rintro e w3 ⟨rfl, hb⟩
 clear n1 n2 n3 n4 n5 e1 e3 e4 KPP
 have HG3 := Lib.hid (HG1.out.below hb)
 have HC3 := Lib.hid (Chg.then_below HC1.out hb)
 clear HG1 HC1 hb
 go_wp2_with fail
 refine (move_any b g r fr tv lim a w3 HG3.out (by rw [HT.out]; omega)).mono ?_
 rintro e w4 ⟨rfl, r', tv', hG, ht', hz', hC⟩
 obtain ⟨x1, x2⟩ := cut_text hG.h1 hG.h2 (ht'.trans HT.out) hac
 have hsz := gtext_size hG.h1 hG.h2
 rw [ht', HT.out] at hsz
 have g1 := hG.h1
 have g2 := hG.h2
 have gm := hG.hm
 have hR : repT s a c p = r'.extract 0 a ++ p ++ r'.extract (tv' + c) r'.size := by unfold repT; rw [x1, x2]
 have HRT := Lib.hid hR
 have HG4 := Lib.hid hG
 have HC4 := Lib.hid (HC3.out.trans hC (fun x _ h => h))
 have HTT := Lib.hid (ht'.trans HT.out)
 have hgw := Nat.lt_of_lt_of_le HG3.out.lt hC.size
 clear hG ht' hC HG3 HC3 x1 x2 hR hz'
 have HSZ := Lib.hid hsz
 have e5 : IntKind.i64.wrap ((c : Int) + (p.size : Int)) = ((c + p.size : Nat) : Int) := by rw [IntWalk.i64_in _ (by omega)]; omega
 by_cases hz : c + p.size = 0
 ·obtain rfl : c = 0 := by omega
  have hp0 : p.size = 0 := by omega
  have hex : s.extract a (a + 0) = ⟨#[]⟩ := by apply ext_of_list; rw [extract_list]; simp
  have hE : Hid (GapIn w4 b lim (repT s a 0 p) (fun k => k = g ∨ w.heap.size ≤ k)) := by
   rw [repT_none hp0 (by omega)]
   exact ⟨g, r', a, tv', HG4.out, HTT.out, .inl rfl⟩
  have HEX := Lib.hid hex
  clear hac hp e5 hz hsz g1 g2 gm hex HSZ
  go_wp2
  refine bodyPost_ret (v := .tuple #[.string ⟨#[]⟩, .int .i64 0]) (by simp [results, Tryz.results233, go_sem]) rfl ⟨by rw [HEX.out], hE.out, HC4.out⟩
 ·have hz' : ¬ ((c + p.size : Nat) : Int) = 0 := by omega
  obtain ⟨q2, f2⟩ := HG4.out.box.lies.2 2 _ rfl
  have hbl := HG4.out.box.lies.1
  have g3 : tv' + c ≤ r'.size := by omega
  obtain ⟨T, hT⟩ : ∃ T, tv' + c = T := ⟨_, rfl⟩
  have hTc : (tv' : Int) + (c : Int) = (T : Int) := by omega
  have e6 : IntKind.i64.wrap ((tv' : Int) + (c : Int)) = (T : Int) := by rw [IntWalk.i64_in _ (by omega)]; omega
  rw [hT] at HRT g3
  have gT : a ≤ T := by omega
  have hEz : Hid (a + (r'.size - T) = s.size - c) := by show _ = _; omega
  obtain ⟨E, hE⟩ : ∃ E, s.size - c + p.size = E := ⟨_, rfl⟩
  have e7 : IntKind.i64.wrap (((s.size - c : Nat) : Int) + (p.size : Int)) = (E : Int) := by rw [IntWalk.i64_in _ (by omega)]; omega
  have hEl : E ≤ 1073741824 := by omega
  have HE := Lib.hid hE
  clear hz hsz hac hp hT hTc hE g1 g2 e5
  go_upto_region 11 with fail
  have hB5 := HG4.out.box.set 2 (.int .i64 T)
  have hR5 : Chg (fun k => k = b) w4 (w4.setCell ⟨b, 2, none⟩ (.int .i64 T)) := Chg.set w4 ⟨b, 2, none⟩ _
  have hG5 : Gap (w4.setCell ⟨b, 2, none⟩ (.int .i64 T)) b g r' a T lim := ⟨hB5, (hR5.block g HG4.out.lt (fun e => HG4.out.ne e.symm)).trans HG4.out.row, HG4.out.ne, gT, g3, HG4.out.h64, HG4.out.hm⟩
  have HG5 := Lib.hid hG5
  have HC5 := Lib.hid (HC4.out.trans hR5 (fun x _ h => .inl h))
  clear hB5 hR5 hG5 HG4 HC4 HTT e6 q2 f2 hbl hz'
  generalize w4.setCell ⟨b, 2, none⟩ (.int .i64 T) = w5 at *
  obtain ⟨q0, -⟩ := HG5.out.box.lies.2 0 _ rfl
  obtain ⟨N, hN⟩ : ∃ N, r'.size = N := ⟨_, rfl⟩
  rw [hN] at q0 gm g3 hEz
  have h64 : 64 ≤ N := by rw [← hN]; exact HG5.out.h64
  have HN := Lib.hid hN
  clear hN
  have e8 : IntKind.i64.wrap (2 * max (E : Int) 64) = 2 * max (E : Int) 64 := IntWalk.i64_in _ (by omega)
  by_cases hcase : N < E ∨ 2 * max E 64 < N
  ·have hcs : (N : Int) < (E : Int) ∨ (¬ (N : Int) < (E : Int) ∧ 2 * max (E : Int) 64 < (N : Int)) := by omega
   have KH := Halves_any b g r' a T lim w5 HG5.out
   have hXs : (r'.extract 0 a).size = a := by rw [ByteArray.size_extract, HN.out]; omega
   have hYs : (r'.extract T r'.size).size = N - T := by rw [ByteArray.size_extract, HN.out]; omega
   have hRT2 := HRT.out
   obtain ⟨X, hX⟩ : ∃ X, r'.extract 0 a = X := ⟨_, rfl⟩
   obtain ⟨Y, hY⟩ : ∃ Y, r'.extract T r'.size = Y := ⟨_, rfl⟩
   rw [hX, hY] at KH hRT2
   rw [hX] at hXs
   rw [hY] at hYs
   have HKH := Lib.hid KH
   have HR2 := Lib.hid hRT2
   have hsum : (X ++ p).size + Y.size = E := by rw [ByteArray.size_append]; have := hEz.out; have := HE.out; omega
   have hXp : ¬ 9223372036854775807 < X.size + p.size := by rw [ByteArray.size_append] at hsum; omega
   obtain ⟨K, hK⟩ : ∃ K, max (E + E / 2) 64 = K := ⟨_, rfl⟩
   have hK1 : E ≤ K := by omega
   have hK2 : 64 ≤ K := by omega
   have hK3 : K ≤ 4294967296 := by omega
   have hd : (E : Int).tdiv 2 = ((E / 2 : Nat) : Int) := rfl
   have hw1 : IntKind.i64.wrap ((E / 2 : Nat) : Int) = ((E / 2 : Nat) : Int) := IntWalk.i64_in _ (by omega)
   have hw2 : IntKind.i64.wrap ((E : Int) + ((E / 2 : Nat) : Int)) = (E : Int) + ((E / 2 : Nat) : Int) := IntWalk.i64_in _ (by omega)
   have hw3 : max ((E : Int) + (E : Int) / 2) 64 = (K : Int) := by omega
   have HW3 := Lib.hid hw3
   clear hw3
   have HSU := Lib.hid hsum
   have HBX := HG5.out.box
   have HBX' := Lib.hid HBX
   clear hcase KH hRT2 hX hY hXs hYs hsum hK HBX hEz HE HRT
   rcases hcs with hA | ⟨hA, hB⟩
   all_goals
    go_wp2_with fail
    refine HKH.out.mono ?_
    rintro e w6 ⟨rfl, hb⟩
    have HB6 := Lib.hid (HBX'.out.below hb)
    have HC6 := Lib.hid (HC5.out.then_below hb)
    clear hb
    go_wp2_with fail
    rw [HW3.out]
    refine (lay_any b _ _ _ lim (X ++ p) Y K w6 HB6.out (by have := HSU.out; omega) hK2 hK3).mono ?_
    rintro e w7 ⟨rfl, hG, hC⟩
    have hT7 : gtext (layR (X ++ p) Y K) (X ++ p).size (K - Y.size) = repT s a c p := by rw [layR_text (by have := HSU.out; omega), HR2.out]
    have HE := Lib.hid (show GapIn w7 b lim (repT s a c p) (fun k => k = g ∨ w.heap.size ≤ k) from ⟨_, _, _, _, hG, hT7, .inr HC6.out.size⟩)
    have HC7 := Lib.hid (HC6.out.trans hC (fun x _ h => .inl h))
    clear hG hC hT7 HKH hXp hd hw1 hw2
    go_wp2
    refine bodyPost_ret (v := .tuple #[.string (s.extract a (a + c)), .int .i64 0]) (by simp [results, Tryz.results233, go_sem]) rfl ⟨rfl, HE.out, HC7.out⟩
  ·have c1 : ¬ (N : Int) < (E : Int) := by omega
   have c2 : ¬ 2 * max (E : Int) 64 < (N : Int) := by omega
   have haT : a + p.size ≤ T := by have := hEz.out; have := HE.out; omega
   obtain ⟨o, ho⟩ : ∃ o, offs N a = o := ⟨_, rfl⟩
   have pp : (if N = a then (some ⟨g, 0, none⟩ : Option Addr) else some ⟨g, a, none⟩) = some ⟨g, o, none⟩ := by rw [← ho]; unfold offs; split <;> rfl
   obtain ⟨l, hl⟩ : ∃ l, r'.data.toList = l := ⟨_, rfl⟩
   have hlN : N = l.length := by rw [← hl, ← HN.out, ← Lib.size_eq]
   have HCp := Lib.hid (fun (W : World) (h : RowIs W g l) => copyS_at h a N (N - a) (N - a) p hlN (by omega) (by omega))
   rw [ho] at HCp
   have HPP := Lib.hid pp
   obtain ⟨F, hF⟩ : ∃ F, a + p.size = F := ⟨_, rfl⟩
   have e9 : IntKind.i64.wrap ((a : Int) + (p.size : Int)) = (F : Int) := by rw [IntWalk.i64_in _ (by omega)]; omega
   have hbx : Blk w5 b 107 [.slice (some ⟨g, 0, none⟩) N N, .int .i64 a, .int .i64 T, .int .i64 lim] := by rw [← HN.out]; exact HG5.out.box
   have hrw : RowIs w5 g l := by rw [← hl]; exact HG5.out.row
   have HBX := Lib.hid hbx
   have HRW := Lib.hid hrw
   have hFin : Hid (∀ W : World, Blk W b 107 [.slice (some ⟨g, 0, none⟩) N N, .int .i64 a, .int .i64 T, .int .i64 lim] → RowIs W g (l.take a ++ p.data.toList ++ l.drop F) → Chg (fun k => k = b ∨ k = g) w W →
     GapIn (W.setCell ⟨b, 1, none⟩ (.int .i64 F)) b lim (repT s a c p) (fun k => k = g ∨ w.heap.size ≤ k) ∧ Chg (fun k => k = b ∨ k = g) w (W.setCell ⟨b, 1, none⟩ (.int .i64 F))) := by
    intro W k1 k2 k3
    have hch : Chg (fun k => k = b) W (W.setCell ⟨b, 1, none⟩ (.int .i64 F)) := Chg.set W ⟨b, 1, none⟩ _
    obtain ⟨r2, hr2⟩ : ∃ r2 : ByteArray, r2.data.toList = l.take a ++ p.data.toList ++ l.drop F := ⟨⟨(l.take a ++ p.data.toList ++ l.drop F).toArray⟩, by simp⟩
    have hpl : p.data.toList.length = p.size := by rw [← Lib.size_eq]
    have hr2s : r2.size = N := by
     have := congrArg List.length hr2
     rw [← Lib.size_eq] at this
     rw [this]; simp [hpl]; omega
    have hgl : g < W.heap.size := (Array.getElem?_eq_some_iff.1 k2).1
    refine ⟨⟨g, r2, F, T, ⟨by rw [hr2s]; exact k1.set 1 (.int .i64 F), ?_, HG5.out.ne, by omega, by omega, by omega, by omega⟩, ?_, .inl rfl⟩, k3.trans hch (fun x _ h => .inl h)⟩
    ·rw [hr2]; exact (hch.block g hgl (fun e => HG5.out.ne e.symm)).trans k2
    ·rw [HRT.out]
     apply ext_of_list
     rw [gtext_list _ _ _ (by omega), hr2, ByteArray.data_append, Array.toList_append, ByteArray.data_append, Array.toList_append, extract_list, extract_list, hl, HN.out]
     simp only [List.drop_zero, Nat.sub_zero]
     rw [List.take_left' (by simp [hpl]; omega)]
     congr 1
     rw [List.take_of_length_le (l := List.drop T l) (by simp; omega), List.append_assoc, List.drop_append, List.drop_eq_nil_of_le (by simp; omega), List.nil_append, List.drop_append, hpl, List.drop_eq_nil_of_le (by simp [hpl]; omega), List.nil_append, List.drop_drop]
     congr 1
     simp; omega
   have hne := HG5.out.ne
   have haN : a ≤ N := by omega
   rw [hF] at HCp
   obtain ⟨l', hl'⟩ : ∃ l', l.take a ++ p.data.toList ++ l.drop F = l' := ⟨_, rfl⟩
   rw [hl'] at HCp hFin
   clear hl' hcase haT ho pp hl hF hbx hrw HG5 HN HRT HE hEz h64 hgw gm g3 gT hlN
   go_wp2
   refine wp_held_mid mixed (VRp16 b g N a o F p) (VRp16_all b g N a o F p) (by kernel_rfl) [109, 110, 111, 112, 113, 114, 115, 116, 117, 118, 119, 120, 121, 122, 123, 124, 125, 126] (by kernel_rfl) (JRp w b g lim N a T l l') 14 18 (by kernel_rfl) (by decide) (by kernel_rfl) 9 (by kernel_rfl) (by kernel_rfl) ⟨HBX.out, HRW.out, HC5.out.then_below ⟨rfl, rfl, rfl, Nat.le_refl _, fun _ _ => rfl⟩⟩ ?_ ?_ ?_
   ·intro j hj hjp m
    have hj' : j < 18 := hj
    rcases (by omega : j = 0 ∨ j = 1 ∨ j = 2 ∨ j = 3 ∨ j = 4 ∨ j = 5 ∨ j = 6 ∨ j = 7 ∨ j = 8 ∨ j = 9 ∨ j = 10 ∨ j = 11 ∨ j = 12 ∨ j = 13 ∨ j = 15 ∨ j = 16 ∨ j = 17) with rfl | rfl | rfl | rfl | rfl | rfl | rfl | rfl | rfl | rfl | rfl | rfl | rfl | rfl | rfl | rfl | rfl
    ·(refine owesJ_val (L := [(0, false)]) rfl rfl rfl (by kernel_rfl) ?_; intro a' w' hJ hfacts; obtain ⟨hf0, -⟩ := hfacts; replace hf0 : a'.tmps[0]?.getD undef = .pointer (some ⟨b, 0, none⟩) := hf0)
     have pB := hJ.1.lies; have p0 := (pB.2 0 _ rfl).1; have p1 := (pB.2 1 _ rfl).1
     (go_simp; first | exact ⟨_, rfl, hJ, rfl⟩ | exact ⟨_, rfl, rfl⟩)
    ·(refine owesJ_val (L := [(109, true)]) rfl rfl rfl (by kernel_rfl) ?_; intro a' w' hJ hfacts; obtain ⟨hf109, -⟩ := hfacts; try simp only [VRp16] at hf109)
     have pB := hJ.1.lies; have p0 := (pB.2 0 _ rfl).1; have p1 := (pB.2 1 _ rfl).1
     (go_simp; first | exact ⟨_, rfl, hJ, rfl⟩ | exact ⟨_, rfl, rfl⟩)
    ·(refine owesJ_val (L := [(110, true)]) rfl rfl rfl (by kernel_rfl) ?_; intro a' w' hJ hfacts; obtain ⟨hf110, -⟩ := hfacts; try simp only [VRp16] at hf110)
     have pB := hJ.1.lies; have p0 := (pB.2 0 _ rfl).1; have p1 := (pB.2 1 _ rfl).1
     (go_simp; first | exact ⟨_, rfl, hJ, rfl⟩ | exact ⟨_, rfl, rfl⟩)
    ·(refine owesJ_val (L := [(111, true)]) rfl rfl rfl (by kernel_rfl) ?_; intro a' w' hJ hfacts; obtain ⟨hf111, -⟩ := hfacts; try simp only [VRp16] at hf111)
     have pB := hJ.1.lies; have p0 := (pB.2 0 _ rfl).1; have p1 := (pB.2 1 _ rfl).1
     (go_simp; first | exact ⟨_, rfl, hJ, rfl⟩ | exact ⟨_, rfl, rfl⟩)
    ·(refine owesJ_val (L := [(0, false)]) rfl rfl rfl (by kernel_rfl) ?_; intro a' w' hJ hfacts; obtain ⟨hf0, -⟩ := hfacts; replace hf0 : a'.tmps[0]?.getD undef = .pointer (some ⟨b, 0, none⟩) := hf0)
     have pB := hJ.1.lies; have p0 := (pB.2 0 _ rfl).1; have p1 := (pB.2 1 _ rfl).1
     (go_simp; first | exact ⟨_, rfl, hJ, rfl⟩ | exact ⟨_, rfl, rfl⟩)
    ·(refine owesJ_val (L := [(113, true)]) rfl rfl rfl (by kernel_rfl) ?_; intro a' w' hJ hfacts; obtain ⟨hf113, -⟩ := hfacts; try simp only [VRp16] at hf113)
     have pB := hJ.1.lies; have p0 := (pB.2 0 _ rfl).1; have p1 := (pB.2 1 _ rfl).1
     (go_simp; first | exact ⟨_, rfl, hJ, rfl⟩ | exact ⟨_, rfl, rfl⟩)
    ·(refine owesJ_val (L := [(114, true)]) rfl rfl rfl (by kernel_rfl) ?_; intro a' w' hJ hfacts; obtain ⟨hf114, -⟩ := hfacts; try simp only [VRp16] at hf114)
     have pB := hJ.1.lies; have p0 := (pB.2 0 _ rfl).1; have p1 := (pB.2 1 _ rfl).1
     (go_simp; first | exact ⟨_, rfl, hJ, rfl⟩ | exact ⟨_, rfl, rfl⟩)
    ·(refine owesJ_val (L := [(115, true)]) rfl rfl rfl (by kernel_rfl) ?_; intro a' w' hJ hfacts; obtain ⟨hf115, -⟩ := hfacts; try simp only [VRp16] at hf115)
     have pB := hJ.1.lies; have p0 := (pB.2 0 _ rfl).1; have p1 := (pB.2 1 _ rfl).1
     (go_simp; first | exact ⟨_, rfl, hJ, rfl⟩ | exact ⟨_, rfl, rfl⟩)
    ·(refine owesJ_val (L := [(0, false)]) rfl rfl rfl (by kernel_rfl) ?_; intro a' w' hJ hfacts; obtain ⟨hf0, -⟩ := hfacts; replace hf0 : a'.tmps[0]?.getD undef = .pointer (some ⟨b, 0, none⟩) := hf0)
     have pB := hJ.1.lies; have p0 := (pB.2 0 _ rfl).1; have p1 := (pB.2 1 _ rfl).1
     (go_simp; first | exact ⟨_, rfl, hJ, rfl⟩ | exact ⟨_, rfl, rfl⟩)
    ·(refine owesJ_val (L := [(117, true)]) rfl rfl rfl (by kernel_rfl) ?_; intro a' w' hJ hfacts; obtain ⟨hf117, -⟩ := hfacts; try simp only [VRp16] at hf117)
     have pB := hJ.1.lies; have p0 := (pB.2 0 _ rfl).1; have p1 := (pB.2 1 _ rfl).1
     (go_simp; first | exact ⟨_, rfl, hJ, rfl⟩ | exact ⟨_, rfl, rfl⟩)
    ·(refine owesJ_val (L := [(118, true)]) rfl rfl rfl (by kernel_rfl) ?_; intro a' w' hJ hfacts; obtain ⟨hf118, -⟩ := hfacts; try simp only [VRp16] at hf118)
     have pB := hJ.1.lies; have p0 := (pB.2 0 _ rfl).1; have p1 := (pB.2 1 _ rfl).1
     (go_simp; first | exact ⟨_, rfl, hJ, rfl⟩ | exact ⟨_, rfl, rfl⟩)
    ·(refine owesJ_val (L := [(119, true)]) rfl rfl rfl (by kernel_rfl) ?_; intro a' w' hJ hfacts; obtain ⟨hf119, -⟩ := hfacts; try simp only [VRp16] at hf119)
     have pB := hJ.1.lies; have p0 := (pB.2 0 _ rfl).1; have p1 := (pB.2 1 _ rfl).1
     (go_simp; first | exact ⟨_, rfl, hJ, rfl⟩ | exact ⟨_, rfl, rfl⟩)
    ·(refine owesJ_val (L := [(116, true), (120, true)]) rfl rfl rfl (by kernel_rfl) ?_; intro a' w' hJ hfacts; obtain ⟨hf116, hf120, -⟩ := hfacts; try simp only [VRp16] at hf116; try simp only [VRp16] at hf120)
     have pp := HPP.out
     (go_simp; first | exact ⟨_, rfl, hJ, rfl⟩ | exact ⟨_, rfl, rfl⟩)
    ·(refine owesJ_val (L := [(3, false)]) rfl rfl rfl (by kernel_rfl) ?_; intro a' w' hJ hfacts; obtain ⟨hf3, -⟩ := hfacts; replace hf3 : a'.tmps[3]?.getD undef = .string p := hf3)
     have pB := hJ.1.lies; have p0 := (pB.2 0 _ rfl).1; have p1 := (pB.2 1 _ rfl).1
     (go_simp; first | exact ⟨_, rfl, hJ, rfl⟩ | exact ⟨_, rfl, rfl⟩)
    ·(refine owesJ_val (L := [(112, true), (123, true)]) rfl rfl rfl (by kernel_rfl) ?_; intro a' w' hJ hfacts; obtain ⟨hf112, hf123, -⟩ := hfacts; try simp only [VRp16] at hf112; try simp only [VRp16] at hf123)
     have pB := hJ.1.lies; have p0 := (pB.2 0 _ rfl).1; have p1 := (pB.2 1 _ rfl).1
     (go_simp; first | exact ⟨_, rfl, hJ, rfl⟩ | exact ⟨_, rfl, rfl⟩)
    ·(refine owesJ_val (L := [(109, true)]) rfl rfl rfl (by kernel_rfl) ?_; intro a' w' hJ hfacts; obtain ⟨hf109, -⟩ := hfacts; try simp only [VRp16] at hf109)
     have pB := hJ.1.lies; have p0 := (pB.2 0 _ rfl).1; have p1 := (pB.2 1 _ rfl).1
     (go_simp; first | exact ⟨_, rfl, hJ, rfl⟩ | exact ⟨_, rfl, rfl⟩)
    ·(refine owesJ_val (L := [(125, true)]) rfl rfl rfl (by kernel_rfl) ?_; intro a' w' hJ hfacts; obtain ⟨hf125, -⟩ := hfacts; try simp only [VRp16] at hf125)
     have pB := hJ.1.lies; have p0 := (pB.2 0 _ rfl).1; have p1 := (pB.2 1 _ rfl).1
     (go_simp; first | exact ⟨_, rfl, hJ, rfl⟩ | exact ⟨_, rfl, rfl⟩)
   ·clear e9
    refine owesJ_val (L := [(121, true), (122, true)]) rfl rfl rfl (by kernel_rfl) ?_
    intro a' w' hJ hfacts
    obtain ⟨hf121, hf122, -⟩ := hfacts
    try simp only [VRp16] at hf121
    try simp only [VRp16] at hf122
    obtain ⟨j1, j2, j3⟩ := hJ
    rw [if_pos rfl] at j2
    obtain ⟨W2, hcopy, hr2, hc2⟩ := HCp.out _ j2
    go_simp
    exact ⟨_, rfl, ⟨j1.chg hc2 hne, by rw [if_neg (by decide)]; exact hr2, j3.trans hc2 (fun x _ h => .inr h)⟩, rfl⟩
   ·intro f W hf hJ
    have e126 : f 126 = .pointer (some ⟨b, 1, none⟩) := hf 126 (by decide)
    have e124 : f 124 = .int .i64 F := hf 124 (by decide)
    obtain ⟨j1, j2, j3⟩ := hJ
    rw [if_neg (by decide)] at j2
    have HE := Lib.hid (hFin.out W j1 j2 j3)
    obtain ⟨q1, f1⟩ := j1.lies.2 1 _ rfl
    have hbl := j1.lies.1
    clear hf j1 j2 j3 hFin HCp HPP HBX HRW HC5 q0
    simp only [putAll, put_lit, List.map_cons, List.map_nil, List.set_cons_succ, List.set_cons_zero]
    simp only [e126, e124]
    clear e126 e124
    refine wpOp_last rfl ?_
    go_wp2
    refine bodyPost_ret (v := .tuple #[.string (s.extract a (a + c)), .int .i64 0]) (by simp [results, Tryz.results233, go_sem]) rfl ⟨rfl, HE.out⟩
end Go.Proofs.YtfchglcclgcgfaaGreatDoor.Ut
/-
 rope: short, seam; put. Condition: the two tables of unicode/utf8 lie as laid.
-/
namespace Go.Proofs.YtfchglcclgcgfaaGreatDoor.Ut
open Go.RowKit Go.Proofs.YtfchglcclgcgfaaGreatDoor.Reg
set_option linter.unusedVariables false
set_option linter.unusedSimpArgs false

def isShort : Option Tr → Bool
 | some (.leaf s) => decide (s.size < 32)
 | _ => false
theorem short_any (v : Value) (t : Option Tr) (w : World) (h : IsOpt w v t) : Calls Tryz.prog 159 #[v] w fun e w' => e = .returned (.bool (isShort t)) ∧ w' = w := by
 match t, h with
 | none, h =>
  obtain rfl : v = .pointer none := h
  go_enter Tryz.func159, Tryz.ntmps159
  go_wp2
  go_ret
  exact ⟨rfl, rfl⟩
 | some (.leaf s), ⟨b, h1, h2⟩ =>
  subst h1
  have hL : Lies w b (nodeV (.pointer none) (.pointer none) 0 (measF s) s) := Blk.lies h2
  have c0 := (hL.2 0 _ rfl).1
  have c10 := (hL.2 10 _ rfl).1
  clear h2 hL
  unfold ptr isShort
  go_enter Tryz.func159, Tryz.ntmps159
  go_wp2
  go_ret
  refine ⟨?_, rfl⟩
  simp; omega
 | some (.knot l r), ⟨b, h1, h2⟩ =>
  subst h1
  obtain ⟨x, y, -, -, hL⟩ := h2
  have c0 := (hL.lies.2 0 _ rfl).1
  clear hL
  unfold ptr at *
  go_enter Tryz.func159, Tryz.ntmps159
  go_wp2
  go_ret
  exact ⟨rfl, rfl⟩

def seamF (a b : ByteArray) : Bool := clB (a ++ b) a.size
theorem seam_any (a b : ByteArray) (w : World) (hT : Tabs w) (hs : a.size + b.size ≤ 140737488355328) : Calls Tryz.prog 160 #[.string a, .string b] w fun e w' => e = .returned (.bool (seamF a b)) ∧ Below w.heap.size w w' := by
 have HC := Lib.hid (ClBoundary_any (a ++ b) a.size w hT (by rw [ByteArray.size_append]; exact hs) (by rw [ByteArray.size_append]; omega))
 unfold seamF
 have hz : ¬ 9223372036854775807 < a.size + b.size := by omega
 generalize clB (a ++ b) a.size = R at *
 clear hT
 go_enter Tryz.func160, Tryz.ntmps160
 go_wp2_with fail
 refine HC.out.mono ?_
 rintro e w1 ⟨rfl, hb⟩
 have HB := Lib.hid hb
 clear hb
 go_wp2
 go_ret
 exact ⟨rfl, HB.out⟩
end Go.Proofs.YtfchglcclgcgfaaGreatDoor.Ut
