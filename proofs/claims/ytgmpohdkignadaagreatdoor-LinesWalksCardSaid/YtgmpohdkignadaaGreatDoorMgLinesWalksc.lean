/-
  What the proof of the row LinesWalks rests on: the texts GapE StR StV StW LwV. Conditions: each theorem names its own.
-/
import Derived.Test.YtgmpohdkignadaaGreatDoorMgLinesWalksa
import Derived.Deep.DeepCutAuto
import Derived.Test.YtgmpohdkignadaaGreatDoorMgLj
import Derived.Test.YtgmpohdkignadaaGreatDoorMgLinesWalksb
/-
  Package gap: Limit, Replace. No condition.
-/
namespace Go.Proofs.YtgmpohdkignadaaGreatDoor.Ut
open Go.RowKit Go.Proofs.YtgmpohdkignadaaGreatDoor.Reg
set_option linter.unusedVariables false
set_option linter.unusedSimpArgs false

theorem GapLimit_any (b g : Nat) (r : ByteArray) (fr tv lim : Nat) (w : World) (h : Gap w b g r fr tv lim) : Calls Tryz.prog 145 #[.pointer (some ⟨b, 0, none⟩)] w fun e w' => e = .returned (.int .i64 lim) ∧ w' = w := by
  have c3 := (h.box.lies.2 3 _ rfl).1
  clear h
  go_enter Tryz.func145, Tryz.ntmps145
  go_wp2
  go_ret
  exact ⟨rfl, rfl⟩
/-- c bytes from a on, and p in their place. -/
def repT (s : ByteArray) (a c : Nat) (p : ByteArray) : ByteArray := s.extract 0 a ++ p ++ s.extract (a + c) s.size
theorem repT_size {s : ByteArray} {a c : Nat} {p : ByteArray} (h : a + c ≤ s.size) : (repT s a c p).size = s.size - c + p.size := by
  unfold repT; simp [ByteArray.size_append, ByteArray.size_extract]; omega
theorem repT_none {s : ByteArray} {a : Nat} {p : ByteArray} (hp : p.size = 0) (h : a ≤ s.size) : repT s a 0 p = s := by
  apply ext_of_list
  have hp0 : p.data.toList = [] := List.eq_nil_of_length_eq_zero (by rw [← Lib.size_eq]; exact hp)
  have hl : s.data.toList.length = s.size := by rw [← Lib.size_eq]
  unfold repT
  rw [ByteArray.data_append, Array.toList_append, ByteArray.data_append, Array.toList_append, extract_list, extract_list, hp0]
  simp only [List.drop_zero, Nat.sub_zero, List.append_nil, Nat.add_zero]
  rw [List.take_of_length_le (l := List.drop a s.data.toList) (by simp), List.take_append_drop]
/-- A buffer in block b with the text s, its array in a block of S. -/
def GapIn (W : World) (b lim : Nat) (s : ByteArray) (S : Nat → Prop) : Prop := ∃ g r fr tv, Gap W b g r fr tv lim ∧ gtext r fr tv = s ∧ S g

theorem copyS_at {W : World} {g : Nat} {l : List UInt8} (h : RowIs W g l) (a n dLen dCap : Nat) (s : ByteArray) (hn : n = l.length) (ha : a + s.size ≤ n) (h1 : s.size ≤ dLen) :
    ∃ W', (Builtin.copy_ #[99, 9] 3 #[.slice (some ⟨g, offs n a, none⟩) dLen dCap, .string s]).run Tryz.prog W = .ok (goInt s.size) W' ∧ RowIs W' g (l.take a ++ s.data.toList ++ l.drop (a + s.size)) ∧ Chg (fun k => k = g) W W' := by
  unfold offs
  split
  · rename_i he
    have hs : s.size = 0 := by omega
    have hs0 : s.data.toList = [] := List.eq_nil_of_length_eq_zero (by rw [← Lib.size_eq]; exact hs)
    obtain ⟨W', h2, h3, h4⟩ := copy_at h 0 dLen dCap s h1 (by omega)
    refine ⟨W', h2, ?_, h4⟩
    rw [hs, hs0] at h3 ⊢
    simpa using h3
  · exact copy_at h a dLen dCap s h1 (by omega)

/-- What Replace leaves: before the text goes in. -/
theorem cut_text {r' : ByteArray} {a tv c : Nat} {s : ByteArray} (h1 : a ≤ tv) (h2 : tv ≤ r'.size) (ht : gtext r' a tv = s) (hc : a + c ≤ s.size) :
    s.extract 0 a = r'.extract 0 a ∧ s.extract (a + c) s.size = r'.extract (tv + c) r'.size := by
  have hz := gtext_size h1 h2
  rw [ht] at hz
  constructor
  · rw [← ht, piece_low h2 h1 (Nat.le_refl _) (Nat.zero_le _)]
  · have := piece_high (r := r') (i := a + c) (j := s.size) h2 h1 (by omega) hc (by rw [ht]; exact Nat.le_refl _)
    rw [ht] at this
    rw [this]
    congr 1 <;> omega

def JRp (w0 : World) (b g lim N a T : Nat) (l l' : List UInt8) (m : Nat) (w : World) : Prop :=
  Blk w b 101 [.slice (some ⟨g, 0, none⟩) N N, .int .i64 a, .int .i64 T, .int .i64 lim] ∧ RowIs w g (if m = 0 then l else l') ∧ Chg (fun k => k = b ∨ k = g) w0 w
def VRp16 (b g N a o E : Nat) (p : ByteArray) : Nat → Value → World → Prop := fun d x w => match d with
  | 109 => x = .pointer (some ⟨b, 0, none⟩)
  | 110 => x = .pointer (some ⟨b, 0, none⟩)
  | 111 => x = .pointer (some ⟨b, 1, none⟩)
  | 112 => x = .int .i64 a
  | 113 => x = .pointer (some ⟨b, 0, none⟩)
  | 114 => x = .pointer (some ⟨b, 0, none⟩)
  | 115 => x = .pointer (some ⟨b, 0, none⟩)
  | 116 => x = .slice (some ⟨g, 0, none⟩) N N
  | 117 => x = .pointer (some ⟨b, 0, none⟩)
  | 118 => x = .pointer (some ⟨b, 0, none⟩)
  | 119 => x = .pointer (some ⟨b, 1, none⟩)
  | 120 => x = .int .i64 a
  | 121 => x = .slice (some ⟨g, o, none⟩) (N - a) (N - a)
  | 122 => x = .string p
  | 123 => x = .int .i64 p.size
  | 124 => x = .int .i64 E
  | 125 => x = .pointer (some ⟨b, 0, none⟩)
  | 126 => x = .pointer (some ⟨b, 1, none⟩)
  | _ => True
theorem VRp16_mono (b g N a o E : Nat) (p : ByteArray) : ∀ d x w w', VRp16 b g N a o E p d x w → Below w.heap.size w w' → VRp16 b g N a o E p d x w' := by
  exact fun _ _ _ _ h _ => h
theorem VRp16_all (b g N a o E : Nat) (p : ByteArray) : ∀ d v w w', VRp16 b g N a o E p d v w → VRp16 b g N a o E p d v w' := by
  intro d v w w' h
  unfold VRp16 at h ⊢
  exact h
set_option maxRecDepth 100000 in
set_option maxHeartbeats 4000000 in
theorem GapReplace_any (b g : Nat) (r : ByteArray) (fr tv lim a c : Nat) (p s : ByteArray) (w : World) (h : Gap w b g r fr tv lim) (ht : gtext r fr tv = s) (hs : s.size ≤ lim) (hl : lim ≤ 1073741824) (hac : a + c ≤ s.size) (hp : s.size - c + p.size ≤ lim) :
    Calls Tryz.prog 143 #[.pointer (some ⟨b, 0, none⟩), .int .i64 a, .int .i64 c, .string p] w fun e w' => e = .returned (.tuple #[.string (s.extract a (a + c)), .int .i64 0]) ∧ GapIn w' b lim (repT s a c p) (fun k => k = g ∨ w.heap.size ≤ k) ∧ Chg (fun k => k = b ∨ k = g) w w' := by
  have HG := Lib.hid h
  have KL := GapLen_any b g r fr tv lim w h
  rw [ht] at KL
  have KLL := Lib.hid KL
  have e1 : IntKind.i64.wrap ((s.size : Int) - (a : Int)) = (s.size : Int) - (a : Int) := IntWalk.i64_in _ (by omega)
  have e2 : IntKind.i64.wrap ((s.size : Int) - (c : Int)) = ((s.size - c : Nat) : Int) := by rw [IntWalk.i64_in _ (by omega)]; omega
  have e3 : IntKind.i64.wrap ((lim : Int) - ((s.size - c : Nat) : Int)) = (lim : Int) - ((s.size - c : Nat) : Int) := IntWalk.i64_in _ (by omega)
  have e4 : IntKind.i64.wrap ((a : Int) + (c : Int)) = ((a + c : Nat) : Int) := by rw [IntWalk.i64_in _ (by omega)]; omega
  have n1 : ¬ (a : Int) < 0 := by omega
  have n2 : ¬ (c : Int) < 0 := by omega
  have n3 : ¬ (s.size : Int) < (a : Int) := by omega
  have n4 : ¬ (s.size : Int) - (a : Int) < (c : Int) := by omega
  have n5 : ¬ (lim : Int) - ((s.size - c : Nat) : Int) < (p.size : Int) := by omega
  have HT := Lib.hid ht
  clear h ht KL
  go_enter Tryz.func143, Tryz.ntmps143
  go_wp2_with fail
  refine KLL.out.mono ?_
  rintro e w1 ⟨rfl, hb⟩
  have HG1 := Lib.hid (HG.out.below hb)
  have HC1 := Lib.hid (Chg.of_below (S := fun k => k = b ∨ k = g) hb)
  clear KLL HG hb
  go_wp2_with fail
  refine (GapLimit_any b g r fr tv lim w1 HG1.out).mono ?_
  rintro e w2 ⟨rfl, rfl⟩
  have KP := piece_any b g r fr tv lim a (a + c) w2 HG1.out (by omega) (by rw [HT.out]; exact hac)
  rw [HT.out] at KP
  have KPP := Lib.hid KP
  clear KP
  go_wp2_with fail
  refine KPP.out.mono ?_
  rintro e w3 ⟨rfl, hb⟩
  clear n1 n2 n3 n4 n5 e1 e3 e4 KPP
  have HG3 := Lib.hid (HG1.out.below hb)
  have HC3 := Lib.hid (Chg.then_below HC1.out hb)
  clear HG1 HC1 hb
  go_wp2_with fail
  refine (move_any b g r fr tv lim a w3 HG3.out (by rw [HT.out]; omega)).mono ?_
  rintro e w4 ⟨rfl, r', tv', hG, ht', hz', hC⟩
  obtain ⟨x1, x2⟩ := cut_text hG.h1 hG.h2 (ht'.trans HT.out) hac
  have hsz := gtext_size hG.h1 hG.h2
  rw [ht', HT.out] at hsz
  have g1 := hG.h1
  have g2 := hG.h2
  have gm := hG.hm
  have hR : repT s a c p = r'.extract 0 a ++ p ++ r'.extract (tv' + c) r'.size := by unfold repT; rw [x1, x2]
  have HRT := Lib.hid hR
  have HG4 := Lib.hid hG
  have HC4 := Lib.hid (HC3.out.trans hC (fun x _ h => h))
  have HTT := Lib.hid (ht'.trans HT.out)
  have hgw := Nat.lt_of_lt_of_le HG3.out.lt hC.size
  clear hG ht' hC HG3 HC3 x1 x2 hR hz'
  have HSZ := Lib.hid hsz
  have e5 : IntKind.i64.wrap ((c : Int) + (p.size : Int)) = ((c + p.size : Nat) : Int) := by rw [IntWalk.i64_in _ (by omega)]; omega
  by_cases hz : c + p.size = 0
  · obtain rfl : c = 0 := by omega
    have hp0 : p.size = 0 := by omega
    have hex : s.extract a (a + 0) = ⟨#[]⟩ := by apply ext_of_list; rw [extract_list]; simp
    have hE : Hid (GapIn w4 b lim (repT s a 0 p) (fun k => k = g ∨ w.heap.size ≤ k)) := by
      rw [repT_none hp0 (by omega)]
      exact ⟨g, r', a, tv', HG4.out, HTT.out, .inl rfl⟩
    have HEX := Lib.hid hex
    clear hac hp e5 hz hsz g1 g2 gm hex HSZ
    go_wp2
    refine bodyPost_ret (v := .tuple #[.string ⟨#[]⟩, .int .i64 0]) (by simp [results, Tryz.results143, go_sem]) rfl ⟨by rw [HEX.out], hE.out, HC4.out⟩
  · have hz' : ¬ ((c + p.size : Nat) : Int) = 0 := by omega
    obtain ⟨q2, f2⟩ := HG4.out.box.lies.2 2 _ rfl
    have hbl := HG4.out.box.lies.1
    have g3 : tv' + c ≤ r'.size := by omega
    obtain ⟨T, hT⟩ : ∃ T, tv' + c = T := ⟨_, rfl⟩
    have hTc : (tv' : Int) + (c : Int) = (T : Int) := by omega
    have e6 : IntKind.i64.wrap ((tv' : Int) + (c : Int)) = (T : Int) := by rw [IntWalk.i64_in _ (by omega)]; omega
    rw [hT] at HRT g3
    have gT : a ≤ T := by omega
    have hEz : Hid (a + (r'.size - T) = s.size - c) := by show _ = _; omega
    obtain ⟨E, hE⟩ : ∃ E, s.size - c + p.size = E := ⟨_, rfl⟩
    have e7 : IntKind.i64.wrap (((s.size - c : Nat) : Int) + (p.size : Int)) = (E : Int) := by rw [IntWalk.i64_in _ (by omega)]; omega
    have hEl : E ≤ 1073741824 := by omega
    have HE := Lib.hid hE
    clear hz hsz hac hp hT hTc hE g1 g2 e5
    go_upto_region 11 with fail
    have hB5 := HG4.out.box.set 2 (.int .i64 T)
    have hR5 : Chg (fun k => k = b) w4 (w4.setCell ⟨b, 2, none⟩ (.int .i64 T)) := Chg.set w4 ⟨b, 2, none⟩ _
    have hG5 : Gap (w4.setCell ⟨b, 2, none⟩ (.int .i64 T)) b g r' a T lim := ⟨hB5, (hR5.block g HG4.out.lt (fun e => HG4.out.ne e.symm)).trans HG4.out.row, HG4.out.ne, gT, g3, HG4.out.h64, HG4.out.hm⟩
    have HG5 := Lib.hid hG5
    have HC5 := Lib.hid (HC4.out.trans hR5 (fun x _ h => .inl h))
    clear hB5 hR5 hG5 HG4 HC4 HTT e6 q2 f2 hbl hz'
    generalize w4.setCell ⟨b, 2, none⟩ (.int .i64 T) = w5 at *
    obtain ⟨q0, -⟩ := HG5.out.box.lies.2 0 _ rfl
    obtain ⟨N, hN⟩ : ∃ N, r'.size = N := ⟨_, rfl⟩
    rw [hN] at q0 gm g3 hEz
    have h64 : 64 ≤ N := by rw [← hN]; exact HG5.out.h64
    have HN := Lib.hid hN
    clear hN
    have e8 : IntKind.i64.wrap (2 * max (E : Int) 64) = 2 * max (E : Int) 64 := IntWalk.i64_in _ (by omega)
    by_cases hcase : N < E ∨ 2 * max E 64 < N
    · have hcs : (N : Int) < (E : Int) ∨ (¬ (N : Int) < (E : Int) ∧ 2 * max (E : Int) 64 < (N : Int)) := by omega
      have KH := Halves_any b g r' a T lim w5 HG5.out
      have hXs : (r'.extract 0 a).size = a := by rw [ByteArray.size_extract, HN.out]; omega
      have hYs : (r'.extract T r'.size).size = N - T := by rw [ByteArray.size_extract, HN.out]; omega
      have hRT2 := HRT.out
      obtain ⟨X, hX⟩ : ∃ X, r'.extract 0 a = X := ⟨_, rfl⟩
      obtain ⟨Y, hY⟩ : ∃ Y, r'.extract T r'.size = Y := ⟨_, rfl⟩
      rw [hX, hY] at KH hRT2
      rw [hX] at hXs
      rw [hY] at hYs
      have HKH := Lib.hid KH
      have HR2 := Lib.hid hRT2
      have hsum : (X ++ p).size + Y.size = E := by rw [ByteArray.size_append]; have := hEz.out; have := HE.out; omega
      have hXp : ¬ 9223372036854775807 < X.size + p.size := by rw [ByteArray.size_append] at hsum; omega
      obtain ⟨K, hK⟩ : ∃ K, max (E + E / 2) 64 = K := ⟨_, rfl⟩
      have hK1 : E ≤ K := by omega
      have hK2 : 64 ≤ K := by omega
      have hK3 : K ≤ 4294967296 := by omega
      have hd : (E : Int).tdiv 2 = ((E / 2 : Nat) : Int) := rfl
      have hw1 : IntKind.i64.wrap ((E / 2 : Nat) : Int) = ((E / 2 : Nat) : Int) := IntWalk.i64_in _ (by omega)
      have hw2 : IntKind.i64.wrap ((E : Int) + ((E / 2 : Nat) : Int)) = (E : Int) + ((E / 2 : Nat) : Int) := IntWalk.i64_in _ (by omega)
      have hw3 : max ((E : Int) + (E : Int) / 2) 64 = (K : Int) := by omega
      have HW3 := Lib.hid hw3
      clear hw3
      have HSU := Lib.hid hsum
      have HBX := HG5.out.box
      have HBX' := Lib.hid HBX
      clear hcase KH hRT2 hX hY hXs hYs hsum hK HBX hEz HE HRT
      rcases hcs with hA | ⟨hA, hB⟩
      all_goals
        go_wp2_with fail
        refine HKH.out.mono ?_
        rintro e w6 ⟨rfl, hb⟩
        have HB6 := Lib.hid (HBX'.out.below hb)
        have HC6 := Lib.hid (HC5.out.then_below hb)
        clear hb
        go_wp2_with fail
        rw [HW3.out]
        refine (lay_any b _ _ _ lim (X ++ p) Y K w6 HB6.out (by have := HSU.out; omega) hK2 hK3).mono ?_
        rintro e w7 ⟨rfl, hG, hC⟩
        have hT7 : gtext (layR (X ++ p) Y K) (X ++ p).size (K - Y.size) = repT s a c p := by rw [layR_text (by have := HSU.out; omega), HR2.out]
        have HE := Lib.hid (show GapIn w7 b lim (repT s a c p) (fun k => k = g ∨ w.heap.size ≤ k) from ⟨_, _, _, _, hG, hT7, .inr HC6.out.size⟩)
        have HC7 := Lib.hid (HC6.out.trans hC (fun x _ h => .inl h))
        clear hG hC hT7 HKH hXp hd hw1 hw2
        go_wp2
        refine bodyPost_ret (v := .tuple #[.string (s.extract a (a + c)), .int .i64 0]) (by simp [results, Tryz.results143, go_sem]) rfl ⟨rfl, HE.out, HC7.out⟩
    · have c1 : ¬ (N : Int) < (E : Int) := by omega
      have c2 : ¬ 2 * max (E : Int) 64 < (N : Int) := by omega
      have haT : a + p.size ≤ T := by have := hEz.out; have := HE.out; omega
      obtain ⟨o, ho⟩ : ∃ o, offs N a = o := ⟨_, rfl⟩
      have pp : (if N = a then (some ⟨g, 0, none⟩ : Option Addr) else some ⟨g, a, none⟩) = some ⟨g, o, none⟩ := by rw [← ho]; unfold offs; split <;> rfl
      obtain ⟨l, hl⟩ : ∃ l, r'.data.toList = l := ⟨_, rfl⟩
      have hlN : N = l.length := by rw [← hl, ← HN.out, ← Lib.size_eq]
      have HCp := Lib.hid (fun (W : World) (h : RowIs W g l) => copyS_at h a N (N - a) (N - a) p hlN (by omega) (by omega))
      rw [ho] at HCp
      have HPP := Lib.hid pp
      obtain ⟨F, hF⟩ : ∃ F, a + p.size = F := ⟨_, rfl⟩
      have e9 : IntKind.i64.wrap ((a : Int) + (p.size : Int)) = (F : Int) := by rw [IntWalk.i64_in _ (by omega)]; omega
      have hbx : Blk w5 b 101 [.slice (some ⟨g, 0, none⟩) N N, .int .i64 a, .int .i64 T, .int .i64 lim] := by rw [← HN.out]; exact HG5.out.box
      have hrw : RowIs w5 g l := by rw [← hl]; exact HG5.out.row
      have HBX := Lib.hid hbx
      have HRW := Lib.hid hrw
      have hFin : Hid (∀ W : World, Blk W b 101 [.slice (some ⟨g, 0, none⟩) N N, .int .i64 a, .int .i64 T, .int .i64 lim] → RowIs W g (l.take a ++ p.data.toList ++ l.drop F) → Chg (fun k => k = b ∨ k = g) w W →
          GapIn (W.setCell ⟨b, 1, none⟩ (.int .i64 F)) b lim (repT s a c p) (fun k => k = g ∨ w.heap.size ≤ k) ∧ Chg (fun k => k = b ∨ k = g) w (W.setCell ⟨b, 1, none⟩ (.int .i64 F))) := by
        intro W k1 k2 k3
        have hch : Chg (fun k => k = b) W (W.setCell ⟨b, 1, none⟩ (.int .i64 F)) := Chg.set W ⟨b, 1, none⟩ _
        obtain ⟨r2, hr2⟩ : ∃ r2 : ByteArray, r2.data.toList = l.take a ++ p.data.toList ++ l.drop F := ⟨⟨(l.take a ++ p.data.toList ++ l.drop F).toArray⟩, by simp⟩
        have hpl : p.data.toList.length = p.size := by rw [← Lib.size_eq]
        have hr2s : r2.size = N := by
          have := congrArg List.length hr2
          rw [← Lib.size_eq] at this
          rw [this]; simp [hpl]; omega
        have hgl : g < W.heap.size := (Array.getElem?_eq_some_iff.1 k2).1
        refine ⟨⟨g, r2, F, T, ⟨by rw [hr2s]; exact k1.set 1 (.int .i64 F), ?_, HG5.out.ne, by omega, by omega, by omega, by omega⟩, ?_, .inl rfl⟩, k3.trans hch (fun x _ h => .inl h)⟩
        · rw [hr2]; exact (hch.block g hgl (fun e => HG5.out.ne e.symm)).trans k2
        · rw [HRT.out]
          apply ext_of_list
          rw [gtext_list _ _ _ (by omega), hr2, ByteArray.data_append, Array.toList_append, ByteArray.data_append, Array.toList_append, extract_list, extract_list, hl, HN.out]
          simp only [List.drop_zero, Nat.sub_zero]
          rw [List.take_left' (by simp [hpl]; omega)]
          congr 1
          rw [List.take_of_length_le (l := List.drop T l) (by simp; omega), List.append_assoc, List.drop_append, List.drop_eq_nil_of_le (by simp; omega), List.nil_append, List.drop_append, hpl, List.drop_eq_nil_of_le (by simp [hpl]; omega), List.nil_append, List.drop_drop]
          congr 1
          simp; omega
      have hne := HG5.out.ne
      have haN : a ≤ N := by omega
      rw [hF] at HCp
      obtain ⟨l', hl'⟩ : ∃ l', l.take a ++ p.data.toList ++ l.drop F = l' := ⟨_, rfl⟩
      rw [hl'] at HCp hFin
      clear hl' hcase haT ho pp hl hF hbx hrw HG5 HN HRT HE hEz h64 hgw gm g3 gT hlN
      go_wp2
      refine wp_held_mid mixed (VRp16 b g N a o F p) (VRp16_all b g N a o F p) (by kernel_rfl) [109, 110, 111, 112, 113, 114, 115, 116, 117, 118, 119, 120, 121, 122, 123, 124, 125, 126] (by kernel_rfl) (JRp w b g lim N a T l l') 14 18 (by kernel_rfl) (by decide) (by kernel_rfl) 9 (by kernel_rfl) (by kernel_rfl) ⟨HBX.out, HRW.out, HC5.out.then_below ⟨rfl, rfl, rfl, Nat.le_refl _, fun _ _ => rfl⟩⟩ ?_ ?_ ?_
      · intro j hj hjp m
        have hj' : j < 18 := hj
        rcases (by omega : j = 0 ∨ j = 1 ∨ j = 2 ∨ j = 3 ∨ j = 4 ∨ j = 5 ∨ j = 6 ∨ j = 7 ∨ j = 8 ∨ j = 9 ∨ j = 10 ∨ j = 11 ∨ j = 12 ∨ j = 13 ∨ j = 15 ∨ j = 16 ∨ j = 17) with rfl | rfl | rfl | rfl | rfl | rfl | rfl | rfl | rfl | rfl | rfl | rfl | rfl | rfl | rfl | rfl | rfl
        · -- operation 0
          (refine owesJ_val (L := [(0, false)]) rfl rfl rfl (by kernel_rfl) ?_; intro a' w' hJ hfacts; obtain ⟨hf0, -⟩ := hfacts; replace hf0 : a'.tmps[0]?.getD undef = .pointer (some ⟨b, 0, none⟩) := hf0)
          have pB := hJ.1.lies; have p0 := (pB.2 0 _ rfl).1; have p1 := (pB.2 1 _ rfl).1
          (go_simp; first | exact ⟨_, rfl, hJ, rfl⟩ | exact ⟨_, rfl, rfl⟩)
        · -- operation 1
          (refine owesJ_val (L := [(109, true)]) rfl rfl rfl (by kernel_rfl) ?_; intro a' w' hJ hfacts; obtain ⟨hf109, -⟩ := hfacts; try simp only [VRp16] at hf109)
          have pB := hJ.1.lies; have p0 := (pB.2 0 _ rfl).1; have p1 := (pB.2 1 _ rfl).1
          (go_simp; first | exact ⟨_, rfl, hJ, rfl⟩ | exact ⟨_, rfl, rfl⟩)
        · -- operation 2
          (refine owesJ_val (L := [(110, true)]) rfl rfl rfl (by kernel_rfl) ?_; intro a' w' hJ hfacts; obtain ⟨hf110, -⟩ := hfacts; try simp only [VRp16] at hf110)
          have pB := hJ.1.lies; have p0 := (pB.2 0 _ rfl).1; have p1 := (pB.2 1 _ rfl).1
          (go_simp; first | exact ⟨_, rfl, hJ, rfl⟩ | exact ⟨_, rfl, rfl⟩)
        · -- operation 3
          (refine owesJ_val (L := [(111, true)]) rfl rfl rfl (by kernel_rfl) ?_; intro a' w' hJ hfacts; obtain ⟨hf111, -⟩ := hfacts; try simp only [VRp16] at hf111)
          have pB := hJ.1.lies; have p0 := (pB.2 0 _ rfl).1; have p1 := (pB.2 1 _ rfl).1
          (go_simp; first | exact ⟨_, rfl, hJ, rfl⟩ | exact ⟨_, rfl, rfl⟩)
        · -- operation 4
          (refine owesJ_val (L := [(0, false)]) rfl rfl rfl (by kernel_rfl) ?_; intro a' w' hJ hfacts; obtain ⟨hf0, -⟩ := hfacts; replace hf0 : a'.tmps[0]?.getD undef = .pointer (some ⟨b, 0, none⟩) := hf0)
          have pB := hJ.1.lies; have p0 := (pB.2 0 _ rfl).1; have p1 := (pB.2 1 _ rfl).1
          (go_simp; first | exact ⟨_, rfl, hJ, rfl⟩ | exact ⟨_, rfl, rfl⟩)
        · -- operation 5
          (refine owesJ_val (L := [(113, true)]) rfl rfl rfl (by kernel_rfl) ?_; intro a' w' hJ hfacts; obtain ⟨hf113, -⟩ := hfacts; try simp only [VRp16] at hf113)
          have pB := hJ.1.lies; have p0 := (pB.2 0 _ rfl).1; have p1 := (pB.2 1 _ rfl).1
          (go_simp; first | exact ⟨_, rfl, hJ, rfl⟩ | exact ⟨_, rfl, rfl⟩)
        · -- operation 6
          (refine owesJ_val (L := [(114, true)]) rfl rfl rfl (by kernel_rfl) ?_; intro a' w' hJ hfacts; obtain ⟨hf114, -⟩ := hfacts; try simp only [VRp16] at hf114)
          have pB := hJ.1.lies; have p0 := (pB.2 0 _ rfl).1; have p1 := (pB.2 1 _ rfl).1
          (go_simp; first | exact ⟨_, rfl, hJ, rfl⟩ | exact ⟨_, rfl, rfl⟩)
        · -- operation 7
          (refine owesJ_val (L := [(115, true)]) rfl rfl rfl (by kernel_rfl) ?_; intro a' w' hJ hfacts; obtain ⟨hf115, -⟩ := hfacts; try simp only [VRp16] at hf115)
          have pB := hJ.1.lies; have p0 := (pB.2 0 _ rfl).1; have p1 := (pB.2 1 _ rfl).1
          (go_simp; first | exact ⟨_, rfl, hJ, rfl⟩ | exact ⟨_, rfl, rfl⟩)
        · -- operation 8
          (refine owesJ_val (L := [(0, false)]) rfl rfl rfl (by kernel_rfl) ?_; intro a' w' hJ hfacts; obtain ⟨hf0, -⟩ := hfacts; replace hf0 : a'.tmps[0]?.getD undef = .pointer (some ⟨b, 0, none⟩) := hf0)
          have pB := hJ.1.lies; have p0 := (pB.2 0 _ rfl).1; have p1 := (pB.2 1 _ rfl).1
          (go_simp; first | exact ⟨_, rfl, hJ, rfl⟩ | exact ⟨_, rfl, rfl⟩)
        · -- operation 9
          (refine owesJ_val (L := [(117, true)]) rfl rfl rfl (by kernel_rfl) ?_; intro a' w' hJ hfacts; obtain ⟨hf117, -⟩ := hfacts; try simp only [VRp16] at hf117)
          have pB := hJ.1.lies; have p0 := (pB.2 0 _ rfl).1; have p1 := (pB.2 1 _ rfl).1
          (go_simp; first | exact ⟨_, rfl, hJ, rfl⟩ | exact ⟨_, rfl, rfl⟩)
        · -- operation 10
          (refine owesJ_val (L := [(118, true)]) rfl rfl rfl (by kernel_rfl) ?_; intro a' w' hJ hfacts; obtain ⟨hf118, -⟩ := hfacts; try simp only [VRp16] at hf118)
          have pB := hJ.1.lies; have p0 := (pB.2 0 _ rfl).1; have p1 := (pB.2 1 _ rfl).1
          (go_simp; first | exact ⟨_, rfl, hJ, rfl⟩ | exact ⟨_, rfl, rfl⟩)
        · -- operation 11
          (refine owesJ_val (L := [(119, true)]) rfl rfl rfl (by kernel_rfl) ?_; intro a' w' hJ hfacts; obtain ⟨hf119, -⟩ := hfacts; try simp only [VRp16] at hf119)
          have pB := hJ.1.lies; have p0 := (pB.2 0 _ rfl).1; have p1 := (pB.2 1 _ rfl).1
          (go_simp; first | exact ⟨_, rfl, hJ, rfl⟩ | exact ⟨_, rfl, rfl⟩)
        · -- operation 12
          (refine owesJ_val (L := [(116, true), (120, true)]) rfl rfl rfl (by kernel_rfl) ?_; intro a' w' hJ hfacts; obtain ⟨hf116, hf120, -⟩ := hfacts; try simp only [VRp16] at hf116; try simp only [VRp16] at hf120)
          have pp := HPP.out
          (go_simp; first | exact ⟨_, rfl, hJ, rfl⟩ | exact ⟨_, rfl, rfl⟩)
        · -- operation 13
          (refine owesJ_val (L := [(3, false)]) rfl rfl rfl (by kernel_rfl) ?_; intro a' w' hJ hfacts; obtain ⟨hf3, -⟩ := hfacts; replace hf3 : a'.tmps[3]?.getD undef = .string p := hf3)
          have pB := hJ.1.lies; have p0 := (pB.2 0 _ rfl).1; have p1 := (pB.2 1 _ rfl).1
          (go_simp; first | exact ⟨_, rfl, hJ, rfl⟩ | exact ⟨_, rfl, rfl⟩)
        · -- operation 15
          (refine owesJ_val (L := [(112, true), (123, true)]) rfl rfl rfl (by kernel_rfl) ?_; intro a' w' hJ hfacts; obtain ⟨hf112, hf123, -⟩ := hfacts; try simp only [VRp16] at hf112; try simp only [VRp16] at hf123)
          have pB := hJ.1.lies; have p0 := (pB.2 0 _ rfl).1; have p1 := (pB.2 1 _ rfl).1
          (go_simp; first | exact ⟨_, rfl, hJ, rfl⟩ | exact ⟨_, rfl, rfl⟩)
        · -- operation 16
          (refine owesJ_val (L := [(109, true)]) rfl rfl rfl (by kernel_rfl) ?_; intro a' w' hJ hfacts; obtain ⟨hf109, -⟩ := hfacts; try simp only [VRp16] at hf109)
          have pB := hJ.1.lies; have p0 := (pB.2 0 _ rfl).1; have p1 := (pB.2 1 _ rfl).1
          (go_simp; first | exact ⟨_, rfl, hJ, rfl⟩ | exact ⟨_, rfl, rfl⟩)
        · -- operation 17
          (refine owesJ_val (L := [(125, true)]) rfl rfl rfl (by kernel_rfl) ?_; intro a' w' hJ hfacts; obtain ⟨hf125, -⟩ := hfacts; try simp only [VRp16] at hf125)
          have pB := hJ.1.lies; have p0 := (pB.2 0 _ rfl).1; have p1 := (pB.2 1 _ rfl).1
          (go_simp; first | exact ⟨_, rfl, hJ, rfl⟩ | exact ⟨_, rfl, rfl⟩)
      · clear e9
        refine owesJ_val (L := [(121, true), (122, true)]) rfl rfl rfl (by kernel_rfl) ?_
        intro a' w' hJ hfacts
        obtain ⟨hf121, hf122, -⟩ := hfacts
        try simp only [VRp16] at hf121
        try simp only [VRp16] at hf122
        obtain ⟨j1, j2, j3⟩ := hJ
        rw [if_pos rfl] at j2
        obtain ⟨W2, hcopy, hr2, hc2⟩ := HCp.out _ j2
        go_simp
        exact ⟨_, rfl, ⟨j1.chg hc2 hne, by rw [if_neg (by decide)]; exact hr2, j3.trans hc2 (fun x _ h => .inr h)⟩, rfl⟩
      · intro f W hf hJ
        have e126 : f 126 = .pointer (some ⟨b, 1, none⟩) := hf 126 (by decide)
        have e124 : f 124 = .int .i64 F := hf 124 (by decide)
        obtain ⟨j1, j2, j3⟩ := hJ
        rw [if_neg (by decide)] at j2
        have HE := Lib.hid (hFin.out W j1 j2 j3)
        obtain ⟨q1, f1⟩ := j1.lies.2 1 _ rfl
        have hbl := j1.lies.1
        clear hf j1 j2 j3 hFin HCp HPP HBX HRW HC5 q0
        simp only [putAll, put_lit, List.map_cons, List.map_nil, List.set_cons_succ, List.set_cons_zero]
        simp only [e126, e124]
        clear e126 e124
        refine wpOp_last rfl ?_
        go_wp2
        refine bodyPost_ret (v := .tuple #[.string (s.extract a (a + c)), .int .i64 0]) (by simp [results, Tryz.results143, go_sem]) rfl ⟨rfl, HE.out⟩
end Go.Proofs.YtgmpohdkignadaaGreatDoor.Ut
/-
  store: what changes a text: roped.Replace, move, edited, Replace. Condition: the two tables of unicode/utf8 lie as laid.
-/
namespace Go.Proofs.YtgmpohdkignadaaGreatDoor.Ut
open Go.RowKit Go.Proofs.YtgmpohdkignadaaGreatDoor.Reg
set_option linter.unusedVariables false
set_option linter.unusedSimpArgs false

set_option maxRecDepth 100000 in
set_option maxHeartbeats 2000000 in
theorem ropedReplace_any (b lim : Nat) (s : ByteArray) (a c : Nat) (p : ByteArray) (w : World) (hT : Tabs w) (h : IsRoped w b lim s) (hs : s.size ≤ lim) (hl : lim ≤ 1073741824) (hac : a + c ≤ s.size) (hp : s.size - c + p.size ≤ lim) :
    Calls Tryz.prog 150 #[ptr b, .int .i64 a, .int .i64 c, .string p] w fun e w' => e = .returned (.tuple #[.string (s.extract a (a + c)), .int .i64 0]) ∧ IsRoped w' b lim (repl s a c p) ∧ Chg (fun k => k = b) w w' := by
  obtain ⟨rb, h1, h2⟩ := h
  obtain ⟨t, hR, htx, hg⟩ := h2
  have HL := RopeLen_any rb t w hR
  rw [htx] at HL
  have HLL := Lib.hid HL
  have HRe := Lib.hid (RopeReplace_any rb s a c p w hT ⟨t, hR, htx, hg⟩ hac (by omega) (by omega))
  have c0 := (h1.lies.2 0 _ rfl).1
  have c1 := (h1.lies.2 1 _ rfl).1
  have hbl := h1.lies.1
  have HB1 := Lib.hid h1
  have e1 : IntKind.i64.wrap ((s.size : Int) - (a : Int)) = (s.size : Int) - (a : Int) := IntWalk.i64_in _ (by omega)
  have e2 : IntKind.i64.wrap ((s.size : Int) - (c : Int)) = ((s.size - c : Nat) : Int) := by rw [IntWalk.i64_in _ (by omega)]; omega
  have e3 : IntKind.i64.wrap ((lim : Int) - ((s.size - c : Nat) : Int)) = (lim : Int) - ((s.size - c : Nat) : Int) := IntWalk.i64_in _ (by omega)
  have n1 : (0 : Int) ≤ (a : Int) := by omega
  have n2 : (0 : Int) ≤ (c : Int) := by omega
  have n3 : (a : Int) ≤ (s.size : Int) := by omega
  have n4 : (c : Int) ≤ (s.size : Int) - (a : Int) := by omega
  have n5 : ¬ (lim : Int) - ((s.size - c : Nat) : Int) < (p.size : Int) := by omega
  clear h1 hR htx hg HL hT
  unfold ptr at *
  go_enter Tryz.func150, Tryz.ntmps150
  go_wp2_with fail
  refine HLL.out.mono ?_
  rintro e w1 ⟨rfl, rfl⟩
  clear HLL
  go_wp2_with fail
  refine HRe.out.mono ?_
  rintro e w2 ⟨nb, rfl, hR2, hnb, hb⟩
  have hB2 := HB1.out.below hb
  obtain ⟨q0, f0⟩ := hB2.lies.2 0 _ rfl
  have hbl2 := hB2.lies.1
  have hch : Chg (fun k => k = b) w2 (w2.setCell ⟨b, 0, none⟩ (ptr nb)) := Chg.set w2 ⟨b, 0, none⟩ _
  have hE : IsRoped (w2.setCell ⟨b, 0, none⟩ (ptr nb)) b lim (repl s a c p) ∧ Chg (fun k => k = b) w1 (w2.setCell ⟨b, 0, none⟩ (ptr nb)) := by
    refine ⟨⟨nb, hB2.set 0 (ptr nb), hR2.keeps (keeps_set hB2 (by decide) hch (fun _ h => h))⟩, ?_⟩
    exact (Chg.of_below hb).trans hch (fun _ _ h => h)
  have HE := Lib.hid hE
  clear hB2 hch hE HB1 HRe hb hR2 n1 n2 n3 n4 n5 e1 e2 e3 c0 c1 hbl
  unfold ptr at *
  go_wp2
  refine bodyPost_ret (v := .tuple #[.string (s.extract a (a + c)), .int .i64 0]) (by simp [results, Tryz.results150, go_sem]) rfl ⟨rfl, HE.out⟩
end Go.Proofs.YtgmpohdkignadaaGreatDoor.Ut
/-
  store: a store with blocks of its own; Kind, Backend, move. Condition: the two tables of unicode/utf8 lie as laid.
-/
namespace Go.Proofs.YtgmpohdkignadaaGreatDoor.Ut
open Go.RowKit Go.Proofs.YtgmpohdkignadaaGreatDoor.Reg
set_option linter.unusedVariables false
set_option linter.unusedSimpArgs false

theorem GapIn.below {W W' : World} {b lim : Nat} {s : ByteArray} {S : Nat → Prop} (h : GapIn W b lim s S) (hb : Below W.heap.size W W') : GapIn W' b lim s S := by
  obtain ⟨g, r, fr, tv, h1, h2, h3⟩ := h; exact ⟨g, r, fr, tv, h1.below hb, h2, h3⟩
theorem GapIn.mono {W : World} {b lim : Nat} {s : ByteArray} {S S' : Nat → Prop} (h : GapIn W b lim s S) (hS : ∀ k, k < W.heap.size → S k → S' k) : GapIn W b lim s S' := by
  obtain ⟨g, r, fr, tv, h1, h2, h3⟩ := h; exact ⟨g, r, fr, tv, h1, h2, hS g h1.lt h3⟩
/-- What keeps a store's text, with blocks of S. -/
def InnerIn (W : World) (T : TypeId) (p lim : Nat) (s : ByteArray) (S : Nat → Prop) : Prop := S p ∧ ((T = 57 ∧ GapIn W p lim s S) ∨ (T = 94 ∧ IsRoped W p lim s))
theorem InnerIn.below {W W' : World} {T : TypeId} {p lim : Nat} {s : ByteArray} {S : Nat → Prop} (h : InnerIn W T p lim s S) (hb : Below W.heap.size W W') : InnerIn W' T p lim s S := ⟨h.1, h.2.imp (fun h => ⟨h.1, h.2.below hb⟩) (fun h => ⟨h.1, h.2.below hb⟩)⟩
theorem InnerIn.lt {W : World} {T : TypeId} {p lim : Nat} {s : ByteArray} {S : Nat → Prop} (h : InnerIn W T p lim s S) : p < W.heap.size := by
  rcases h.2 with ⟨-, g, r, fr, tv, h1, -⟩ | ⟨-, rb, h1, -⟩
  · exact h1.box.lies.1
  · exact h1.lies.1
theorem InnerIn.mono {W : World} {T : TypeId} {p lim : Nat} {s : ByteArray} {S S' : Nat → Prop} (h : InnerIn W T p lim s S) (hS : ∀ k, k < W.heap.size → S k → S' k) : InnerIn W T p lim s S' :=
  ⟨hS p h.lt h.1, h.2.imp (fun h => ⟨h.1, h.2.mono hS⟩) (fun h => h)⟩
/-- What is told of a store besides its text. -/
structure Stt where
  kind : Int
  low : Int
  top : Int
  lim : Nat
  moves : Int
  forced : Int
  edited : Int
def Stt.vals (i : Stt) (T : TypeId) (p : Nat) : List Value := [.iface T (ptr p), .int .i64 i.kind, .int .i64 i.low, .int .i64 i.top, .int .i64 i.lim, .int .i64 i.moves, .int .i64 i.forced, .int .i64 i.edited]
/-- A store in block b with the text s, its own blocks in S. -/
def StoreIn (W : World) (b : Nat) (i : Stt) (T : TypeId) (s : ByteArray) (S : Nat → Prop) : Prop := S b ∧ ∃ p, Blk W b 91 (i.vals T p) ∧ InnerIn W T p i.lim s S
theorem StoreIn.below {W W' : World} {b : Nat} {i : Stt} {T : TypeId} {s : ByteArray} {S : Nat → Prop} (h : StoreIn W b i T s S) (hb : Below W.heap.size W W') : StoreIn W' b i T s S := by
  obtain ⟨h0, p, h1, h2⟩ := h; exact ⟨h0, p, h1.below hb, h2.below hb⟩
theorem StoreIn.lt {W : World} {b : Nat} {i : Stt} {T : TypeId} {s : ByteArray} {S : Nat → Prop} (h : StoreIn W b i T s S) : b < W.heap.size := by
  obtain ⟨h0, p, h1, h2⟩ := h; exact h1.lies.1
theorem StoreIn.mono {W : World} {b : Nat} {i : Stt} {T : TypeId} {s : ByteArray} {S S' : Nat → Prop} (h : StoreIn W b i T s S) (hS : ∀ k, k < W.heap.size → S k → S' k) : StoreIn W b i T s S' := by
  obtain ⟨h0, p, h1, h2⟩ := h; exact ⟨hS b h1.lies.1 h0, p, h1, h2.mono hS⟩
theorem GapIn.has {W : World} {b lim : Nat} {s : ByteArray} {S : Nat → Prop} (h : GapIn W b lim s S) (hT : Tabs W) (hs : s.size ≤ 1073741824) : HasG W (some ⟨b, 0, none⟩) s := by
  obtain ⟨g, r, fr, tv, h1, h2, h3⟩ := h; exact hasG_of hT hs ⟨g, r, fr, tv, h1, h2⟩
theorem StoreIn.has {W : World} {b : Nat} {i : Stt} {T : TypeId} {s : ByteArray} {S : Nat → Prop} (h : StoreIn W b i T s S) (hT : Tabs W) (hs : s.size ≤ 1073741824) : HasS W (some ⟨b, 0, none⟩) s := by
  obtain ⟨-, p, h1, -, ⟨rfl, h2⟩ | ⟨rfl, h2⟩⟩ := h
  · exact hasS_gap h1.lies (h2.has hT hs)
  · exact hasS_rope h1.lies (hasR_of hT h2 hs)
/-- A cell of the store's block is written: the inner text stays. -/
theorem StoreIn.set {W W' : World} {b : Nat} {T : TypeId} {p lim : Nat} {s : ByteArray} {S : Nat → Prop} {vs : List Value} (hb : Blk W b 91 vs) (h : InnerIn W T p lim s S) (hc : Chg (fun k => k = b) W W') : InnerIn W' T p lim s S := by
  have hne : ∀ {k : Nat} {T' : TypeId} {us : List Value}, Blk W k T' us → T' ≠ 91 → k ≠ b := fun hk hT e => by subst e; exact hT (hk.same hb)
  refine ⟨h.1, ?_⟩
  rcases h.2 with ⟨rfl, g, r, fr, tv, h1, h2, h3⟩ | ⟨rfl, h1⟩
  · refine .inl ⟨rfl, g, r, fr, tv, h1.chg hc (hne h1.box (by decide)) (fun e => ?_), h2, h3⟩
    subst e
    have := h1.row
    unfold Blk at hb
    rw [this] at hb
    simp at hb
  · have hk := keeps_set hb (by decide) hc (fun _ h => h)
    obtain ⟨rb, h2, h3⟩ := h1
    exact .inr ⟨rfl, rb, h2.chg hc (hne h2 (by decide)), h3.keeps hk⟩
def backT (T : TypeId) : Int := if T = 94 then 2 else 1
theorem StKind_in {W : World} {b : Nat} {i : Stt} {T : TypeId} {s : ByteArray} {S : Nat → Prop} (h : StoreIn W b i T s S) : Calls Tryz.prog 138 #[.pointer (some ⟨b, 0, none⟩)] W fun e w' => e = .returned (.int .i64 i.kind) ∧ w' = W := by
  obtain ⟨-, p, h1, h2⟩ := h
  have c0 := (h1.lies.2 0 _ rfl).1
  have c1 := (h1.lies.2 1 _ rfl).1
  clear h1 h2
  unfold ptr at *
  go_enter Tryz.func138, Tryz.ntmps138
  go_wp2
  go_ret
  exact ⟨rfl, rfl⟩
theorem ta_gapS (p : Option Addr) (w : World) : (Instr.typeAssert (.iface 57 (.pointer p)) 28 94 true).run Tryz.prog w = .ok (.tuple #[.pointer none, .bool false]) w := by
  kernel_rfl
theorem ta_ropeS (p : Option Addr) (w : World) : (Instr.typeAssert (.iface 94 (.pointer p)) 28 94 true).run Tryz.prog w = .ok (.tuple #[.pointer p, .bool true]) w := by
  kernel_rfl
set_option maxRecDepth 100000 in
theorem StBackend_in {W : World} {b : Nat} {i : Stt} {T : TypeId} {s : ByteArray} {S : Nat → Prop} (h : StoreIn W b i T s S) : Calls Tryz.prog 29 #[.pointer (some ⟨b, 0, none⟩)] W fun e w' => e = .returned (.int .i64 (backT T)) ∧ w' = W := by
  obtain ⟨-, p, h1, -, h2⟩ := h
  have HL := Lib.hid h1.lies
  have hT : T = 57 ∨ T = 94 := h2.imp (fun h => h.1) (fun h => h.1)
  clear h1 h2
  have t1 := ta_gapS (some ⟨p, 0, none⟩)
  have t2 := ta_ropeS (some ⟨p, 0, none⟩)
  unfold Stt.vals ptr at HL
  rcases hT with rfl | rfl
  all_goals
    go_enter Tryz.func29, Tryz.ntmps29
    go_wp2_with fail
    refine (under_any b _ _ _ W HL.out).mono ?_
    rintro e w1 ⟨rfl, rfl⟩
    go_wp2
    go_ret
    exact ⟨rfl, rfl⟩
/-- The type of what keeps a text behind a move. -/
def typeK (k : Int) : TypeId := if k = 2 then 94 else 57
theorem kept_in (k : Int) (n : Nat) (s : ByteArray) (w : World) (hT : Tabs w) (hn : n ≤ 1073741824) (hs : s.size ≤ n) :
    Calls Tryz.prog 46 #[.int .i64 k, .int .i64 n, .string s] w fun e w' => ∃ p, e = .returned (.iface (typeK k) (ptr p)) ∧ InnerIn w' (typeK k) p n s (fun j => w.heap.size ≤ j) ∧ Below w.heap.size w w' := by
  by_cases hk : k = 2
  · subst hk
    refine (kept_rope n s w hT (by omega)).mono ?_
    rintro e w' ⟨b, rfl, h1, h2, h3⟩
    exact ⟨b, rfl, ⟨h2, .inr ⟨rfl, h1⟩⟩, h3⟩
  · refine (kept_gap k n s w hT (by simpa using hk) hn hs).mono ?_
    rintro e w' ⟨b, rfl, ⟨g, r, fr, tv, h1, h2, h3, h4⟩, h5⟩
    have : typeK k = 57 := by unfold typeK; rw [if_neg hk]
    rw [this]
    exact ⟨b, rfl, ⟨h3, .inl ⟨rfl, g, r, fr, tv, h1, h2, h4⟩⟩, h5⟩
def VMo0 (b lim n0 : Nat) (k : Int) (s : ByteArray) : Nat → Value → World → Prop := fun d x w => match d with
  | 4 => x = .pointer (some ⟨b, 0, none⟩)
  | 5 => x = .int .i64 k
  | 6 => x = .pointer (some ⟨b, 0, none⟩)
  | 7 => x = .pointer (some ⟨b, 0, none⟩)
  | 8 => x = .pointer (some ⟨b, 4, none⟩)
  | 9 => x = .int .i64 lim
  | 10 => x = .pointer (some ⟨b, 0, none⟩)
  | 11 => x = .string s
  | 12 => ∃ p, x = .iface (typeK k) (ptr p) ∧ InnerIn w (typeK k) p lim s (fun j => n0 ≤ j)
  | 13 => x = .pointer (some ⟨b, 0, none⟩)
  | 14 => x = .pointer (some ⟨b, 0, none⟩)
  | _ => True
theorem VMo0_mono (b lim n0 : Nat) (k : Int) (s : ByteArray) : ∀ d x w w', VMo0 b lim n0 k s d x w → Below w.heap.size w w' → VMo0 b lim n0 k s d x w' := by
  intro d x w w' h hb
  unfold VMo0 at *
  split <;> first | exact h | exact trivial | skip
  obtain ⟨p, h1, h2⟩ := h
  exact ⟨p, h1, h2.below hb⟩
set_option maxRecDepth 100000 in
set_option maxHeartbeats 1000000 in
theorem StMove_in {W : World} {b : Nat} {i : Stt} {T : TypeId} {s : ByteArray} {S : Nat → Prop} (hT : Tabs W) (h : StoreIn W b i T s S) (hs : s.size ≤ i.lim) (hl : i.lim ≤ 1073741824) (k : Int) :
    Calls Tryz.prog 139 #[.pointer (some ⟨b, 0, none⟩), .int .i64 k] W fun e w' => e = .returned (.tuple #[]) ∧ StoreIn w' b i (typeK k) s (fun j => S j ∨ W.heap.size ≤ j) ∧ Chg (fun j => j = b) W w' := by
  have HH := Lib.hid (h.has hT (by omega))
  have HTb := Lib.hid hT
  obtain ⟨hSb, p0, h1, -⟩ := h
  have H1 := Lib.hid h1
  clear h1 hT
  go_enter Tryz.func139, Tryz.ntmps139
  go_wp2
  refine wp_held_tail mixed (VMo0 b i.lim W.heap.size k s) (VMo0_mono _ _ _ _ _) (by kernel_rfl) 8 11 (by decide) [4, 5, 6, 7, 8, 9, 10, 11, 12, 13, 14] (by kernel_rfl) (by kernel_rfl) (by kernel_rfl) (by kernel_rfl) ?_ ?_
  · intro j hj
    have hj' : j < 11 := hj
    rcases (by omega : j = 0 ∨ j = 1 ∨ j = 2 ∨ j = 3 ∨ j = 4 ∨ j = 5 ∨ j = 6 ∨ j = 7 ∨ j = 8 ∨ j = 9 ∨ j = 10) with rfl | rfl | rfl | rfl | rfl | rfl | rfl | rfl | rfl | rfl | rfl
    · -- operation 0
      (refine owes_val (L := [(0, false)]) rfl rfl rfl (by kernel_rfl) ?_; intro a' w' hb' hfacts; obtain ⟨hf0, -⟩ := hfacts; replace hf0 : a'.tmps[0]?.getD undef = .pointer (some ⟨b, 0, none⟩) := hf0)
      have p4 := ((H1.out.below hb').lies.2 4 _ rfl).1
      (go_simp; first | exact ⟨_, rfl, Below.refl _ _, rfl⟩ | exact ⟨_, rfl, Below.refl _ _, trivial⟩ | exact ⟨_, rfl, (Below.refl _ _).alloc (Nat.le_refl _) _, trivial⟩ | exact ⟨_, rfl, Below.refl _ _, congrArg (Value.int _) (IntWalk.i64_in _ (by omega))⟩)
    · -- operation 1
      (refine owes_val (L := [(1, false)]) rfl rfl rfl (by kernel_rfl) ?_; intro a' w' hb' hfacts; obtain ⟨hf1, -⟩ := hfacts; replace hf1 : a'.tmps[1]?.getD undef = .int .i64 k := hf1)
      have p4 := ((H1.out.below hb').lies.2 4 _ rfl).1
      (go_simp; first | exact ⟨_, rfl, Below.refl _ _, rfl⟩ | exact ⟨_, rfl, Below.refl _ _, trivial⟩ | exact ⟨_, rfl, (Below.refl _ _).alloc (Nat.le_refl _) _, trivial⟩ | exact ⟨_, rfl, Below.refl _ _, congrArg (Value.int _) (IntWalk.i64_in _ (by omega))⟩)
    · -- operation 2
      (refine owes_val (L := [(0, false)]) rfl rfl rfl (by kernel_rfl) ?_; intro a' w' hb' hfacts; obtain ⟨hf0, -⟩ := hfacts; replace hf0 : a'.tmps[0]?.getD undef = .pointer (some ⟨b, 0, none⟩) := hf0)
      have p4 := ((H1.out.below hb').lies.2 4 _ rfl).1
      (go_simp; first | exact ⟨_, rfl, Below.refl _ _, rfl⟩ | exact ⟨_, rfl, Below.refl _ _, trivial⟩ | exact ⟨_, rfl, (Below.refl _ _).alloc (Nat.le_refl _) _, trivial⟩ | exact ⟨_, rfl, Below.refl _ _, congrArg (Value.int _) (IntWalk.i64_in _ (by omega))⟩)
    · -- operation 3
      (refine owes_val (L := [(6, true)]) rfl rfl rfl (by kernel_rfl) ?_; intro a' w' hb' hfacts; obtain ⟨hf6, -⟩ := hfacts; try simp only [VMo0] at hf6)
      have p4 := ((H1.out.below hb').lies.2 4 _ rfl).1
      (go_simp; first | exact ⟨_, rfl, Below.refl _ _, rfl⟩ | exact ⟨_, rfl, Below.refl _ _, trivial⟩ | exact ⟨_, rfl, (Below.refl _ _).alloc (Nat.le_refl _) _, trivial⟩ | exact ⟨_, rfl, Below.refl _ _, congrArg (Value.int _) (IntWalk.i64_in _ (by omega))⟩)
    · -- operation 4
      (refine owes_val (L := [(7, true)]) rfl rfl rfl (by kernel_rfl) ?_; intro a' w' hb' hfacts; obtain ⟨hf7, -⟩ := hfacts; try simp only [VMo0] at hf7)
      have p4 := ((H1.out.below hb').lies.2 4 _ rfl).1
      (go_simp; first | exact ⟨_, rfl, Below.refl _ _, rfl⟩ | exact ⟨_, rfl, Below.refl _ _, trivial⟩ | exact ⟨_, rfl, (Below.refl _ _).alloc (Nat.le_refl _) _, trivial⟩ | exact ⟨_, rfl, Below.refl _ _, congrArg (Value.int _) (IntWalk.i64_in _ (by omega))⟩)
    · -- operation 5
      (refine owes_val (L := [(8, true)]) rfl rfl rfl (by kernel_rfl) ?_; intro a' w' hb' hfacts; obtain ⟨hf8, -⟩ := hfacts; try simp only [VMo0] at hf8)
      have p4 := ((H1.out.below hb').lies.2 4 _ rfl).1
      (go_simp; first | exact ⟨_, rfl, Below.refl _ _, rfl⟩ | exact ⟨_, rfl, Below.refl _ _, trivial⟩ | exact ⟨_, rfl, (Below.refl _ _).alloc (Nat.le_refl _) _, trivial⟩ | exact ⟨_, rfl, Below.refl _ _, congrArg (Value.int _) (IntWalk.i64_in _ (by omega))⟩)
    · -- operation 6
      (refine owes_val (L := [(0, false)]) rfl rfl rfl (by kernel_rfl) ?_; intro a' w' hb' hfacts; obtain ⟨hf0, -⟩ := hfacts; replace hf0 : a'.tmps[0]?.getD undef = .pointer (some ⟨b, 0, none⟩) := hf0)
      have p4 := ((H1.out.below hb').lies.2 4 _ rfl).1
      (go_simp; first | exact ⟨_, rfl, Below.refl _ _, rfl⟩ | exact ⟨_, rfl, Below.refl _ _, trivial⟩ | exact ⟨_, rfl, (Below.refl _ _).alloc (Nat.le_refl _) _, trivial⟩ | exact ⟨_, rfl, Below.refl _ _, congrArg (Value.int _) (IntWalk.i64_in _ (by omega))⟩)
    · -- operation 7
      (refine owes_val (L := [(10, true)]) rfl rfl rfl (by kernel_rfl) ?_; intro a' w' hb' hfacts; obtain ⟨hf10, -⟩ := hfacts; try simp only [VMo0] at hf10)
      go_simp
      refine (StText_any (HH.out.below hb')).mono ?_
      rintro e w3 ⟨rfl, hb3⟩
      exact ⟨_, rfl, hb3, rfl⟩
    · -- operation 8
      (refine owes_val (L := [(5, true), (9, true), (11, true)]) rfl rfl rfl (by kernel_rfl) ?_; intro a' w' hb' hfacts; obtain ⟨hf5, hf9, hf11, -⟩ := hfacts; try simp only [VMo0] at hf5; try simp only [VMo0] at hf9; try simp only [VMo0] at hf11)
      go_simp
      refine (kept_in k i.lim s _ (tabs_below HTb.out hb') hl hs).mono ?_
      rintro e w3 ⟨p, rfl, hI, hb3⟩
      exact ⟨_, rfl, hb3, p, rfl, hI.mono (fun j _ hj => Nat.le_trans hb'.size hj)⟩
    · -- operation 9
      (refine owes_val (L := [(4, true)]) rfl rfl rfl (by kernel_rfl) ?_; intro a' w' hb' hfacts; obtain ⟨hf4, -⟩ := hfacts; try simp only [VMo0] at hf4)
      have p4 := ((H1.out.below hb').lies.2 4 _ rfl).1
      (go_simp; first | exact ⟨_, rfl, Below.refl _ _, rfl⟩ | exact ⟨_, rfl, Below.refl _ _, trivial⟩ | exact ⟨_, rfl, (Below.refl _ _).alloc (Nat.le_refl _) _, trivial⟩ | exact ⟨_, rfl, Below.refl _ _, congrArg (Value.int _) (IntWalk.i64_in _ (by omega))⟩)
    · -- operation 10
      (refine owes_val (L := [(13, true)]) rfl rfl rfl (by kernel_rfl) ?_; intro a' w' hb' hfacts; obtain ⟨hf13, -⟩ := hfacts; try simp only [VMo0] at hf13)
      have p4 := ((H1.out.below hb').lies.2 4 _ rfl).1
      (go_simp; first | exact ⟨_, rfl, Below.refl _ _, rfl⟩ | exact ⟨_, rfl, Below.refl _ _, trivial⟩ | exact ⟨_, rfl, (Below.refl _ _).alloc (Nat.le_refl _) _, trivial⟩ | exact ⟨_, rfl, Below.refl _ _, congrArg (Value.int _) (IntWalk.i64_in _ (by omega))⟩)
  · intro f W2 hf hb
    have e14 : f 14 = .pointer (some ⟨b, 0, none⟩) := hf 14 (by decide)
    obtain ⟨p, e12, hI⟩ := hf 12 (by decide)
    have hB := H1.out.below hb
    obtain ⟨q0, f0⟩ := hB.lies.2 0 _ rfl
    have hbl := hB.lies.1
    have hc : Chg (fun j => j = b) W2 (W2.setCell ⟨b, 0, none⟩ (.iface (typeK k) (ptr p))) := Chg.set W2 ⟨b, 0, none⟩ _
    have hE : StoreIn (W2.setCell ⟨b, 0, none⟩ (.iface (typeK k) (ptr p))) b i (typeK k) s (fun j => S j ∨ W.heap.size ≤ j) ∧ Chg (fun j => j = b) W (W2.setCell ⟨b, 0, none⟩ (.iface (typeK k) (ptr p))) :=
      ⟨⟨.inl hSb, p, hB.set 0 (.iface (typeK k) (ptr p)), (StoreIn.set hB hI hc).mono (fun j _ hj => .inr hj)⟩, (Chg.of_below hb).trans hc (fun _ _ h => h)⟩
    have HE := Lib.hid hE
    clear hf hb hB hc hE hI HH HTb H1
    simp only [putAll, put_lit, List.map_cons, List.map_nil, List.set_cons_succ, List.set_cons_zero]
    simp only [e14, e12]
    clear e14 e12
    dsimp only [List.drop]
    unfold ptr at *
    go_wp2
    go_end0
    exact ⟨rfl, HE.out⟩
end Go.Proofs.YtgmpohdkignadaaGreatDoor.Ut
/-
  store: edited, Replace. Condition: the two tables of unicode/utf8 lie as laid.
-/
namespace Go.Proofs.YtgmpohdkignadaaGreatDoor.Ut
open Go.RowKit Go.Proofs.YtgmpohdkignadaaGreatDoor.Reg
set_option linter.unusedVariables false
set_option linter.unusedSimpArgs false

def edT (i : Stt) (T : TypeId) (n : Nat) : TypeId := if i.kind = 3 ∧ T ≠ 94 ∧ i.top ≤ n then 94 else if i.kind = 3 ∧ T = 94 ∧ (n : Int) ≤ i.low then 57 else T
def edI (i : Stt) (T : TypeId) (n : Nat) (z : Int) : Stt := { i with edited := IntKind.i64.wrap (i.edited + z), moves := if edT i T n = T then i.moves else IntKind.i64.wrap (i.moves + 1) }
theorem StoreIn.inner {W : World} {b : Nat} {i : Stt} {T : TypeId} {s : ByteArray} {S : Nat → Prop} (h : StoreIn W b i T s S) : T = 57 ∨ T = 94 := by
  obtain ⟨-, p, -, -, h⟩ := h; exact h.imp (fun h => h.1) (fun h => h.1)
/-- A number of the store is written. -/
theorem StoreIn.put {W : World} {b : Nat} {i i' : Stt} {T : TypeId} {s : ByteArray} {S : Nat → Prop} (h : StoreIn W b i T s S) (k : Nat) (v : Value) (hi : ∀ p, (i.vals T p).set k v = i'.vals T p) (hl : i'.lim = i.lim) :
    StoreIn (W.setCell ⟨b, k, none⟩ v) b i' T s S ∧ Chg (fun j => j = b) W (W.setCell ⟨b, k, none⟩ v) := by
  obtain ⟨h0, p, h1, h2⟩ := h
  have hc : Chg (fun j => j = b) W (W.setCell ⟨b, k, none⟩ v) := Chg.set W ⟨b, k, none⟩ _
  refine ⟨⟨h0, p, ?_, ?_⟩, hc⟩
  · rw [← hi p]; exact h1.set k v
  · rw [hl]; exact StoreIn.set h1 h2 hc
/-- No table of unicode/utf8 lies in a block of S. -/
def NoTab (S : Nat → Prop) : Prop := ¬ S 0 ∧ ¬ S 1
theorem tabs_lt {w : World} (h : Tabs w) : 0 < w.heap.size ∧ 1 < w.heap.size :=
  ⟨World.block_lt_of_cell? w _ (h.1 0 (by decide)), World.block_lt_of_cell? w _ (h.2 0 (by decide)).1⟩
theorem tabs_chg {S : Nat → Prop} {w w' : World} (h : Tabs w) (hS : NoTab S) (hc : Chg S w w') : Tabs w' := by
  obtain ⟨l1, l2⟩ := tabs_lt h
  refine ⟨fun c hc' => ?_, fun i hi => ⟨?_, ?_⟩⟩
  · exact (World.cell?_of_block (w := w) (a := ⟨0, c, none⟩) (hc.block _ l1 hS.1)).trans (h.1 c hc')
  · exact (World.cell?_of_block (w := w) (a := ⟨1, 2 * i, none⟩) (hc.block _ l2 hS.2)).trans (h.2 i hi).1
  · exact (World.cell?_of_block (w := w) (a := ⟨1, 2 * i + 1, none⟩) (hc.block _ l2 hS.2)).trans (h.2 i hi).2
theorem NoTab.one {S : Nat → Prop} (h : NoTab S) {b : Nat} (hb : S b) : NoTab (fun k => k = b) := ⟨fun e => h.1 (by rw [e]; exact hb), fun e => h.2 (by rw [e]; exact hb)⟩
theorem NoTab.new {S : Nat → Prop} (h : NoTab S) {w : World} (hT : Tabs w) : NoTab (fun k => S k ∨ w.heap.size ≤ k) := by
  obtain ⟨l1, l2⟩ := tabs_lt hT
  exact ⟨fun e => e.elim h.1 (by omega), fun e => e.elim h.2 (by omega)⟩
theorem edT_other {i : Stt} {T : TypeId} {n : Nat} (h : i.kind ≠ 3) : edT i T n = T := by unfold edT; rw [if_neg (fun x => h x.1), if_neg (fun x => h x.1)]
set_option maxRecDepth 100000 in
set_option maxHeartbeats 2000000 in
theorem edited_in {W : World} {b : Nat} {i : Stt} {T : TypeId} {s : ByteArray} {S : Nat → Prop} (hT : Tabs W) (hN : NoTab S) (h : StoreIn W b i T s S) (hs : s.size ≤ i.lim) (hl : i.lim ≤ 1073741824) (z : Int) :
    Calls Tryz.prog 137 #[.pointer (some ⟨b, 0, none⟩), .int .i64 z] W fun e w' => e = .returned (.tuple #[]) ∧ StoreIn w' b (edI i T s.size z) (edT i T s.size) s (fun j => S j ∨ W.heap.size ≤ j) ∧ Chg (fun j => j = b) W w' := by
  have HI := Lib.hid h
  have hTT := h.inner
  have hNb := hN.one h.1
  obtain ⟨-, p0, h1, -⟩ := h
  obtain ⟨q7, f7⟩ := h1.lies.2 7 _ rfl
  have hbl := h1.lies.1
  obtain ⟨E, hE⟩ : ∃ E, IntKind.i64.wrap (i.edited + z) = E := ⟨_, rfl⟩
  have HEE := Lib.hid hE
  obtain ⟨T', hT'⟩ : ∃ T', edT i T s.size = T' := ⟨_, rfl⟩
  obtain ⟨i', hi'⟩ : ∃ i', edI i T s.size z = i' := ⟨_, rfl⟩
  rw [hT', hi']
  have HT' := Lib.hid hT'
  have Hi' := Lib.hid hi'
  clear h1 hT' hi'
  go_enter Tryz.func137, Tryz.ntmps137
  go_upto_region 2 with fail
  obtain ⟨k1, k2⟩ := HI.out.put 7 (.int .i64 E) (i' := { i with edited := E }) (fun _ => rfl) rfl
  have HK := Lib.hid k1
  have HC := Lib.hid k2
  have HT1 := Lib.hid (tabs_chg hT hNb k2)
  generalize W.setCell ⟨b, 7, none⟩ (.int .i64 E) = w1 at *
  clear k1 k2 HI q7 f7 hbl hT hE
  go_wp2_with fail
  refine (StKind_in HK.out).mono ?_
  rintro e w2 ⟨rfl, rfl⟩
  by_cases hk : i.kind = 3
  · have HHas := Lib.hid (HK.out.has HT1.out (by show s.size ≤ 1073741824; omega))
    go_wp2_with fail
    refine (HHas.out.len w2 (Below.refl _ _)).mono ?_
    rintro e w3 ⟨rfl, hb⟩
    have HK3 := Lib.hid (HK.out.below hb)
    have HC3 := Lib.hid (HC.out.then_below hb)
    have HT3 := Lib.hid (tabs_below HT1.out hb)
    clear HHas HK HC HT1 hb
    go_wp2_with fail
    refine (StBackend_in HK3.out).mono ?_
    rintro e w4 ⟨rfl, rfl⟩
    obtain ⟨q2, q3⟩ : w4.cell? ⟨b, 2, none⟩ = some (.int .i64 i.low) ∧ w4.cell? ⟨b, 3, none⟩ = some (.int .i64 i.top) := by
      obtain ⟨-, p, h1, -⟩ := HK3.out
      exact ⟨(h1.lies.2 2 _ rfl).1, (h1.lies.2 3 _ rfl).1⟩
    have hsz := HC3.out.size
    have hMv := Lib.hid (fun k => StMove_in HT3.out HK3.out hs hl k)
    rcases hTT with rfl | rfl
    · have hb1 : backT 57 = 1 := rfl
      rw [hb1]
      by_cases hc : i.top ≤ s.size
      · have hed : edT i 57 s.size = 94 := by unfold edT; rw [if_pos ⟨hk, by decide, hc⟩]
        go_wp2_with fail
        refine (hMv.out 2).mono ?_
        rintro e w5 ⟨rfl, hS5, hC5⟩
        have hk2 : typeK 2 = 94 := rfl
        rw [hk2] at hS5
        obtain ⟨m0, fm⟩ : w5.cell? ⟨b, 5, none⟩ = some (.int .i64 i.moves) ∧ w5.frozen? ⟨b, 5, none⟩ = false := by
          obtain ⟨-, p, h1, -⟩ := hS5
          exact h1.lies.2 5 _ rfl
        have hbl5 := hS5.lt
        obtain ⟨M, hM⟩ : ∃ M, IntKind.i64.wrap (i.moves + 1) = M := ⟨_, rfl⟩
        obtain ⟨k1, k2⟩ := hS5.put 5 (.int .i64 M) (i' := { i with edited := E, moves := M }) (fun _ => rfl) rfl
        have HE : Hid (StoreIn (w5.setCell ⟨b, 5, none⟩ (.int .i64 M)) b i' T' s (fun j => S j ∨ W.heap.size ≤ j) ∧ Chg (fun j => j = b) W (w5.setCell ⟨b, 5, none⟩ (.int .i64 M))) := by
          refine ⟨?_, (HC3.out.trans hC5 (fun _ _ h => h)).trans k2 (fun _ _ h => h)⟩
          rw [← Hi'.out, ← HT'.out]
          unfold edI
          rw [hed, if_neg (by decide), HEE.out, hM]
          exact k1.mono (fun j _ hj => hj.imp (fun h => h) (fun h => by omega))
        clear hS5 hC5 k1 k2 hMv HK3 HC3 HT3 q2 q3 hc hb1 hed HEE HT' Hi' hk hk2
        go_wp2
        go_end0
        exact ⟨rfl, HE.out⟩
      · have hc' : ¬ i.top ≤ (s.size : Int) := hc
        have hed : edT i 57 s.size = 57 := by unfold edT; rw [if_neg (fun x => hc x.2.2), if_neg (fun x => absurd x.2.1 (by decide))]
        have HE : Hid (StoreIn w4 b i' T' s (fun j => S j ∨ W.heap.size ≤ j)) := by
          rw [← Hi'.out, ← HT'.out]
          unfold edI
          rw [hed, if_pos rfl, HEE.out]; exact HK3.out.mono (fun j _ hj => .inl hj)
        clear hMv hed HEE HT' Hi' q2
        go_wp2_with fail
        refine (StBackend_in HK3.out).mono ?_
        rintro e w5 ⟨rfl, rfl⟩
        rw [hb1]
        go_wp2
        go_end0
        exact ⟨rfl, HE.out, HC3.out⟩
    · have hb1 : backT 94 = 2 := rfl
      rw [hb1]
      go_wp2_with fail
      refine (StBackend_in HK3.out).mono ?_
      rintro e w5 ⟨rfl, rfl⟩
      rw [hb1]
      by_cases hc : (s.size : Int) ≤ i.low
      · have hed : edT i 94 s.size = 57 := by unfold edT; rw [if_neg (fun x => absurd rfl x.2.1), if_pos ⟨hk, rfl, hc⟩]
        go_wp2_with fail
        refine (hMv.out 1).mono ?_
        rintro e w6 ⟨rfl, hS5, hC5⟩
        have hk2 : typeK 1 = 57 := rfl
        rw [hk2] at hS5
        obtain ⟨m0, fm⟩ : w6.cell? ⟨b, 5, none⟩ = some (.int .i64 i.moves) ∧ w6.frozen? ⟨b, 5, none⟩ = false := by
          obtain ⟨-, p, h1, -⟩ := hS5
          exact h1.lies.2 5 _ rfl
        have hbl5 := hS5.lt
        obtain ⟨M, hM⟩ : ∃ M, IntKind.i64.wrap (i.moves + 1) = M := ⟨_, rfl⟩
        obtain ⟨k1, k2⟩ := hS5.put 5 (.int .i64 M) (i' := { i with edited := E, moves := M }) (fun _ => rfl) rfl
        have HE : Hid (StoreIn (w6.setCell ⟨b, 5, none⟩ (.int .i64 M)) b i' T' s (fun j => S j ∨ W.heap.size ≤ j) ∧ Chg (fun j => j = b) W (w6.setCell ⟨b, 5, none⟩ (.int .i64 M))) := by
          refine ⟨?_, (HC3.out.trans hC5 (fun _ _ h => h)).trans k2 (fun _ _ h => h)⟩
          rw [← Hi'.out, ← HT'.out]
          unfold edI
          rw [hed, if_neg (by decide), HEE.out, hM]
          exact k1.mono (fun j _ hj => hj.imp (fun h => h) (fun h => by omega))
        clear hS5 hC5 k1 k2 hMv HK3 HC3 HT3 q2 q3 hc hb1 hed HEE HT' Hi' hk hk2
        go_wp2
        go_end0
        exact ⟨rfl, HE.out⟩
      · have hed : edT i 94 s.size = 94 := by unfold edT; rw [if_neg (fun x => absurd rfl x.2.1), if_neg (fun x => hc x.2.2)]
        have HE : Hid (StoreIn w5 b i' T' s (fun j => S j ∨ W.heap.size ≤ j)) := by
          rw [← Hi'.out, ← HT'.out]
          unfold edI
          rw [hed, if_pos rfl, HEE.out]; exact HK3.out.mono (fun j _ hj => .inl hj)
        clear hMv hed HEE HT' Hi' q3
        go_wp2
        go_end0
        exact ⟨rfl, HE.out, HC3.out⟩
  · have HE : Hid (StoreIn w2 b i' T' s (fun j => S j ∨ W.heap.size ≤ j)) := by
      have he := edT_other (T := T) (n := s.size) hk
      rw [← Hi'.out, ← HT'.out]
      unfold edI
      rw [he, if_pos rfl, HEE.out]; exact HK.out.mono (fun j _ hj => .inl hj)
    have hk1 : (i.kind == 3) = false := by simpa using hk
    clear HK HT1 HT' Hi'
    go_wp2
    refine bodyPost_ret (v := .tuple #[]) (by simp [results, Tryz.results137, go_sem]) rfl ⟨rfl, HE.out, HC.out⟩
theorem repl_sizeR {s : ByteArray} {a c : Nat} {p : ByteArray} (h : a + c ≤ s.size) : (repl s a c p).size = s.size - c + p.size := repT_size h
/-- The inner text is another, in blocks of S. -/
theorem InnerIn.replace {W : World} {T : TypeId} {p lim : Nat} {s : ByteArray} {S : Nat → Prop} (h : InnerIn W T p lim s S) (hT : Tabs W) (hs : s.size ≤ lim) (hl : lim ≤ 1073741824) (a c : Nat) (u : ByteArray) (hac : a + c ≤ s.size) (hp : s.size - c + u.size ≤ lim) :
    ∃ f : Nat, ((T = 57 ∧ f = 143) ∨ (T = 94 ∧ f = 150)) ∧
      Calls Tryz.prog f #[ptr p, .int .i64 a, .int .i64 c, .string u] W fun e w' => e = .returned (.tuple #[.string (s.extract a (a + c)), .int .i64 0]) ∧ InnerIn w' T p lim (repl s a c u) (fun j => S j ∨ W.heap.size ≤ j) ∧ (∃ R : Nat → Prop, Chg R W w' ∧ (∀ k, R k → S k) ∧ ∀ k vs, R k → ¬ Blk W k 91 vs) := by
  rcases h with ⟨h0, ⟨rfl, g, r, fr, tv, h1, h2, h3⟩ | ⟨rfl, h1⟩⟩
  · refine ⟨_, .inl ⟨rfl, rfl⟩, (GapReplace_any p g r fr tv lim a c u s W h1 h2 hs hl hac hp).mono ?_⟩
    rintro e w' ⟨rfl, ⟨g', r', fr', tv', k1, k2, k3⟩, hc⟩
    refine ⟨rfl, ⟨.inl h0, .inl ⟨rfl, g', r', fr', tv', k1, k2, k3.imp (fun e => by rw [e]; exact h3) (fun h => h)⟩⟩, _, hc, fun k hk => hk.elim (fun e => by rw [e]; exact h0) (fun e => by rw [e]; exact h3), fun k vs hk hb => ?_⟩
    rcases hk with rfl | rfl
    · exact absurd (h1.box.same hb) (by decide)
    · have := h1.row
      unfold Blk at hb
      rw [this] at hb
      simp at hb
  · refine ⟨_, .inr ⟨rfl, rfl⟩, (ropedReplace_any p lim s a c u W hT h1 hs hl hac hp).mono ?_⟩
    rintro e w' ⟨rfl, hr, hc⟩
    refine ⟨rfl, ⟨.inl h0, .inr ⟨rfl, hr⟩⟩, _, hc, fun k hk => by rw [hk]; exact h0, fun k vs hk hb => ?_⟩
    subst hk
    obtain ⟨rb, h2, -⟩ := h1
    exact absurd (h2.same hb) (by decide)
set_option maxRecDepth 100000 in
set_option maxHeartbeats 2000000 in
theorem StReplace_in {W : World} {b : Nat} {i : Stt} {T : TypeId} {s : ByteArray} {S : Nat → Prop} (hT : Tabs W) (hN : NoTab S) (h : StoreIn W b i T s S) (hs : s.size ≤ i.lim) (hl : i.lim ≤ 1073741824) (a c : Nat) (p : ByteArray) (hac : a + c ≤ s.size) (hp : s.size - c + p.size ≤ i.lim) :
    Calls Tryz.prog 136 #[.pointer (some ⟨b, 0, none⟩), .int .i64 a, .int .i64 c, .string p] W fun e w' => e = .returned (.tuple #[.string (s.extract a (a + c)), .int .i64 0]) ∧
      StoreIn w' b (edI i T (repl s a c p).size ((c : Int) + p.size)) (edT i T (repl s a c p).size) (repl s a c p) (fun j => S j ∨ W.heap.size ≤ j) ∧ Chg S W w' := by
  have hSb := h.1
  have hrs := repl_sizeR (p := p) hac
  have e5 : IntKind.i64.wrap ((c : Int) + (p.size : Int)) = (c : Int) + (p.size : Int) := IntWalk.i64_in _ (by omega)
  obtain ⟨q, h1, h2⟩ := h.2
  have HL := Lib.hid h1.lies
  obtain ⟨f, hf, hR⟩ := h2.replace hT hs hl a c p hac hp
  have HR := Lib.hid hR
  have HB1 := Lib.hid h1
  have hED : Hid (∀ w1 : World, Tabs w1 → NoTab (fun j => S j ∨ W.heap.size ≤ j) → StoreIn w1 b i T (repl s a c p) (fun j => S j ∨ W.heap.size ≤ j) → _) := fun w1 hT hN h => edited_in hT hN h (by rw [hrs]; exact hp) hl ((c : Int) + p.size)
  have HT := Lib.hid hT
  have HN := Lib.hid hN
  obtain ⟨O, hO⟩ : ∃ O, s.extract a (a + c) = O := ⟨_, rfl⟩
  rw [hO] at HR ⊢
  obtain ⟨Y, hY⟩ : ∃ Y, repl s a c p = Y := ⟨_, rfl⟩
  rw [hY] at HR hED ⊢
  clear h h1 h2 hR hrs hT hN hO hY hp hac
  unfold Stt.vals ptr at HL
  unfold ptr at HR
  rcases hf with ⟨rfl, rfl⟩ | ⟨rfl, rfl⟩
  all_goals
    go_enter Tryz.func136, Tryz.ntmps136
    go_wp2_with fail
    refine (under_any b _ _ _ W HL.out).mono ?_
    rintro e w1 ⟨rfl, rfl⟩
    go_wp2_with fail
    refine HR.out.mono ?_
    rintro e w2 ⟨rfl, hI, R, hC, hRS, hRb⟩
    have hB2 := HB1.out.chg hC (fun hr => hRb _ _ hr HB1.out)
    have hS2 : StoreIn w2 b i _ Y (fun j => S j ∨ w1.heap.size ≤ j) := ⟨.inl hSb, q, hB2, hI⟩
    have hCS := hC.mono hRS
    have HE2 := Lib.hid (hED.out w2 (tabs_chg HT.out HN.out hCS) (HN.out.new HT.out) hS2)
    have HC2 := Lib.hid hCS
    have hsz := hCS.size
    clear hI hC hRS hRb hB2 hS2 hCS hED HR HB1 HL
    go_wp2_with fail
    refine HE2.out.mono ?_
    rintro e w3 ⟨rfl, hS3, hC3⟩
    have HS3 := Lib.hid (hS3.mono (S' := fun j => S j ∨ w1.heap.size ≤ j) (fun j _ hj => hj.elim (fun h => h) (fun h => .inr (by omega))))
    have HC3 := Lib.hid (HC2.out.trans hC3 (fun x _ hx => by rw [hx]; exact hSb))
    clear hS3 hC3 HE2 HC2 e5
    go_wp2
    refine bodyPost_ret (v := .tuple #[.string O, .int .i64 0]) (by simp [results, Tryz.results136, go_sem]) rfl ⟨rfl, HS3.out, HC3.out⟩
end Go.Proofs.YtgmpohdkignadaaGreatDoor.Ut
/-
  bodkinlaw11.keep: what keeps a text, and its own blocks; Replace of it. Condition: the two tables of unicode/utf8 lie as laid.
-/
namespace Go.Proofs.YtgmpohdkignadaaGreatDoor.Ut
open Go.RowKit Go.Proofs.YtgmpohdkignadaaGreatDoor.Reg
set_option linter.unusedVariables false
set_option linter.unusedSimpArgs false

def newI (k lo hi : Int) (n : Nat) : Stt := ⟨if k = 1 then 1 else if k = 2 then 2 else 3, min (max lo 0) 1073741824, max hi (min (max lo 0) 1073741824 + 1), n, 0, 0, 0⟩
open Classical in
noncomputable def newT (k lo hi : Int) (s : ByteArray) : TypeId := if ropeKind k (max hi (min (max lo 0) 1073741824 + 1)) s then 94 else 57
theorem StNew_in (k lo hi : Int) (n : Nat) (s : ByteArray) (w : World) (hT : Tabs w) (hn : n ≤ 1073741824) (hs : s.size ≤ n) :
    Calls Tryz.prog 28 #[.int .i64 k, .int .i64 lo, .int .i64 hi, .int .i64 n, .string s] w fun e w' => ∃ b, e = .returned (.tuple #[ptr b, .int .i64 0]) ∧ StoreIn w' b (newI k lo hi n) (newT k lo hi s) s (fun j => w.heap.size ≤ j) ∧ Below w.heap.size w w' := by
  by_cases hk : gapKind k (max hi (min (max lo 0) 1073741824 + 1)) s
  · have hr : ¬ ropeKind k (max hi (min (max lo 0) 1073741824 + 1)) s := by unfold ropeKind; unfold gapKind at hk; omega
    have hk2 : (if k = 1 then (1 : Int) else if k = 2 then 2 else 3) = if k = 1 then 1 else 3 := by unfold gapKind at hk; split; rfl; rw [if_neg (by omega)]
    refine (StNew_gap k lo hi n s w hT hn hs hk).mono ?_
    rintro e w' ⟨b, rfl, gb, h1, ⟨g, r, fr, tv, h2, h3, h6, h7⟩, h4, h5⟩
    refine ⟨b, rfl, ⟨h4, gb, ?_, ?_⟩, h5⟩
    · unfold Stt.vals newI newT
      simp only
      rw [if_neg hr, hk2]; exact h1
    · unfold newT
      rw [if_neg hr]
      exact ⟨h6, .inl ⟨rfl, g, r, fr, tv, h2, h3, h7⟩⟩
  · have hk' : ropeKind k (max hi (min (max lo 0) 1073741824 + 1)) s := by
      unfold gapKind at hk
      unfold ropeKind
      omega
    have hk2 : (if k = 1 then (1 : Int) else if k = 2 then 2 else 3) = if k = 2 then 2 else 3 := by unfold ropeKind at hk'; rw [if_neg (by omega)]
    refine (StNew_rope k lo hi n s w hT hn hs hk').mono ?_
    rintro e w' ⟨b, rfl, gb, h1, h2, h3, h4, h5⟩
    refine ⟨b, rfl, ⟨h4, gb, ?_, ?_⟩, h5⟩
    · unfold Stt.vals newI newT
      simp only
      rw [if_pos hk', hk2]; exact h1
    · unfold newT
      rw [if_pos hk']
      exact ⟨h3, .inr ⟨rfl, h2⟩⟩
/-- A value that keeps the text s, as the law makes it, its own blocks in S. -/
def KeptIn (W : World) (v : Value) (s : ByteArray) (S : Nat → Prop) : Prop := (∃ b, v = .iface 57 (ptr b) ∧ S b ∧ GapIn W b 1073741824 s S) ∨ (∃ b i T, v = .iface 56 (ptr b) ∧ StoreIn W b i T s S ∧ i.lim = 1073741824)
theorem KeptIn.below {W W' : World} {v : Value} {s : ByteArray} {S : Nat → Prop} (h : KeptIn W v s S) (hb : Below W.heap.size W W') : KeptIn W' v s S := by
  rcases h with ⟨b, h1, h2, h3⟩ | ⟨b, i, T, h1, h2, h3⟩
  · exact .inl ⟨b, h1, h2, h3.below hb⟩
  · exact .inr ⟨b, i, T, h1, h2.below hb, h3⟩
theorem GapIn.lt {W : World} {b lim : Nat} {s : ByteArray} {S : Nat → Prop} (h : GapIn W b lim s S) : b < W.heap.size := by
  obtain ⟨g, r, fr, tv, h1, -⟩ := h; exact h1.box.lies.1
theorem KeptIn.mono {W : World} {v : Value} {s : ByteArray} {S S' : Nat → Prop} (h : KeptIn W v s S) (hS : ∀ k, k < W.heap.size → S k → S' k) : KeptIn W v s S' := by
  rcases h with ⟨b, h1, h2, h3⟩ | ⟨b, i, T, h1, h2, h3⟩
  · exact .inl ⟨b, h1, hS b h3.lt h2, h3.mono hS⟩
  · exact .inr ⟨b, i, T, h1, h2.mono hS, h3⟩
theorem KeptIn.text {W : World} {v : Value} {s : ByteArray} {S : Nat → Prop} (h : KeptIn W v s S) (hT : Tabs W) (hs : s.size ≤ 1073741824) : TextIs W v s := by
  rcases h with ⟨b, rfl, -, h2⟩ | ⟨b, i, T, rfl, h2, -⟩
  · exact text57 (h2.has hT hs)
  · exact text56 (h2.has hT hs)
theorem KeptIn.form {W : World} {v : Value} {s : ByteArray} {S : Nat → Prop} (h : KeptIn W v s S) : ∃ t x, v = .iface t x := by
  rcases h with ⟨b, rfl, -⟩ | ⟨b, i, T, rfl, -⟩ <;> exact ⟨_, _, rfl⟩
/-- The text is changed. -/
theorem KeptIn.replace {W : World} {v : Value} {s : ByteArray} {S : Nat → Prop} (h : KeptIn W v s S) (hT : Tabs W) (hN : NoTab S) (a c : Nat) (p : ByteArray) (hs : s.size ≤ 1073741824) (hac : a + c ≤ s.size) (hp : s.size - c + p.size ≤ 1073741824) :
    ∃ f q, (v = .iface 57 q ∧ f = 143 ∨ v = .iface 56 q ∧ f = 136) ∧
      Calls Tryz.prog f #[q, .int .i64 a, .int .i64 c, .string p] W fun e w' => e = .returned (.tuple #[.string (s.extract a (a + c)), .int .i64 0]) ∧ KeptIn w' v (repl s a c p) (fun j => S j ∨ W.heap.size ≤ j) ∧ Chg S W w' := by
  rcases h with ⟨b, rfl, hb, g, r, fr, tv, h1, h2, h3⟩ | ⟨b, i, T, rfl, h1, h2⟩
  · refine ⟨_, _, .inl ⟨rfl, rfl⟩, (GapReplace_any b g r fr tv 1073741824 a c p s W h1 h2 hs (Nat.le_refl _) hac hp).mono ?_⟩
    rintro e w' ⟨rfl, k1, k2⟩
    exact ⟨rfl, .inl ⟨b, rfl, .inl hb, k1.mono (fun j _ hj => hj.imp (fun e => by rw [e]; exact h3) (fun h => h))⟩, k2.mono (fun j hj => hj.elim (fun e => by rw [e]; exact hb) (fun e => by rw [e]; exact h3))⟩
  · refine ⟨_, _, .inr ⟨rfl, rfl⟩, (StReplace_in hT hN h1 (by rw [h2]; exact hs) (by rw [h2]; exact Nat.le_refl _) a c p hac (by rw [h2]; exact hp)).mono ?_⟩
    rintro e w' ⟨rfl, k1, k2⟩
    exact ⟨rfl, .inr ⟨b, _, _, rfl, k1, h2⟩, k2⟩
set_option maxRecDepth 100000 in
set_option maxHeartbeats 2000000 in
theorem keep_in (s : ByteArray) (k : Int) (w : World) (hT : Tabs w) (hs : s.size ≤ 1073741824) :
    Calls Tryz.prog 12 #[.agg #[.string s, .int .i64 k]] w fun e w' => ∃ v, e = .returned (.tuple #[v, .bool true]) ∧ KeptIn w' v s (fun j => w.heap.size ≤ j) ∧ Below w.heap.size w w' := by
  obtain ⟨W0, hW0, A0, b0, hsz⟩ := boxL1 w [.string s, .int .i64 k] 23
  have HE := Lib.hid hW0
  have HA := Lib.hid A0
  have HB := Lib.hid b0
  have HT := Lib.hid (tabs_below hT b0)
  clear hW0 A0 b0 hsz hT
  by_cases hk : k = 0
  · subst hk
    go_enter Tryz.func12, Tryz.ntmps12
    go_wp2_with fail
    rw [HE.out]
    refine (GapNew_any s 1073741824 W0 (by omega) hs).mono ?_
    rintro e w1 ⟨b, g, r, fr, tv, rfl, hG, ht, hbs, hgs, hb⟩
    have HBS := Lib.hid (Nat.le_trans HB.out.size hbs)
    have HGS := Lib.hid (Nat.le_trans HB.out.size hgs)
    clear hbs hgs
    have HG := Lib.hid hG
    have HTx := Lib.hid ht
    have HA := Lib.hid (HA.out.below hb)
    have HT := Lib.hid (tabs_below HT.out hb)
    have HB := Lib.hid (HB.out.trans (hb.mono HB.out.size))
    clear hb
    clear hG ht
    go_wp2
    have lA := HA.out.1
    generalize w.heap.size = A at HA lA ⊢
    refine wp_held' mixed (VKeep3 A b s) (VKeep3_mono A b s) (by kernel_rfl) [17, 18, 19, 20, 21, 22, 23, 24, 25, 26, 27, 28, 29] (by kernel_rfl) (by kernel_rfl) ?_ ?_
    · intro j hj
      have hj' : j < 13 := hj
      rcases (by omega : j = 0 ∨ j = 1 ∨ j = 2 ∨ j = 3 ∨ j = 4 ∨ j = 5 ∨ j = 6 ∨ j = 7 ∨ j = 8 ∨ j = 9 ∨ j = 10 ∨ j = 11 ∨ j = 12) with rfl | rfl | rfl | rfl | rfl | rfl | rfl | rfl | rfl | rfl | rfl | rfl | rfl
      · -- operation 0
        (refine owes_val (L := [(5, false)]) rfl rfl rfl (by kernel_rfl) ?_; intro a' w' hb' hfacts; obtain ⟨hf5, -⟩ := hfacts; replace hf5 : a'.tmps[5]?.getD undef = .int .i64 0 := hf5)
        have pA := ((HA.out.below hb').2 0 _ rfl).1
        (go_simp; first | exact ⟨_, rfl, Below.refl _ _, rfl⟩ | exact ⟨_, rfl, Below.refl _ _, trivial⟩ | exact ⟨_, rfl, (Below.refl _ _).alloc (Nat.le_refl _) _, trivial⟩ | exact ⟨_, rfl, Below.refl _ _, congrArg (Value.int _) (IntWalk.i64_in _ (by omega))⟩)
      · -- operation 1
        (refine owes_val (L := [(17, true)]) rfl rfl rfl (by kernel_rfl) ?_; intro a' w' hb' hfacts; obtain ⟨hf17, -⟩ := hfacts; try simp only [VKeep3] at hf17)
        have pA := ((HA.out.below hb').2 0 _ rfl).1
        (go_simp; first | exact ⟨_, rfl, Below.refl _ _, rfl⟩ | exact ⟨_, rfl, Below.refl _ _, trivial⟩ | exact ⟨_, rfl, (Below.refl _ _).alloc (Nat.le_refl _) _, trivial⟩ | exact ⟨_, rfl, Below.refl _ _, congrArg (Value.int _) (IntWalk.i64_in _ (by omega))⟩)
      · -- operation 2
        (refine owes_val (L := [(18, true)]) rfl rfl rfl (by kernel_rfl) ?_; intro a' w' hb' hfacts; obtain ⟨hf18, -⟩ := hfacts; try simp only [VKeep3] at hf18)
        have pA := ((HA.out.below hb').2 0 _ rfl).1
        (go_simp; first | exact ⟨_, rfl, Below.refl _ _, rfl⟩ | exact ⟨_, rfl, Below.refl _ _, trivial⟩ | exact ⟨_, rfl, (Below.refl _ _).alloc (Nat.le_refl _) _, trivial⟩ | exact ⟨_, rfl, Below.refl _ _, congrArg (Value.int _) (IntWalk.i64_in _ (by omega))⟩)
      · -- operation 3
        (refine owes_if (L := [(4, false), (19, true)]) rfl rfl rfl rfl (by kernel_rfl) ?_; intro a' w' hb' hfacts; obtain ⟨hf4, hf19, -⟩ := hfacts; replace hf4 : a'.tmps[4]?.getD undef = .pointer (some ⟨b, 0, none⟩) := hf4; try simp only [VKeep3] at hf19)
        have pA := ((HA.out.below hb').2 0 _ rfl).1
        first
          | (go_simp; first | exact ⟨_, rfl, Below.refl _ _, rfl⟩ | exact ⟨_, rfl, Below.refl _ _, trivial⟩ | exact ⟨_, rfl, Below.refl _ _⟩ | exact ⟨_, rfl, (Below.refl _ _).alloc (Nat.le_refl _) _, trivial⟩)
          | (apply Exists.intro
             apply And.intro
             · assumption
             · apply And.intro
               · intro hc
                 first
                   | (refine absurd hc ?_; simp [undef]; done)
                   | (go_simp; first | exact ⟨_, rfl, Below.refl _ _, rfl⟩ | exact ⟨_, rfl, Below.refl _ _, trivial⟩ | exact ⟨_, rfl, Below.refl _ _⟩ | exact ⟨_, rfl, (Below.refl _ _).alloc (Nat.le_refl _) _, trivial⟩)
               · intro hc
                 first | exact absurd rfl hc | exact trivial | exact rfl)
          | (apply Exists.intro
             apply And.intro
             · assumption
             · intro hc
               first
                 | (refine absurd hc ?_; simp [undef]; done)
                 | (go_simp; first | exact ⟨_, rfl, Below.refl _ _, rfl⟩ | exact ⟨_, rfl, Below.refl _ _, trivial⟩ | exact ⟨_, rfl, Below.refl _ _⟩ | exact ⟨_, rfl, (Below.refl _ _).alloc (Nat.le_refl _) _, trivial⟩))
      · -- operation 4
        (refine owes_if (L := [(20, true), (19, true)]) rfl rfl rfl rfl (by kernel_rfl) ?_; intro a' w' hb' hfacts; obtain ⟨hf20, hf19, -⟩ := hfacts; try simp only [VKeep3] at hf20; try simp only [VKeep3] at hf19)
        have pA := ((HA.out.below hb').2 0 _ rfl).1
        first
          | (go_simp; first | exact ⟨_, rfl, Below.refl _ _, rfl⟩ | exact ⟨_, rfl, Below.refl _ _, trivial⟩ | exact ⟨_, rfl, Below.refl _ _⟩ | exact ⟨_, rfl, (Below.refl _ _).alloc (Nat.le_refl _) _, trivial⟩)
          | (apply Exists.intro
             apply And.intro
             · assumption
             · apply And.intro
               · intro hc
                 first
                   | (refine absurd hc ?_; simp [undef]; done)
                   | (go_simp; first | exact ⟨_, rfl, Below.refl _ _, rfl⟩ | exact ⟨_, rfl, Below.refl _ _, trivial⟩ | exact ⟨_, rfl, Below.refl _ _⟩ | exact ⟨_, rfl, (Below.refl _ _).alloc (Nat.le_refl _) _, trivial⟩)
               · intro hc
                 first | exact absurd rfl hc | exact trivial | exact rfl)
          | (apply Exists.intro
             apply And.intro
             · assumption
             · intro hc
               first
                 | (refine absurd hc ?_; simp [undef]; done)
                 | (go_simp; first | exact ⟨_, rfl, Below.refl _ _, rfl⟩ | exact ⟨_, rfl, Below.refl _ _, trivial⟩ | exact ⟨_, rfl, Below.refl _ _⟩ | exact ⟨_, rfl, (Below.refl _ _).alloc (Nat.le_refl _) _, trivial⟩))
      · -- operation 5
        (refine owes_val (L := [(19, true), (21, true)]) rfl rfl rfl (by kernel_rfl) ?_; intro a' w' hb' hfacts; obtain ⟨hf19, hf21, -⟩ := hfacts; try simp only [VKeep3] at hf19; try simp only [VKeep3] at hf21)
        have pA := ((HA.out.below hb').2 0 _ rfl).1
        (go_simp; first | exact ⟨_, rfl, Below.refl _ _, rfl⟩ | exact ⟨_, rfl, Below.refl _ _, trivial⟩ | exact ⟨_, rfl, (Below.refl _ _).alloc (Nat.le_refl _) _, trivial⟩ | exact ⟨_, rfl, Below.refl _ _, congrArg (Value.int _) (IntWalk.i64_in _ (by omega))⟩)
      · -- operation 6
        (refine owes_val (L := [(22, true)]) rfl rfl rfl (by kernel_rfl) ?_; intro a' w' hb' hfacts; obtain ⟨hf22, -⟩ := hfacts; try simp only [VKeep3] at hf22)
        have pA := ((HA.out.below hb').2 0 _ rfl).1
        (go_simp; first | exact ⟨_, rfl, Below.refl _ _, rfl⟩ | exact ⟨_, rfl, Below.refl _ _, trivial⟩ | exact ⟨_, rfl, (Below.refl _ _).alloc (Nat.le_refl _) _, trivial⟩ | exact ⟨_, rfl, Below.refl _ _, congrArg (Value.int _) (IntWalk.i64_in _ (by omega))⟩)
      · -- operation 7
        (refine owes_if (L := [(4, false), (23, true)]) rfl rfl rfl rfl (by kernel_rfl) ?_; intro a' w' hb' hfacts; obtain ⟨hf4, hf23, -⟩ := hfacts; replace hf4 : a'.tmps[4]?.getD undef = .pointer (some ⟨b, 0, none⟩) := hf4; try simp only [VKeep3] at hf23)
        have pA := ((HA.out.below hb').2 0 _ rfl).1
        first
          | (go_simp; first | exact ⟨_, rfl, Below.refl _ _, rfl⟩ | exact ⟨_, rfl, Below.refl _ _, trivial⟩ | exact ⟨_, rfl, Below.refl _ _⟩ | exact ⟨_, rfl, (Below.refl _ _).alloc (Nat.le_refl _) _, trivial⟩)
          | (apply Exists.intro
             apply And.intro
             · assumption
             · apply And.intro
               · intro hc
                 first
                   | (refine absurd hc ?_; simp [undef]; done)
                   | (go_simp; first | exact ⟨_, rfl, Below.refl _ _, rfl⟩ | exact ⟨_, rfl, Below.refl _ _, trivial⟩ | exact ⟨_, rfl, Below.refl _ _⟩ | exact ⟨_, rfl, (Below.refl _ _).alloc (Nat.le_refl _) _, trivial⟩)
               · intro hc
                 first | exact absurd rfl hc | exact trivial | exact rfl)
          | (apply Exists.intro
             apply And.intro
             · assumption
             · intro hc
               first
                 | (refine absurd hc ?_; simp [undef]; done)
                 | (go_simp; first | exact ⟨_, rfl, Below.refl _ _, rfl⟩ | exact ⟨_, rfl, Below.refl _ _, trivial⟩ | exact ⟨_, rfl, Below.refl _ _⟩ | exact ⟨_, rfl, (Below.refl _ _).alloc (Nat.le_refl _) _, trivial⟩))
      · -- operation 8
        (refine owes_if (L := [(24, true), (23, true)]) rfl rfl rfl rfl (by kernel_rfl) ?_; intro a' w' hb' hfacts; obtain ⟨hf24, hf23, -⟩ := hfacts; try simp only [VKeep3] at hf24; try simp only [VKeep3] at hf23)
        refine ⟨_, hf23, fun _ => ?_, fun hc => absurd rfl hc⟩
        go_simp
        refine (GapText_any b g r fr tv 1073741824 _ (HG.out.below hb')).mono ?_
        rintro e w3 ⟨rfl, hb3⟩
        rw [HTx.out]
        exact ⟨_, rfl, hb3, rfl⟩
      · -- operation 9
        (refine owes_if (L := [(1, false), (23, true)]) rfl rfl rfl rfl (by kernel_rfl) ?_; intro a' w' hb' hfacts; obtain ⟨hf1, hf23, -⟩ := hfacts; replace hf1 : a'.tmps[1]?.getD undef = .pointer (some ⟨A, 0, none⟩) := hf1; try simp only [VKeep3] at hf23)
        have pA := ((HA.out.below hb').2 0 _ rfl).1
        first
          | (go_simp; first | exact ⟨_, rfl, Below.refl _ _, rfl⟩ | exact ⟨_, rfl, Below.refl _ _, trivial⟩ | exact ⟨_, rfl, Below.refl _ _⟩ | exact ⟨_, rfl, (Below.refl _ _).alloc (Nat.le_refl _) _, trivial⟩)
          | (apply Exists.intro
             apply And.intro
             · assumption
             · apply And.intro
               · intro hc
                 first
                   | (refine absurd hc ?_; simp [undef]; done)
                   | (go_simp; first | exact ⟨_, rfl, Below.refl _ _, rfl⟩ | exact ⟨_, rfl, Below.refl _ _, trivial⟩ | exact ⟨_, rfl, Below.refl _ _⟩ | exact ⟨_, rfl, (Below.refl _ _).alloc (Nat.le_refl _) _, trivial⟩)
               · intro hc
                 first | exact absurd rfl hc | exact trivial | exact rfl)
          | (apply Exists.intro
             apply And.intro
             · assumption
             · intro hc
               first
                 | (refine absurd hc ?_; simp [undef]; done)
                 | (go_simp; first | exact ⟨_, rfl, Below.refl _ _, rfl⟩ | exact ⟨_, rfl, Below.refl _ _, trivial⟩ | exact ⟨_, rfl, Below.refl _ _⟩ | exact ⟨_, rfl, (Below.refl _ _).alloc (Nat.le_refl _) _, trivial⟩))
      · -- operation 10
        (refine owes_if (L := [(26, true), (23, true)]) rfl rfl rfl rfl (by kernel_rfl) ?_; intro a' w' hb' hfacts; obtain ⟨hf26, hf23, -⟩ := hfacts; try simp only [VKeep3] at hf26; try simp only [VKeep3] at hf23)
        have pA := ((HA.out.below hb').2 0 _ rfl).1
        first
          | (go_simp; first | exact ⟨_, rfl, Below.refl _ _, rfl⟩ | exact ⟨_, rfl, Below.refl _ _, trivial⟩ | exact ⟨_, rfl, Below.refl _ _⟩ | exact ⟨_, rfl, (Below.refl _ _).alloc (Nat.le_refl _) _, trivial⟩)
          | (apply Exists.intro
             apply And.intro
             · assumption
             · apply And.intro
               · intro hc
                 first
                   | (refine absurd hc ?_; simp [undef]; done)
                   | (go_simp; first | exact ⟨_, rfl, Below.refl _ _, rfl⟩ | exact ⟨_, rfl, Below.refl _ _, trivial⟩ | exact ⟨_, rfl, Below.refl _ _⟩ | exact ⟨_, rfl, (Below.refl _ _).alloc (Nat.le_refl _) _, trivial⟩)
               · intro hc
                 first | exact absurd rfl hc | exact trivial | exact rfl)
          | (apply Exists.intro
             apply And.intro
             · assumption
             · intro hc
               first
                 | (refine absurd hc ?_; simp [undef]; done)
                 | (go_simp; first | exact ⟨_, rfl, Below.refl _ _, rfl⟩ | exact ⟨_, rfl, Below.refl _ _, trivial⟩ | exact ⟨_, rfl, Below.refl _ _⟩ | exact ⟨_, rfl, (Below.refl _ _).alloc (Nat.le_refl _) _, trivial⟩))
      · -- operation 11
        (refine owes_if (L := [(25, true), (27, true), (23, true)]) rfl rfl rfl rfl (by kernel_rfl) ?_; intro a' w' hb' hfacts; obtain ⟨hf25, hf27, hf23, -⟩ := hfacts; try simp only [VKeep3] at hf25; try simp only [VKeep3] at hf27; try simp only [VKeep3] at hf23)
        have pA := ((HA.out.below hb').2 0 _ rfl).1
        first
          | (go_simp; first | exact ⟨_, rfl, Below.refl _ _, rfl⟩ | exact ⟨_, rfl, Below.refl _ _, trivial⟩ | exact ⟨_, rfl, Below.refl _ _⟩ | exact ⟨_, rfl, (Below.refl _ _).alloc (Nat.le_refl _) _, trivial⟩)
          | (apply Exists.intro
             apply And.intro
             · assumption
             · apply And.intro
               · intro hc
                 first
                   | (refine absurd hc ?_; simp [undef]; done)
                   | (go_simp; first | exact ⟨_, rfl, Below.refl _ _, rfl⟩ | exact ⟨_, rfl, Below.refl _ _, trivial⟩ | exact ⟨_, rfl, Below.refl _ _⟩ | exact ⟨_, rfl, (Below.refl _ _).alloc (Nat.le_refl _) _, trivial⟩)
               · intro hc
                 first | exact absurd rfl hc | exact trivial | exact rfl)
          | (apply Exists.intro
             apply And.intro
             · assumption
             · intro hc
               first
                 | (refine absurd hc ?_; simp [undef]; done)
                 | (go_simp; first | exact ⟨_, rfl, Below.refl _ _, rfl⟩ | exact ⟨_, rfl, Below.refl _ _, trivial⟩ | exact ⟨_, rfl, Below.refl _ _⟩ | exact ⟨_, rfl, (Below.refl _ _).alloc (Nat.le_refl _) _, trivial⟩))
      · -- operation 12
        (refine owes_val (L := [(23, true), (28, true)]) rfl rfl rfl (by kernel_rfl) ?_; intro a' w' hb' hfacts; obtain ⟨hf23, hf28, -⟩ := hfacts; try simp only [VKeep3] at hf23; try simp only [VKeep3] at hf28)
        have pA := ((HA.out.below hb').2 0 _ rfl).1
        (go_simp; first | exact ⟨_, rfl, Below.refl _ _, rfl⟩ | exact ⟨_, rfl, Below.refl _ _, trivial⟩ | exact ⟨_, rfl, (Below.refl _ _).alloc (Nat.le_refl _) _, trivial⟩ | exact ⟨_, rfl, Below.refl _ _, congrArg (Value.int _) (IntWalk.i64_in _ (by omega))⟩)
    · intro f W9 hf hb3
      have f29 : f 29 = .bool false := hf 29 (by decide)
      have HG9 := Lib.hid (HG.out.below hb3)
      have HB := Lib.hid (HB.out.trans (hb3.mono HB.out.size))
      clear hb3
      clear hf
      simp only [putAll, put_lit, List.map_cons, List.map_nil, List.set_cons_succ, List.set_cons_zero]
      simp only [f29]
      go_wp2
      refine bodyPost_ret (v := .tuple #[.iface 57 (.pointer (some ⟨b, 0, none⟩)), .bool true]) (by simp [results, Tryz.results12, go_sem]) rfl ⟨_, rfl, .inl ⟨b, rfl, HBS.out, g, r, fr, tv, HG9.out, HTx.out, HGS.out⟩, HB.out⟩
  · have hk1 : (k == 0) = false := by rw [beq_eq_false_iff_ne]; exact hk
    go_enter Tryz.func12, Tryz.ntmps12
    go_wp2_with fail
    rw [HE.out]
    refine (StNew_in k 8 40 1073741824 s W0 HT.out (by omega) hs).mono ?_
    rintro e w1 ⟨b, rfl, hG, hb⟩
    have hsz0 := HB.out.size
    replace hG := hG.mono (S' := fun j => w.heap.size ≤ j) (fun j _ hj => Nat.le_trans hsz0 hj)
    clear hsz0
    have HG := Lib.hid hG
    have HA := Lib.hid (HA.out.below hb)
    have HT := Lib.hid (tabs_below HT.out hb)
    have HB := Lib.hid (HB.out.trans (hb.mono HB.out.size))
    clear hb
    clear hG hk
    unfold ptr
    go_wp2
    have lA := HA.out.1
    generalize w.heap.size = A at HA lA ⊢
    refine wp_held' mixed (VKeep7 A b s) (VKeep7_mono A b s) (by kernel_rfl) [40, 41, 42, 43, 44, 45, 46, 47, 48, 49, 50, 51, 52] (by kernel_rfl) (by kernel_rfl) ?_ ?_
    · intro j hj
      have hj' : j < 13 := hj
      rcases (by omega : j = 0 ∨ j = 1 ∨ j = 2 ∨ j = 3 ∨ j = 4 ∨ j = 5 ∨ j = 6 ∨ j = 7 ∨ j = 8 ∨ j = 9 ∨ j = 10 ∨ j = 11 ∨ j = 12) with rfl | rfl | rfl | rfl | rfl | rfl | rfl | rfl | rfl | rfl | rfl | rfl | rfl
      · -- operation 0
        (refine owes_val (L := [(7, false)]) rfl rfl rfl (by kernel_rfl) ?_; intro a' w' hb' hfacts; obtain ⟨hf7, -⟩ := hfacts; replace hf7 : a'.tmps[7]?.getD undef = .int .i64 0 := hf7)
        have pA := ((HA.out.below hb').2 0 _ rfl).1
        (go_simp; first | exact ⟨_, rfl, Below.refl _ _, rfl⟩ | exact ⟨_, rfl, Below.refl _ _, trivial⟩ | exact ⟨_, rfl, (Below.refl _ _).alloc (Nat.le_refl _) _, trivial⟩ | exact ⟨_, rfl, Below.refl _ _, congrArg (Value.int _) (IntWalk.i64_in _ (by omega))⟩)
      · -- operation 1
        (refine owes_val (L := [(40, true)]) rfl rfl rfl (by kernel_rfl) ?_; intro a' w' hb' hfacts; obtain ⟨hf40, -⟩ := hfacts; try simp only [VKeep7] at hf40)
        have pA := ((HA.out.below hb').2 0 _ rfl).1
        (go_simp; first | exact ⟨_, rfl, Below.refl _ _, rfl⟩ | exact ⟨_, rfl, Below.refl _ _, trivial⟩ | exact ⟨_, rfl, (Below.refl _ _).alloc (Nat.le_refl _) _, trivial⟩ | exact ⟨_, rfl, Below.refl _ _, congrArg (Value.int _) (IntWalk.i64_in _ (by omega))⟩)
      · -- operation 2
        (refine owes_val (L := [(41, true)]) rfl rfl rfl (by kernel_rfl) ?_; intro a' w' hb' hfacts; obtain ⟨hf41, -⟩ := hfacts; try simp only [VKeep7] at hf41)
        have pA := ((HA.out.below hb').2 0 _ rfl).1
        (go_simp; first | exact ⟨_, rfl, Below.refl _ _, rfl⟩ | exact ⟨_, rfl, Below.refl _ _, trivial⟩ | exact ⟨_, rfl, (Below.refl _ _).alloc (Nat.le_refl _) _, trivial⟩ | exact ⟨_, rfl, Below.refl _ _, congrArg (Value.int _) (IntWalk.i64_in _ (by omega))⟩)
      · -- operation 3
        (refine owes_if (L := [(6, false), (42, true)]) rfl rfl rfl rfl (by kernel_rfl) ?_; intro a' w' hb' hfacts; obtain ⟨hf6, hf42, -⟩ := hfacts; replace hf6 : a'.tmps[6]?.getD undef = .pointer (some ⟨b, 0, none⟩) := hf6; try simp only [VKeep7] at hf42)
        have pA := ((HA.out.below hb').2 0 _ rfl).1
        first
          | (go_simp; first | exact ⟨_, rfl, Below.refl _ _, rfl⟩ | exact ⟨_, rfl, Below.refl _ _, trivial⟩ | exact ⟨_, rfl, Below.refl _ _⟩ | exact ⟨_, rfl, (Below.refl _ _).alloc (Nat.le_refl _) _, trivial⟩)
          | (apply Exists.intro
             apply And.intro
             · assumption
             · apply And.intro
               · intro hc
                 first
                   | (refine absurd hc ?_; simp [undef]; done)
                   | (go_simp; first | exact ⟨_, rfl, Below.refl _ _, rfl⟩ | exact ⟨_, rfl, Below.refl _ _, trivial⟩ | exact ⟨_, rfl, Below.refl _ _⟩ | exact ⟨_, rfl, (Below.refl _ _).alloc (Nat.le_refl _) _, trivial⟩)
               · intro hc
                 first | exact absurd rfl hc | exact trivial | exact rfl)
          | (apply Exists.intro
             apply And.intro
             · assumption
             · intro hc
               first
                 | (refine absurd hc ?_; simp [undef]; done)
                 | (go_simp; first | exact ⟨_, rfl, Below.refl _ _, rfl⟩ | exact ⟨_, rfl, Below.refl _ _, trivial⟩ | exact ⟨_, rfl, Below.refl _ _⟩ | exact ⟨_, rfl, (Below.refl _ _).alloc (Nat.le_refl _) _, trivial⟩))
      · -- operation 4
        (refine owes_if (L := [(43, true), (42, true)]) rfl rfl rfl rfl (by kernel_rfl) ?_; intro a' w' hb' hfacts; obtain ⟨hf43, hf42, -⟩ := hfacts; try simp only [VKeep7] at hf43; try simp only [VKeep7] at hf42)
        have pA := ((HA.out.below hb').2 0 _ rfl).1
        first
          | (go_simp; first | exact ⟨_, rfl, Below.refl _ _, rfl⟩ | exact ⟨_, rfl, Below.refl _ _, trivial⟩ | exact ⟨_, rfl, Below.refl _ _⟩ | exact ⟨_, rfl, (Below.refl _ _).alloc (Nat.le_refl _) _, trivial⟩)
          | (apply Exists.intro
             apply And.intro
             · assumption
             · apply And.intro
               · intro hc
                 first
                   | (refine absurd hc ?_; simp [undef]; done)
                   | (go_simp; first | exact ⟨_, rfl, Below.refl _ _, rfl⟩ | exact ⟨_, rfl, Below.refl _ _, trivial⟩ | exact ⟨_, rfl, Below.refl _ _⟩ | exact ⟨_, rfl, (Below.refl _ _).alloc (Nat.le_refl _) _, trivial⟩)
               · intro hc
                 first | exact absurd rfl hc | exact trivial | exact rfl)
          | (apply Exists.intro
             apply And.intro
             · assumption
             · intro hc
               first
                 | (refine absurd hc ?_; simp [undef]; done)
                 | (go_simp; first | exact ⟨_, rfl, Below.refl _ _, rfl⟩ | exact ⟨_, rfl, Below.refl _ _, trivial⟩ | exact ⟨_, rfl, Below.refl _ _⟩ | exact ⟨_, rfl, (Below.refl _ _).alloc (Nat.le_refl _) _, trivial⟩))
      · -- operation 5
        (refine owes_val (L := [(42, true), (44, true)]) rfl rfl rfl (by kernel_rfl) ?_; intro a' w' hb' hfacts; obtain ⟨hf42, hf44, -⟩ := hfacts; try simp only [VKeep7] at hf42; try simp only [VKeep7] at hf44)
        have pA := ((HA.out.below hb').2 0 _ rfl).1
        (go_simp; first | exact ⟨_, rfl, Below.refl _ _, rfl⟩ | exact ⟨_, rfl, Below.refl _ _, trivial⟩ | exact ⟨_, rfl, (Below.refl _ _).alloc (Nat.le_refl _) _, trivial⟩ | exact ⟨_, rfl, Below.refl _ _, congrArg (Value.int _) (IntWalk.i64_in _ (by omega))⟩)
      · -- operation 6
        (refine owes_val (L := [(45, true)]) rfl rfl rfl (by kernel_rfl) ?_; intro a' w' hb' hfacts; obtain ⟨hf45, -⟩ := hfacts; try simp only [VKeep7] at hf45)
        have pA := ((HA.out.below hb').2 0 _ rfl).1
        (go_simp; first | exact ⟨_, rfl, Below.refl _ _, rfl⟩ | exact ⟨_, rfl, Below.refl _ _, trivial⟩ | exact ⟨_, rfl, (Below.refl _ _).alloc (Nat.le_refl _) _, trivial⟩ | exact ⟨_, rfl, Below.refl _ _, congrArg (Value.int _) (IntWalk.i64_in _ (by omega))⟩)
      · -- operation 7
        (refine owes_if (L := [(6, false), (46, true)]) rfl rfl rfl rfl (by kernel_rfl) ?_; intro a' w' hb' hfacts; obtain ⟨hf6, hf46, -⟩ := hfacts; replace hf6 : a'.tmps[6]?.getD undef = .pointer (some ⟨b, 0, none⟩) := hf6; try simp only [VKeep7] at hf46)
        have pA := ((HA.out.below hb').2 0 _ rfl).1
        first
          | (go_simp; first | exact ⟨_, rfl, Below.refl _ _, rfl⟩ | exact ⟨_, rfl, Below.refl _ _, trivial⟩ | exact ⟨_, rfl, Below.refl _ _⟩ | exact ⟨_, rfl, (Below.refl _ _).alloc (Nat.le_refl _) _, trivial⟩)
          | (apply Exists.intro
             apply And.intro
             · assumption
             · apply And.intro
               · intro hc
                 first
                   | (refine absurd hc ?_; simp [undef]; done)
                   | (go_simp; first | exact ⟨_, rfl, Below.refl _ _, rfl⟩ | exact ⟨_, rfl, Below.refl _ _, trivial⟩ | exact ⟨_, rfl, Below.refl _ _⟩ | exact ⟨_, rfl, (Below.refl _ _).alloc (Nat.le_refl _) _, trivial⟩)
               · intro hc
                 first | exact absurd rfl hc | exact trivial | exact rfl)
          | (apply Exists.intro
             apply And.intro
             · assumption
             · intro hc
               first
                 | (refine absurd hc ?_; simp [undef]; done)
                 | (go_simp; first | exact ⟨_, rfl, Below.refl _ _, rfl⟩ | exact ⟨_, rfl, Below.refl _ _, trivial⟩ | exact ⟨_, rfl, Below.refl _ _⟩ | exact ⟨_, rfl, (Below.refl _ _).alloc (Nat.le_refl _) _, trivial⟩))
      · -- operation 8
        (refine owes_if (L := [(47, true), (46, true)]) rfl rfl rfl rfl (by kernel_rfl) ?_; intro a' w' hb' hfacts; obtain ⟨hf47, hf46, -⟩ := hfacts; try simp only [VKeep7] at hf47; try simp only [VKeep7] at hf46)
        refine ⟨_, hf46, fun _ => ?_, fun hc => absurd rfl hc⟩
        go_simp
        refine (StText_any ((HG.out.below hb').has (tabs_below HT.out hb') hs)).mono ?_
        rintro e w3 ⟨rfl, hb3⟩
        exact ⟨_, rfl, hb3, rfl⟩
      · -- operation 9
        (refine owes_if (L := [(1, false), (46, true)]) rfl rfl rfl rfl (by kernel_rfl) ?_; intro a' w' hb' hfacts; obtain ⟨hf1, hf46, -⟩ := hfacts; replace hf1 : a'.tmps[1]?.getD undef = .pointer (some ⟨A, 0, none⟩) := hf1; try simp only [VKeep7] at hf46)
        have pA := ((HA.out.below hb').2 0 _ rfl).1
        first
          | (go_simp; first | exact ⟨_, rfl, Below.refl _ _, rfl⟩ | exact ⟨_, rfl, Below.refl _ _, trivial⟩ | exact ⟨_, rfl, Below.refl _ _⟩ | exact ⟨_, rfl, (Below.refl _ _).alloc (Nat.le_refl _) _, trivial⟩)
          | (apply Exists.intro
             apply And.intro
             · assumption
             · apply And.intro
               · intro hc
                 first
                   | (refine absurd hc ?_; simp [undef]; done)
                   | (go_simp; first | exact ⟨_, rfl, Below.refl _ _, rfl⟩ | exact ⟨_, rfl, Below.refl _ _, trivial⟩ | exact ⟨_, rfl, Below.refl _ _⟩ | exact ⟨_, rfl, (Below.refl _ _).alloc (Nat.le_refl _) _, trivial⟩)
               · intro hc
                 first | exact absurd rfl hc | exact trivial | exact rfl)
          | (apply Exists.intro
             apply And.intro
             · assumption
             · intro hc
               first
                 | (refine absurd hc ?_; simp [undef]; done)
                 | (go_simp; first | exact ⟨_, rfl, Below.refl _ _, rfl⟩ | exact ⟨_, rfl, Below.refl _ _, trivial⟩ | exact ⟨_, rfl, Below.refl _ _⟩ | exact ⟨_, rfl, (Below.refl _ _).alloc (Nat.le_refl _) _, trivial⟩))
      · -- operation 10
        (refine owes_if (L := [(49, true), (46, true)]) rfl rfl rfl rfl (by kernel_rfl) ?_; intro a' w' hb' hfacts; obtain ⟨hf49, hf46, -⟩ := hfacts; try simp only [VKeep7] at hf49; try simp only [VKeep7] at hf46)
        have pA := ((HA.out.below hb').2 0 _ rfl).1
        first
          | (go_simp; first | exact ⟨_, rfl, Below.refl _ _, rfl⟩ | exact ⟨_, rfl, Below.refl _ _, trivial⟩ | exact ⟨_, rfl, Below.refl _ _⟩ | exact ⟨_, rfl, (Below.refl _ _).alloc (Nat.le_refl _) _, trivial⟩)
          | (apply Exists.intro
             apply And.intro
             · assumption
             · apply And.intro
               · intro hc
                 first
                   | (refine absurd hc ?_; simp [undef]; done)
                   | (go_simp; first | exact ⟨_, rfl, Below.refl _ _, rfl⟩ | exact ⟨_, rfl, Below.refl _ _, trivial⟩ | exact ⟨_, rfl, Below.refl _ _⟩ | exact ⟨_, rfl, (Below.refl _ _).alloc (Nat.le_refl _) _, trivial⟩)
               · intro hc
                 first | exact absurd rfl hc | exact trivial | exact rfl)
          | (apply Exists.intro
             apply And.intro
             · assumption
             · intro hc
               first
                 | (refine absurd hc ?_; simp [undef]; done)
                 | (go_simp; first | exact ⟨_, rfl, Below.refl _ _, rfl⟩ | exact ⟨_, rfl, Below.refl _ _, trivial⟩ | exact ⟨_, rfl, Below.refl _ _⟩ | exact ⟨_, rfl, (Below.refl _ _).alloc (Nat.le_refl _) _, trivial⟩))
      · -- operation 11
        (refine owes_if (L := [(48, true), (50, true), (46, true)]) rfl rfl rfl rfl (by kernel_rfl) ?_; intro a' w' hb' hfacts; obtain ⟨hf48, hf50, hf46, -⟩ := hfacts; try simp only [VKeep7] at hf48; try simp only [VKeep7] at hf50; try simp only [VKeep7] at hf46)
        have pA := ((HA.out.below hb').2 0 _ rfl).1
        first
          | (go_simp; first | exact ⟨_, rfl, Below.refl _ _, rfl⟩ | exact ⟨_, rfl, Below.refl _ _, trivial⟩ | exact ⟨_, rfl, Below.refl _ _⟩ | exact ⟨_, rfl, (Below.refl _ _).alloc (Nat.le_refl _) _, trivial⟩)
          | (apply Exists.intro
             apply And.intro
             · assumption
             · apply And.intro
               · intro hc
                 first
                   | (refine absurd hc ?_; simp [undef]; done)
                   | (go_simp; first | exact ⟨_, rfl, Below.refl _ _, rfl⟩ | exact ⟨_, rfl, Below.refl _ _, trivial⟩ | exact ⟨_, rfl, Below.refl _ _⟩ | exact ⟨_, rfl, (Below.refl _ _).alloc (Nat.le_refl _) _, trivial⟩)
               · intro hc
                 first | exact absurd rfl hc | exact trivial | exact rfl)
          | (apply Exists.intro
             apply And.intro
             · assumption
             · intro hc
               first
                 | (refine absurd hc ?_; simp [undef]; done)
                 | (go_simp; first | exact ⟨_, rfl, Below.refl _ _, rfl⟩ | exact ⟨_, rfl, Below.refl _ _, trivial⟩ | exact ⟨_, rfl, Below.refl _ _⟩ | exact ⟨_, rfl, (Below.refl _ _).alloc (Nat.le_refl _) _, trivial⟩))
      · -- operation 12
        (refine owes_val (L := [(46, true), (51, true)]) rfl rfl rfl (by kernel_rfl) ?_; intro a' w' hb' hfacts; obtain ⟨hf46, hf51, -⟩ := hfacts; try simp only [VKeep7] at hf46; try simp only [VKeep7] at hf51)
        have pA := ((HA.out.below hb').2 0 _ rfl).1
        (go_simp; first | exact ⟨_, rfl, Below.refl _ _, rfl⟩ | exact ⟨_, rfl, Below.refl _ _, trivial⟩ | exact ⟨_, rfl, (Below.refl _ _).alloc (Nat.le_refl _) _, trivial⟩ | exact ⟨_, rfl, Below.refl _ _, congrArg (Value.int _) (IntWalk.i64_in _ (by omega))⟩)
    · intro f W9 hf hb3
      have f52 : f 52 = .bool false := hf 52 (by decide)
      have HG9 := Lib.hid (HG.out.below hb3)
      have HB := Lib.hid (HB.out.trans (hb3.mono HB.out.size))
      clear hb3
      clear hf
      simp only [putAll, put_lit, List.map_cons, List.map_nil, List.set_cons_succ, List.set_cons_zero]
      simp only [f52]
      go_wp2
      refine bodyPost_ret (v := .tuple #[.iface 56 (.pointer (some ⟨b, 0, none⟩)), .bool true]) (by simp [results, Tryz.results12, go_sem]) rfl ⟨_, rfl, .inr ⟨b, _, _, rfl, HG9.out, rfl⟩, HB.out⟩
end Go.Proofs.YtgmpohdkignadaaGreatDoor.Ut
