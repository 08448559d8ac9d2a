/-
  What the proof of the row StoreTexts rests on: the texts SwI. Conditions: each theorem names its own.
-/
import Derived.Test.YtfchglcclgcgfaaGreatDoorMgSzh
import Derived.Test.YtfchglcclgcgfaaGreatDoorMgStoreTextsa
import Derived.Deep.DeepCutAuto
/-
 The law StoreTexts, walked. Condition: the two tables of unicode/utf8 lie as laid.
-/
namespace Go.Proofs.YtfchglcclgcgfaaGreatDoor.Ut
open Go.RowKit Go.Proofs.YtfchglcclgcgfaaGreatDoor.Reg
set_option linter.unusedVariables false
set_option linter.unusedSimpArgs false

set_option maxRecDepth 100000 in
theorem GapNew_full (s : ByteArray) (n : Nat) (w : World) (hn : n ≤ 1073741824) (hs : n < s.size) :
  Calls Tryz.prog 17 #[.string s, .int .i64 n] w fun e w' => e = .returned (.tuple #[.pointer none, .int .i64 2]) ∧ w' = w := by
 have e1 : min (max (n : Int) 0) 1073741824 = (n : Int) := by omega
 have e2 : (n : Int) < (s.size : Int) := by omega
 go_enter Tryz.func17, Tryz.ntmps17
 go_wp2_with fail
 refine (held_any n w).mono ?_
 rintro e w1 ⟨rfl, rfl⟩
 rw [e1]
 go_wp2
 refine bodyPost_ret (v := .tuple #[.pointer none, .int .i64 2]) (by simp [results, Tryz.results17, go_sem]) rfl ⟨rfl, rfl⟩
/-- What made answers, told of the program's store alone. -/
theorem made_sp (k lo hi m : Int) (s : ByteArray) (w : World) (hT : Tabs w) :
  Calls Tryz.prog 16 #[.agg (makeV k lo hi m s).toArray] w fun e w' => ∃ (p pw : Option Addr) (σ : Sto), e = .returned (.tuple #[.pointer p, .pointer pw, .bool true]) ∧ SP w' p σ (fun j => w.heap.size ≤ j) ∧ σ.ok ∧ (σ.s = if p = none then ⟨#[]⟩ else s) ∧ Below w.heap.size w w' := by
 refine (made_two k lo hi m s w hT).mono ?_
 rintro e w' ⟨⟨-, rfl⟩ | ⟨hs, b, bw, bb, S, rfl, hF⟩, hb⟩
 ·exact ⟨none, none, zeroS, rfl, .inr ⟨rfl, rfl⟩, zeroS_ok, by rw [if_pos rfl]; rfl, hb⟩
 ·exact ⟨_, _, newS k lo hi (limN m) s, rfl, hF.1.st.mono (fun j _ hj => (hF.2.1 j hj).1), hF.1.ok, by rw [if_neg (by simp)]; rfl, hb⟩
theorem SP.keeps {W : World} {p : Option Addr} {σ : Sto} {S : Nat → Prop} (h : SP W p σ S) (hT : Tabs W) (hs : σ.s.size ≤ 1073741824) : Keeps3 W (.iface 26 (.pointer p)) σ.s := .inr (.inl ⟨p, rfl, h.has hT hs⟩)
theorem bytes_eq_dec (s t : ByteArray) : (s.toList == t.toList) = decide (s = t) := by
 by_cases h : s = t
 ·subst h; simp
 ·rw [decide_eq_false h, beq_eq_false_iff_ne]
  intro e
  rw [ByteArray.toList_eq, ByteArray.toList_eq] at e
  exact h (ext_of_list e)
theorem bytes_nil_dec (s : ByteArray) : s.toList.isEmpty = decide (s = ⟨#[]⟩) := by
 rw [← bytes_eq_dec, Bool.eq_iff_iff, beq_iff_eq, List.isEmpty_iff, ByteArray.toList_eq, ByteArray.toList_eq]
theorem reset_nil (s : ByteArray) (l : Nat) : repE s.size l 0 s.size (⟨#[]⟩ : ByteArray).size = 0 := by
 rw [repE_reset, if_neg (by have : (⟨#[]⟩ : ByteArray).size = 0 := rfl; omega)]
theorem reset_nil_err (σ : Sto) : σ.err 0 σ.s.size ⟨#[]⟩ = 0 := by
 unfold Sto.err repA
 rw [if_pos (reset_nil _ _)]
theorem reset_nil_s (σ : Sto) : (σ.rep 0 σ.s.size ⟨#[]⟩).s = ⟨#[]⟩ := by
 unfold Sto.rep repA
 show (if _ then _ else _ : ByteArray × Int × ByteArray).2.2 = _
 rw [if_pos (reset_nil _ _)]
 show repl σ.s (0 : Int).toNat (σ.s.size : Int).toNat ⟨#[]⟩ = _
 rw [Int.toNat_natCast]
 apply ext_of_list
 unfold repl
 simp
/-- Reset of a store, or of none. -/
theorem StReset_sp {W : World} {q : Option Addr} {σ : Sto} {S : Nat → Prop} (hT : Tabs W) (hN : NoTab S) (h : SP W q σ S) (hσ : σ.ok) (p : ByteArray) :
  Calls Tryz.prog 19 #[.pointer q, .string p] W fun e w' => e = .returned (.int .i64 (σ.err 0 σ.s.size p)) ∧ SP w' q (σ.rep 0 σ.s.size p) (fun j => S j ∨ W.heap.size ≤ j) ∧ Mv S W w' :=
 StReset_of (Q := fun w4 => SP w4 q (σ.rep 0 σ.s.size p) (fun j => S j ∨ W.heap.size ≤ j) ∧ Mv S W w4) (Q0 := fun w1 => Below W.heap.size W w1) (n := σ.s.size) ((h.has hT hσ.small).len W (Below.refl _ _)) (fun w1 hb => (StReplace_sp (tabs_below hT hb) hN (h.below hb) hσ 0 σ.s.size p).mono (fun e w4 hh => ⟨hh.1, hh.2.1.mono (fun j _ hj => hj.imp (fun h => h) (fun h => Nat.le_trans hb.size h)), (Mv.of_below hb).trans hh.2.2 (fun _ _ h => h)⟩))
def VSt15 (p p2 : Option Addr) (gb q : Nat) (xs ys s : ByteArray) (D3 D4 : Bool) : Nat → Value → World → Prop := fun d x w => match d with
 | 109 => x = .int .i64 0
 | 110 => x = .bool true
 | 111 => x = .bool true
 | 112 => x = .pointer p
 | 113 => x = .iface 26 (.pointer p)
 | 114 => x = .pointer (some ⟨gb, 0, none⟩)
 | 115 => x = .iface 30 (.pointer (some ⟨gb, 0, none⟩))
 | 116 => x = .bool D3
 | 117 => x = .string xs
 | 118 => x = .pointer (some ⟨q, 4, none⟩)
 | 119 => x = .string s
 | 120 => x = .bool D3
 | 121 => x = .bool false
 | 122 => x = .bool false
 | 123 => x = .pointer (some ⟨gb, 0, none⟩)
 | 124 => x = .iface 30 (.pointer (some ⟨gb, 0, none⟩))
 | 125 => x = .pointer p2
 | 126 => x = .iface 26 (.pointer p2)
 | 127 => x = .bool D4
 | 128 => x = .pointer (some ⟨q, 4, none⟩)
 | 129 => x = .string s
 | 130 => x = .string ys
 | 131 => x = .bool D4
 | 132 => x = .bool false
 | 133 => x = .bool false
 | 134 => x = .bool false
 | _ => True
theorem VSt15_mono (p p2 : Option Addr) (gb q : Nat) (xs ys s : ByteArray) (D3 D4 : Bool) : ∀ d x w w', VSt15 p p2 gb q xs ys s D3 D4 d x w → Below w.heap.size w w' → VSt15 p p2 gb q xs ys s D3 D4 d x w' := by
 exact fun _ _ _ _ h _ => h
set_option maxRecDepth 100000 in
set_option maxHeartbeats 8000000 in
theorem law_StoreTexts (k lo hi m : Int) (s : ByteArray) (k2 lo2 hi2 m2 : Int) (s2 : ByteArray) (em : Bool) (w : World) (hT : Tabs w) :
  Calls Tryz.prog 3 #[.agg (makeV k lo hi m s).toArray, .agg (makeV k2 lo2 hi2 m2 s2).toArray, .bool em] w fun e w' => e = .returned (.bool true) ∧ Below w.heap.size w w' := by
 have HN := Lib.hid (noTab_new hT)
 obtain ⟨W1, hW1, L0, L1, b0, -⟩ := boxesL2 w (makeV k lo hi m s) (makeV k2 lo2 hi2 m2 s2) 24 24
 have HE := Lib.hid hW1
 have HL := Lib.hid L0
 have HM := Lib.hid L1
 have HB := Lib.hid b0
 have HT := Lib.hid (tabs_below hT b0)
 clear hW1 L0 L1 b0 hT
 have HMa := Lib.hid (fun w hT => made_sp k lo hi m s w hT)
 have HMb := Lib.hid (fun w hT => made_sp k2 lo2 hi2 m2 s2 w hT)
 unfold makeV at *
 go_enter Tryz.func3, Tryz.ntmps3
 go_wp2_with fail
 rw [HE.out]
 refine (fixed_any W1 HT.out).mono ?_
 rintro e w1 ⟨rfl, hb⟩
 have HL := Lib.hid (HL.out.below hb)
 have HM := Lib.hid (HM.out.below hb)
 have HT := Lib.hid (tabs_below HT.out hb)
 have HB := Lib.hid (HB.out.trans (hb.mono HB.out.size))
 clear hb
 have a0 := (HL.out.2 0 _ rfl).1
 have a1 := (HL.out.2 1 _ rfl).1
 have a2 := (HL.out.2 2 _ rfl).1
 have a3 := (HL.out.2 3 _ rfl).1
 have a4 := (HL.out.2 4 _ rfl).1
 go_wp2_with fail
 refine (HMa.out w1 HT.out).mono ?_
 rintro e w2 ⟨p, pw, σ, rfl, hS, hok, hs1, hb⟩
 have HS := Lib.hid hS
 have Hok := Lib.hid hok
 have Hs1 := Lib.hid hs1
 have hszA := HB.out.size
 have HL := Lib.hid (HL.out.below hb)
 have HM := Lib.hid (HM.out.below hb)
 have HT := Lib.hid (tabs_below HT.out hb)
 have HB := Lib.hid (HB.out.trans (hb.mono HB.out.size))
 clear hb
 clear a0 a1 a2 a3 a4 hS hok hs1 HMa
 have a0 := (HM.out.2 0 _ rfl).1
 have a1 := (HM.out.2 1 _ rfl).1
 have a2 := (HM.out.2 2 _ rfl).1
 have a3 := (HM.out.2 3 _ rfl).1
 have a4 := (HM.out.2 4 _ rfl).1
 go_wp2_with fail
 refine (HMb.out w2 HT.out).mono ?_
 rintro e w3 ⟨p2, pw2, τ, rfl, hS, hok, hs1, hb⟩
 have HS2 := Lib.hid hS
 have Hok2 := Lib.hid hok
 have Hs2 := Lib.hid hs1
 have HL := Lib.hid (HL.out.below hb)
 have HM := Lib.hid (HM.out.below hb)
 have HS := Lib.hid (HS.out.below hb)
 have HT := Lib.hid (tabs_below HT.out hb)
 have HB := Lib.hid (HB.out.trans (hb.mono HB.out.size))
 clear hb
 clear a0 a1 a2 a3 a4 hS hok hs1 HMb
 have a4 := (HL.out.2 4 _ rfl).1
 have hn0 : (1048576 : Nat) ≤ 1073741824 := by decide
 by_cases hg : s.size ≤ 1048576
 ·skip
  go_wp2_with fail
  refine (GapNew_any s 1048576 w3 hn0 hg).mono ?_
  rintro e w4 ⟨gb, g, r, fr, tv, rfl, hG, hgt, -, -, hb⟩
  have HG : Hid (Keeps3 w4 (.iface 30 (.pointer (some ⟨gb, 0, none⟩))) s) := Or.inr (Or.inr ⟨_, rfl, hasG_of (tabs_below HT.out hb) (by omega) ⟨g, r, fr, tv, hG, hgt⟩⟩)
  have HL := Lib.hid (HL.out.below hb)
  have HM := Lib.hid (HM.out.below hb)
  have HS := Lib.hid (HS.out.below hb)
  have HS2 := Lib.hid (HS2.out.below hb)
  have HT := Lib.hid (tabs_below HT.out hb)
  have HB := Lib.hid (HB.out.trans (hb.mono HB.out.size))
  clear hb
  clear hG hgt a4
  have a4 := (HL.out.2 4 _ rfl).1
  have b4 := (HM.out.2 4 _ rfl).1
  go_upto_if 54 with fail
  go_cut [15] (fun x wx => x = .string σ.s ∧ wx = w4)
  case first =>
   cases p with
   | none =>
    have e : Hid (σ.s = ⟨#[]⟩) := by show _ = _; rw [Hs1.out, if_pos rfl]
    go_wp2
    go_meet
    exact ⟨by rw [e.out], rfl⟩
   | some ad =>
    have e : Hid (σ.s = s) := by show _ = _; rw [Hs1.out, if_neg (by simp)]
    go_wp2
    go_meet
    exact ⟨by rw [e.out], rfl⟩
  case rest =>
   obtain ⟨rfl, rfl⟩ := hcut
   go_upto_if 58 with fail
   go_cut [16] (fun x wx => x = .string τ.s ∧ wx = wc)
   case first =>
    cases p2 with
    | none =>
     have e : Hid (τ.s = ⟨#[]⟩) := by show _ = _; rw [Hs2.out, if_pos rfl]
     go_wp2
     go_meet
     exact ⟨by rw [e.out], rfl⟩
    | some ad =>
     have e : Hid (τ.s = s2) := by show _ = _; rw [Hs2.out, if_neg (by simp)]
     go_wp2
     go_meet
     exact ⟨by rw [e.out], rfl⟩
   case rest =>
    obtain ⟨rfl, rfl⟩ := hcut
    have HK1 := Lib.hid (fun (W : World) (hb : Below wc.heap.size wc W) => (HS.out.below hb).keeps (tabs_below HT.out hb) Hok.out.small)
    have HK2 := Lib.hid (fun (W : World) (hb : Below wc.heap.size wc W) => (HS2.out.below hb).keeps (tabs_below HT.out hb) Hok2.out.small)
    have HK0 : Hid (∀ W : World, Keeps3 W .nilIface ⟨#[]⟩) := fun W => Or.inl ⟨rfl, rfl⟩
    have HBi := Lib.hid (Below.refl wc.heap.size wc)
    obtain ⟨d, hd⟩ : ∃ d, decide (σ.s = τ.s) = d := ⟨_, rfl⟩
    have Hd2 : Hid (decide (τ.s = σ.s) = d) := by show _ = _; rw [← hd]; exact decide_eq_decide.mpr eq_comm
    have Hd := Lib.hid hd
    have hq := (bytes_eq_dec σ.s τ.s).trans hd
    clear hd
    go_wp2_with fail
    refine (Same_any (HK1.out _ HBi.out) (HK2.out _ HBi.out)).mono ?_
    rw [Hd.out]
    rintro e w5 ⟨rfl, hb⟩
    have HBi := Lib.hid (HBi.out.trans (hb.mono HBi.out.size))
    clear hb
    go_wp2_with fail
    refine (Same_any (HK2.out _ HBi.out) (HK1.out _ HBi.out)).mono ?_
    rw [Hd2.out]
    rintro e w6 ⟨rfl, hb⟩
    have HBi := Lib.hid (HBi.out.trans (hb.mono HBi.out.size))
    clear hb
    go_wp2_with fail
    refine (Same_any (HK1.out _ HBi.out) (HK1.out _ HBi.out)).mono ?_
    rw [decide_eq_true rfl]
    rintro e w7 ⟨rfl, hb⟩
    have HBi := Lib.hid (HBi.out.trans (hb.mono HBi.out.size))
    clear hb
    go_wp2_with fail
    refine (Same_any (HK1.out _ HBi.out) (HK0.out _)).mono ?_
    obtain ⟨d1, hd1⟩ : ∃ d, decide (σ.s = ⟨#[]⟩) = d := ⟨_, rfl⟩
    rw [hd1]
    rintro e w8 ⟨rfl, hb⟩
    have HBi := Lib.hid (HBi.out.trans (hb.mono HBi.out.size))
    clear hb
    have hq1 := (bytes_nil_dec σ.s).trans hd1
    clear hd1
    go_wp2_with fail
    refine (Same_any (HK0.out _) (HK2.out _ HBi.out)).mono ?_
    obtain ⟨d2, hd2⟩ : ∃ d, decide (⟨#[]⟩ = τ.s) = d := ⟨_, rfl⟩
    rw [hd2]
    rintro e w9 ⟨rfl, hb⟩
    have HBi := Lib.hid (HBi.out.trans (hb.mono HBi.out.size))
    clear hb
    have hq2 := (bytes_nil_dec τ.s).trans ((decide_eq_decide.mpr eq_comm).trans hd2)
    clear hd2
    go_wp2_with fail
    refine (Same_any (HK0.out _) (HK0.out _)).mono ?_
    rw [decide_eq_true rfl]
    rintro e w10 ⟨rfl, hb⟩
    have HBi := Lib.hid (HBi.out.trans (hb.mono HBi.out.size))
    clear hb
    go_upto_region 15 with fail
    have HV1 := Lib.hid (HK1.out _ HBi.out)
    have HV2 := Lib.hid (HK2.out _ HBi.out)
    have HVG := Lib.hid (HG.out.below HBi.out)
    have HL2 := Lib.hid (HL.out.below HBi.out)
    obtain ⟨d3, hd3⟩ : ∃ d, decide (σ.s = s) = d := ⟨_, rfl⟩
    obtain ⟨d4, hd4⟩ : ∃ d, decide (s = τ.s) = d := ⟨_, rfl⟩
    have hq3 := (bytes_eq_dec σ.s s).trans hd3
    have hq4 := (bytes_eq_dec s τ.s).trans hd4
    have Hd3 := Lib.hid hd3
    have Hd4 := Lib.hid hd4
    clear hd3 hd4 hq hq1 hq2
    refine wp_held' mixed (VSt15 p p2 gb w.heap.size σ.s τ.s s d3 d4) (VSt15_mono _ _ _ _ _ _ _ _ _) (by kernel_rfl) [109, 110, 111, 112, 113, 114, 115, 116, 117, 118, 119, 120, 121, 122, 123, 124, 125, 126, 127, 128, 129, 130, 131, 132, 133, 134] (by kernel_rfl) (by kernel_rfl) ?_ ?_
    ·intro j hj
     have hj' : j < 26 := hj
     rcases (by omega : j = 0 ∨ j = 1 ∨ j = 2 ∨ j = 3 ∨ j = 4 ∨ j = 5 ∨ j = 6 ∨ j = 7 ∨ j = 8 ∨ j = 9 ∨ j = 10 ∨ j = 11 ∨ j = 12 ∨ j = 13 ∨ j = 14 ∨ j = 15 ∨ j = 16 ∨ j = 17 ∨ j = 18 ∨ j = 19 ∨ j = 20 ∨ j = 21 ∨ j = 22 ∨ j = 23 ∨ j = 24 ∨ j = 25) with rfl | rfl | rfl | rfl | rfl | rfl | rfl | rfl | rfl | rfl | rfl | rfl | rfl | rfl | rfl | rfl | rfl | rfl | rfl | rfl | rfl | rfl | rfl | rfl | rfl | rfl
     ·(refine owes_val (L := [(14, false)]) rfl rfl rfl (by kernel_rfl) ?_; intro a' w' hb' hfacts; obtain ⟨hf14, -⟩ := hfacts; replace hf14 : a'.tmps[14]?.getD undef = .int .i64 0 := hf14)
      have a4 := ((HL2.out.below hb').2 4 _ rfl).1
      (go_simp; first | exact ⟨_, rfl, Br _, rfl⟩ | exact ⟨_, rfl, Br _, trivial⟩ | exact ⟨_, rfl, Ba _ _, trivial⟩ | exact ⟨_, rfl, Br _, congrArg (Value.int _) (IntWalk.i64_in _ (by omega))⟩)
     ·(refine owes_val (L := [(109, true)]) rfl rfl rfl (by kernel_rfl) ?_; intro a' w' hb' hfacts; obtain ⟨hf109, -⟩ := hfacts; try simp only [VSt15] at hf109)
      have a4 := ((HL2.out.below hb').2 4 _ rfl).1
      (go_simp; first | exact ⟨_, rfl, Br _, rfl⟩ | exact ⟨_, rfl, Br _, trivial⟩ | exact ⟨_, rfl, Ba _ _, trivial⟩ | exact ⟨_, rfl, Br _, congrArg (Value.int _) (IntWalk.i64_in _ (by omega))⟩)
     ·(refine owes_val (L := [(110, true)]) rfl rfl rfl (by kernel_rfl) ?_; intro a' w' hb' hfacts; obtain ⟨hf110, -⟩ := hfacts; try simp only [VSt15] at hf110)
      have a4 := ((HL2.out.below hb').2 4 _ rfl).1
      (go_simp; first | exact ⟨_, rfl, Br _, rfl⟩ | exact ⟨_, rfl, Br _, trivial⟩ | exact ⟨_, rfl, Ba _ _, trivial⟩ | exact ⟨_, rfl, Br _, congrArg (Value.int _) (IntWalk.i64_in _ (by omega))⟩)
     ·(refine owes_if (L := [(7, false), (111, true)]) rfl rfl rfl rfl (by kernel_rfl) ?_; intro a' w' hb' hfacts; obtain ⟨hf7, hf111, -⟩ := hfacts; replace hf7 : a'.tmps[7]?.getD undef = .pointer p := hf7; try simp only [VSt15] at hf111)
      have a4 := ((HL2.out.below hb').2 4 _ rfl).1
      first | (go_simp; first | exact ⟨_, rfl, Br _, rfl⟩ | exact ⟨_, rfl, Br _, trivial⟩ | exact ⟨_, rfl, Br _⟩ | exact ⟨_, rfl, Ba _ _, trivial⟩) | (apply Exists.intro; apply And.intro; assumption; apply And.intro; (intro hc; first | exact absurd hc (by simp [undef]) | (go_simp; first | exact ⟨_, rfl, Br _, rfl⟩ | exact ⟨_, rfl, Br _, trivial⟩ | exact ⟨_, rfl, Br _⟩ | exact ⟨_, rfl, Ba _ _, trivial⟩)); (intro hc; first | exact absurd rfl hc | exact trivial | exact rfl)) | (apply Exists.intro; apply And.intro; assumption; intro hc; first | exact absurd hc (by simp [undef]) | (go_simp; first | exact ⟨_, rfl, Br _, rfl⟩ | exact ⟨_, rfl, Br _, trivial⟩ | exact ⟨_, rfl, Br _⟩ | exact ⟨_, rfl, Ba _ _, trivial⟩))
     ·(refine owes_if (L := [(112, true), (111, true)]) rfl rfl rfl rfl (by kernel_rfl) ?_; intro a' w' hb' hfacts; obtain ⟨hf112, hf111, -⟩ := hfacts; try simp only [VSt15] at hf112; try simp only [VSt15] at hf111)
      have a4 := ((HL2.out.below hb').2 4 _ rfl).1
      first | (go_simp; first | exact ⟨_, rfl, Br _, rfl⟩ | exact ⟨_, rfl, Br _, trivial⟩ | exact ⟨_, rfl, Br _⟩ | exact ⟨_, rfl, Ba _ _, trivial⟩) | (apply Exists.intro; apply And.intro; assumption; apply And.intro; (intro hc; first | exact absurd hc (by simp [undef]) | (go_simp; first | exact ⟨_, rfl, Br _, rfl⟩ | exact ⟨_, rfl, Br _, trivial⟩ | exact ⟨_, rfl, Br _⟩ | exact ⟨_, rfl, Ba _ _, trivial⟩)); (intro hc; first | exact absurd rfl hc | exact trivial | exact rfl)) | (apply Exists.intro; apply And.intro; assumption; intro hc; first | exact absurd hc (by simp [undef]) | (go_simp; first | exact ⟨_, rfl, Br _, rfl⟩ | exact ⟨_, rfl, Br _, trivial⟩ | exact ⟨_, rfl, Br _⟩ | exact ⟨_, rfl, Ba _ _, trivial⟩))
     ·(refine owes_if (L := [(13, false), (111, true)]) rfl rfl rfl rfl (by kernel_rfl) ?_; intro a' w' hb' hfacts; obtain ⟨hf13, hf111, -⟩ := hfacts; replace hf13 : a'.tmps[13]?.getD undef = .pointer (some ⟨gb, 0, none⟩) := hf13; try simp only [VSt15] at hf111)
      have a4 := ((HL2.out.below hb').2 4 _ rfl).1
      first | (go_simp; first | exact ⟨_, rfl, Br _, rfl⟩ | exact ⟨_, rfl, Br _, trivial⟩ | exact ⟨_, rfl, Br _⟩ | exact ⟨_, rfl, Ba _ _, trivial⟩) | (apply Exists.intro; apply And.intro; assumption; apply And.intro; (intro hc; first | exact absurd hc (by simp [undef]) | (go_simp; first | exact ⟨_, rfl, Br _, rfl⟩ | exact ⟨_, rfl, Br _, trivial⟩ | exact ⟨_, rfl, Br _⟩ | exact ⟨_, rfl, Ba _ _, trivial⟩)); (intro hc; first | exact absurd rfl hc | exact trivial | exact rfl)) | (apply Exists.intro; apply And.intro; assumption; intro hc; first | exact absurd hc (by simp [undef]) | (go_simp; first | exact ⟨_, rfl, Br _, rfl⟩ | exact ⟨_, rfl, Br _, trivial⟩ | exact ⟨_, rfl, Br _⟩ | exact ⟨_, rfl, Ba _ _, trivial⟩))
     ·(refine owes_if (L := [(114, true), (111, true)]) rfl rfl rfl rfl (by kernel_rfl) ?_; intro a' w' hb' hfacts; obtain ⟨hf114, hf111, -⟩ := hfacts; try simp only [VSt15] at hf114; try simp only [VSt15] at hf111)
      have a4 := ((HL2.out.below hb').2 4 _ rfl).1
      first | (go_simp; first | exact ⟨_, rfl, Br _, rfl⟩ | exact ⟨_, rfl, Br _, trivial⟩ | exact ⟨_, rfl, Br _⟩ | exact ⟨_, rfl, Ba _ _, trivial⟩) | (apply Exists.intro; apply And.intro; assumption; apply And.intro; (intro hc; first | exact absurd hc (by simp [undef]) | (go_simp; first | exact ⟨_, rfl, Br _, rfl⟩ | exact ⟨_, rfl, Br _, trivial⟩ | exact ⟨_, rfl, Br _⟩ | exact ⟨_, rfl, Ba _ _, trivial⟩)); (intro hc; first | exact absurd rfl hc | exact trivial | exact rfl)) | (apply Exists.intro; apply And.intro; assumption; intro hc; first | exact absurd hc (by simp [undef]) | (go_simp; first | exact ⟨_, rfl, Br _, rfl⟩ | exact ⟨_, rfl, Br _, trivial⟩ | exact ⟨_, rfl, Br _⟩ | exact ⟨_, rfl, Ba _ _, trivial⟩))
     ·(refine owes_if (L := [(113, true), (115, true), (111, true)]) rfl rfl rfl rfl (by kernel_rfl) ?_; intro a' w' hb' hfacts; obtain ⟨hf113, hf115, hf111, -⟩ := hfacts; try simp only [VSt15] at hf113; try simp only [VSt15] at hf115; try simp only [VSt15] at hf111)
      go_simp
      refine (Same_any (HV1.out.below hb') (HVG.out.below hb')).mono ?_
      rw [Hd3.out]
      rintro e w3 ⟨rfl, hb3⟩
      exact ⟨_, rfl, hb3, rfl⟩
     ·(refine owes_if (L := [(15, false), (111, true)]) rfl rfl rfl rfl (by kernel_rfl) ?_; intro a' w' hb' hfacts; obtain ⟨hf15, hf111, -⟩ := hfacts; replace hf15 : a'.tmps[15]?.getD undef = .string σ.s := hf15; try simp only [VSt15] at hf111)
      have a4 := ((HL2.out.below hb').2 4 _ rfl).1
      first | (go_simp; first | exact ⟨_, rfl, Br _, rfl⟩ | exact ⟨_, rfl, Br _, trivial⟩ | exact ⟨_, rfl, Br _⟩ | exact ⟨_, rfl, Ba _ _, trivial⟩) | (apply Exists.intro; apply And.intro; assumption; apply And.intro; (intro hc; first | exact absurd hc (by simp [undef]) | (go_simp; first | exact ⟨_, rfl, Br _, rfl⟩ | exact ⟨_, rfl, Br _, trivial⟩ | exact ⟨_, rfl, Br _⟩ | exact ⟨_, rfl, Ba _ _, trivial⟩)); (intro hc; first | exact absurd rfl hc | exact trivial | exact rfl)) | (apply Exists.intro; apply And.intro; assumption; intro hc; first | exact absurd hc (by simp [undef]) | (go_simp; first | exact ⟨_, rfl, Br _, rfl⟩ | exact ⟨_, rfl, Br _, trivial⟩ | exact ⟨_, rfl, Br _⟩ | exact ⟨_, rfl, Ba _ _, trivial⟩))
     ·(refine owes_if (L := [(3, false), (111, true)]) rfl rfl rfl rfl (by kernel_rfl) ?_; intro a' w' hb' hfacts; obtain ⟨hf3, hf111, -⟩ := hfacts; replace hf3 : a'.tmps[3]?.getD undef = .pointer (some ⟨w.heap.size, 0, none⟩) := hf3; try simp only [VSt15] at hf111)
      have a4 := ((HL2.out.below hb').2 4 _ rfl).1
      first | (go_simp; first | exact ⟨_, rfl, Br _, rfl⟩ | exact ⟨_, rfl, Br _, trivial⟩ | exact ⟨_, rfl, Br _⟩ | exact ⟨_, rfl, Ba _ _, trivial⟩) | (apply Exists.intro; apply And.intro; assumption; apply And.intro; (intro hc; first | exact absurd hc (by simp [undef]) | (go_simp; first | exact ⟨_, rfl, Br _, rfl⟩ | exact ⟨_, rfl, Br _, trivial⟩ | exact ⟨_, rfl, Br _⟩ | exact ⟨_, rfl, Ba _ _, trivial⟩)); (intro hc; first | exact absurd rfl hc | exact trivial | exact rfl)) | (apply Exists.intro; apply And.intro; assumption; intro hc; first | exact absurd hc (by simp [undef]) | (go_simp; first | exact ⟨_, rfl, Br _, rfl⟩ | exact ⟨_, rfl, Br _, trivial⟩ | exact ⟨_, rfl, Br _⟩ | exact ⟨_, rfl, Ba _ _, trivial⟩))
     ·(refine owes_if (L := [(118, true), (111, true)]) rfl rfl rfl rfl (by kernel_rfl) ?_; intro a' w' hb' hfacts; obtain ⟨hf118, hf111, -⟩ := hfacts; try simp only [VSt15] at hf118; try simp only [VSt15] at hf111)
      have a4 := ((HL2.out.below hb').2 4 _ rfl).1
      first | (go_simp; first | exact ⟨_, rfl, Br _, rfl⟩ | exact ⟨_, rfl, Br _, trivial⟩ | exact ⟨_, rfl, Br _⟩ | exact ⟨_, rfl, Ba _ _, trivial⟩) | (apply Exists.intro; apply And.intro; assumption; apply And.intro; (intro hc; first | exact absurd hc (by simp [undef]) | (go_simp; first | exact ⟨_, rfl, Br _, rfl⟩ | exact ⟨_, rfl, Br _, trivial⟩ | exact ⟨_, rfl, Br _⟩ | exact ⟨_, rfl, Ba _ _, trivial⟩)); (intro hc; first | exact absurd rfl hc | exact trivial | exact rfl)) | (apply Exists.intro; apply And.intro; assumption; intro hc; first | exact absurd hc (by simp [undef]) | (go_simp; first | exact ⟨_, rfl, Br _, rfl⟩ | exact ⟨_, rfl, Br _, trivial⟩ | exact ⟨_, rfl, Br _⟩ | exact ⟨_, rfl, Ba _ _, trivial⟩))
     ·(refine owes_if (L := [(117, true), (119, true), (111, true)]) rfl rfl rfl rfl (by kernel_rfl) ?_; intro a' w' hb' hfacts; obtain ⟨hf117, hf119, hf111, -⟩ := hfacts; try simp only [VSt15] at hf117; try simp only [VSt15] at hf119; try simp only [VSt15] at hf111)
      have a4 := ((HL2.out.below hb').2 4 _ rfl).1
      first | (go_simp; first | exact ⟨_, rfl, Br _, rfl⟩ | exact ⟨_, rfl, Br _, trivial⟩ | exact ⟨_, rfl, Br _⟩ | exact ⟨_, rfl, Ba _ _, trivial⟩) | (apply Exists.intro; apply And.intro; assumption; apply And.intro; (intro hc; first | exact absurd hc (by simp [undef]) | (go_simp; first | exact ⟨_, rfl, Br _, rfl⟩ | exact ⟨_, rfl, Br _, trivial⟩ | exact ⟨_, rfl, Br _⟩ | exact ⟨_, rfl, Ba _ _, trivial⟩)); (intro hc; first | exact absurd rfl hc | exact trivial | exact rfl)) | (apply Exists.intro; apply And.intro; assumption; intro hc; first | exact absurd hc (by simp [undef]) | (go_simp; first | exact ⟨_, rfl, Br _, rfl⟩ | exact ⟨_, rfl, Br _, trivial⟩ | exact ⟨_, rfl, Br _⟩ | exact ⟨_, rfl, Ba _ _, trivial⟩))
     ·(refine owes_if (L := [(116, true), (120, true), (111, true)]) rfl rfl rfl rfl (by kernel_rfl) ?_; intro a' w' hb' hfacts; obtain ⟨hf116, hf120, hf111, -⟩ := hfacts; try simp only [VSt15] at hf116; try simp only [VSt15] at hf120; try simp only [VSt15] at hf111)
      have a4 := ((HL2.out.below hb').2 4 _ rfl).1
      first | (go_simp; first | exact ⟨_, rfl, Br _, rfl⟩ | exact ⟨_, rfl, Br _, trivial⟩ | exact ⟨_, rfl, Br _⟩ | exact ⟨_, rfl, Ba _ _, trivial⟩) | (apply Exists.intro; apply And.intro; assumption; apply And.intro; (intro hc; first | exact absurd hc (by simp [undef]) | (go_simp; first | exact ⟨_, rfl, Br _, rfl⟩ | exact ⟨_, rfl, Br _, trivial⟩ | exact ⟨_, rfl, Br _⟩ | exact ⟨_, rfl, Ba _ _, trivial⟩)); (intro hc; first | exact absurd rfl hc | exact trivial | exact rfl)) | (apply Exists.intro; apply And.intro; assumption; intro hc; first | exact absurd hc (by simp [undef]) | (go_simp; first | exact ⟨_, rfl, Br _, rfl⟩ | exact ⟨_, rfl, Br _, trivial⟩ | exact ⟨_, rfl, Br _⟩ | exact ⟨_, rfl, Ba _ _, trivial⟩))
     ·(refine owes_if (L := [(121, true), (111, true)]) rfl rfl rfl rfl (by kernel_rfl) ?_; intro a' w' hb' hfacts; obtain ⟨hf121, hf111, -⟩ := hfacts; try simp only [VSt15] at hf121; try simp only [VSt15] at hf111)
      have a4 := ((HL2.out.below hb').2 4 _ rfl).1
      first | (go_simp; first | exact ⟨_, rfl, Br _, rfl⟩ | exact ⟨_, rfl, Br _, trivial⟩ | exact ⟨_, rfl, Br _⟩ | exact ⟨_, rfl, Ba _ _, trivial⟩) | (apply Exists.intro; apply And.intro; assumption; apply And.intro; (intro hc; first | exact absurd hc (by simp [undef]) | (go_simp; first | exact ⟨_, rfl, Br _, rfl⟩ | exact ⟨_, rfl, Br _, trivial⟩ | exact ⟨_, rfl, Br _⟩ | exact ⟨_, rfl, Ba _ _, trivial⟩)); (intro hc; first | exact absurd rfl hc | exact trivial | exact rfl)) | (apply Exists.intro; apply And.intro; assumption; intro hc; first | exact absurd hc (by simp [undef]) | (go_simp; first | exact ⟨_, rfl, Br _, rfl⟩ | exact ⟨_, rfl, Br _, trivial⟩ | exact ⟨_, rfl, Br _⟩ | exact ⟨_, rfl, Ba _ _, trivial⟩))
     ·(refine owes_if (L := [(13, false), (122, true)]) rfl rfl rfl rfl (by kernel_rfl) ?_; intro a' w' hb' hfacts; obtain ⟨hf13, hf122, -⟩ := hfacts; replace hf13 : a'.tmps[13]?.getD undef = .pointer (some ⟨gb, 0, none⟩) := hf13; try simp only [VSt15] at hf122)
      have a4 := ((HL2.out.below hb').2 4 _ rfl).1
      first | (go_simp; first | exact ⟨_, rfl, Br _, rfl⟩ | exact ⟨_, rfl, Br _, trivial⟩ | exact ⟨_, rfl, Br _⟩ | exact ⟨_, rfl, Ba _ _, trivial⟩) | (apply Exists.intro; apply And.intro; assumption; apply And.intro; (intro hc; first | exact absurd hc (by simp [undef]) | (go_simp; first | exact ⟨_, rfl, Br _, rfl⟩ | exact ⟨_, rfl, Br _, trivial⟩ | exact ⟨_, rfl, Br _⟩ | exact ⟨_, rfl, Ba _ _, trivial⟩)); (intro hc; first | exact absurd rfl hc | exact trivial | exact rfl)) | (apply Exists.intro; apply And.intro; assumption; intro hc; first | exact absurd hc (by simp [undef]) | (go_simp; first | exact ⟨_, rfl, Br _, rfl⟩ | exact ⟨_, rfl, Br _, trivial⟩ | exact ⟨_, rfl, Br _⟩ | exact ⟨_, rfl, Ba _ _, trivial⟩))
     ·(refine owes_if (L := [(123, true), (122, true)]) rfl rfl rfl rfl (by kernel_rfl) ?_; intro a' w' hb' hfacts; obtain ⟨hf123, hf122, -⟩ := hfacts; try simp only [VSt15] at hf123; try simp only [VSt15] at hf122)
      have a4 := ((HL2.out.below hb').2 4 _ rfl).1
      first | (go_simp; first | exact ⟨_, rfl, Br _, rfl⟩ | exact ⟨_, rfl, Br _, trivial⟩ | exact ⟨_, rfl, Br _⟩ | exact ⟨_, rfl, Ba _ _, trivial⟩) | (apply Exists.intro; apply And.intro; assumption; apply And.intro; (intro hc; first | exact absurd hc (by simp [undef]) | (go_simp; first | exact ⟨_, rfl, Br _, rfl⟩ | exact ⟨_, rfl, Br _, trivial⟩ | exact ⟨_, rfl, Br _⟩ | exact ⟨_, rfl, Ba _ _, trivial⟩)); (intro hc; first | exact absurd rfl hc | exact trivial | exact rfl)) | (apply Exists.intro; apply And.intro; assumption; intro hc; first | exact absurd hc (by simp [undef]) | (go_simp; first | exact ⟨_, rfl, Br _, rfl⟩ | exact ⟨_, rfl, Br _, trivial⟩ | exact ⟨_, rfl, Br _⟩ | exact ⟨_, rfl, Ba _ _, trivial⟩))
     ·(refine owes_if (L := [(10, false), (122, true)]) rfl rfl rfl rfl (by kernel_rfl) ?_; intro a' w' hb' hfacts; obtain ⟨hf10, hf122, -⟩ := hfacts; replace hf10 : a'.tmps[10]?.getD undef = .pointer p2 := hf10; try simp only [VSt15] at hf122)
      have a4 := ((HL2.out.below hb').2 4 _ rfl).1
      first | (go_simp; first | exact ⟨_, rfl, Br _, rfl⟩ | exact ⟨_, rfl, Br _, trivial⟩ | exact ⟨_, rfl, Br _⟩ | exact ⟨_, rfl, Ba _ _, trivial⟩) | (apply Exists.intro; apply And.intro; assumption; apply And.intro; (intro hc; first | exact absurd hc (by simp [undef]) | (go_simp; first | exact ⟨_, rfl, Br _, rfl⟩ | exact ⟨_, rfl, Br _, trivial⟩ | exact ⟨_, rfl, Br _⟩ | exact ⟨_, rfl, Ba _ _, trivial⟩)); (intro hc; first | exact absurd rfl hc | exact trivial | exact rfl)) | (apply Exists.intro; apply And.intro; assumption; intro hc; first | exact absurd hc (by simp [undef]) | (go_simp; first | exact ⟨_, rfl, Br _, rfl⟩ | exact ⟨_, rfl, Br _, trivial⟩ | exact ⟨_, rfl, Br _⟩ | exact ⟨_, rfl, Ba _ _, trivial⟩))
     ·(refine owes_if (L := [(125, true), (122, true)]) rfl rfl rfl rfl (by kernel_rfl) ?_; intro a' w' hb' hfacts; obtain ⟨hf125, hf122, -⟩ := hfacts; try simp only [VSt15] at hf125; try simp only [VSt15] at hf122)
      have a4 := ((HL2.out.below hb').2 4 _ rfl).1
      first | (go_simp; first | exact ⟨_, rfl, Br _, rfl⟩ | exact ⟨_, rfl, Br _, trivial⟩ | exact ⟨_, rfl, Br _⟩ | exact ⟨_, rfl, Ba _ _, trivial⟩) | (apply Exists.intro; apply And.intro; assumption; apply And.intro; (intro hc; first | exact absurd hc (by simp [undef]) | (go_simp; first | exact ⟨_, rfl, Br _, rfl⟩ | exact ⟨_, rfl, Br _, trivial⟩ | exact ⟨_, rfl, Br _⟩ | exact ⟨_, rfl, Ba _ _, trivial⟩)); (intro hc; first | exact absurd rfl hc | exact trivial | exact rfl)) | (apply Exists.intro; apply And.intro; assumption; intro hc; first | exact absurd hc (by simp [undef]) | (go_simp; first | exact ⟨_, rfl, Br _, rfl⟩ | exact ⟨_, rfl, Br _, trivial⟩ | exact ⟨_, rfl, Br _⟩ | exact ⟨_, rfl, Ba _ _, trivial⟩))
     ·(refine owes_if (L := [(124, true), (126, true), (122, true)]) rfl rfl rfl rfl (by kernel_rfl) ?_; intro a' w' hb' hfacts; obtain ⟨hf124, hf126, hf122, -⟩ := hfacts; try simp only [VSt15] at hf124; try simp only [VSt15] at hf126; try simp only [VSt15] at hf122)
      go_simp
      refine (Same_any (HVG.out.below hb') (HV2.out.below hb')).mono ?_
      rw [Hd4.out]
      rintro e w3 ⟨rfl, hb3⟩
      exact ⟨_, rfl, hb3, rfl⟩
     ·(refine owes_if (L := [(3, false), (122, true)]) rfl rfl rfl rfl (by kernel_rfl) ?_; intro a' w' hb' hfacts; obtain ⟨hf3, hf122, -⟩ := hfacts; replace hf3 : a'.tmps[3]?.getD undef = .pointer (some ⟨w.heap.size, 0, none⟩) := hf3; try simp only [VSt15] at hf122)
      have a4 := ((HL2.out.below hb').2 4 _ rfl).1
      first | (go_simp; first | exact ⟨_, rfl, Br _, rfl⟩ | exact ⟨_, rfl, Br _, trivial⟩ | exact ⟨_, rfl, Br _⟩ | exact ⟨_, rfl, Ba _ _, trivial⟩) | (apply Exists.intro; apply And.intro; assumption; apply And.intro; (intro hc; first | exact absurd hc (by simp [undef]) | (go_simp; first | exact ⟨_, rfl, Br _, rfl⟩ | exact ⟨_, rfl, Br _, trivial⟩ | exact ⟨_, rfl, Br _⟩ | exact ⟨_, rfl, Ba _ _, trivial⟩)); (intro hc; first | exact absurd rfl hc | exact trivial | exact rfl)) | (apply Exists.intro; apply And.intro; assumption; intro hc; first | exact absurd hc (by simp [undef]) | (go_simp; first | exact ⟨_, rfl, Br _, rfl⟩ | exact ⟨_, rfl, Br _, trivial⟩ | exact ⟨_, rfl, Br _⟩ | exact ⟨_, rfl, Ba _ _, trivial⟩))
     ·(refine owes_if (L := [(128, true), (122, true)]) rfl rfl rfl rfl (by kernel_rfl) ?_; intro a' w' hb' hfacts; obtain ⟨hf128, hf122, -⟩ := hfacts; try simp only [VSt15] at hf128; try simp only [VSt15] at hf122)
      have a4 := ((HL2.out.below hb').2 4 _ rfl).1
      first | (go_simp; first | exact ⟨_, rfl, Br _, rfl⟩ | exact ⟨_, rfl, Br _, trivial⟩ | exact ⟨_, rfl, Br _⟩ | exact ⟨_, rfl, Ba _ _, trivial⟩) | (apply Exists.intro; apply And.intro; assumption; apply And.intro; (intro hc; first | exact absurd hc (by simp [undef]) | (go_simp; first | exact ⟨_, rfl, Br _, rfl⟩ | exact ⟨_, rfl, Br _, trivial⟩ | exact ⟨_, rfl, Br _⟩ | exact ⟨_, rfl, Ba _ _, trivial⟩)); (intro hc; first | exact absurd rfl hc | exact trivial | exact rfl)) | (apply Exists.intro; apply And.intro; assumption; intro hc; first | exact absurd hc (by simp [undef]) | (go_simp; first | exact ⟨_, rfl, Br _, rfl⟩ | exact ⟨_, rfl, Br _, trivial⟩ | exact ⟨_, rfl, Br _⟩ | exact ⟨_, rfl, Ba _ _, trivial⟩))
     ·(refine owes_if (L := [(16, false), (122, true)]) rfl rfl rfl rfl (by kernel_rfl) ?_; intro a' w' hb' hfacts; obtain ⟨hf16, hf122, -⟩ := hfacts; replace hf16 : a'.tmps[16]?.getD undef = .string τ.s := hf16; try simp only [VSt15] at hf122)
      have a4 := ((HL2.out.below hb').2 4 _ rfl).1
      first | (go_simp; first | exact ⟨_, rfl, Br _, rfl⟩ | exact ⟨_, rfl, Br _, trivial⟩ | exact ⟨_, rfl, Br _⟩ | exact ⟨_, rfl, Ba _ _, trivial⟩) | (apply Exists.intro; apply And.intro; assumption; apply And.intro; (intro hc; first | exact absurd hc (by simp [undef]) | (go_simp; first | exact ⟨_, rfl, Br _, rfl⟩ | exact ⟨_, rfl, Br _, trivial⟩ | exact ⟨_, rfl, Br _⟩ | exact ⟨_, rfl, Ba _ _, trivial⟩)); (intro hc; first | exact absurd rfl hc | exact trivial | exact rfl)) | (apply Exists.intro; apply And.intro; assumption; intro hc; first | exact absurd hc (by simp [undef]) | (go_simp; first | exact ⟨_, rfl, Br _, rfl⟩ | exact ⟨_, rfl, Br _, trivial⟩ | exact ⟨_, rfl, Br _⟩ | exact ⟨_, rfl, Ba _ _, trivial⟩))
     ·(refine owes_if (L := [(129, true), (130, true), (122, true)]) rfl rfl rfl rfl (by kernel_rfl) ?_; intro a' w' hb' hfacts; obtain ⟨hf129, hf130, hf122, -⟩ := hfacts; try simp only [VSt15] at hf129; try simp only [VSt15] at hf130; try simp only [VSt15] at hf122)
      have a4 := ((HL2.out.below hb').2 4 _ rfl).1
      first | (go_simp; first | exact ⟨_, rfl, Br _, rfl⟩ | exact ⟨_, rfl, Br _, trivial⟩ | exact ⟨_, rfl, Br _⟩ | exact ⟨_, rfl, Ba _ _, trivial⟩) | (apply Exists.intro; apply And.intro; assumption; apply And.intro; (intro hc; first | exact absurd hc (by simp [undef]) | (go_simp; first | exact ⟨_, rfl, Br _, rfl⟩ | exact ⟨_, rfl, Br _, trivial⟩ | exact ⟨_, rfl, Br _⟩ | exact ⟨_, rfl, Ba _ _, trivial⟩)); (intro hc; first | exact absurd rfl hc | exact trivial | exact rfl)) | (apply Exists.intro; apply And.intro; assumption; intro hc; first | exact absurd hc (by simp [undef]) | (go_simp; first | exact ⟨_, rfl, Br _, rfl⟩ | exact ⟨_, rfl, Br _, trivial⟩ | exact ⟨_, rfl, Br _⟩ | exact ⟨_, rfl, Ba _ _, trivial⟩))
     ·(refine owes_if (L := [(127, true), (131, true), (122, true)]) rfl rfl rfl rfl (by kernel_rfl) ?_; intro a' w' hb' hfacts; obtain ⟨hf127, hf131, hf122, -⟩ := hfacts; try simp only [VSt15] at hf127; try simp only [VSt15] at hf131; try simp only [VSt15] at hf122)
      have a4 := ((HL2.out.below hb').2 4 _ rfl).1
      first | (go_simp; first | exact ⟨_, rfl, Br _, rfl⟩ | exact ⟨_, rfl, Br _, trivial⟩ | exact ⟨_, rfl, Br _⟩ | exact ⟨_, rfl, Ba _ _, trivial⟩) | (apply Exists.intro; apply And.intro; assumption; apply And.intro; (intro hc; first | exact absurd hc (by simp [undef]) | (go_simp; first | exact ⟨_, rfl, Br _, rfl⟩ | exact ⟨_, rfl, Br _, trivial⟩ | exact ⟨_, rfl, Br _⟩ | exact ⟨_, rfl, Ba _ _, trivial⟩)); (intro hc; first | exact absurd rfl hc | exact trivial | exact rfl)) | (apply Exists.intro; apply And.intro; assumption; intro hc; first | exact absurd hc (by simp [undef]) | (go_simp; first | exact ⟨_, rfl, Br _, rfl⟩ | exact ⟨_, rfl, Br _, trivial⟩ | exact ⟨_, rfl, Br _⟩ | exact ⟨_, rfl, Ba _ _, trivial⟩))
     ·(refine owes_if (L := [(122, true), (132, true), (111, true)]) rfl rfl rfl rfl (by kernel_rfl) ?_; intro a' w' hb' hfacts; obtain ⟨hf122, hf132, hf111, -⟩ := hfacts; try simp only [VSt15] at hf122; try simp only [VSt15] at hf132; try simp only [VSt15] at hf111)
      have a4 := ((HL2.out.below hb').2 4 _ rfl).1
      first | (go_simp; first | exact ⟨_, rfl, Br _, rfl⟩ | exact ⟨_, rfl, Br _, trivial⟩ | exact ⟨_, rfl, Br _⟩ | exact ⟨_, rfl, Ba _ _, trivial⟩) | (apply Exists.intro; apply And.intro; assumption; apply And.intro; (intro hc; first | exact absurd hc (by simp [undef]) | (go_simp; first | exact ⟨_, rfl, Br _, rfl⟩ | exact ⟨_, rfl, Br _, trivial⟩ | exact ⟨_, rfl, Br _⟩ | exact ⟨_, rfl, Ba _ _, trivial⟩)); (intro hc; first | exact absurd rfl hc | exact trivial | exact rfl)) | (apply Exists.intro; apply And.intro; assumption; intro hc; first | exact absurd hc (by simp [undef]) | (go_simp; first | exact ⟨_, rfl, Br _, rfl⟩ | exact ⟨_, rfl, Br _, trivial⟩ | exact ⟨_, rfl, Br _⟩ | exact ⟨_, rfl, Ba _ _, trivial⟩))
     ·(refine owes_val (L := [(111, true), (133, true)]) rfl rfl rfl (by kernel_rfl) ?_; intro a' w' hb' hfacts; obtain ⟨hf111, hf133, -⟩ := hfacts; try simp only [VSt15] at hf111; try simp only [VSt15] at hf133)
      have a4 := ((HL2.out.below hb').2 4 _ rfl).1
      (go_simp; first | exact ⟨_, rfl, Br _, rfl⟩ | exact ⟨_, rfl, Br _, trivial⟩ | exact ⟨_, rfl, Ba _ _, trivial⟩ | exact ⟨_, rfl, Br _, congrArg (Value.int _) (IntWalk.i64_in _ (by omega))⟩)
    ·intro f W9 hf hb
     have f134 : f 134 = .bool false := hf 134 (by decide)
     have HBi := Lib.hid (HBi.out.trans (hb.mono HBi.out.size))
     clear hf hb a4 b4
     simp only [putAll, put_lit, List.map_cons, List.map_nil, List.set_cons_succ, List.set_cons_zero]
     simp only [f134]
     cases p with
     | none =>
      go_wp2
      go_ret
      exact ⟨rfl, HB.out.trans (HBi.out.mono HB.out.size)⟩
     | some ad =>
      cases em with
      | false =>
       go_wp2
       go_ret
       exact ⟨rfl, HB.out.trans (HBi.out.mono HB.out.size)⟩
      | true =>
       have hT9 := tabs_below HT.out HBi.out
       have hR := StReset_sp hT9 (HN.out.sub (fun j hj => Nat.le_trans hszA hj)) (HS.out.below HBi.out) Hok.out ⟨#[]⟩
       have HR := Lib.hid hR
       rw [reset_nil_err] at HR
       clear hR hT9
       go_wp2_with fail
       refine HR.out.mono ?_
       rintro e w21 ⟨rfl, hS, hM⟩
       have HBw := Lib.hid (HB.out.trans (HBi.out.mono HB.out.size))
       have HMw := Lib.hid ((Mv.of_below (S := fun j => w.heap.size ≤ j) HBw.out).trans hM (fun j _ hj => Nat.le_trans hszA hj))
       have HK3 := Lib.hid (hS.keeps (tabs_mv (tabs_below HT.out HBi.out) (HN.out.sub (fun j hj => Nat.le_trans hszA hj)) hM) (by rw [reset_nil_s]; exact Nat.zero_le _))
       rw [reset_nil_s] at HK3
       clear hS hM HR
       go_wp2_with fail
       refine (Same_any HK3.out (HK0.out _)).mono ?_
       rw [decide_eq_true rfl]
       rintro e w22 ⟨rfl, hb⟩
       have HMw := Lib.hid (HMw.out.then_below hb)
       clear hb
       go_wp2
       go_ret
       exact ⟨rfl, HMw.out.1.below_le (Nat.le_refl _) (fun _ h => h)⟩
 ·replace hg : 1048576 < s.size := by omega
  have hG2 := GapNew_full s 1048576 w3 hn0 hg
  have hg1 : (1048576 : Int) < (s.size : Int) := by omega
  go_wp2_with fail
  refine hG2.mono ?_
  rintro e w4 ⟨rfl, rfl⟩
  clear hG2
  have b4 := (HM.out.2 4 _ rfl).1
  go_upto_if 54 with fail
  go_cut [15] (fun x wx => x = .string σ.s ∧ wx = w4)
  case first =>
   cases p with
   | none =>
    have e : Hid (σ.s = ⟨#[]⟩) := by show _ = _; rw [Hs1.out, if_pos rfl]
    go_wp2
    go_meet
    exact ⟨by rw [e.out], rfl⟩
   | some ad =>
    have e : Hid (σ.s = s) := by show _ = _; rw [Hs1.out, if_neg (by simp)]
    go_wp2
    go_meet
    exact ⟨by rw [e.out], rfl⟩
  case rest =>
   obtain ⟨rfl, rfl⟩ := hcut
   go_upto_if 58 with fail
   go_cut [16] (fun x wx => x = .string τ.s ∧ wx = wc)
   case first =>
    cases p2 with
    | none =>
     have e : Hid (τ.s = ⟨#[]⟩) := by show _ = _; rw [Hs2.out, if_pos rfl]
     go_wp2
     go_meet
     exact ⟨by rw [e.out], rfl⟩
    | some ad =>
     have e : Hid (τ.s = s2) := by show _ = _; rw [Hs2.out, if_neg (by simp)]
     go_wp2
     go_meet
     exact ⟨by rw [e.out], rfl⟩
   case rest =>
    obtain ⟨rfl, rfl⟩ := hcut
    have HK1 := Lib.hid (fun (W : World) (hb : Below wc.heap.size wc W) => (HS.out.below hb).keeps (tabs_below HT.out hb) Hok.out.small)
    have HK2 := Lib.hid (fun (W : World) (hb : Below wc.heap.size wc W) => (HS2.out.below hb).keeps (tabs_below HT.out hb) Hok2.out.small)
    have HK0 : Hid (∀ W : World, Keeps3 W .nilIface ⟨#[]⟩) := fun W => Or.inl ⟨rfl, rfl⟩
    have HBi := Lib.hid (Below.refl wc.heap.size wc)
    obtain ⟨d, hd⟩ : ∃ d, decide (σ.s = τ.s) = d := ⟨_, rfl⟩
    have Hd2 : Hid (decide (τ.s = σ.s) = d) := by show _ = _; rw [← hd]; exact decide_eq_decide.mpr eq_comm
    have Hd := Lib.hid hd
    have hq := (bytes_eq_dec σ.s τ.s).trans hd
    clear hd
    go_wp2_with fail
    refine (Same_any (HK1.out _ HBi.out) (HK2.out _ HBi.out)).mono ?_
    rw [Hd.out]
    rintro e w5 ⟨rfl, hb⟩
    have HBi := Lib.hid (HBi.out.trans (hb.mono HBi.out.size))
    clear hb
    go_wp2_with fail
    refine (Same_any (HK2.out _ HBi.out) (HK1.out _ HBi.out)).mono ?_
    rw [Hd2.out]
    rintro e w6 ⟨rfl, hb⟩
    have HBi := Lib.hid (HBi.out.trans (hb.mono HBi.out.size))
    clear hb
    go_wp2_with fail
    refine (Same_any (HK1.out _ HBi.out) (HK1.out _ HBi.out)).mono ?_
    rw [decide_eq_true rfl]
    rintro e w7 ⟨rfl, hb⟩
    have HBi := Lib.hid (HBi.out.trans (hb.mono HBi.out.size))
    clear hb
    go_wp2_with fail
    refine (Same_any (HK1.out _ HBi.out) (HK0.out _)).mono ?_
    obtain ⟨d1, hd1⟩ : ∃ d, decide (σ.s = ⟨#[]⟩) = d := ⟨_, rfl⟩
    rw [hd1]
    rintro e w8 ⟨rfl, hb⟩
    have HBi := Lib.hid (HBi.out.trans (hb.mono HBi.out.size))
    clear hb
    have hq1 := (bytes_nil_dec σ.s).trans hd1
    clear hd1
    go_wp2_with fail
    refine (Same_any (HK0.out _) (HK2.out _ HBi.out)).mono ?_
    obtain ⟨d2, hd2⟩ : ∃ d, decide (⟨#[]⟩ = τ.s) = d := ⟨_, rfl⟩
    rw [hd2]
    rintro e w9 ⟨rfl, hb⟩
    have HBi := Lib.hid (HBi.out.trans (hb.mono HBi.out.size))
    clear hb
    have hq2 := (bytes_nil_dec τ.s).trans ((decide_eq_decide.mpr eq_comm).trans hd2)
    clear hd2
    go_wp2_with fail
    refine (Same_any (HK0.out _) (HK0.out _)).mono ?_
    rw [decide_eq_true rfl]
    rintro e w10 ⟨rfl, hb⟩
    have HBi := Lib.hid (HBi.out.trans (hb.mono HBi.out.size))
    clear hb
    go_upto_region 15 with fail
    go_quiet (fail)
    have hD := Drawn.below (w := w10) nq
    have HBi := Lib.hid (HBi.out.trans (hD.mono HBi.out.size))
    clear hD
    obtain ⟨w11, hW⟩ : ∃ W, w10.drewN nq = W := ⟨_, rfl⟩
    rw [hW] at HBi
    rw [hW]
    clear hW
    clear a4 b4
    cases p with
    | none =>
     go_wp2
     go_ret
     exact ⟨rfl, HB.out.trans (HBi.out.mono HB.out.size)⟩
    | some ad =>
     cases em with
     | false =>
      go_wp2
      go_ret
      exact ⟨rfl, HB.out.trans (HBi.out.mono HB.out.size)⟩
     | true =>
      have hT9 := tabs_below HT.out HBi.out
      have hR := StReset_sp hT9 (HN.out.sub (fun j hj => Nat.le_trans hszA hj)) (HS.out.below HBi.out) Hok.out ⟨#[]⟩
      have HR := Lib.hid hR
      rw [reset_nil_err] at HR
      clear hR hT9
      go_wp2_with fail
      refine HR.out.mono ?_
      rintro e w21 ⟨rfl, hS, hM⟩
      have HBw := Lib.hid (HB.out.trans (HBi.out.mono HB.out.size))
      have HMw := Lib.hid ((Mv.of_below (S := fun j => w.heap.size ≤ j) HBw.out).trans hM (fun j _ hj => Nat.le_trans hszA hj))
      have HK3 := Lib.hid (hS.keeps (tabs_mv (tabs_below HT.out HBi.out) (HN.out.sub (fun j hj => Nat.le_trans hszA hj)) hM) (by rw [reset_nil_s]; exact Nat.zero_le _))
      rw [reset_nil_s] at HK3
      clear hS hM HR
      go_wp2_with fail
      refine (Same_any HK3.out (HK0.out _)).mono ?_
      rw [decide_eq_true rfl]
      rintro e w22 ⟨rfl, hb⟩
      have HMw := Lib.hid (HMw.out.then_below hb)
      clear hb
      go_wp2
      go_ret
      exact ⟨rfl, HMw.out.1.below_le (Nat.le_refl _) (fun _ h => h)⟩
end Go.Proofs.YtfchglcclgcgfaaGreatDoor.Ut
