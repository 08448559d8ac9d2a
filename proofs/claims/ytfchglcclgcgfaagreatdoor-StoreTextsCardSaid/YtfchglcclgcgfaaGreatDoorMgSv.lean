/-
  What the proof of the laws S rests on: the texts RoP RoQ RoR StC StR. Conditions: each theorem names its own.
-/
import Derived.Test.YtfchglcclgcgfaaGreatDoorMgSu
import Derived.Test.YtfchglcclgcgfaaGreatDoorMgSo
import Derived.Test.YtfchglcclgcgfaaGreatDoorMgSt
/-
 rope: New, Replace. Condition: the two tables of unicode/utf8 lie as laid.
-/
namespace Go.Proofs.YtfchglcclgcgfaaGreatDoor.Ut
open Go.RowKit Go.Proofs.YtfchglcclgcgfaaGreatDoor.Reg
set_option linter.unusedVariables false
set_option linter.unusedSimpArgs false

/-- A text in which p stands in the place of c bytes from i on. -/
def repl (s : ByteArray) (i c : Nat) (p : ByteArray) : ByteArray := s.extract 0 i ++ p ++ s.extract (i + c) s.size
theorem repl_list (s : ByteArray) (i c : Nat) (p : ByteArray) : (repl s i c p).data.toList = s.data.toList.take i ++ p.data.toList ++ s.data.toList.drop (i + c) := by
 unfold repl
 rw [app_list, app_list, extract_list, extract_list]
 simp only [List.drop_zero, Nat.sub_zero]
 rw [List.take_of_length_le (l := List.drop _ _) (by rw [List.length_drop, ← Lib.size_eq]; exact Nat.le_refl _)]
theorem repl_in {P s Q p : ByteArray} {o a c : Nat} (h1 : P.size + o = a) (h2 : c ≤ s.size - o) (h3 : o ≤ s.size) :
  repl (P ++ (s ++ Q)) a c p = P ++ (s.extract 0 o ++ p ++ (s.extract o s.size).extract c (s.extract o s.size).size) ++ Q := by
 apply ext_of_list
 have hP : P.data.toList.length = P.size := by rw [← Lib.size_eq]
 have hS : s.data.toList.length = s.size := by rw [← Lib.size_eq]
 rw [repl_list]
 simp only [app_list, extract_list, List.drop_zero, Nat.sub_zero]
 rw [List.take_of_length_le (l := List.drop o s.data.toList) (by rw [List.length_drop, hS]; omega)]
 rw [List.take_of_length_le (l := List.drop c _) (by rw [List.length_drop, List.length_drop, hS]; simp [ByteArray.size_extract])]
 rw [List.take_append, hP, List.take_of_length_le (l := P.data.toList) (by omega), List.take_append_of_le_length (by rw [hS]; omega)]
 rw [List.drop_append, hP, List.drop_eq_nil_of_le (by omega), List.nil_append, List.drop_append_of_le_length (by rw [hS]; omega), List.drop_drop]
 rw [show a - P.size = o by omega, show a + c - P.size = o + c by omega]
 simp [List.append_assoc]
theorem repl_out {P s P2 s2 Q2 p : ByteArray} {o a c o2 : Nat} (h1 : P.size + o = a) (h3 : o ≤ s.size) (h2 : P2.size + o2 = c - (s.size - o)) (h4 : s.size - o ≤ c) (h5 : o2 ≤ s2.size) :
  repl (P ++ (s ++ (P2 ++ (s2 ++ Q2)))) a c p = P ++ (s.extract 0 o ++ p ++ s2.extract o2 s2.size) ++ Q2 := by
 apply ext_of_list
 have hP : P.data.toList.length = P.size := by rw [← Lib.size_eq]
 have hS : s.data.toList.length = s.size := by rw [← Lib.size_eq]
 have hP2 : P2.data.toList.length = P2.size := by rw [← Lib.size_eq]
 have hS2 : s2.data.toList.length = s2.size := by rw [← Lib.size_eq]
 rw [repl_list]
 simp only [app_list, extract_list, List.drop_zero, Nat.sub_zero]
 rw [List.take_of_length_le (l := List.drop o2 s2.data.toList) (by rw [List.length_drop, hS2]; omega)]
 rw [List.take_append, hP, List.take_of_length_le (l := P.data.toList) (by omega), List.take_append_of_le_length (by rw [hS]; omega)]
 have d1 : List.drop (a + c) P.data.toList = [] := List.drop_eq_nil_of_le (by omega)
 have d2 : List.drop (a + c - P.size) s.data.toList = [] := List.drop_eq_nil_of_le (by omega)
 have d3 : List.drop (a + c - P.size - s.size) P2.data.toList = [] := List.drop_eq_nil_of_le (by omega)
 rw [List.drop_append, hP, d1, List.nil_append, List.drop_append, hS, d2, List.nil_append, List.drop_append, hP2, d3, List.nil_append, List.drop_append_of_le_length (by rw [hS2]; omega)]
 rw [show a - P.size = o by omega, show a + c - P.size - s.size - P2.size = o2 by omega]
 simp [List.append_assoc]
/-- A rope that is right, with the text s. -/
def RopeOf (W : World) (b : Nat) (s : ByteArray) : Prop := ∃ t : Tr, IsRope W b t ∧ t.text = s ∧ (t.Ok ∨ ∃ u, t = .leaf u)
theorem RopeOf.keeps {W W' : World} {b : Nat} {s : ByteArray} (h : RopeOf W b s) (hk : Keeps W W') : RopeOf W' b s := by
 obtain ⟨t, h1, h2, h3⟩ := h; exact ⟨t, h1.keeps hk, h2, h3⟩
theorem RopeOf.below {W W' : World} {b : Nat} {s : ByteArray} (h : RopeOf W b s) (hb : Below W.heap.size W W') : RopeOf W' b s := by
 obtain ⟨t, h1, h2, h3⟩ := h; exact ⟨t, h1.below hb, h2, h3⟩

theorem RopeNew_any (s : ByteArray) (w : World) (hT : Tabs w) (hs : s.size ≤ 4294967296) :
  Calls Tryz.prog 107 #[.string s] w fun e w' => ∃ b, e = .returned (ptr b) ∧ RopeOf w' b s ∧ w.heap.size ≤ b ∧ Below w.heap.size w w' := by
 have H := Lib.hid (put_any (.pointer none) (.pointer none) none none s w hT rfl rfl (fun _ h => by cases h) (fun _ h => by cases h) (by rw [txt_none]; show 0 + s.size + 0 ≤ _; omega))
 clear hT
 go_enter Tryz.func107, Tryz.ntmps107
 go_wp2_with fail
 refine H.out.mono ?_
 rintro e w1 ⟨x, t, rfl, ht, htx, hg, hb⟩
 have b2 : Below w1.heap.size w1 (w1.alloc (.cells ([ptr x] : List Value).toArray 169)) := (Below.refl _ _).alloc (Nat.le_refl _) _
 have hR : RopeOf (w1.alloc (.cells ([ptr x] : List Value).toArray 169)) w1.heap.size s := ⟨t, ⟨x, Blk.new w1 [ptr x] 169, ht.below b2⟩, by rw [htx, txt_none, nil_app, app_nil], hg⟩
 have HR := Lib.hid hR
 have HB := Lib.hid (hb.trans (b2.mono hb.size))
 have hsz := hb.size
 clear ht htx hg hb b2 hR H
 unfold ptr at *
 go_wp2
 go_ret
 exact ⟨_, rfl, HR.out, hsz, HB.out⟩
end Go.Proofs.YtfchglcclgcgfaaGreatDoor.Ut
/-
 rope: Replace. Condition: the two tables of unicode/utf8 lie as laid.
-/
namespace Go.Proofs.YtfchglcclgcgfaaGreatDoor.Ut
open Go.RowKit Go.Proofs.YtfchglcclgcgfaaGreatDoor.Reg
set_option linter.unusedVariables false
set_option linter.unusedSimpArgs false

theorem part_okL {t : Tr} (hg : t.Ok ∨ ∃ u, t = .leaf u) (a : Nat) (ha : a ≤ t.text.size) : OkL (partL t.leaves a).1 ∧ OkL (partL t.leaves a).2.2.2 := by
 rcases hg with h | ⟨u, rfl⟩
 ·have h1 := Tr.ok_iff.1 h
  obtain ⟨e, -, -⟩ := partL_ok t.leaves a t.leaves_ne (by rw [← Tr.text_leaves]; exact ha)
  rw [← e] at h1
  exact ⟨h1.left, OkL.tail h1.right⟩
 ·exact ⟨okO_none.lvs, okO_none.lvs⟩
theorem OkL.opt {L : List ByteArray} {v : Value} {w : World} (h : OptV L v w) (ho : OkL L) : ∃ o, IsOpt w v o ∧ GoodO o ∧ txt o = cat L := by
 obtain ⟨o, h1, h2, h3⟩ := h.okO ho
 exact ⟨o, h1, fun t ht => .inl (h2 t ht), by unfold txt; rw [h3]⟩

/-- What Replace of a rope answers. -/
def ReplTo (s : ByteArray) (i c : Nat) (p : ByteArray) (w : World) : Ending → World → Prop := fun e w' => ∃ b, e = .returned (.tuple #[ptr b, .string (s.extract i (i + c)), .int .i64 0]) ∧ RopeOf w' b (repl s i c p) ∧ w.heap.size ≤ b ∧ Below w.heap.size w w'

set_option maxRecDepth 100000 in
set_option maxHeartbeats 4000000 in
theorem RopeReplace_any (b : Nat) (s : ByteArray) (i c : Nat) (p : ByteArray) (w : World) (hT : Tabs w) (h : RopeOf w b s) (hic : i + c ≤ s.size) (hs : s.size ≤ 2147483648) (hp : p.size ≤ 1073741824) :
  Calls Tryz.prog 247 #[ptr b, .int .i64 i, .int .i64 c, .string p] w (ReplTo s i c p w) := by
 obtain ⟨t, hR, rfl, hg⟩ := h
 have HSl := Lib.hid (fun W hW => RopeSlice_any b i (i + c) t W hW (by omega) (by omega) hic)
 have HLen := Lib.hid (fun W hW => RopeLen_any b t W hW)
 obtain ⟨x, hx1, hx2⟩ := hR
 have hPo := partL_ok t.leaves i t.leaves_ne (by rw [← Tr.text_leaves]; omega)
 have hokPQ := part_okL hg i (by omega)
 have HPart := Lib.hid (fun W hW hT => part_any t x i W hT hW hg (by omega))
 have HR1 := Lib.hid hx1
 have HR2 := Lib.hid hx2
 have HT := Lib.hid hT
 unfold PartTo at HPart
 have htx := t.text_leaves
 obtain ⟨L4, hL4⟩ : ∃ L4, partL t.leaves i = L4 := ⟨_, rfl⟩
 rw [hL4] at HPart hPo hokPQ
 obtain ⟨P, sl, o, Q⟩ := L4
 dsimp only at HPart hPo hokPQ
 obtain ⟨e1, e2, e3⟩ := hPo
 obtain ⟨okP, okQ⟩ := hokPQ
 have htext : t.text = cat P ++ (sl ++ cat Q) := by rw [htx, ← e1, cat_app]; rfl
 have hsz : t.text.size = (cat P).size + (sl.size + (cat Q).size) := by rw [htext, ByteArray.size_append, ByteArray.size_append]
 have OkP := Lib.hid okP
 have OkQ := Lib.hid okQ
 have HTX := Lib.hid htext
 have n1 : i ≤ t.text.size := by omega
 have n2 : c ≤ t.text.size - i := by omega
 have E2 := Lib.hid e2
 have E3 := Lib.hid e3
 have HSZ := Lib.hid hsz
 obtain ⟨n, hn⟩ : ∃ n, t.text.size = n := ⟨_, rfl⟩
 rw [hn] at HLen hs hic n1 n2 HSZ
 have HN := Lib.hid hn
 obtain ⟨j, hj⟩ : ∃ j, i + c = j := ⟨_, rfl⟩
 rw [hj] at HSl
 have q0 : ¬ (i : Int) < 0 := by omega
 have q1 : ¬ (c : Int) < 0 := by omega
 have q2 : ¬ (n : Int) < (i : Int) := by omega
 have q3 : ¬ (n : Int) - (i : Int) < (c : Int) := by omega
 have q4 : IntKind.i64.wrap ((n : Int) - (i : Int)) = (n : Int) - (i : Int) := IntWalk.i64_in _ (by omega)
 have q5 : IntKind.i64.wrap ((i : Int) + (c : Int)) = (j : Int) := by rw [IntWalk.i64_in _ (by omega)]; omega
 have q6 : (i : Int) + (c : Int) = (j : Int) := by omega
 have q7 : (o : Int) ≤ (sl.size : Int) := by omega
 have hJ := Lib.hid hj
 have HB := Lib.hid (Below.refl w.heap.size w)
 unfold ReplTo
 rw [hj]
 clear hx1 hx2 hT hL4 htx e1 okP okQ htext hsz hn hj
 unfold ptr at HLen HSl HPart ⊢
 go_enter Tryz.func247, Tryz.ntmps247
 go_wp2_with fail
 refine (HLen.out w ⟨x, HR1.out, HR2.out⟩).mono ?_
 rintro e w1 ⟨rfl, rfl⟩
 go_wp2_with fail
 refine (HLen.out w1 ⟨x, HR1.out, HR2.out⟩).mono ?_
 rintro e w2 ⟨rfl, rfl⟩
 go_wp2_with fail
 refine (HSl.out w2 ⟨x, HR1.out, HR2.out⟩).mono ?_
 rintro e w3 ⟨rfl, hb⟩
 have HR1 := Lib.hid (HR1.out.below hb)
 have HR2 := Lib.hid (HR2.out.below hb)
 have HT := Lib.hid (tabs_below HT.out hb)
 have HB := Lib.hid (HB.out.trans (hb.mono HB.out.size))
 clear hb
 clear HLen HSl
 obtain ⟨G, hG⟩ : ∃ G, t.text.extract i j = G := ⟨_, rfl⟩
 rw [hG]
 have HG := Lib.hid hG
 clear hG q0 q1 q2 q3 q4 q5 q6
 go_wp2_with fail
 refine (tree_any b x w3 HR1.out.lies).mono ?_
 rintro e w4 ⟨rfl, rfl⟩
 unfold ptr
 go_wp2_with fail
 refine (HPart.out w4 HR2.out HT.out).mono ?_
 rintro e w5 ⟨v1, v2, rfl, hv1, hv2, hb⟩
 have HV1 := Lib.hid hv1
 have HV2 := Lib.hid hv2
 have HT := Lib.hid (tabs_below HT.out hb)
 have HB := Lib.hid (HB.out.trans (hb.mono HB.out.size))
 clear hb
 clear hv1 hv2 HPart HR1 HR2
 have hso : (sl.extract o sl.size).size = sl.size - o := by simp [ByteArray.size_extract]
 have HB0 := HB
 have hB : sl.extract o sl.size = sl.extract o sl.size := rfl
 obtain ⟨B, hBe⟩ : ∃ B, sl.extract o sl.size = B := ⟨_, rfl⟩
 obtain ⟨F, hFe⟩ : ∃ F, sl.extract 0 o = F := ⟨_, rfl⟩
 have hBs : B.size = sl.size - o := by rw [← hBe]; exact hso
 have hFs : F.size = o := by rw [← hFe]; simp [ByteArray.size_extract]; have := E3.out; omega
 have HBe := Lib.hid hBe
 have HFe := Lib.hid hFe
 have HBs := Lib.hid hBs
 have HFs := Lib.hid hFs
 clear hB hBs hFs
 by_cases hc : c ≤ sl.size - o
 ·have hc1 : (c : Int) ≤ (B.size : Int) := by rw [HBs.out]; omega
  obtain ⟨C, hCe⟩ : ∃ C, B.extract c B.size = C := ⟨_, rfl⟩
  have hCs : C.size = B.size - c := by rw [← hCe]; simp [ByteArray.size_extract]
  have HCe := Lib.hid hCe
  have HCs := Lib.hid hCs
  have z1 : ¬ 9223372036854775807 < F.size + p.size := by rw [HFs.out]; have := E3.out; have := HSZ.out; omega
  have z2 : ¬ 9223372036854775807 < (F ++ p).size + C.size := by rw [ByteArray.size_append, HFs.out, HCs.out, HBs.out]; have := E3.out; have := HSZ.out; omega
  clear hso hCs
  obtain ⟨o1, ho1, hg1, ht1⟩ := OkP.out.opt HV1.out
  obtain ⟨o3, ho3, hg3, ht3⟩ := OkQ.out.opt HV2.out
  have h1z := congrArg ByteArray.size ht1
  have h3z := congrArg ByteArray.size ht3
  have hput := put_any v1 v2 o1 o3 (F ++ p ++ C) _ HT.out ho1 ho3 hg1 hg3 (by rw [h1z, h3z, ByteArray.size_append, ByteArray.size_append, HFs.out, HCs.out, HBs.out]; have := E3.out; have := HSZ.out; omega)
  have HP := Lib.hid hput
  have HT1 := Lib.hid ht1
  have HT3 := Lib.hid ht3
  clear ho1 hg1 ht1 ho3 hg3 ht3 h1z h3z hput
  go_wp2_with fail
  refine HP.out.mono ?_
  rintro e w8 ⟨y, u, rfl, hu, hut, hug, hb⟩
  have b2 : Below w8.heap.size w8 (w8.alloc (.cells ([ptr y] : List Value).toArray 169)) := (Below.refl _ _).alloc (Nat.le_refl _) _
  have hR : RopeOf (w8.alloc (.cells ([ptr y] : List Value).toArray 169)) w8.heap.size (repl t.text i c p) := ⟨u, ⟨y, Blk.new w8 [ptr y] 169, hu.below b2⟩, by rw [hut, HT1.out, HT3.out, HTX.out]; rw [← HFe.out, ← HCe.out, ← HBe.out]; exact (repl_in E2.out hc E3.out).symm, hug⟩
  have HR := Lib.hid hR
  have HB := Lib.hid ((HB.out.trans (hb.mono HB.out.size)).trans (b2.mono (Nat.le_trans HB.out.size hb.size)))
  have hsz8 := Nat.le_trans HB0.out.size hb.size
  clear hu hut hug hb b2 hR HP
  unfold ptr at *
  go_wp2
  refine bodyPost_ret (v := .tuple #[.pointer (some ⟨w8.heap.size, 0, none⟩), .string G, .int .i64 0]) (by simp [results, Tryz.results247, go_sem]) rfl ⟨w8.heap.size, by rw [HG.out]; try rfl, HR.out, hsz8, HB.out⟩
 ·have hc1 : ¬ (c : Int) ≤ (B.size : Int) := by rw [HBs.out]; omega
  obtain ⟨k, hk⟩ : ∃ k, c - (sl.size - o) = k := ⟨_, rfl⟩
  have hkz : k ≤ (cat Q).size := by have := E3.out; have := E2.out; have := HSZ.out; omega
  have hk0 : 0 < k := by omega
  obtain ⟨o2, ho2, hok2, hlv2⟩ := HV2.out.okO OkQ.out
  obtain ⟨t2, rfl⟩ : ∃ t2, o2 = some t2 := by
   cases o2 with
   | none =>
    have hl0 : ([] : List ByteArray) = Q := hlv2
    rw [← hl0] at hkz
    rw [cat_nil_size] at hkz; omega
   | some t => exact ⟨t, rfl⟩
  obtain ⟨x2, rfl, hx2⟩ := ho2
  have hl2 : t2.leaves = Q := hlv2
  have hp2 := part_any t2 x2 k _ HT.out hx2 (.inl (hok2 t2 rfl)) (by rw [Tr.text_leaves, hl2]; exact hkz)
  have hpo2 := partL_ok t2.leaves k t2.leaves_ne (by rw [hl2]; exact hkz)
  have hok3 := part_okL (.inl (hok2 t2 rfl)) k (by rw [Tr.text_leaves, hl2]; exact hkz)
  unfold PartTo at hp2
  rw [hl2] at hp2 hpo2 hok3
  obtain ⟨L5, hL5⟩ : ∃ L5, partL Q k = L5 := ⟨_, rfl⟩
  rw [hL5] at hp2 hpo2 hok3
  obtain ⟨P2, s2, o2, Q2⟩ := L5
  dsimp only at hp2 hpo2 hok3
  obtain ⟨f1, f2, f3⟩ := hpo2
  have HP2 := Lib.hid hp2
  have OkQ2 := Lib.hid hok3.2
  have hcQ : cat Q = cat P2 ++ (s2 ++ cat Q2) := by rw [← f1, cat_app]; rfl
  have HcQ := Lib.hid hcQ
  have hcz : (cat Q).size = (cat P2).size + (s2.size + (cat Q2).size) := by rw [hcQ, ByteArray.size_append, ByteArray.size_append]
  have HcZ := Lib.hid hcz
  have F2 := Lib.hid f2
  have F3 := Lib.hid f3
  have hk1 : IntKind.i64.wrap ((c : Int) - (B.size : Int)) = (k : Int) := by rw [HBs.out, IntWalk.i64_in _ (by have := E3.out; have := HSZ.out; omega)]; have := E3.out; omega
  have hk2 : (c : Int) - (B.size : Int) = (k : Int) := by rw [HBs.out]; have := E3.out; omega
  have hq2 : (o2 : Int) ≤ (s2.size : Int) := by omega
  have HK := Lib.hid hk
  obtain ⟨C, hCe⟩ : ∃ C, s2.extract o2 s2.size = C := ⟨_, rfl⟩
  have hCs : C.size = s2.size - o2 := by rw [← hCe]; simp [ByteArray.size_extract]
  have HCe := Lib.hid hCe
  have HCs := Lib.hid hCs
  have z1 : ¬ 9223372036854775807 < F.size + p.size := by rw [HFs.out]; have := E3.out; have := HSZ.out; omega
  have z2 : ¬ 9223372036854775807 < (F ++ p).size + C.size := by rw [ByteArray.size_append, HFs.out, HCs.out]; have := E3.out; have := HSZ.out; omega
  clear hso hCs hok2 hlv2 hx2 hp2 hok3 f1 f2 f3 hcQ hcz hk hL5 hl2 hkz
  unfold ptr at HP2 ⊢
  go_wp2_with fail
  refine HP2.out.mono ?_
  rintro e w6 ⟨v5, v6, rfl, -, hv6, hb⟩
  have HV6 := Lib.hid hv6
  have HV1 := Lib.hid (HV1.out.below hb)
  have HT := Lib.hid (tabs_below HT.out hb)
  have HB := Lib.hid (HB.out.trans (hb.mono HB.out.size))
  clear hb
  clear hv6 HP2 hk1 hk2
  have HB0 := HB
  obtain ⟨o1, ho1, hg1, ht1⟩ := OkP.out.opt HV1.out
  obtain ⟨o3, ho3, hg3, ht3⟩ := OkQ2.out.opt HV6.out
  have h1z := congrArg ByteArray.size ht1
  have h3z := congrArg ByteArray.size ht3
  have hput := put_any v1 v6 o1 o3 (F ++ p ++ C) _ HT.out ho1 ho3 hg1 hg3 (by rw [h1z, h3z, ByteArray.size_append, ByteArray.size_append, HFs.out, HCs.out]; have := E3.out; have := HSZ.out; have := HcZ.out; have := F3.out; omega)
  have HP := Lib.hid hput
  have HT1 := Lib.hid ht1
  have HT3 := Lib.hid ht3
  clear ho1 hg1 ht1 ho3 hg3 ht3 h1z h3z hput
  go_wp2_with fail
  refine HP.out.mono ?_
  rintro e w8 ⟨y, u, rfl, hu, hut, hug, hb⟩
  have b2 : Below w8.heap.size w8 (w8.alloc (.cells ([ptr y] : List Value).toArray 169)) := (Below.refl _ _).alloc (Nat.le_refl _) _
  have hR : RopeOf (w8.alloc (.cells ([ptr y] : List Value).toArray 169)) w8.heap.size (repl t.text i c p) := ⟨u, ⟨y, Blk.new w8 [ptr y] 169, hu.below b2⟩, by rw [hut, HT1.out, HT3.out, HTX.out]; rw [HcQ.out, ← HFe.out, ← HCe.out]; exact (repl_out E2.out E3.out (by rw [F2.out, HK.out]) (by omega) F3.out).symm, hug⟩
  have HR := Lib.hid hR
  have HB := Lib.hid ((HB.out.trans (hb.mono HB.out.size)).trans (b2.mono (Nat.le_trans HB.out.size hb.size)))
  have hsz8 := Nat.le_trans HB0.out.size hb.size
  clear hu hut hug hb b2 hR HP
  unfold ptr at *
  go_wp2
  refine bodyPost_ret (v := .tuple #[.pointer (some ⟨w8.heap.size, 0, none⟩), .string G, .int .i64 0]) (by simp [results, Tryz.results247, go_sem]) rfl ⟨w8.heap.size, by rw [HG.out]; try rfl, HR.out, hsz8, HB.out⟩
end Go.Proofs.YtfchglcclgcgfaaGreatDoor.Ut
/-
 store: what keeps a text as a rope (roped): Len, Slice, Measure; kept, New over a rope. Condition: the two tables of unicode/utf8 lie as laid.
-/
namespace Go.Proofs.YtfchglcclgcgfaaGreatDoor.Ut
open Go.RowKit Go.Proofs.YtfchglcclgcgfaaGreatDoor.Reg
set_option linter.unusedVariables false
set_option linter.unusedSimpArgs false

/-- A rope that is changed in its place, with the text s. -/
def IsRoped (W : World) (b : Nat) (lim : Nat) (s : ByteArray) : Prop := ∃ rb, Blk W b 155 [ptr rb, .int .i64 lim] ∧ RopeOf W rb s
theorem IsRoped.below {W W' : World} {b lim : Nat} {s : ByteArray} (h : IsRoped W b lim s) (hb : Below W.heap.size W W') : IsRoped W' b lim s := by
 obtain ⟨rb, h1, h2⟩ := h; exact ⟨rb, h1.below hb, h2.below hb⟩
theorem IsRoped.keeps {W W' : World} {b lim : Nat} {s : ByteArray} (h : IsRoped W b lim s) (hk : Keeps W W') (hb : W'.heap[b]? = W.heap[b]?) : IsRoped W' b lim s := by
 obtain ⟨rb, h1, h2⟩ := h; exact ⟨rb, hb.trans h1, h2.keeps hk⟩
theorem keeps_set {S : Nat → Prop} {W W' : World} {g : Nat} {T : TypeId} {us : List Value} (hg : Blk W g T us) (hT : T ≠ 189 ∧ T ≠ 169) (hc : Chg S W W') (hS : ∀ k, S k → k = g) : Keeps W W' :=
 Keeps.of_chg hc fun k vs T' hs hT' hk => by
  have := hS k hs
  subst this
  have e := hg.same hk
  rcases hT' with h | h
  ·exact hT.1 (e.trans h)
  ·exact hT.2 (e.trans h)
theorem ropedLen_any (b lim : Nat) (s : ByteArray) (w : World) (h : IsRoped w b lim s) : Calls Tryz.prog 241 #[ptr b] w fun e w' => e = .returned (.int .i64 s.size) ∧ w' = w := by
 obtain ⟨rb, h1, t, h2, rfl, -⟩ := h
 have H := Lib.hid (RopeLen_any rb t w h2)
 have c0 := (h1.lies.2 0 _ rfl).1
 clear h1 h2
 unfold ptr at *
 go_enter Tryz.func241, Tryz.ntmps241
 go_wp2_with fail
 refine H.out.mono ?_
 rintro e w1 ⟨rfl, rfl⟩
 go_wp2
 go_ret
 exact ⟨rfl, rfl⟩
theorem ropedSlice_any (b lim : Nat) (s : ByteArray) (i j : Nat) (w : World) (h : IsRoped w b lim s) (hs : s.size ≤ 4294967296) (hij : i ≤ j) (hj : j ≤ s.size) : Calls Tryz.prog 244 #[ptr b, .int .i64 i, .int .i64 j] w fun e w' => e = .returned (.tuple #[.string (s.extract i j), .int .i64 0]) ∧ Below w.heap.size w w' := by
 obtain ⟨rb, h1, t, h2, rfl, -⟩ := h
 have H := Lib.hid (RopeSlice_any rb i j t w h2 hs hij hj)
 have c0 := (h1.lies.2 0 _ rfl).1
 obtain ⟨R, hR⟩ : ∃ R, t.text.extract i j = R := ⟨_, rfl⟩
 rw [hR] at H ⊢
 clear h1 h2 hR
 unfold ptr at *
 go_enter Tryz.func244, Tryz.ntmps244
 go_wp2_with fail
 refine H.out.mono ?_
 rintro e w1 ⟨rfl, hb⟩
 have HB := Lib.hid hb
 clear hb
 go_wp2
 refine bodyPost_ret (v := .tuple #[.string R, .int .i64 0]) (by simp [results, Tryz.results244, go_sem]) rfl ⟨rfl, HB.out⟩
set_option maxRecDepth 100000 in
set_option maxHeartbeats 1000000 in
theorem ropedMeasure_any (b lim : Nat) (s : ByteArray) (i j : Nat) (w : World) (hT : Tabs w) (h : IsRoped w b lim s) (hs : s.size ≤ 4294967296) (hij : i ≤ j) (hj : j ≤ s.size) : Calls Tryz.prog 242 #[ptr b, .int .i64 i, .int .i64 j] w fun e w' => e = .returned (.tuple #[(measF (s.extract i j)).val, .int .i64 0]) ∧ Below w.heap.size w w' := by
 obtain ⟨W0, hW0, A0, b0, hsz⟩ := boxL1 w zero7 48
 have HE := Lib.hid hW0
 unfold zero7 at HE
 have HR := Lib.hid A0
 have HB := Lib.hid b0
 obtain ⟨rb, h1, t, h2, rfl, -⟩ := h
 have H := Lib.hid (RopeMeasure_any rb i j t W0 (tabs_below hT b0) (h2.below b0) hs hij hj)
 have c0 := (h1.lies.2 0 _ rfl).1
 have hbl := h1.lies.1
 obtain ⟨m, hm⟩ : ∃ m, measF (t.text.extract i j) = m := ⟨_, rfl⟩
 rw [hm] at H ⊢
 clear h1 h2 hm hT hW0 A0 b0 hsz
 unfold ptr at *
 go_enter Tryz.func242, Tryz.ntmps242
 go_wp2_with fail
 rw [HE.out]
 refine H.out.mono ?_
 rintro e w1 ⟨rfl, hb⟩
 have HR := Lib.hid (HR.out.below hb)
 have HB := Lib.hid (HB.out.trans (hb.mono HB.out.size))
 clear hb
 clear c0
 unfold Sm.val
 have L := Lib.hid (HR.out.stored m.cells7 rfl).2
 have D4 := sets_chg w.heap.size m.cells7 0 w1
 have HBL := Lib.hid (chg_mine HB.out D4 (Nat.le_refl _))
 obtain ⟨r0, s0⟩ := HR.out.2 0 _ rfl
 obtain ⟨r1, s1⟩ := HR.out.2 1 _ rfl
 obtain ⟨r2, s2⟩ := HR.out.2 2 _ rfl
 obtain ⟨r3, s3⟩ := HR.out.2 3 _ rfl
 obtain ⟨r4, s4⟩ := HR.out.2 4 _ rfl
 obtain ⟨r5, s5⟩ := HR.out.2 5 _ rfl
 obtain ⟨r6, s6⟩ := HR.out.2 6 _ rfl
 clear D4
 go_wp2
 have j0 := (L.out 0 _ rfl).1
 have j1 := (L.out 1 _ rfl).1
 have j2 := (L.out 2 _ rfl).1
 have j3 := (L.out 3 _ rfl).1
 have j4 := (L.out 4 _ rfl).1
 have j5 := (L.out 5 _ rfl).1
 have j6 := (L.out 6 _ rfl).1
 simp only [Sm.cells7, zero7, World.setCells] at j0 j1 j2 j3 j4 j5 j6
 refine bodyPost_ret (v := .tuple #[m.val, .int .i64 0]) (by simp [results, Tryz.results242, go_sem, j0, j1, j2, j3, j4, j5, j6, Sm.val, zeroSm]) rfl ⟨rfl, HBL.out⟩

theorem hasR_of {W : World} {b lim : Nat} {s : ByteArray} (hT : Tabs W) (h : IsRoped W b lim s) (hs : s.size ≤ 1073741824) : HasR W (some ⟨b, 0, none⟩) s :=
 ⟨hs, fun W' hb => (ropedLen_any b lim s W' (h.below hb)).mono fun e w hh => ⟨hh.1, by rw [hh.2]; exact Below.refl _ _⟩,
   fun W' i j hb hij hj => ropedSlice_any b lim s i j W' (h.below hb) (by omega) hij hj,
   fun W' i hb hi => (ropedMeasure_any b lim s 0 i W' (tabs_below hT hb) (h.below hb) (by omega) (Nat.zero_le _) hi).mono fun e w h => ⟨_, h.1, rfl, h.2⟩⟩

set_option maxRecDepth 100000 in
theorem kept_rope (n : Nat) (s : ByteArray) (w : World) (hT : Tabs w) (hs : s.size ≤ 4294967296) :
  Calls Tryz.prog 67 #[.int .i64 2, .int .i64 n, .string s] w fun e w' => ∃ b, e = .returned (.iface 148 (.pointer (some ⟨b, 0, none⟩))) ∧ IsRoped w' b n s ∧ w.heap.size ≤ b ∧ Below w.heap.size w w' := by
 have H := Lib.hid (RopeNew_any s w hT hs)
 clear hT
 go_enter Tryz.func67, Tryz.ntmps67
 go_wp2_with fail
 refine H.out.mono ?_
 rintro e w1 ⟨b, rfl, hR, hb, hB⟩
 have b2 : Below w1.heap.size w1 (w1.alloc (.cells ([ptr b, .int .i64 n] : List Value).toArray 155)) := (Below.refl _ _).alloc (Nat.le_refl _) _
 have hK : IsRoped (w1.alloc (.cells ([ptr b, .int .i64 n] : List Value).toArray 155)) w1.heap.size n s := ⟨b, Blk.new w1 [ptr b, .int .i64 n] 155, hR.below b2⟩
 have HK := Lib.hid hK
 have HB := Lib.hid (hB.trans (b2.mono hB.size))
 have hsz := hB.size
 clear hR hb hB b2 hK H
 unfold ptr at *
 go_wp2
 go_ret
 exact ⟨_, rfl, HK.out, hsz, HB.out⟩
end Go.Proofs.YtfchglcclgcgfaaGreatDoor.Ut
/-
 Package store: New over a rope. Condition: the two tables of unicode/utf8 lie as laid.
-/
namespace Go.Proofs.YtfchglcclgcgfaaGreatDoor.Ut
open Go.RowKit Go.Proofs.YtfchglcclgcgfaaGreatDoor.Reg
set_option linter.unusedVariables false
set_option linter.unusedSimpArgs false

/-- The backend is a rope: the kind says so, or none is said and the text is not shorter than top. -/
def ropeKind (k top : Int) (s : ByteArray) : Prop := k = 2 ∨ (k ≠ 1 ∧ k ≠ 2 ∧ top ≤ (s.size : Int))

set_option maxRecDepth 100000 in
set_option maxHeartbeats 2000000 in
theorem StNewM_rope (k lo hi m : Int) (n : Nat) (s : ByteArray) (w : World) (hT : Tabs w) (hm : min (max m 0) 1073741824 = (n : Int)) (hn : n ≤ 1073741824) (hs : s.size ≤ n) (hk : ropeKind k (max hi (min (max lo 0) 1073741824 + 1)) s) :
  Calls Tryz.prog 22 #[.int .i64 k, .int .i64 lo, .int .i64 hi, .int .i64 m, .string s] w fun e w' => ∃ b, e = .returned (.tuple #[.pointer (some ⟨b, 0, none⟩), .int .i64 0]) ∧ ∃ gb,
   Blk w' b 66 [.iface 148 (.pointer (some ⟨gb, 0, none⟩)), .int .i64 (if k = 2 then 2 else 3), .int .i64 (min (max lo 0) 1073741824), .int .i64 (max hi (min (max lo 0) 1073741824 + 1)), .int .i64 n, .int .i64 0, .int .i64 0, .int .i64 0] ∧
   IsRoped w' gb n s ∧ w.heap.size ≤ gb ∧ w.heap.size ≤ b ∧ Below w.heap.size w w' := by
 have HTb := Lib.hid hT
 have e2 : ¬ (n : Int) < (s.size : Int) := by omega
 obtain ⟨low, hlow⟩ : ∃ low, min (max lo 0) 1073741824 = low := ⟨_, rfl⟩
 have hw1 : IntKind.i64.wrap (low + 1) = low + 1 := IntWalk.i64_in _ (by omega)
 rw [hlow] at hk ⊢
 obtain ⟨top, htop⟩ : ∃ top, max hi (low + 1) = top := ⟨_, rfl⟩
 rw [htop] at hk ⊢
 clear hT
 rcases hk with rfl | ⟨k1, k2, k3⟩
 ·go_enter Tryz.func22, Tryz.ntmps22
  go_wp2_with fail
  have kb : Blk (w.alloc (.cells ([.nilIface, .int .i64 2, .int .i64 low, .int .i64 top, .int .i64 n, .int .i64 0, .int .i64 0, .int .i64 0] : List Value).toArray 66)) w.heap.size 66 [.nilIface, .int .i64 2, .int .i64 low, .int .i64 top, .int .i64 n, .int .i64 0, .int .i64 0, .int .i64 0] := Blk.new _ _ _
  have b1 : Below w.heap.size w (w.alloc (.cells ([.nilIface, .int .i64 2, .int .i64 low, .int .i64 top, .int .i64 n, .int .i64 0, .int .i64 0, .int .i64 0] : List Value).toArray 66)) := (Below.refl _ _).alloc (Nat.le_refl _) _
  change Calls _ _ _ (w.alloc (.cells ([.nilIface, .int .i64 2, .int .i64 low, .int .i64 top, .int .i64 n, .int .i64 0, .int .i64 0, .int .i64 0] : List Value).toArray 66)) _
  generalize w.alloc (.cells ([.nilIface, .int .i64 2, .int .i64 low, .int .i64 top, .int .i64 n, .int .i64 0, .int .i64 0, .int .i64 0] : List Value).toArray 66) = w1 at *
  refine (kept_rope n s w1 (tabs_below HTb.out b1) (by omega)).mono ?_
  rintro e w2 ⟨gb, rfl, hG, hb, hB⟩
  have k2' := kb.below hB
  have hlt : w.heap.size < w1.heap.size := kb.lies.1
  have X := k2'.set 0 (.iface 148 (.pointer (some ⟨gb, 0, none⟩)))
  have CH := Chg.set w2 ⟨w.heap.size, 0, none⟩ (.iface 148 (.pointer (some ⟨gb, 0, none⟩)))
  have HX := Lib.hid X
  have HG := Lib.hid (hG.keeps (keeps_set k2' (by decide) CH (fun k h => h)) (CH.block gb (by obtain ⟨rb, h1, -⟩ := hG; exact h1.lies.1) (by show ¬ gb = w.heap.size; omega)))
  have HB := Lib.hid (chg_mine (b1.trans (hB.mono b1.size)) CH (Nat.le_refl _))
  have hb' : w.heap.size ≤ gb := by omega
  obtain ⟨c0, f0⟩ := k2'.lies.2 0 _ rfl
  clear kb b1 hG hB k2' X CH
  go_wp2
  refine bodyPost_ret (v := .tuple #[.pointer (some ⟨w.heap.size, 0, none⟩), .int .i64 0]) (by simp [results, Tryz.results22, go_sem]) rfl ⟨_, rfl, gb, ?_, HG.out, hb', Nat.le_refl _, HB.out⟩
  exact HX.out
 ·have q1 : (k != 1) = true := by simpa using k1
  have q2 : (k != 2) = true := by simpa using k2
  have q3 : top ≤ (s.size : Int) := by omega
  go_enter Tryz.func22, Tryz.ntmps22
  go_wp2_with fail
  have kb : Blk (w.alloc (.cells ([.nilIface, .int .i64 3, .int .i64 low, .int .i64 top, .int .i64 n, .int .i64 0, .int .i64 0, .int .i64 0] : List Value).toArray 66)) w.heap.size 66 [.nilIface, .int .i64 3, .int .i64 low, .int .i64 top, .int .i64 n, .int .i64 0, .int .i64 0, .int .i64 0] := Blk.new _ _ _
  have b1 : Below w.heap.size w (w.alloc (.cells ([.nilIface, .int .i64 3, .int .i64 low, .int .i64 top, .int .i64 n, .int .i64 0, .int .i64 0, .int .i64 0] : List Value).toArray 66)) := (Below.refl _ _).alloc (Nat.le_refl _) _
  change Calls _ _ _ (w.alloc (.cells ([.nilIface, .int .i64 3, .int .i64 low, .int .i64 top, .int .i64 n, .int .i64 0, .int .i64 0, .int .i64 0] : List Value).toArray 66)) _
  generalize w.alloc (.cells ([.nilIface, .int .i64 3, .int .i64 low, .int .i64 top, .int .i64 n, .int .i64 0, .int .i64 0, .int .i64 0] : List Value).toArray 66) = w1 at *
  refine (kept_rope n s w1 (tabs_below HTb.out b1) (by omega)).mono ?_
  rintro e w2 ⟨gb, rfl, hG, hb, hB⟩
  have k2' := kb.below hB
  have hlt : w.heap.size < w1.heap.size := kb.lies.1
  have X := k2'.set 0 (.iface 148 (.pointer (some ⟨gb, 0, none⟩)))
  have CH := Chg.set w2 ⟨w.heap.size, 0, none⟩ (.iface 148 (.pointer (some ⟨gb, 0, none⟩)))
  have HX := Lib.hid X
  have HG := Lib.hid (hG.keeps (keeps_set k2' (by decide) CH (fun k h => h)) (CH.block gb (by obtain ⟨rb, h1, -⟩ := hG; exact h1.lies.1) (by show ¬ gb = w.heap.size; omega)))
  have HB := Lib.hid (chg_mine (b1.trans (hB.mono b1.size)) CH (Nat.le_refl _))
  have hb' : w.heap.size ≤ gb := by omega
  obtain ⟨c0, f0⟩ := k2'.lies.2 0 _ rfl
  clear kb b1 hG hB k2' X CH
  go_wp2
  refine bodyPost_ret (v := .tuple #[.pointer (some ⟨w.heap.size, 0, none⟩), .int .i64 0]) (by simp [results, Tryz.results22, go_sem]) rfl ⟨_, rfl, gb, ?_, HG.out, hb', Nat.le_refl _, HB.out⟩
  exact HX.out
end Go.Proofs.YtfchglcclgcgfaaGreatDoor.Ut
/-
 store: what changes a text: roped.Replace, move, edited, Replace. Condition: the two tables of unicode/utf8 lie as laid.
-/
namespace Go.Proofs.YtfchglcclgcgfaaGreatDoor.Ut
open Go.RowKit Go.Proofs.YtfchglcclgcgfaaGreatDoor.Reg
set_option linter.unusedVariables false
set_option linter.unusedSimpArgs false

set_option maxRecDepth 100000 in
set_option maxHeartbeats 2000000 in
theorem ropedReplace_any (b lim : Nat) (s : ByteArray) (a c : Nat) (p : ByteArray) (w : World) (hT : Tabs w) (h : IsRoped w b lim s) (hs : s.size ≤ lim) (hl : lim ≤ 1073741824) (hac : a + c ≤ s.size) (hp : s.size - c + p.size ≤ lim) :
  Calls Tryz.prog 243 #[ptr b, .int .i64 a, .int .i64 c, .string p] w fun e w' => e = .returned (.tuple #[.string (s.extract a (a + c)), .int .i64 0]) ∧ IsRoped w' b lim (repl s a c p) ∧ Chg (fun k => k = b) w w' := by
 obtain ⟨rb, h1, h2⟩ := h
 obtain ⟨t, hR, htx, hg⟩ := h2
 have HL := RopeLen_any rb t w hR
 rw [htx] at HL
 have HLL := Lib.hid HL
 have HRe := Lib.hid (RopeReplace_any rb s a c p w hT ⟨t, hR, htx, hg⟩ hac (by omega) (by omega))
 have c0 := (h1.lies.2 0 _ rfl).1
 have c1 := (h1.lies.2 1 _ rfl).1
 have hbl := h1.lies.1
 have HB1 := Lib.hid h1
 have e1 : IntKind.i64.wrap ((s.size : Int) - (a : Int)) = (s.size : Int) - (a : Int) := IntWalk.i64_in _ (by omega)
 have e2 : IntKind.i64.wrap ((s.size : Int) - (c : Int)) = ((s.size - c : Nat) : Int) := by rw [IntWalk.i64_in _ (by omega)]; omega
 have e3 : IntKind.i64.wrap ((lim : Int) - ((s.size - c : Nat) : Int)) = (lim : Int) - ((s.size - c : Nat) : Int) := IntWalk.i64_in _ (by omega)
 have n1 : (0 : Int) ≤ (a : Int) := by omega
 have n2 : (0 : Int) ≤ (c : Int) := by omega
 have n3 : (a : Int) ≤ (s.size : Int) := by omega
 have n4 : (c : Int) ≤ (s.size : Int) - (a : Int) := by omega
 have n5 : ¬ (lim : Int) - ((s.size - c : Nat) : Int) < (p.size : Int) := by omega
 clear h1 hR htx hg HL hT
 unfold ptr at *
 go_enter Tryz.func243, Tryz.ntmps243
 go_wp2_with fail
 refine HLL.out.mono ?_
 rintro e w1 ⟨rfl, rfl⟩
 clear HLL
 go_wp2_with fail
 refine HRe.out.mono ?_
 rintro e w2 ⟨nb, rfl, hR2, hnb, hb⟩
 have hB2 := HB1.out.below hb
 obtain ⟨q0, f0⟩ := hB2.lies.2 0 _ rfl
 have hbl2 := hB2.lies.1
 have hch : Chg (fun k => k = b) w2 (w2.setCell ⟨b, 0, none⟩ (ptr nb)) := Chg.set w2 ⟨b, 0, none⟩ _
 have hE : IsRoped (w2.setCell ⟨b, 0, none⟩ (ptr nb)) b lim (repl s a c p) ∧ Chg (fun k => k = b) w1 (w2.setCell ⟨b, 0, none⟩ (ptr nb)) := by
  refine ⟨⟨nb, hB2.set 0 (ptr nb), hR2.keeps (keeps_set hB2 (by decide) hch (fun _ h => h))⟩, ?_⟩
  exact (Chg.of_below hb).trans hch (fun _ _ h => h)
 have HE := Lib.hid hE
 clear hB2 hch hE HB1 HRe hb hR2 n1 n2 n3 n4 n5 e1 e2 e3 c0 c1 hbl
 unfold ptr at *
 go_wp2
 refine bodyPost_ret (v := .tuple #[.string (s.extract a (a + c)), .int .i64 0]) (by simp [results, Tryz.results243, go_sem]) rfl ⟨rfl, HE.out⟩
end Go.Proofs.YtfchglcclgcgfaaGreatDoor.Ut
