/-
  What the proof of the laws L rests on: the texts RoP RoQ RoR StC LwA LwB LwC LwO. Conditions: each theorem names its own.
-/
import Derived.Test.YtgmpohdkignadaaGreatDoorMgLi
import Derived.Test.YtgmpohdkignadaaGreatDoorMgLg
import Derived.Test.YtgmpohdkignadaaGreatDoorMgLc
import Derived.ChangeMaps5
import Derived.Lib.SmallJoins
/-
  rope: New, Replace. Condition: the two tables of unicode/utf8 lie as laid.
-/
namespace Go.Proofs.YtgmpohdkignadaaGreatDoor.Ut
open Go.RowKit Go.Proofs.YtgmpohdkignadaaGreatDoor.Reg
set_option linter.unusedVariables false
set_option linter.unusedSimpArgs false

/-- A text in which p stands in the place of c bytes from i on. -/
def repl (s : ByteArray) (i c : Nat) (p : ByteArray) : ByteArray := s.extract 0 i ++ p ++ s.extract (i + c) s.size
theorem repl_list (s : ByteArray) (i c : Nat) (p : ByteArray) : (repl s i c p).data.toList = s.data.toList.take i ++ p.data.toList ++ s.data.toList.drop (i + c) := by
  unfold repl
  rw [app_list, app_list, extract_list, extract_list]
  simp only [List.drop_zero, Nat.sub_zero]
  rw [List.take_of_length_le (l := List.drop _ _) (by rw [List.length_drop, ← Lib.size_eq]; exact Nat.le_refl _)]
theorem repl_size {s : ByteArray} {i c : Nat} {p : ByteArray} (h : i + c ≤ s.size) : (repl s i c p).size = s.size - c + p.size := by
  unfold repl; simp [ByteArray.size_append, ByteArray.size_extract]; omega
theorem repl_in {P s Q p : ByteArray} {o a c : Nat} (h1 : P.size + o = a) (h2 : c ≤ s.size - o) (h3 : o ≤ s.size) :
    repl (P ++ (s ++ Q)) a c p = P ++ (s.extract 0 o ++ p ++ (s.extract o s.size).extract c (s.extract o s.size).size) ++ Q := by
  apply ext_of_list
  have hP : P.data.toList.length = P.size := by rw [← Lib.size_eq]
  have hS : s.data.toList.length = s.size := by rw [← Lib.size_eq]
  rw [repl_list]
  simp only [app_list, extract_list, List.drop_zero, Nat.sub_zero]
  rw [List.take_of_length_le (l := List.drop o s.data.toList) (by rw [List.length_drop, hS]; omega)]
  rw [List.take_of_length_le (l := List.drop c _) (by rw [List.length_drop, List.length_drop, hS]; simp [ByteArray.size_extract])]
  rw [List.take_append, hP, List.take_of_length_le (l := P.data.toList) (by omega), List.take_append_of_le_length (by rw [hS]; omega)]
  rw [List.drop_append, hP, List.drop_eq_nil_of_le (by omega), List.nil_append, List.drop_append_of_le_length (by rw [hS]; omega), List.drop_drop]
  rw [show a - P.size = o by omega, show a + c - P.size = o + c by omega]
  simp [List.append_assoc]
theorem repl_out {P s P2 s2 Q2 p : ByteArray} {o a c o2 : Nat} (h1 : P.size + o = a) (h3 : o ≤ s.size) (h2 : P2.size + o2 = c - (s.size - o)) (h4 : s.size - o ≤ c) (h5 : o2 ≤ s2.size) :
    repl (P ++ (s ++ (P2 ++ (s2 ++ Q2)))) a c p = P ++ (s.extract 0 o ++ p ++ s2.extract o2 s2.size) ++ Q2 := by
  apply ext_of_list
  have hP : P.data.toList.length = P.size := by rw [← Lib.size_eq]
  have hS : s.data.toList.length = s.size := by rw [← Lib.size_eq]
  have hP2 : P2.data.toList.length = P2.size := by rw [← Lib.size_eq]
  have hS2 : s2.data.toList.length = s2.size := by rw [← Lib.size_eq]
  rw [repl_list]
  simp only [app_list, extract_list, List.drop_zero, Nat.sub_zero]
  rw [List.take_of_length_le (l := List.drop o2 s2.data.toList) (by rw [List.length_drop, hS2]; omega)]
  rw [List.take_append, hP, List.take_of_length_le (l := P.data.toList) (by omega), List.take_append_of_le_length (by rw [hS]; omega)]
  have d1 : List.drop (a + c) P.data.toList = [] := List.drop_eq_nil_of_le (by omega)
  have d2 : List.drop (a + c - P.size) s.data.toList = [] := List.drop_eq_nil_of_le (by omega)
  have d3 : List.drop (a + c - P.size - s.size) P2.data.toList = [] := List.drop_eq_nil_of_le (by omega)
  rw [List.drop_append, hP, d1, List.nil_append, List.drop_append, hS, d2, List.nil_append, List.drop_append, hP2, d3, List.nil_append, List.drop_append_of_le_length (by rw [hS2]; omega)]
  rw [show a - P.size = o by omega, show a + c - P.size - s.size - P2.size = o2 by omega]
  simp [List.append_assoc]
theorem sub_extract (s : ByteArray) (o c : Nat) (h : o ≤ s.size) (hc : c ≤ s.size - o) : (s.extract o s.size).extract c (s.extract o s.size).size = s.extract (o + c) s.size := by
  apply ext_of_list
  rw [extract_list, extract_list, extract_list]
  have hS : s.data.toList.length = s.size := by rw [← Lib.size_eq]
  rw [List.take_of_length_le (l := List.drop o s.data.toList) (by rw [List.length_drop, hS]; omega), List.take_of_length_le (l := List.drop c _) (by rw [List.length_drop, List.length_drop, hS]; simp [ByteArray.size_extract]), List.drop_drop, List.take_of_length_le (by rw [List.length_drop, hS]; omega)]

/-- A rope that is right, with the text s. -/
def RopeOf (W : World) (b : Nat) (s : ByteArray) : Prop := ∃ t : Tr, IsRope W b t ∧ t.text = s ∧ (t.Ok ∨ ∃ u, t = .leaf u)
theorem RopeOf.keeps {W W' : World} {b : Nat} {s : ByteArray} (h : RopeOf W b s) (hk : Keeps W W') : RopeOf W' b s := by
  obtain ⟨t, h1, h2, h3⟩ := h; exact ⟨t, h1.keeps hk, h2, h3⟩
theorem RopeOf.below {W W' : World} {b : Nat} {s : ByteArray} (h : RopeOf W b s) (hb : Below W.heap.size W W') : RopeOf W' b s := by
  obtain ⟨t, h1, h2, h3⟩ := h; exact ⟨t, h1.below hb, h2, h3⟩

theorem RopeNew_any (s : ByteArray) (w : World) (hT : Tabs w) (hs : s.size ≤ 4294967296) :
    Calls Tryz.prog 67 #[.string s] w fun e w' => ∃ b, e = .returned (ptr b) ∧ RopeOf w' b s ∧ w.heap.size ≤ b ∧ Below w.heap.size w w' := by
  have H := Lib.hid (put_any (.pointer none) (.pointer none) none none s w hT rfl rfl (fun _ h => by cases h) (fun _ h => by cases h) (by rw [txt_none]; show 0 + s.size + 0 ≤ _; omega))
  clear hT
  go_enter Tryz.func67, Tryz.ntmps67
  go_wp2_with fail
  refine H.out.mono ?_
  rintro e w1 ⟨x, t, rfl, ht, htx, hg, hb⟩
  have b2 : Below w1.heap.size w1 (w1.alloc (.cells ([ptr x] : List Value).toArray 139)) := (Below.refl _ _).alloc (Nat.le_refl _) _
  have hR : RopeOf (w1.alloc (.cells ([ptr x] : List Value).toArray 139)) w1.heap.size s := ⟨t, ⟨x, Blk.new w1 [ptr x] 139, ht.below b2⟩, by rw [htx, txt_none, nil_app, app_nil], hg⟩
  have HR := Lib.hid hR
  have HB := Lib.hid (hb.trans (b2.mono hb.size))
  have hsz := hb.size
  clear ht htx hg hb b2 hR H
  unfold ptr at *
  go_wp2
  go_ret
  exact ⟨_, rfl, HR.out, hsz, HB.out⟩
end Go.Proofs.YtgmpohdkignadaaGreatDoor.Ut
/-
  rope: Replace. Condition: the two tables of unicode/utf8 lie as laid.
-/
namespace Go.Proofs.YtgmpohdkignadaaGreatDoor.Ut
open Go.RowKit Go.Proofs.YtgmpohdkignadaaGreatDoor.Reg
set_option linter.unusedVariables false
set_option linter.unusedSimpArgs false

theorem part_okL {t : Tr} (hg : t.Ok ∨ ∃ u, t = .leaf u) (a : Nat) (ha : a ≤ t.text.size) : OkL (partL t.leaves a).1 ∧ OkL (partL t.leaves a).2.2.2 := by
  rcases hg with h | ⟨u, rfl⟩
  · have h1 := Tr.ok_iff.1 h
    obtain ⟨e, -, -⟩ := partL_ok t.leaves a t.leaves_ne (by rw [← Tr.text_leaves]; exact ha)
    rw [← e] at h1
    exact ⟨h1.left, OkL.tail h1.right⟩
  · exact ⟨okO_none.lvs, okO_none.lvs⟩
theorem OkL.opt {L : List ByteArray} {v : Value} {w : World} (h : OptV L v w) (ho : OkL L) : ∃ o, IsOpt w v o ∧ GoodO o ∧ txt o = cat L := by
  obtain ⟨o, h1, h2, h3⟩ := h.okO ho
  exact ⟨o, h1, fun t ht => .inl (h2 t ht), by unfold txt; rw [h3]⟩

/-- What Replace of a rope answers. -/
def ReplTo (s : ByteArray) (i c : Nat) (p : ByteArray) (w : World) : Ending → World → Prop := fun e w' => ∃ b, e = .returned (.tuple #[ptr b, .string (s.extract i (i + c)), .int .i64 0]) ∧ RopeOf w' b (repl s i c p) ∧ w.heap.size ≤ b ∧ Below w.heap.size w w'

set_option maxRecDepth 100000 in
set_option maxHeartbeats 4000000 in
theorem RopeReplace_any (b : Nat) (s : ByteArray) (i c : Nat) (p : ByteArray) (w : World) (hT : Tabs w) (h : RopeOf w b s) (hic : i + c ≤ s.size) (hs : s.size ≤ 2147483648) (hp : p.size ≤ 1073741824) :
    Calls Tryz.prog 154 #[ptr b, .int .i64 i, .int .i64 c, .string p] w (ReplTo s i c p w) := by
  obtain ⟨t, hR, rfl, hg⟩ := h
  have HSl := Lib.hid (fun W hW => RopeSlice_any b i (i + c) t W hW (by omega) (by omega) hic)
  have HLen := Lib.hid (fun W hW => RopeLen_any b t W hW)
  obtain ⟨x, hx1, hx2⟩ := hR
  have hPo := partL_ok t.leaves i t.leaves_ne (by rw [← Tr.text_leaves]; omega)
  have hokPQ := part_okL hg i (by omega)
  have HPart := Lib.hid (fun W hW hT => part_any t x i W hT hW hg (by omega))
  have HR1 := Lib.hid hx1
  have HR2 := Lib.hid hx2
  have HT := Lib.hid hT
  unfold PartTo at HPart
  have htx := t.text_leaves
  obtain ⟨L4, hL4⟩ : ∃ L4, partL t.leaves i = L4 := ⟨_, rfl⟩
  rw [hL4] at HPart hPo hokPQ
  obtain ⟨P, sl, o, Q⟩ := L4
  dsimp only at HPart hPo hokPQ
  obtain ⟨e1, e2, e3⟩ := hPo
  obtain ⟨okP, okQ⟩ := hokPQ
  have htext : t.text = cat P ++ (sl ++ cat Q) := by rw [htx, ← e1, cat_app]; rfl
  have hsz : t.text.size = (cat P).size + (sl.size + (cat Q).size) := by rw [htext, ByteArray.size_append, ByteArray.size_append]
  have OkP := Lib.hid okP
  have OkQ := Lib.hid okQ
  have HTX := Lib.hid htext
  have n1 : i ≤ t.text.size := by omega
  have n2 : c ≤ t.text.size - i := by omega
  have E2 := Lib.hid e2
  have E3 := Lib.hid e3
  have HSZ := Lib.hid hsz
  obtain ⟨n, hn⟩ : ∃ n, t.text.size = n := ⟨_, rfl⟩
  rw [hn] at HLen hs hic n1 n2 HSZ
  have HN := Lib.hid hn
  obtain ⟨j, hj⟩ : ∃ j, i + c = j := ⟨_, rfl⟩
  rw [hj] at HSl
  have q0 : ¬ (i : Int) < 0 := by omega
  have q1 : ¬ (c : Int) < 0 := by omega
  have q2 : ¬ (n : Int) < (i : Int) := by omega
  have q3 : ¬ (n : Int) - (i : Int) < (c : Int) := by omega
  have q4 : IntKind.i64.wrap ((n : Int) - (i : Int)) = (n : Int) - (i : Int) := IntWalk.i64_in _ (by omega)
  have q5 : IntKind.i64.wrap ((i : Int) + (c : Int)) = (j : Int) := by rw [IntWalk.i64_in _ (by omega)]; omega
  have q6 : (i : Int) + (c : Int) = (j : Int) := by omega
  have q7 : (o : Int) ≤ (sl.size : Int) := by omega
  have hJ := Lib.hid hj
  have HB := Lib.hid (Below.refl w.heap.size w)
  unfold ReplTo
  rw [hj]
  clear hx1 hx2 hT hL4 htx e1 okP okQ htext hsz hn hj
  unfold ptr at HLen HSl HPart ⊢
  go_enter Tryz.func154, Tryz.ntmps154
  go_wp2_with fail
  refine (HLen.out w ⟨x, HR1.out, HR2.out⟩).mono ?_
  rintro e w1 ⟨rfl, rfl⟩
  go_wp2_with fail
  refine (HLen.out w1 ⟨x, HR1.out, HR2.out⟩).mono ?_
  rintro e w2 ⟨rfl, rfl⟩
  go_wp2_with fail
  refine (HSl.out w2 ⟨x, HR1.out, HR2.out⟩).mono ?_
  rintro e w3 ⟨rfl, hb⟩
  have HR1 := Lib.hid (HR1.out.below hb)
  have HR2 := Lib.hid (HR2.out.below hb)
  have HT := Lib.hid (tabs_below HT.out hb)
  have HB := Lib.hid (HB.out.trans (hb.mono HB.out.size))
  clear hb
  clear HLen HSl
  obtain ⟨G, hG⟩ : ∃ G, t.text.extract i j = G := ⟨_, rfl⟩
  rw [hG]
  have HG := Lib.hid hG
  clear hG q0 q1 q2 q3 q4 q5 q6
  go_wp2_with fail
  refine (tree_any b x w3 HR1.out.lies).mono ?_
  rintro e w4 ⟨rfl, rfl⟩
  unfold ptr
  go_wp2_with fail
  refine (HPart.out w4 HR2.out HT.out).mono ?_
  rintro e w5 ⟨v1, v2, rfl, hv1, hv2, hb⟩
  have HV1 := Lib.hid hv1
  have HV2 := Lib.hid hv2
  have HT := Lib.hid (tabs_below HT.out hb)
  have HB := Lib.hid (HB.out.trans (hb.mono HB.out.size))
  clear hb
  clear hv1 hv2 HPart HR1 HR2
  have hso : (sl.extract o sl.size).size = sl.size - o := by simp [ByteArray.size_extract]
  have HB0 := HB
  have hB : sl.extract o sl.size = sl.extract o sl.size := rfl
  obtain ⟨B, hBe⟩ : ∃ B, sl.extract o sl.size = B := ⟨_, rfl⟩
  obtain ⟨F, hFe⟩ : ∃ F, sl.extract 0 o = F := ⟨_, rfl⟩
  have hBs : B.size = sl.size - o := by rw [← hBe]; exact hso
  have hFs : F.size = o := by rw [← hFe]; simp [ByteArray.size_extract]; have := E3.out; omega
  have HBe := Lib.hid hBe
  have HFe := Lib.hid hFe
  have HBs := Lib.hid hBs
  have HFs := Lib.hid hFs
  clear hB hBs hFs
  by_cases hc : c ≤ sl.size - o
  · have hc1 : (c : Int) ≤ (B.size : Int) := by rw [HBs.out]; omega
    obtain ⟨C, hCe⟩ : ∃ C, B.extract c B.size = C := ⟨_, rfl⟩
    have hCs : C.size = B.size - c := by rw [← hCe]; simp [ByteArray.size_extract]
    have HCe := Lib.hid hCe
    have HCs := Lib.hid hCs
    have z1 : ¬ 9223372036854775807 < F.size + p.size := by rw [HFs.out]; have := E3.out; have := HSZ.out; omega
    have z2 : ¬ 9223372036854775807 < (F ++ p).size + C.size := by rw [ByteArray.size_append, HFs.out, HCs.out, HBs.out]; have := E3.out; have := HSZ.out; omega
    clear hso hCs
    obtain ⟨o1, ho1, hg1, ht1⟩ := OkP.out.opt HV1.out
    obtain ⟨o3, ho3, hg3, ht3⟩ := OkQ.out.opt HV2.out
    have h1z := congrArg ByteArray.size ht1
    have h3z := congrArg ByteArray.size ht3
    have hput := put_any v1 v2 o1 o3 (F ++ p ++ C) _ HT.out ho1 ho3 hg1 hg3 (by rw [h1z, h3z, ByteArray.size_append, ByteArray.size_append, HFs.out, HCs.out, HBs.out]; have := E3.out; have := HSZ.out; omega)
    have HP := Lib.hid hput
    have HT1 := Lib.hid ht1
    have HT3 := Lib.hid ht3
    clear ho1 hg1 ht1 ho3 hg3 ht3 h1z h3z hput
    go_wp2_with fail
    refine HP.out.mono ?_
    rintro e w8 ⟨y, u, rfl, hu, hut, hug, hb⟩
    have b2 : Below w8.heap.size w8 (w8.alloc (.cells ([ptr y] : List Value).toArray 139)) := (Below.refl _ _).alloc (Nat.le_refl _) _
    have hR : RopeOf (w8.alloc (.cells ([ptr y] : List Value).toArray 139)) w8.heap.size (repl t.text i c p) := ⟨u, ⟨y, Blk.new w8 [ptr y] 139, hu.below b2⟩, by rw [hut, HT1.out, HT3.out, HTX.out]; rw [← HFe.out, ← HCe.out, ← HBe.out]; exact (repl_in E2.out hc E3.out).symm, hug⟩
    have HR := Lib.hid hR
    have HB := Lib.hid ((HB.out.trans (hb.mono HB.out.size)).trans (b2.mono (Nat.le_trans HB.out.size hb.size)))
    have hsz8 := Nat.le_trans HB0.out.size hb.size
    clear hu hut hug hb b2 hR HP
    unfold ptr at *
    go_wp2
    refine bodyPost_ret (v := .tuple #[.pointer (some ⟨w8.heap.size, 0, none⟩), .string G, .int .i64 0]) (by simp [results, Tryz.results154, go_sem]) rfl ⟨w8.heap.size, by rw [HG.out]; try rfl, HR.out, hsz8, HB.out⟩
  · have hc1 : ¬ (c : Int) ≤ (B.size : Int) := by rw [HBs.out]; omega
    obtain ⟨k, hk⟩ : ∃ k, c - (sl.size - o) = k := ⟨_, rfl⟩
    have hkz : k ≤ (cat Q).size := by have := E3.out; have := E2.out; have := HSZ.out; omega
    have hk0 : 0 < k := by omega
    obtain ⟨o2, ho2, hok2, hlv2⟩ := HV2.out.okO OkQ.out
    obtain ⟨t2, rfl⟩ : ∃ t2, o2 = some t2 := by
      cases o2 with
      | none =>
        have hl0 : ([] : List ByteArray) = Q := hlv2
        rw [← hl0] at hkz
        rw [cat_nil_size] at hkz; omega
      | some t => exact ⟨t, rfl⟩
    obtain ⟨x2, rfl, hx2⟩ := ho2
    have hl2 : t2.leaves = Q := hlv2
    have hp2 := part_any t2 x2 k _ HT.out hx2 (.inl (hok2 t2 rfl)) (by rw [Tr.text_leaves, hl2]; exact hkz)
    have hpo2 := partL_ok t2.leaves k t2.leaves_ne (by rw [hl2]; exact hkz)
    have hok3 := part_okL (.inl (hok2 t2 rfl)) k (by rw [Tr.text_leaves, hl2]; exact hkz)
    unfold PartTo at hp2
    rw [hl2] at hp2 hpo2 hok3
    obtain ⟨L5, hL5⟩ : ∃ L5, partL Q k = L5 := ⟨_, rfl⟩
    rw [hL5] at hp2 hpo2 hok3
    obtain ⟨P2, s2, o2, Q2⟩ := L5
    dsimp only at hp2 hpo2 hok3
    obtain ⟨f1, f2, f3⟩ := hpo2
    have HP2 := Lib.hid hp2
    have OkQ2 := Lib.hid hok3.2
    have hcQ : cat Q = cat P2 ++ (s2 ++ cat Q2) := by rw [← f1, cat_app]; rfl
    have HcQ := Lib.hid hcQ
    have hcz : (cat Q).size = (cat P2).size + (s2.size + (cat Q2).size) := by rw [hcQ, ByteArray.size_append, ByteArray.size_append]
    have HcZ := Lib.hid hcz
    have F2 := Lib.hid f2
    have F3 := Lib.hid f3
    have hk1 : IntKind.i64.wrap ((c : Int) - (B.size : Int)) = (k : Int) := by rw [HBs.out, IntWalk.i64_in _ (by have := E3.out; have := HSZ.out; omega)]; have := E3.out; omega
    have hk2 : (c : Int) - (B.size : Int) = (k : Int) := by rw [HBs.out]; have := E3.out; omega
    have hq2 : (o2 : Int) ≤ (s2.size : Int) := by omega
    have HK := Lib.hid hk
    obtain ⟨C, hCe⟩ : ∃ C, s2.extract o2 s2.size = C := ⟨_, rfl⟩
    have hCs : C.size = s2.size - o2 := by rw [← hCe]; simp [ByteArray.size_extract]
    have HCe := Lib.hid hCe
    have HCs := Lib.hid hCs
    have z1 : ¬ 9223372036854775807 < F.size + p.size := by rw [HFs.out]; have := E3.out; have := HSZ.out; omega
    have z2 : ¬ 9223372036854775807 < (F ++ p).size + C.size := by rw [ByteArray.size_append, HFs.out, HCs.out]; have := E3.out; have := HSZ.out; omega
    clear hso hCs hok2 hlv2 hx2 hp2 hok3 f1 f2 f3 hcQ hcz hk hL5 hl2 hkz
    unfold ptr at HP2 ⊢
    go_wp2_with fail
    refine HP2.out.mono ?_
    rintro e w6 ⟨v5, v6, rfl, -, hv6, hb⟩
    have HV6 := Lib.hid hv6
    have HV1 := Lib.hid (HV1.out.below hb)
    have HT := Lib.hid (tabs_below HT.out hb)
    have HB := Lib.hid (HB.out.trans (hb.mono HB.out.size))
    clear hb
    clear hv6 HP2 hk1 hk2
    have HB0 := HB
    obtain ⟨o1, ho1, hg1, ht1⟩ := OkP.out.opt HV1.out
    obtain ⟨o3, ho3, hg3, ht3⟩ := OkQ2.out.opt HV6.out
    have h1z := congrArg ByteArray.size ht1
    have h3z := congrArg ByteArray.size ht3
    have hput := put_any v1 v6 o1 o3 (F ++ p ++ C) _ HT.out ho1 ho3 hg1 hg3 (by rw [h1z, h3z, ByteArray.size_append, ByteArray.size_append, HFs.out, HCs.out]; have := E3.out; have := HSZ.out; have := HcZ.out; have := F3.out; omega)
    have HP := Lib.hid hput
    have HT1 := Lib.hid ht1
    have HT3 := Lib.hid ht3
    clear ho1 hg1 ht1 ho3 hg3 ht3 h1z h3z hput
    go_wp2_with fail
    refine HP.out.mono ?_
    rintro e w8 ⟨y, u, rfl, hu, hut, hug, hb⟩
    have b2 : Below w8.heap.size w8 (w8.alloc (.cells ([ptr y] : List Value).toArray 139)) := (Below.refl _ _).alloc (Nat.le_refl _) _
    have hR : RopeOf (w8.alloc (.cells ([ptr y] : List Value).toArray 139)) w8.heap.size (repl t.text i c p) := ⟨u, ⟨y, Blk.new w8 [ptr y] 139, hu.below b2⟩, by rw [hut, HT1.out, HT3.out, HTX.out]; rw [HcQ.out, ← HFe.out, ← HCe.out]; exact (repl_out E2.out E3.out (by rw [F2.out, HK.out]) (by omega) F3.out).symm, hug⟩
    have HR := Lib.hid hR
    have HB := Lib.hid ((HB.out.trans (hb.mono HB.out.size)).trans (b2.mono (Nat.le_trans HB.out.size hb.size)))
    have hsz8 := Nat.le_trans HB0.out.size hb.size
    clear hu hut hug hb b2 hR HP
    unfold ptr at *
    go_wp2
    refine bodyPost_ret (v := .tuple #[.pointer (some ⟨w8.heap.size, 0, none⟩), .string G, .int .i64 0]) (by simp [results, Tryz.results154, go_sem]) rfl ⟨w8.heap.size, by rw [HG.out]; try rfl, HR.out, hsz8, HB.out⟩
end Go.Proofs.YtgmpohdkignadaaGreatDoor.Ut
/-
  store: what keeps a text as a rope (roped): Len, Slice, Measure; kept, New over a rope. Condition: the two tables of unicode/utf8 lie as laid.
-/
namespace Go.Proofs.YtgmpohdkignadaaGreatDoor.Ut
open Go.RowKit Go.Proofs.YtgmpohdkignadaaGreatDoor.Reg
set_option linter.unusedVariables false
set_option linter.unusedSimpArgs false

/-- A rope that is changed in its place, with the text s. -/
def IsRoped (W : World) (b : Nat) (lim : Nat) (s : ByteArray) : Prop := ∃ rb, Blk W b 128 [ptr rb, .int .i64 lim] ∧ RopeOf W rb s
theorem IsRoped.below {W W' : World} {b lim : Nat} {s : ByteArray} (h : IsRoped W b lim s) (hb : Below W.heap.size W W') : IsRoped W' b lim s := by
  obtain ⟨rb, h1, h2⟩ := h; exact ⟨rb, h1.below hb, h2.below hb⟩
theorem IsRoped.keeps {W W' : World} {b lim : Nat} {s : ByteArray} (h : IsRoped W b lim s) (hk : Keeps W W') (hb : W'.heap[b]? = W.heap[b]?) : IsRoped W' b lim s := by
  obtain ⟨rb, h1, h2⟩ := h; exact ⟨rb, hb.trans h1, h2.keeps hk⟩
theorem keeps_set {S : Nat → Prop} {W W' : World} {g : Nat} {T : TypeId} {us : List Value} (hg : Blk W g T us) (hT : T ≠ 152 ∧ T ≠ 139) (hc : Chg S W W') (hS : ∀ k, S k → k = g) : Keeps W W' :=
  Keeps.of_chg hc fun k vs T' hs hT' hk => by
    have := hS k hs
    subst this
    have e := hg.same hk
    rcases hT' with h | h
    · exact hT.1 (e.trans h)
    · exact hT.2 (e.trans h)
theorem ropedLen_any (b lim : Nat) (s : ByteArray) (w : World) (h : IsRoped w b lim s) : Calls Tryz.prog 148 #[ptr b] w fun e w' => e = .returned (.int .i64 s.size) ∧ w' = w := by
  obtain ⟨rb, h1, t, h2, rfl, -⟩ := h
  have H := Lib.hid (RopeLen_any rb t w h2)
  have c0 := (h1.lies.2 0 _ rfl).1
  clear h1 h2
  unfold ptr at *
  go_enter Tryz.func148, Tryz.ntmps148
  go_wp2_with fail
  refine H.out.mono ?_
  rintro e w1 ⟨rfl, rfl⟩
  go_wp2
  go_ret
  exact ⟨rfl, rfl⟩
theorem ropedSlice_any (b lim : Nat) (s : ByteArray) (i j : Nat) (w : World) (h : IsRoped w b lim s) (hs : s.size ≤ 4294967296) (hij : i ≤ j) (hj : j ≤ s.size) : Calls Tryz.prog 151 #[ptr b, .int .i64 i, .int .i64 j] w fun e w' => e = .returned (.tuple #[.string (s.extract i j), .int .i64 0]) ∧ Below w.heap.size w w' := by
  obtain ⟨rb, h1, t, h2, rfl, -⟩ := h
  have H := Lib.hid (RopeSlice_any rb i j t w h2 hs hij hj)
  have c0 := (h1.lies.2 0 _ rfl).1
  obtain ⟨R, hR⟩ : ∃ R, t.text.extract i j = R := ⟨_, rfl⟩
  rw [hR] at H ⊢
  clear h1 h2 hR
  unfold ptr at *
  go_enter Tryz.func151, Tryz.ntmps151
  go_wp2_with fail
  refine H.out.mono ?_
  rintro e w1 ⟨rfl, hb⟩
  have HB := Lib.hid hb
  clear hb
  go_wp2
  refine bodyPost_ret (v := .tuple #[.string R, .int .i64 0]) (by simp [results, Tryz.results151, go_sem]) rfl ⟨rfl, HB.out⟩
set_option maxRecDepth 100000 in
set_option maxHeartbeats 1000000 in
theorem ropedMeasure_any (b lim : Nat) (s : ByteArray) (i j : Nat) (w : World) (hT : Tabs w) (h : IsRoped w b lim s) (hs : s.size ≤ 4294967296) (hij : i ≤ j) (hj : j ≤ s.size) : Calls Tryz.prog 149 #[ptr b, .int .i64 i, .int .i64 j] w fun e w' => e = .returned (.tuple #[(measF (s.extract i j)).val, .int .i64 0]) ∧ Below w.heap.size w w' := by
  obtain ⟨W0, hW0, A0, b0, hsz⟩ := boxL1 w zero7 115
  have HE := Lib.hid hW0
  unfold zero7 at HE
  have HR := Lib.hid A0
  have HB := Lib.hid b0
  obtain ⟨rb, h1, t, h2, rfl, -⟩ := h
  have H := Lib.hid (RopeMeasure_any rb i j t W0 (tabs_below hT b0) (h2.below b0) hs hij hj)
  have c0 := (h1.lies.2 0 _ rfl).1
  have hbl := h1.lies.1
  obtain ⟨m, hm⟩ : ∃ m, measF (t.text.extract i j) = m := ⟨_, rfl⟩
  rw [hm] at H ⊢
  clear h1 h2 hm hT hW0 A0 b0 hsz
  unfold ptr at *
  go_enter Tryz.func149, Tryz.ntmps149
  go_wp2_with fail
  rw [HE.out]
  refine H.out.mono ?_
  rintro e w1 ⟨rfl, hb⟩
  have HR := Lib.hid (HR.out.below hb)
  have HB := Lib.hid (HB.out.trans (hb.mono HB.out.size))
  clear hb
  clear c0
  unfold Sm.val
  have L := Lib.hid (HR.out.stored m.cells7 rfl).2
  have D4 := sets_chg w.heap.size m.cells7 0 w1
  have HBL := Lib.hid (chg_mine HB.out D4 (Nat.le_refl _))
  obtain ⟨r0, s0⟩ := HR.out.2 0 _ rfl
  obtain ⟨r1, s1⟩ := HR.out.2 1 _ rfl
  obtain ⟨r2, s2⟩ := HR.out.2 2 _ rfl
  obtain ⟨r3, s3⟩ := HR.out.2 3 _ rfl
  obtain ⟨r4, s4⟩ := HR.out.2 4 _ rfl
  obtain ⟨r5, s5⟩ := HR.out.2 5 _ rfl
  obtain ⟨r6, s6⟩ := HR.out.2 6 _ rfl
  clear D4
  go_wp2
  have j0 := (L.out 0 _ rfl).1
  have j1 := (L.out 1 _ rfl).1
  have j2 := (L.out 2 _ rfl).1
  have j3 := (L.out 3 _ rfl).1
  have j4 := (L.out 4 _ rfl).1
  have j5 := (L.out 5 _ rfl).1
  have j6 := (L.out 6 _ rfl).1
  simp only [Sm.cells7, zero7, World.setCells] at j0 j1 j2 j3 j4 j5 j6
  refine bodyPost_ret (v := .tuple #[m.val, .int .i64 0]) (by simp [results, Tryz.results149, go_sem, j0, j1, j2, j3, j4, j5, j6, Sm.val, zeroSm]) rfl ⟨rfl, HBL.out⟩

theorem hasR_of {W : World} {b lim : Nat} {s : ByteArray} (hT : Tabs W) (h : IsRoped W b lim s) (hs : s.size ≤ 1073741824) : HasR W (some ⟨b, 0, none⟩) s :=
  ⟨hs, fun W' hb => (ropedLen_any b lim s W' (h.below hb)).mono fun e w hh => ⟨hh.1, by rw [hh.2]; exact Below.refl _ _⟩,
   fun W' i j hb hij hj => ropedSlice_any b lim s i j W' (h.below hb) (by omega) hij hj,
   fun W' i hb hi => (ropedMeasure_any b lim s 0 i W' (tabs_below hT hb) (h.below hb) (by omega) (Nat.zero_le _) hi).mono fun e w h => ⟨_, h.1, rfl, h.2⟩⟩

set_option maxRecDepth 100000 in
theorem kept_rope (n : Nat) (s : ByteArray) (w : World) (hT : Tabs w) (hs : s.size ≤ 4294967296) :
    Calls Tryz.prog 46 #[.int .i64 2, .int .i64 n, .string s] w fun e w' => ∃ b, e = .returned (.iface 94 (.pointer (some ⟨b, 0, none⟩))) ∧ IsRoped w' b n s ∧ w.heap.size ≤ b ∧ Below w.heap.size w w' := by
  have H := Lib.hid (RopeNew_any s w hT hs)
  clear hT
  go_enter Tryz.func46, Tryz.ntmps46
  go_wp2_with fail
  refine H.out.mono ?_
  rintro e w1 ⟨b, rfl, hR, hb, hB⟩
  have b2 : Below w1.heap.size w1 (w1.alloc (.cells ([ptr b, .int .i64 n] : List Value).toArray 128)) := (Below.refl _ _).alloc (Nat.le_refl _) _
  have hK : IsRoped (w1.alloc (.cells ([ptr b, .int .i64 n] : List Value).toArray 128)) w1.heap.size n s := ⟨b, Blk.new w1 [ptr b, .int .i64 n] 128, hR.below b2⟩
  have HK := Lib.hid hK
  have HB := Lib.hid (hB.trans (b2.mono hB.size))
  have hsz := hB.size
  clear hR hb hB b2 hK H
  unfold ptr at *
  go_wp2
  go_ret
  exact ⟨_, rfl, HK.out, hsz, HB.out⟩
end Go.Proofs.YtgmpohdkignadaaGreatDoor.Ut
/-
  Package store: New over a rope. Condition: the two tables of unicode/utf8 lie as laid.
-/
namespace Go.Proofs.YtgmpohdkignadaaGreatDoor.Ut
open Go.RowKit Go.Proofs.YtgmpohdkignadaaGreatDoor.Reg
set_option linter.unusedVariables false
set_option linter.unusedSimpArgs false

/-- The backend is a rope: the kind says so, or none is said and the text is not shorter than top. -/
def ropeKind (k top : Int) (s : ByteArray) : Prop := k = 2 ∨ (k ≠ 1 ∧ k ≠ 2 ∧ top ≤ (s.size : Int))

set_option maxRecDepth 100000 in
set_option maxHeartbeats 2000000 in
theorem StNew_rope (k lo hi : Int) (n : Nat) (s : ByteArray) (w : World) (hT : Tabs w) (hn : n ≤ 1073741824) (hs : s.size ≤ n) (hk : ropeKind k (max hi (min (max lo 0) 1073741824 + 1)) s) :
    Calls Tryz.prog 28 #[.int .i64 k, .int .i64 lo, .int .i64 hi, .int .i64 n, .string s] w fun e w' => ∃ b, e = .returned (.tuple #[.pointer (some ⟨b, 0, none⟩), .int .i64 0]) ∧ ∃ gb,
      Blk w' b 91 [.iface 94 (.pointer (some ⟨gb, 0, none⟩)), .int .i64 (if k = 2 then 2 else 3), .int .i64 (min (max lo 0) 1073741824), .int .i64 (max hi (min (max lo 0) 1073741824 + 1)), .int .i64 n, .int .i64 0, .int .i64 0, .int .i64 0] ∧
      IsRoped w' gb n s ∧ w.heap.size ≤ gb ∧ w.heap.size ≤ b ∧ Below w.heap.size w w' := by
  have HTb := Lib.hid hT
  have e1 : min (n : Int) 1073741824 = (n : Int) := by omega
  have e2 : ¬ (n : Int) < (s.size : Int) := by omega
  obtain ⟨low, hlow⟩ : ∃ low, min (max lo 0) 1073741824 = low := ⟨_, rfl⟩
  have hw1 : IntKind.i64.wrap (low + 1) = low + 1 := IntWalk.i64_in _ (by omega)
  rw [hlow] at hk ⊢
  obtain ⟨top, htop⟩ : ∃ top, max hi (low + 1) = top := ⟨_, rfl⟩
  rw [htop] at hk ⊢
  clear hT
  rcases hk with rfl | ⟨k1, k2, k3⟩
  · go_enter Tryz.func28, Tryz.ntmps28
    go_wp2_with fail
    have kb : Blk (w.alloc (.cells ([.nilIface, .int .i64 2, .int .i64 low, .int .i64 top, .int .i64 n, .int .i64 0, .int .i64 0, .int .i64 0] : List Value).toArray 91)) w.heap.size 91 [.nilIface, .int .i64 2, .int .i64 low, .int .i64 top, .int .i64 n, .int .i64 0, .int .i64 0, .int .i64 0] := Blk.new _ _ _
    have b1 : Below w.heap.size w (w.alloc (.cells ([.nilIface, .int .i64 2, .int .i64 low, .int .i64 top, .int .i64 n, .int .i64 0, .int .i64 0, .int .i64 0] : List Value).toArray 91)) := (Below.refl _ _).alloc (Nat.le_refl _) _
    change Calls _ _ _ (w.alloc (.cells ([.nilIface, .int .i64 2, .int .i64 low, .int .i64 top, .int .i64 n, .int .i64 0, .int .i64 0, .int .i64 0] : List Value).toArray 91)) _
    generalize w.alloc (.cells ([.nilIface, .int .i64 2, .int .i64 low, .int .i64 top, .int .i64 n, .int .i64 0, .int .i64 0, .int .i64 0] : List Value).toArray 91) = w1 at *
    refine (kept_rope n s w1 (tabs_below HTb.out b1) (by omega)).mono ?_
    rintro e w2 ⟨gb, rfl, hG, hb, hB⟩
    have k2' := kb.below hB
    have hlt : w.heap.size < w1.heap.size := kb.lies.1
    have X := k2'.set 0 (.iface 94 (.pointer (some ⟨gb, 0, none⟩)))
    have CH := Chg.set w2 ⟨w.heap.size, 0, none⟩ (.iface 94 (.pointer (some ⟨gb, 0, none⟩)))
    have HX := Lib.hid X
    have HG := Lib.hid (hG.keeps (keeps_set k2' (by decide) CH (fun k h => h)) (CH.block gb (by obtain ⟨rb, h1, -⟩ := hG; exact h1.lies.1) (by show ¬ gb = w.heap.size; omega)))
    have HB := Lib.hid (chg_mine (b1.trans (hB.mono b1.size)) CH (Nat.le_refl _))
    have hb' : w.heap.size ≤ gb := by omega
    obtain ⟨c0, f0⟩ := k2'.lies.2 0 _ rfl
    clear kb b1 hG hB k2' X CH
    go_wp2
    refine bodyPost_ret (v := .tuple #[.pointer (some ⟨w.heap.size, 0, none⟩), .int .i64 0]) (by simp [results, Tryz.results28, go_sem]) rfl ⟨_, rfl, gb, ?_, HG.out, hb', Nat.le_refl _, HB.out⟩
    exact HX.out
  · have q1 : (k != 1) = true := by simpa using k1
    have q2 : (k != 2) = true := by simpa using k2
    have q3 : top ≤ (s.size : Int) := by omega
    go_enter Tryz.func28, Tryz.ntmps28
    go_wp2_with fail
    have kb : Blk (w.alloc (.cells ([.nilIface, .int .i64 3, .int .i64 low, .int .i64 top, .int .i64 n, .int .i64 0, .int .i64 0, .int .i64 0] : List Value).toArray 91)) w.heap.size 91 [.nilIface, .int .i64 3, .int .i64 low, .int .i64 top, .int .i64 n, .int .i64 0, .int .i64 0, .int .i64 0] := Blk.new _ _ _
    have b1 : Below w.heap.size w (w.alloc (.cells ([.nilIface, .int .i64 3, .int .i64 low, .int .i64 top, .int .i64 n, .int .i64 0, .int .i64 0, .int .i64 0] : List Value).toArray 91)) := (Below.refl _ _).alloc (Nat.le_refl _) _
    change Calls _ _ _ (w.alloc (.cells ([.nilIface, .int .i64 3, .int .i64 low, .int .i64 top, .int .i64 n, .int .i64 0, .int .i64 0, .int .i64 0] : List Value).toArray 91)) _
    generalize w.alloc (.cells ([.nilIface, .int .i64 3, .int .i64 low, .int .i64 top, .int .i64 n, .int .i64 0, .int .i64 0, .int .i64 0] : List Value).toArray 91) = w1 at *
    refine (kept_rope n s w1 (tabs_below HTb.out b1) (by omega)).mono ?_
    rintro e w2 ⟨gb, rfl, hG, hb, hB⟩
    have k2' := kb.below hB
    have hlt : w.heap.size < w1.heap.size := kb.lies.1
    have X := k2'.set 0 (.iface 94 (.pointer (some ⟨gb, 0, none⟩)))
    have CH := Chg.set w2 ⟨w.heap.size, 0, none⟩ (.iface 94 (.pointer (some ⟨gb, 0, none⟩)))
    have HX := Lib.hid X
    have HG := Lib.hid (hG.keeps (keeps_set k2' (by decide) CH (fun k h => h)) (CH.block gb (by obtain ⟨rb, h1, -⟩ := hG; exact h1.lies.1) (by show ¬ gb = w.heap.size; omega)))
    have HB := Lib.hid (chg_mine (b1.trans (hB.mono b1.size)) CH (Nat.le_refl _))
    have hb' : w.heap.size ≤ gb := by omega
    obtain ⟨c0, f0⟩ := k2'.lies.2 0 _ rfl
    clear kb b1 hG hB k2' X CH
    go_wp2
    refine bodyPost_ret (v := .tuple #[.pointer (some ⟨w.heap.size, 0, none⟩), .int .i64 0]) (by simp [results, Tryz.results28, go_sem]) rfl ⟨_, rfl, gb, ?_, HG.out, hb', Nat.le_refl _, HB.out⟩
    exact HX.out
end Go.Proofs.YtgmpohdkignadaaGreatDoor.Ut
/-
  bodkinlaw11.keep: what keeps a text. Condition: the two tables of unicode/utf8 lie as laid.
-/
namespace Go.Proofs.YtgmpohdkignadaaGreatDoor.Ut
open Go.RowKit Go.Proofs.YtgmpohdkignadaaGreatDoor.Reg
set_option linter.unusedVariables false
set_option linter.unusedSimpArgs false

def GapOf (W : World) (b lim : Nat) (s : ByteArray) : Prop := ∃ g r fr tv, Gap W b g r fr tv lim ∧ gtext r fr tv = s
theorem GapOf.below {W W' : World} {b lim : Nat} {s : ByteArray} (h : GapOf W b lim s) (hb : Below W.heap.size W W') : GapOf W' b lim s := by
  obtain ⟨g, r, fr, tv, h1, h2⟩ := h; exact ⟨g, r, fr, tv, h1.below hb, h2⟩
/-- What keeps a store's text. -/
def Inner (W : World) (T : TypeId) (p lim : Nat) (s : ByteArray) : Prop := (T = 57 ∧ GapOf W p lim s) ∨ (T = 94 ∧ IsRoped W p lim s)
theorem Inner.below {W W' : World} {T : TypeId} {p lim : Nat} {s : ByteArray} (h : Inner W T p lim s) (hb : Below W.heap.size W W') : Inner W' T p lim s := h.imp (fun h => ⟨h.1, h.2.below hb⟩) (fun h => ⟨h.1, h.2.below hb⟩)
/-- What is told of a store besides its text. -/
structure StI where
  kind : Int
  low : Int
  top : Int
  lim : Nat
  moves : Int
  forced : Int
  edited : Int
def IsStore (W : World) (b : Nat) (i : StI) (T : TypeId) (s : ByteArray) : Prop := ∃ p, Blk W b 91 [.iface T (ptr p), .int .i64 i.kind, .int .i64 i.low, .int .i64 i.top, .int .i64 i.lim, .int .i64 i.moves, .int .i64 i.forced, .int .i64 i.edited] ∧ Inner W T p i.lim s
theorem IsStore.below {W W' : World} {b : Nat} {i : StI} {T : TypeId} {s : ByteArray} (h : IsStore W b i T s) (hb : Below W.heap.size W W') : IsStore W' b i T s := by
  obtain ⟨p, h1, h2⟩ := h; exact ⟨p, h1.below hb, h2.below hb⟩
theorem GapOf.has {W : World} {b lim : Nat} {s : ByteArray} (h : GapOf W b lim s) (hT : Tabs W) (hs : s.size ≤ 1073741824) : HasG W (some ⟨b, 0, none⟩) s := hasG_of hT hs h
theorem IsStore.has {W : World} {b : Nat} {i : StI} {T : TypeId} {s : ByteArray} (h : IsStore W b i T s) (hT : Tabs W) (hs : s.size ≤ 1073741824) : HasS W (some ⟨b, 0, none⟩) s := by
  obtain ⟨p, h1, ⟨rfl, h2⟩ | ⟨rfl, h2⟩⟩ := h
  · exact hasS_gap h1.lies (h2.has hT hs)
  · exact hasS_rope h1.lies (hasR_of hT h2 hs)
/-- A value that keeps the text s, as the law makes it. -/
def KeptAs (W : World) (v : Value) (s : ByteArray) : Prop := (∃ b, v = .iface 57 (ptr b) ∧ GapOf W b 1073741824 s) ∨ (∃ b i T, v = .iface 56 (ptr b) ∧ IsStore W b i T s)
theorem KeptAs.below {W W' : World} {v : Value} {s : ByteArray} (h : KeptAs W v s) (hb : Below W.heap.size W W') : KeptAs W' v s := by
  rcases h with ⟨b, h1, h2⟩ | ⟨b, i, T, h1, h2⟩
  · exact .inl ⟨b, h1, h2.below hb⟩
  · exact .inr ⟨b, i, T, h1, h2.below hb⟩
theorem KeptAs.text {W : World} {v : Value} {s : ByteArray} (h : KeptAs W v s) (hT : Tabs W) (hs : s.size ≤ 1073741824) : TextIs W v s := by
  rcases h with ⟨b, rfl, h2⟩ | ⟨b, i, T, rfl, h2⟩
  · exact text57 (h2.has hT hs)
  · exact text56 (h2.has hT hs)
theorem StNew_any (k lo hi : Int) (n : Nat) (s : ByteArray) (w : World) (hT : Tabs w) (hn : n ≤ 1073741824) (hs : s.size ≤ n) :
    Calls Tryz.prog 28 #[.int .i64 k, .int .i64 lo, .int .i64 hi, .int .i64 n, .string s] w fun e w' => ∃ b i T, e = .returned (.tuple #[ptr b, .int .i64 0]) ∧ IsStore w' b i T s ∧ w.heap.size ≤ b ∧ Below w.heap.size w w' := by
  by_cases hk : gapKind k (max hi (min (max lo 0) 1073741824 + 1)) s
  · refine (StNew_gap k lo hi n s w hT hn hs hk).mono ?_
    rintro e w' ⟨b, rfl, gb, h1, ⟨g, r, fr, tv, h2, h3, -, -⟩, h4, h5⟩
    exact ⟨b, ⟨_, _, _, n, _, _, _⟩, _, rfl, ⟨gb, h1, .inl ⟨rfl, g, r, fr, tv, h2, h3⟩⟩, h4, h5⟩
  · have hk' : ropeKind k (max hi (min (max lo 0) 1073741824 + 1)) s := by
      unfold gapKind at hk
      unfold ropeKind
      omega
    refine (StNew_rope k lo hi n s w hT hn hs hk').mono ?_
    rintro e w' ⟨b, rfl, gb, h1, h2, h3, h4, h5⟩
    exact ⟨b, ⟨_, _, _, n, _, _, _⟩, _, rfl, ⟨gb, h1, .inr ⟨rfl, h2⟩⟩, h4, h5⟩

def VKeep3 (A b : Nat) (s : ByteArray) : Nat → Value → World → Prop := fun d x w => match d with
  | 17 => x = .int .i64 0
  | 18 => x = .bool false
  | 19 => x = .bool false
  | 20 => x = .pointer (some ⟨b, 0, none⟩)
  | 21 => x = .bool false
  | 22 => x = .bool false
  | 23 => x = .bool false
  | 24 => x = .pointer (some ⟨b, 0, none⟩)
  | 25 => x = .string s
  | 26 => x = .pointer (some ⟨A, 0, none⟩)
  | 27 => x = .string s
  | 28 => x = .bool false
  | 29 => x = .bool false
  | _ => True
theorem VKeep3_mono (A b : Nat) (s : ByteArray) : ∀ d x w w', VKeep3 A b s d x w → Below w.heap.size w w' → VKeep3 A b s d x w' := by
  exact fun _ _ _ _ h _ => h
def VKeep7 (A b : Nat) (s : ByteArray) : Nat → Value → World → Prop := fun d x w => match d with
  | 40 => x = .int .i64 0
  | 41 => x = .bool false
  | 42 => x = .bool false
  | 43 => x = .pointer (some ⟨b, 0, none⟩)
  | 44 => x = .bool false
  | 45 => x = .bool false
  | 46 => x = .bool false
  | 47 => x = .pointer (some ⟨b, 0, none⟩)
  | 48 => x = .string s
  | 49 => x = .pointer (some ⟨A, 0, none⟩)
  | 50 => x = .string s
  | 51 => x = .bool false
  | 52 => x = .bool false
  | _ => True
theorem VKeep7_mono (A b : Nat) (s : ByteArray) : ∀ d x w w', VKeep7 A b s d x w → Below w.heap.size w w' → VKeep7 A b s d x w' := by
  exact fun _ _ _ _ h _ => h

set_option maxRecDepth 100000 in
set_option maxHeartbeats 2000000 in
theorem keep_any (s : ByteArray) (k : Int) (w : World) (hT : Tabs w) (hs : s.size ≤ 1073741824) :
    Calls Tryz.prog 12 #[.agg #[.string s, .int .i64 k]] w fun e w' => ∃ v, e = .returned (.tuple #[v, .bool true]) ∧ KeptAs w' v s ∧ Below w.heap.size w w' := by
  obtain ⟨W0, hW0, A0, b0, hsz⟩ := boxL1 w [.string s, .int .i64 k] 23
  have HE := Lib.hid hW0
  have HA := Lib.hid A0
  have HB := Lib.hid b0
  have HT := Lib.hid (tabs_below hT b0)
  clear hW0 A0 b0 hsz hT
  by_cases hk : k = 0
  · subst hk
    go_enter Tryz.func12, Tryz.ntmps12
    go_wp2_with fail
    rw [HE.out]
    refine (GapNew_any s 1073741824 W0 (by omega) hs).mono ?_
    rintro e w1 ⟨b, g, r, fr, tv, rfl, hG, ht, -, -, hb⟩
    have HG := Lib.hid hG
    have HTx := Lib.hid ht
    have HA := Lib.hid (HA.out.below hb)
    have HT := Lib.hid (tabs_below HT.out hb)
    have HB := Lib.hid (HB.out.trans (hb.mono HB.out.size))
    clear hb
    clear hG ht
    go_wp2
    have lA := HA.out.1
    generalize w.heap.size = A at HA lA ⊢
    refine wp_held' mixed (VKeep3 A b s) (VKeep3_mono A b s) (by kernel_rfl) [17, 18, 19, 20, 21, 22, 23, 24, 25, 26, 27, 28, 29] (by kernel_rfl) (by kernel_rfl) ?_ ?_
    · intro j hj
      have hj' : j < 13 := hj
      rcases (by omega : j = 0 ∨ j = 1 ∨ j = 2 ∨ j = 3 ∨ j = 4 ∨ j = 5 ∨ j = 6 ∨ j = 7 ∨ j = 8 ∨ j = 9 ∨ j = 10 ∨ j = 11 ∨ j = 12) with rfl | rfl | rfl | rfl | rfl | rfl | rfl | rfl | rfl | rfl | rfl | rfl | rfl
      · -- operation 0
        (refine owes_val (L := [(5, false)]) rfl rfl rfl (by kernel_rfl) ?_; intro a' w' hb' hfacts; obtain ⟨hf5, -⟩ := hfacts; replace hf5 : a'.tmps[5]?.getD undef = .int .i64 0 := hf5)
        have pA := ((HA.out.below hb').2 0 _ rfl).1
        (go_simp; first | exact ⟨_, rfl, Below.refl _ _, rfl⟩ | exact ⟨_, rfl, Below.refl _ _, trivial⟩ | exact ⟨_, rfl, (Below.refl _ _).alloc (Nat.le_refl _) _, trivial⟩ | exact ⟨_, rfl, Below.refl _ _, congrArg (Value.int _) (IntWalk.i64_in _ (by omega))⟩)
      · -- operation 1
        (refine owes_val (L := [(17, true)]) rfl rfl rfl (by kernel_rfl) ?_; intro a' w' hb' hfacts; obtain ⟨hf17, -⟩ := hfacts; try simp only [VKeep3] at hf17)
        have pA := ((HA.out.below hb').2 0 _ rfl).1
        (go_simp; first | exact ⟨_, rfl, Below.refl _ _, rfl⟩ | exact ⟨_, rfl, Below.refl _ _, trivial⟩ | exact ⟨_, rfl, (Below.refl _ _).alloc (Nat.le_refl _) _, trivial⟩ | exact ⟨_, rfl, Below.refl _ _, congrArg (Value.int _) (IntWalk.i64_in _ (by omega))⟩)
      · -- operation 2
        (refine owes_val (L := [(18, true)]) rfl rfl rfl (by kernel_rfl) ?_; intro a' w' hb' hfacts; obtain ⟨hf18, -⟩ := hfacts; try simp only [VKeep3] at hf18)
        have pA := ((HA.out.below hb').2 0 _ rfl).1
        (go_simp; first | exact ⟨_, rfl, Below.refl _ _, rfl⟩ | exact ⟨_, rfl, Below.refl _ _, trivial⟩ | exact ⟨_, rfl, (Below.refl _ _).alloc (Nat.le_refl _) _, trivial⟩ | exact ⟨_, rfl, Below.refl _ _, congrArg (Value.int _) (IntWalk.i64_in _ (by omega))⟩)
      · -- operation 3
        (refine owes_if (L := [(4, false), (19, true)]) rfl rfl rfl rfl (by kernel_rfl) ?_; intro a' w' hb' hfacts; obtain ⟨hf4, hf19, -⟩ := hfacts; replace hf4 : a'.tmps[4]?.getD undef = .pointer (some ⟨b, 0, none⟩) := hf4; try simp only [VKeep3] at hf19)
        have pA := ((HA.out.below hb').2 0 _ rfl).1
        first
          | (go_simp; first | exact ⟨_, rfl, Below.refl _ _, rfl⟩ | exact ⟨_, rfl, Below.refl _ _, trivial⟩ | exact ⟨_, rfl, Below.refl _ _⟩ | exact ⟨_, rfl, (Below.refl _ _).alloc (Nat.le_refl _) _, trivial⟩)
          | (apply Exists.intro
             apply And.intro
             · assumption
             · apply And.intro
               · intro hc
                 first
                   | (refine absurd hc ?_; simp [undef]; done)
                   | (go_simp; first | exact ⟨_, rfl, Below.refl _ _, rfl⟩ | exact ⟨_, rfl, Below.refl _ _, trivial⟩ | exact ⟨_, rfl, Below.refl _ _⟩ | exact ⟨_, rfl, (Below.refl _ _).alloc (Nat.le_refl _) _, trivial⟩)
               · intro hc
                 first | exact absurd rfl hc | exact trivial | exact rfl)
          | (apply Exists.intro
             apply And.intro
             · assumption
             · intro hc
               first
                 | (refine absurd hc ?_; simp [undef]; done)
                 | (go_simp; first | exact ⟨_, rfl, Below.refl _ _, rfl⟩ | exact ⟨_, rfl, Below.refl _ _, trivial⟩ | exact ⟨_, rfl, Below.refl _ _⟩ | exact ⟨_, rfl, (Below.refl _ _).alloc (Nat.le_refl _) _, trivial⟩))
      · -- operation 4
        (refine owes_if (L := [(20, true), (19, true)]) rfl rfl rfl rfl (by kernel_rfl) ?_; intro a' w' hb' hfacts; obtain ⟨hf20, hf19, -⟩ := hfacts; try simp only [VKeep3] at hf20; try simp only [VKeep3] at hf19)
        have pA := ((HA.out.below hb').2 0 _ rfl).1
        first
          | (go_simp; first | exact ⟨_, rfl, Below.refl _ _, rfl⟩ | exact ⟨_, rfl, Below.refl _ _, trivial⟩ | exact ⟨_, rfl, Below.refl _ _⟩ | exact ⟨_, rfl, (Below.refl _ _).alloc (Nat.le_refl _) _, trivial⟩)
          | (apply Exists.intro
             apply And.intro
             · assumption
             · apply And.intro
               · intro hc
                 first
                   | (refine absurd hc ?_; simp [undef]; done)
                   | (go_simp; first | exact ⟨_, rfl, Below.refl _ _, rfl⟩ | exact ⟨_, rfl, Below.refl _ _, trivial⟩ | exact ⟨_, rfl, Below.refl _ _⟩ | exact ⟨_, rfl, (Below.refl _ _).alloc (Nat.le_refl _) _, trivial⟩)
               · intro hc
                 first | exact absurd rfl hc | exact trivial | exact rfl)
          | (apply Exists.intro
             apply And.intro
             · assumption
             · intro hc
               first
                 | (refine absurd hc ?_; simp [undef]; done)
                 | (go_simp; first | exact ⟨_, rfl, Below.refl _ _, rfl⟩ | exact ⟨_, rfl, Below.refl _ _, trivial⟩ | exact ⟨_, rfl, Below.refl _ _⟩ | exact ⟨_, rfl, (Below.refl _ _).alloc (Nat.le_refl _) _, trivial⟩))
      · -- operation 5
        (refine owes_val (L := [(19, true), (21, true)]) rfl rfl rfl (by kernel_rfl) ?_; intro a' w' hb' hfacts; obtain ⟨hf19, hf21, -⟩ := hfacts; try simp only [VKeep3] at hf19; try simp only [VKeep3] at hf21)
        have pA := ((HA.out.below hb').2 0 _ rfl).1
        (go_simp; first | exact ⟨_, rfl, Below.refl _ _, rfl⟩ | exact ⟨_, rfl, Below.refl _ _, trivial⟩ | exact ⟨_, rfl, (Below.refl _ _).alloc (Nat.le_refl _) _, trivial⟩ | exact ⟨_, rfl, Below.refl _ _, congrArg (Value.int _) (IntWalk.i64_in _ (by omega))⟩)
      · -- operation 6
        (refine owes_val (L := [(22, true)]) rfl rfl rfl (by kernel_rfl) ?_; intro a' w' hb' hfacts; obtain ⟨hf22, -⟩ := hfacts; try simp only [VKeep3] at hf22)
        have pA := ((HA.out.below hb').2 0 _ rfl).1
        (go_simp; first | exact ⟨_, rfl, Below.refl _ _, rfl⟩ | exact ⟨_, rfl, Below.refl _ _, trivial⟩ | exact ⟨_, rfl, (Below.refl _ _).alloc (Nat.le_refl _) _, trivial⟩ | exact ⟨_, rfl, Below.refl _ _, congrArg (Value.int _) (IntWalk.i64_in _ (by omega))⟩)
      · -- operation 7
        (refine owes_if (L := [(4, false), (23, true)]) rfl rfl rfl rfl (by kernel_rfl) ?_; intro a' w' hb' hfacts; obtain ⟨hf4, hf23, -⟩ := hfacts; replace hf4 : a'.tmps[4]?.getD undef = .pointer (some ⟨b, 0, none⟩) := hf4; try simp only [VKeep3] at hf23)
        have pA := ((HA.out.below hb').2 0 _ rfl).1
        first
          | (go_simp; first | exact ⟨_, rfl, Below.refl _ _, rfl⟩ | exact ⟨_, rfl, Below.refl _ _, trivial⟩ | exact ⟨_, rfl, Below.refl _ _⟩ | exact ⟨_, rfl, (Below.refl _ _).alloc (Nat.le_refl _) _, trivial⟩)
          | (apply Exists.intro
             apply And.intro
             · assumption
             · apply And.intro
               · intro hc
                 first
                   | (refine absurd hc ?_; simp [undef]; done)
                   | (go_simp; first | exact ⟨_, rfl, Below.refl _ _, rfl⟩ | exact ⟨_, rfl, Below.refl _ _, trivial⟩ | exact ⟨_, rfl, Below.refl _ _⟩ | exact ⟨_, rfl, (Below.refl _ _).alloc (Nat.le_refl _) _, trivial⟩)
               · intro hc
                 first | exact absurd rfl hc | exact trivial | exact rfl)
          | (apply Exists.intro
             apply And.intro
             · assumption
             · intro hc
               first
                 | (refine absurd hc ?_; simp [undef]; done)
                 | (go_simp; first | exact ⟨_, rfl, Below.refl _ _, rfl⟩ | exact ⟨_, rfl, Below.refl _ _, trivial⟩ | exact ⟨_, rfl, Below.refl _ _⟩ | exact ⟨_, rfl, (Below.refl _ _).alloc (Nat.le_refl _) _, trivial⟩))
      · -- operation 8
        (refine owes_if (L := [(24, true), (23, true)]) rfl rfl rfl rfl (by kernel_rfl) ?_; intro a' w' hb' hfacts; obtain ⟨hf24, hf23, -⟩ := hfacts; try simp only [VKeep3] at hf24; try simp only [VKeep3] at hf23)
        refine ⟨_, hf23, fun _ => ?_, fun hc => absurd rfl hc⟩
        go_simp
        refine (GapText_any b g r fr tv 1073741824 _ (HG.out.below hb')).mono ?_
        rintro e w3 ⟨rfl, hb3⟩
        rw [HTx.out]
        exact ⟨_, rfl, hb3, rfl⟩
      · -- operation 9
        (refine owes_if (L := [(1, false), (23, true)]) rfl rfl rfl rfl (by kernel_rfl) ?_; intro a' w' hb' hfacts; obtain ⟨hf1, hf23, -⟩ := hfacts; replace hf1 : a'.tmps[1]?.getD undef = .pointer (some ⟨A, 0, none⟩) := hf1; try simp only [VKeep3] at hf23)
        have pA := ((HA.out.below hb').2 0 _ rfl).1
        first
          | (go_simp; first | exact ⟨_, rfl, Below.refl _ _, rfl⟩ | exact ⟨_, rfl, Below.refl _ _, trivial⟩ | exact ⟨_, rfl, Below.refl _ _⟩ | exact ⟨_, rfl, (Below.refl _ _).alloc (Nat.le_refl _) _, trivial⟩)
          | (apply Exists.intro
             apply And.intro
             · assumption
             · apply And.intro
               · intro hc
                 first
                   | (refine absurd hc ?_; simp [undef]; done)
                   | (go_simp; first | exact ⟨_, rfl, Below.refl _ _, rfl⟩ | exact ⟨_, rfl, Below.refl _ _, trivial⟩ | exact ⟨_, rfl, Below.refl _ _⟩ | exact ⟨_, rfl, (Below.refl _ _).alloc (Nat.le_refl _) _, trivial⟩)
               · intro hc
                 first | exact absurd rfl hc | exact trivial | exact rfl)
          | (apply Exists.intro
             apply And.intro
             · assumption
             · intro hc
               first
                 | (refine absurd hc ?_; simp [undef]; done)
                 | (go_simp; first | exact ⟨_, rfl, Below.refl _ _, rfl⟩ | exact ⟨_, rfl, Below.refl _ _, trivial⟩ | exact ⟨_, rfl, Below.refl _ _⟩ | exact ⟨_, rfl, (Below.refl _ _).alloc (Nat.le_refl _) _, trivial⟩))
      · -- operation 10
        (refine owes_if (L := [(26, true), (23, true)]) rfl rfl rfl rfl (by kernel_rfl) ?_; intro a' w' hb' hfacts; obtain ⟨hf26, hf23, -⟩ := hfacts; try simp only [VKeep3] at hf26; try simp only [VKeep3] at hf23)
        have pA := ((HA.out.below hb').2 0 _ rfl).1
        first
          | (go_simp; first | exact ⟨_, rfl, Below.refl _ _, rfl⟩ | exact ⟨_, rfl, Below.refl _ _, trivial⟩ | exact ⟨_, rfl, Below.refl _ _⟩ | exact ⟨_, rfl, (Below.refl _ _).alloc (Nat.le_refl _) _, trivial⟩)
          | (apply Exists.intro
             apply And.intro
             · assumption
             · apply And.intro
               · intro hc
                 first
                   | (refine absurd hc ?_; simp [undef]; done)
                   | (go_simp; first | exact ⟨_, rfl, Below.refl _ _, rfl⟩ | exact ⟨_, rfl, Below.refl _ _, trivial⟩ | exact ⟨_, rfl, Below.refl _ _⟩ | exact ⟨_, rfl, (Below.refl _ _).alloc (Nat.le_refl _) _, trivial⟩)
               · intro hc
                 first | exact absurd rfl hc | exact trivial | exact rfl)
          | (apply Exists.intro
             apply And.intro
             · assumption
             · intro hc
               first
                 | (refine absurd hc ?_; simp [undef]; done)
                 | (go_simp; first | exact ⟨_, rfl, Below.refl _ _, rfl⟩ | exact ⟨_, rfl, Below.refl _ _, trivial⟩ | exact ⟨_, rfl, Below.refl _ _⟩ | exact ⟨_, rfl, (Below.refl _ _).alloc (Nat.le_refl _) _, trivial⟩))
      · -- operation 11
        (refine owes_if (L := [(25, true), (27, true), (23, true)]) rfl rfl rfl rfl (by kernel_rfl) ?_; intro a' w' hb' hfacts; obtain ⟨hf25, hf27, hf23, -⟩ := hfacts; try simp only [VKeep3] at hf25; try simp only [VKeep3] at hf27; try simp only [VKeep3] at hf23)
        have pA := ((HA.out.below hb').2 0 _ rfl).1
        first
          | (go_simp; first | exact ⟨_, rfl, Below.refl _ _, rfl⟩ | exact ⟨_, rfl, Below.refl _ _, trivial⟩ | exact ⟨_, rfl, Below.refl _ _⟩ | exact ⟨_, rfl, (Below.refl _ _).alloc (Nat.le_refl _) _, trivial⟩)
          | (apply Exists.intro
             apply And.intro
             · assumption
             · apply And.intro
               · intro hc
                 first
                   | (refine absurd hc ?_; simp [undef]; done)
                   | (go_simp; first | exact ⟨_, rfl, Below.refl _ _, rfl⟩ | exact ⟨_, rfl, Below.refl _ _, trivial⟩ | exact ⟨_, rfl, Below.refl _ _⟩ | exact ⟨_, rfl, (Below.refl _ _).alloc (Nat.le_refl _) _, trivial⟩)
               · intro hc
                 first | exact absurd rfl hc | exact trivial | exact rfl)
          | (apply Exists.intro
             apply And.intro
             · assumption
             · intro hc
               first
                 | (refine absurd hc ?_; simp [undef]; done)
                 | (go_simp; first | exact ⟨_, rfl, Below.refl _ _, rfl⟩ | exact ⟨_, rfl, Below.refl _ _, trivial⟩ | exact ⟨_, rfl, Below.refl _ _⟩ | exact ⟨_, rfl, (Below.refl _ _).alloc (Nat.le_refl _) _, trivial⟩))
      · -- operation 12
        (refine owes_val (L := [(23, true), (28, true)]) rfl rfl rfl (by kernel_rfl) ?_; intro a' w' hb' hfacts; obtain ⟨hf23, hf28, -⟩ := hfacts; try simp only [VKeep3] at hf23; try simp only [VKeep3] at hf28)
        have pA := ((HA.out.below hb').2 0 _ rfl).1
        (go_simp; first | exact ⟨_, rfl, Below.refl _ _, rfl⟩ | exact ⟨_, rfl, Below.refl _ _, trivial⟩ | exact ⟨_, rfl, (Below.refl _ _).alloc (Nat.le_refl _) _, trivial⟩ | exact ⟨_, rfl, Below.refl _ _, congrArg (Value.int _) (IntWalk.i64_in _ (by omega))⟩)
    · intro f W9 hf hb3
      have f29 : f 29 = .bool false := hf 29 (by decide)
      have HG9 := Lib.hid (HG.out.below hb3)
      have HB := Lib.hid (HB.out.trans (hb3.mono HB.out.size))
      clear hb3
      clear hf
      simp only [putAll, put_lit, List.map_cons, List.map_nil, List.set_cons_succ, List.set_cons_zero]
      simp only [f29]
      go_wp2
      refine bodyPost_ret (v := .tuple #[.iface 57 (.pointer (some ⟨b, 0, none⟩)), .bool true]) (by simp [results, Tryz.results12, go_sem]) rfl ⟨_, rfl, .inl ⟨b, rfl, g, r, fr, tv, HG9.out, HTx.out⟩, HB.out⟩
  · have hk1 : (k == 0) = false := by rw [beq_eq_false_iff_ne]; exact hk
    go_enter Tryz.func12, Tryz.ntmps12
    go_wp2_with fail
    rw [HE.out]
    refine (StNew_any k 8 40 1073741824 s W0 HT.out (by omega) hs).mono ?_
    rintro e w1 ⟨b, i, T, rfl, hG, -, hb⟩
    have HG := Lib.hid hG
    have HA := Lib.hid (HA.out.below hb)
    have HT := Lib.hid (tabs_below HT.out hb)
    have HB := Lib.hid (HB.out.trans (hb.mono HB.out.size))
    clear hb
    clear hG hk
    unfold ptr
    go_wp2
    have lA := HA.out.1
    generalize w.heap.size = A at HA lA ⊢
    refine wp_held' mixed (VKeep7 A b s) (VKeep7_mono A b s) (by kernel_rfl) [40, 41, 42, 43, 44, 45, 46, 47, 48, 49, 50, 51, 52] (by kernel_rfl) (by kernel_rfl) ?_ ?_
    · intro j hj
      have hj' : j < 13 := hj
      rcases (by omega : j = 0 ∨ j = 1 ∨ j = 2 ∨ j = 3 ∨ j = 4 ∨ j = 5 ∨ j = 6 ∨ j = 7 ∨ j = 8 ∨ j = 9 ∨ j = 10 ∨ j = 11 ∨ j = 12) with rfl | rfl | rfl | rfl | rfl | rfl | rfl | rfl | rfl | rfl | rfl | rfl | rfl
      · -- operation 0
        (refine owes_val (L := [(7, false)]) rfl rfl rfl (by kernel_rfl) ?_; intro a' w' hb' hfacts; obtain ⟨hf7, -⟩ := hfacts; replace hf7 : a'.tmps[7]?.getD undef = .int .i64 0 := hf7)
        have pA := ((HA.out.below hb').2 0 _ rfl).1
        (go_simp; first | exact ⟨_, rfl, Below.refl _ _, rfl⟩ | exact ⟨_, rfl, Below.refl _ _, trivial⟩ | exact ⟨_, rfl, (Below.refl _ _).alloc (Nat.le_refl _) _, trivial⟩ | exact ⟨_, rfl, Below.refl _ _, congrArg (Value.int _) (IntWalk.i64_in _ (by omega))⟩)
      · -- operation 1
        (refine owes_val (L := [(40, true)]) rfl rfl rfl (by kernel_rfl) ?_; intro a' w' hb' hfacts; obtain ⟨hf40, -⟩ := hfacts; try simp only [VKeep7] at hf40)
        have pA := ((HA.out.below hb').2 0 _ rfl).1
        (go_simp; first | exact ⟨_, rfl, Below.refl _ _, rfl⟩ | exact ⟨_, rfl, Below.refl _ _, trivial⟩ | exact ⟨_, rfl, (Below.refl _ _).alloc (Nat.le_refl _) _, trivial⟩ | exact ⟨_, rfl, Below.refl _ _, congrArg (Value.int _) (IntWalk.i64_in _ (by omega))⟩)
      · -- operation 2
        (refine owes_val (L := [(41, true)]) rfl rfl rfl (by kernel_rfl) ?_; intro a' w' hb' hfacts; obtain ⟨hf41, -⟩ := hfacts; try simp only [VKeep7] at hf41)
        have pA := ((HA.out.below hb').2 0 _ rfl).1
        (go_simp; first | exact ⟨_, rfl, Below.refl _ _, rfl⟩ | exact ⟨_, rfl, Below.refl _ _, trivial⟩ | exact ⟨_, rfl, (Below.refl _ _).alloc (Nat.le_refl _) _, trivial⟩ | exact ⟨_, rfl, Below.refl _ _, congrArg (Value.int _) (IntWalk.i64_in _ (by omega))⟩)
      · -- operation 3
        (refine owes_if (L := [(6, false), (42, true)]) rfl rfl rfl rfl (by kernel_rfl) ?_; intro a' w' hb' hfacts; obtain ⟨hf6, hf42, -⟩ := hfacts; replace hf6 : a'.tmps[6]?.getD undef = .pointer (some ⟨b, 0, none⟩) := hf6; try simp only [VKeep7] at hf42)
        have pA := ((HA.out.below hb').2 0 _ rfl).1
        first
          | (go_simp; first | exact ⟨_, rfl, Below.refl _ _, rfl⟩ | exact ⟨_, rfl, Below.refl _ _, trivial⟩ | exact ⟨_, rfl, Below.refl _ _⟩ | exact ⟨_, rfl, (Below.refl _ _).alloc (Nat.le_refl _) _, trivial⟩)
          | (apply Exists.intro
             apply And.intro
             · assumption
             · apply And.intro
               · intro hc
                 first
                   | (refine absurd hc ?_; simp [undef]; done)
                   | (go_simp; first | exact ⟨_, rfl, Below.refl _ _, rfl⟩ | exact ⟨_, rfl, Below.refl _ _, trivial⟩ | exact ⟨_, rfl, Below.refl _ _⟩ | exact ⟨_, rfl, (Below.refl _ _).alloc (Nat.le_refl _) _, trivial⟩)
               · intro hc
                 first | exact absurd rfl hc | exact trivial | exact rfl)
          | (apply Exists.intro
             apply And.intro
             · assumption
             · intro hc
               first
                 | (refine absurd hc ?_; simp [undef]; done)
                 | (go_simp; first | exact ⟨_, rfl, Below.refl _ _, rfl⟩ | exact ⟨_, rfl, Below.refl _ _, trivial⟩ | exact ⟨_, rfl, Below.refl _ _⟩ | exact ⟨_, rfl, (Below.refl _ _).alloc (Nat.le_refl _) _, trivial⟩))
      · -- operation 4
        (refine owes_if (L := [(43, true), (42, true)]) rfl rfl rfl rfl (by kernel_rfl) ?_; intro a' w' hb' hfacts; obtain ⟨hf43, hf42, -⟩ := hfacts; try simp only [VKeep7] at hf43; try simp only [VKeep7] at hf42)
        have pA := ((HA.out.below hb').2 0 _ rfl).1
        first
          | (go_simp; first | exact ⟨_, rfl, Below.refl _ _, rfl⟩ | exact ⟨_, rfl, Below.refl _ _, trivial⟩ | exact ⟨_, rfl, Below.refl _ _⟩ | exact ⟨_, rfl, (Below.refl _ _).alloc (Nat.le_refl _) _, trivial⟩)
          | (apply Exists.intro
             apply And.intro
             · assumption
             · apply And.intro
               · intro hc
                 first
                   | (refine absurd hc ?_; simp [undef]; done)
                   | (go_simp; first | exact ⟨_, rfl, Below.refl _ _, rfl⟩ | exact ⟨_, rfl, Below.refl _ _, trivial⟩ | exact ⟨_, rfl, Below.refl _ _⟩ | exact ⟨_, rfl, (Below.refl _ _).alloc (Nat.le_refl _) _, trivial⟩)
               · intro hc
                 first | exact absurd rfl hc | exact trivial | exact rfl)
          | (apply Exists.intro
             apply And.intro
             · assumption
             · intro hc
               first
                 | (refine absurd hc ?_; simp [undef]; done)
                 | (go_simp; first | exact ⟨_, rfl, Below.refl _ _, rfl⟩ | exact ⟨_, rfl, Below.refl _ _, trivial⟩ | exact ⟨_, rfl, Below.refl _ _⟩ | exact ⟨_, rfl, (Below.refl _ _).alloc (Nat.le_refl _) _, trivial⟩))
      · -- operation 5
        (refine owes_val (L := [(42, true), (44, true)]) rfl rfl rfl (by kernel_rfl) ?_; intro a' w' hb' hfacts; obtain ⟨hf42, hf44, -⟩ := hfacts; try simp only [VKeep7] at hf42; try simp only [VKeep7] at hf44)
        have pA := ((HA.out.below hb').2 0 _ rfl).1
        (go_simp; first | exact ⟨_, rfl, Below.refl _ _, rfl⟩ | exact ⟨_, rfl, Below.refl _ _, trivial⟩ | exact ⟨_, rfl, (Below.refl _ _).alloc (Nat.le_refl _) _, trivial⟩ | exact ⟨_, rfl, Below.refl _ _, congrArg (Value.int _) (IntWalk.i64_in _ (by omega))⟩)
      · -- operation 6
        (refine owes_val (L := [(45, true)]) rfl rfl rfl (by kernel_rfl) ?_; intro a' w' hb' hfacts; obtain ⟨hf45, -⟩ := hfacts; try simp only [VKeep7] at hf45)
        have pA := ((HA.out.below hb').2 0 _ rfl).1
        (go_simp; first | exact ⟨_, rfl, Below.refl _ _, rfl⟩ | exact ⟨_, rfl, Below.refl _ _, trivial⟩ | exact ⟨_, rfl, (Below.refl _ _).alloc (Nat.le_refl _) _, trivial⟩ | exact ⟨_, rfl, Below.refl _ _, congrArg (Value.int _) (IntWalk.i64_in _ (by omega))⟩)
      · -- operation 7
        (refine owes_if (L := [(6, false), (46, true)]) rfl rfl rfl rfl (by kernel_rfl) ?_; intro a' w' hb' hfacts; obtain ⟨hf6, hf46, -⟩ := hfacts; replace hf6 : a'.tmps[6]?.getD undef = .pointer (some ⟨b, 0, none⟩) := hf6; try simp only [VKeep7] at hf46)
        have pA := ((HA.out.below hb').2 0 _ rfl).1
        first
          | (go_simp; first | exact ⟨_, rfl, Below.refl _ _, rfl⟩ | exact ⟨_, rfl, Below.refl _ _, trivial⟩ | exact ⟨_, rfl, Below.refl _ _⟩ | exact ⟨_, rfl, (Below.refl _ _).alloc (Nat.le_refl _) _, trivial⟩)
          | (apply Exists.intro
             apply And.intro
             · assumption
             · apply And.intro
               · intro hc
                 first
                   | (refine absurd hc ?_; simp [undef]; done)
                   | (go_simp; first | exact ⟨_, rfl, Below.refl _ _, rfl⟩ | exact ⟨_, rfl, Below.refl _ _, trivial⟩ | exact ⟨_, rfl, Below.refl _ _⟩ | exact ⟨_, rfl, (Below.refl _ _).alloc (Nat.le_refl _) _, trivial⟩)
               · intro hc
                 first | exact absurd rfl hc | exact trivial | exact rfl)
          | (apply Exists.intro
             apply And.intro
             · assumption
             · intro hc
               first
                 | (refine absurd hc ?_; simp [undef]; done)
                 | (go_simp; first | exact ⟨_, rfl, Below.refl _ _, rfl⟩ | exact ⟨_, rfl, Below.refl _ _, trivial⟩ | exact ⟨_, rfl, Below.refl _ _⟩ | exact ⟨_, rfl, (Below.refl _ _).alloc (Nat.le_refl _) _, trivial⟩))
      · -- operation 8
        (refine owes_if (L := [(47, true), (46, true)]) rfl rfl rfl rfl (by kernel_rfl) ?_; intro a' w' hb' hfacts; obtain ⟨hf47, hf46, -⟩ := hfacts; try simp only [VKeep7] at hf47; try simp only [VKeep7] at hf46)
        refine ⟨_, hf46, fun _ => ?_, fun hc => absurd rfl hc⟩
        go_simp
        refine (StText_any ((HG.out.below hb').has (tabs_below HT.out hb') hs)).mono ?_
        rintro e w3 ⟨rfl, hb3⟩
        exact ⟨_, rfl, hb3, rfl⟩
      · -- operation 9
        (refine owes_if (L := [(1, false), (46, true)]) rfl rfl rfl rfl (by kernel_rfl) ?_; intro a' w' hb' hfacts; obtain ⟨hf1, hf46, -⟩ := hfacts; replace hf1 : a'.tmps[1]?.getD undef = .pointer (some ⟨A, 0, none⟩) := hf1; try simp only [VKeep7] at hf46)
        have pA := ((HA.out.below hb').2 0 _ rfl).1
        first
          | (go_simp; first | exact ⟨_, rfl, Below.refl _ _, rfl⟩ | exact ⟨_, rfl, Below.refl _ _, trivial⟩ | exact ⟨_, rfl, Below.refl _ _⟩ | exact ⟨_, rfl, (Below.refl _ _).alloc (Nat.le_refl _) _, trivial⟩)
          | (apply Exists.intro
             apply And.intro
             · assumption
             · apply And.intro
               · intro hc
                 first
                   | (refine absurd hc ?_; simp [undef]; done)
                   | (go_simp; first | exact ⟨_, rfl, Below.refl _ _, rfl⟩ | exact ⟨_, rfl, Below.refl _ _, trivial⟩ | exact ⟨_, rfl, Below.refl _ _⟩ | exact ⟨_, rfl, (Below.refl _ _).alloc (Nat.le_refl _) _, trivial⟩)
               · intro hc
                 first | exact absurd rfl hc | exact trivial | exact rfl)
          | (apply Exists.intro
             apply And.intro
             · assumption
             · intro hc
               first
                 | (refine absurd hc ?_; simp [undef]; done)
                 | (go_simp; first | exact ⟨_, rfl, Below.refl _ _, rfl⟩ | exact ⟨_, rfl, Below.refl _ _, trivial⟩ | exact ⟨_, rfl, Below.refl _ _⟩ | exact ⟨_, rfl, (Below.refl _ _).alloc (Nat.le_refl _) _, trivial⟩))
      · -- operation 10
        (refine owes_if (L := [(49, true), (46, true)]) rfl rfl rfl rfl (by kernel_rfl) ?_; intro a' w' hb' hfacts; obtain ⟨hf49, hf46, -⟩ := hfacts; try simp only [VKeep7] at hf49; try simp only [VKeep7] at hf46)
        have pA := ((HA.out.below hb').2 0 _ rfl).1
        first
          | (go_simp; first | exact ⟨_, rfl, Below.refl _ _, rfl⟩ | exact ⟨_, rfl, Below.refl _ _, trivial⟩ | exact ⟨_, rfl, Below.refl _ _⟩ | exact ⟨_, rfl, (Below.refl _ _).alloc (Nat.le_refl _) _, trivial⟩)
          | (apply Exists.intro
             apply And.intro
             · assumption
             · apply And.intro
               · intro hc
                 first
                   | (refine absurd hc ?_; simp [undef]; done)
                   | (go_simp; first | exact ⟨_, rfl, Below.refl _ _, rfl⟩ | exact ⟨_, rfl, Below.refl _ _, trivial⟩ | exact ⟨_, rfl, Below.refl _ _⟩ | exact ⟨_, rfl, (Below.refl _ _).alloc (Nat.le_refl _) _, trivial⟩)
               · intro hc
                 first | exact absurd rfl hc | exact trivial | exact rfl)
          | (apply Exists.intro
             apply And.intro
             · assumption
             · intro hc
               first
                 | (refine absurd hc ?_; simp [undef]; done)
                 | (go_simp; first | exact ⟨_, rfl, Below.refl _ _, rfl⟩ | exact ⟨_, rfl, Below.refl _ _, trivial⟩ | exact ⟨_, rfl, Below.refl _ _⟩ | exact ⟨_, rfl, (Below.refl _ _).alloc (Nat.le_refl _) _, trivial⟩))
      · -- operation 11
        (refine owes_if (L := [(48, true), (50, true), (46, true)]) rfl rfl rfl rfl (by kernel_rfl) ?_; intro a' w' hb' hfacts; obtain ⟨hf48, hf50, hf46, -⟩ := hfacts; try simp only [VKeep7] at hf48; try simp only [VKeep7] at hf50; try simp only [VKeep7] at hf46)
        have pA := ((HA.out.below hb').2 0 _ rfl).1
        first
          | (go_simp; first | exact ⟨_, rfl, Below.refl _ _, rfl⟩ | exact ⟨_, rfl, Below.refl _ _, trivial⟩ | exact ⟨_, rfl, Below.refl _ _⟩ | exact ⟨_, rfl, (Below.refl _ _).alloc (Nat.le_refl _) _, trivial⟩)
          | (apply Exists.intro
             apply And.intro
             · assumption
             · apply And.intro
               · intro hc
                 first
                   | (refine absurd hc ?_; simp [undef]; done)
                   | (go_simp; first | exact ⟨_, rfl, Below.refl _ _, rfl⟩ | exact ⟨_, rfl, Below.refl _ _, trivial⟩ | exact ⟨_, rfl, Below.refl _ _⟩ | exact ⟨_, rfl, (Below.refl _ _).alloc (Nat.le_refl _) _, trivial⟩)
               · intro hc
                 first | exact absurd rfl hc | exact trivial | exact rfl)
          | (apply Exists.intro
             apply And.intro
             · assumption
             · intro hc
               first
                 | (refine absurd hc ?_; simp [undef]; done)
                 | (go_simp; first | exact ⟨_, rfl, Below.refl _ _, rfl⟩ | exact ⟨_, rfl, Below.refl _ _, trivial⟩ | exact ⟨_, rfl, Below.refl _ _⟩ | exact ⟨_, rfl, (Below.refl _ _).alloc (Nat.le_refl _) _, trivial⟩))
      · -- operation 12
        (refine owes_val (L := [(46, true), (51, true)]) rfl rfl rfl (by kernel_rfl) ?_; intro a' w' hb' hfacts; obtain ⟨hf46, hf51, -⟩ := hfacts; try simp only [VKeep7] at hf46; try simp only [VKeep7] at hf51)
        have pA := ((HA.out.below hb').2 0 _ rfl).1
        (go_simp; first | exact ⟨_, rfl, Below.refl _ _, rfl⟩ | exact ⟨_, rfl, Below.refl _ _, trivial⟩ | exact ⟨_, rfl, (Below.refl _ _).alloc (Nat.le_refl _) _, trivial⟩ | exact ⟨_, rfl, Below.refl _ _, congrArg (Value.int _) (IntWalk.i64_in _ (by omega))⟩)
    · intro f W9 hf hb3
      have f52 : f 52 = .bool false := hf 52 (by decide)
      have HG9 := Lib.hid (HG.out.below hb3)
      have HB := Lib.hid (HB.out.trans (hb3.mono HB.out.size))
      clear hb3
      clear hf
      simp only [putAll, put_lit, List.map_cons, List.map_nil, List.set_cons_succ, List.set_cons_zero]
      simp only [f52]
      go_wp2
      refine bodyPost_ret (v := .tuple #[.iface 56 (.pointer (some ⟨b, 0, none⟩)), .bool true]) (by simp [results, Tryz.results12, go_sem]) rfl ⟨_, rfl, .inr ⟨b, i, T, rfl, HG9.out⟩, HB.out⟩
end Go.Proofs.YtgmpohdkignadaaGreatDoor.Ut
/-
  bodkinlaw11.awake is true. Condition: the two tables of unicode/utf8 lie as laid.
-/
namespace Go.Proofs.YtgmpohdkignadaaGreatDoor.Ut
open Go.RowKit Go.Proofs.YtgmpohdkignadaaGreatDoor.Reg
set_option linter.unusedVariables false
set_option linter.unusedSimpArgs false

def sampleB : ByteArray := ⟨#[97, 98, 13, 10, 228, 184, 128, 99, 10, 10, 13]⟩
theorem aw_next : clN ⟨#[97]⟩ 0 = 1 := by decide +kernel
theorem aw_span : spanA sampleB 1 = (4, 8, 0) := by decide +kernel
theorem aw_col : colA sampleB 7 = (2, 0) := by decide +kernel
theorem aw_at : atA sampleB 1 2 = (7, 0) := by decide +kernel
theorem aw_of : ofA sampleB 10 = (3, 0) := by decide +kernel
theorem aw_count : nlF sampleB = 3 := by decide +kernel

set_option maxRecDepth 100000 in
set_option maxHeartbeats 2000000 in
theorem awake_any (w : World) (hT : Tabs w) : Calls Tryz.prog 11 #[] w fun e w' => e = .returned (.bool true) ∧ Below w.heap.size w w' := by
  have HT := Lib.hid hT
  clear hT
  go_enter Tryz.func11, Tryz.ntmps11
  go_wp2_with fail
  refine (ClNext_any ⟨#[97]⟩ 0 w HT.out (by decide) (by decide)).mono ?_
  rintro e w1 ⟨rfl, hb⟩
  rw [aw_next]
  have HB := Lib.hid (Below.refl w.heap.size w)
  have HT := Lib.hid (tabs_below HT.out hb)
  have HB := Lib.hid (HB.out.trans (hb.mono HB.out.size))
  clear hb
  go_wp2_with fail
  refine (keep_any sampleB 1 w1 HT.out (by decide)).mono ?_
  rintro e w2 ⟨v, rfl, hv, hb⟩
  have hK := hv.text (tabs_below HT.out hb) (by decide)
  have HK := Lib.hid hK
  have hform := hK.form
  have HT := Lib.hid (tabs_below HT.out hb)
  have HB := Lib.hid (HB.out.trans (hb.mono HB.out.size))
  clear hb
  clear hv hK
  rcases hform with rfl | ⟨t, x, rfl⟩
  all_goals
    go_wp2_with fail
    refine (LnSpan_all _ sampleB 1 w2 HK.out).mono ?_
    rintro e w3 ⟨rfl, hb⟩
    rw [aw_span]
    dsimp only
    have HK := Lib.hid (HK.out.below hb)
    have HT := Lib.hid (tabs_below HT.out hb)
    have HB := Lib.hid (HB.out.trans (hb.mono HB.out.size))
    clear hb
    have b4 : Below w3.heap.size w3 (w3.alloc (.cells ([.int .i64 4, .int .i64 8] : List Value).toArray 41)) := (Below.refl _ _).alloc (Nat.le_refl _) _
    obtain ⟨w4, hw4⟩ : ∃ w4, w3.alloc (.cells ([.int .i64 4, .int .i64 8] : List Value).toArray 41) = w4 := ⟨_, rfl⟩
    have hL := Lies.new w3 [.int .i64 4, .int .i64 8] 41
    rw [hw4] at b4 hL
    have HE := Lib.hid hw4
    have HL := Lib.hid hL
    clear hw4 hL
    have HK := Lib.hid (HK.out.below b4)
    have HT := Lib.hid (tabs_below HT.out b4)
    have HB := Lib.hid (HB.out.trans (b4.mono HB.out.size))
    clear b4
    go_wp2_with fail
    rw [HE.out]
    refine (LnColumn_all _ sampleB 7 w4 HK.out HT.out).mono ?_
    rintro e w5 ⟨rfl, hb⟩
    rw [aw_col]
    dsimp only
    have HK := Lib.hid (HK.out.below hb)
    have HL := Lib.hid (HL.out.below hb)
    have HT := Lib.hid (tabs_below HT.out hb)
    have HB := Lib.hid (HB.out.trans (hb.mono HB.out.size))
    clear hb
    go_wp2_with fail
    refine (LnAt_all _ sampleB 1 2 w5 HK.out HT.out).mono ?_
    rintro e w6 ⟨rfl, hb⟩
    rw [aw_at]
    dsimp only
    have HK := Lib.hid (HK.out.below hb)
    have HL := Lib.hid (HL.out.below hb)
    have HT := Lib.hid (tabs_below HT.out hb)
    have HB := Lib.hid (HB.out.trans (hb.mono HB.out.size))
    clear hb
    go_wp2_with fail
    refine (LnOf_all _ sampleB 10 w6 HK.out).mono ?_
    rintro e w7 ⟨rfl, hb⟩
    rw [aw_of]
    dsimp only
    have HK := Lib.hid (HK.out.below hb)
    have HL := Lib.hid (HL.out.below hb)
    have HT := Lib.hid (tabs_below HT.out hb)
    have HB := Lib.hid (HB.out.trans (hb.mono HB.out.size))
    clear hb
    go_wp2_with fail
    refine (LnCount_any _ sampleB w7 HK.out).mono ?_
    rintro e w8 ⟨rfl, hb⟩
    rw [aw_count]
    have HK := Lib.hid (HK.out.below hb)
    have HL := Lib.hid (HL.out.below hb)
    have HT := Lib.hid (tabs_below HT.out hb)
    have HB := Lib.hid (HB.out.trans (hb.mono HB.out.size))
    clear hb
    have c0 := (HL.out.2 0 _ rfl).1
    have c1 := (HL.out.2 1 _ rfl).1
    go_wp2
    go_ret
    exact ⟨rfl, HB.out⟩
end Go.Proofs.YtgmpohdkignadaaGreatDoor.Ut
/-
  The law LinesAlike, walked. Condition: the two tables of unicode/utf8 lie as laid.
-/
namespace Go.Proofs.YtgmpohdkignadaaGreatDoor.Ut
open Go.RowKit Go.Proofs.YtgmpohdkignadaaGreatDoor.Reg
set_option linter.unusedVariables false
set_option linter.unusedSimpArgs false

theorem KeptAs.iface {W : World} {v : Value} {s : ByteArray} (h : KeptAs W v s) : ∃ t x, v = .iface t x := by
  rcases h with ⟨b, rfl, _⟩ | ⟨b, i, T, rfl, _⟩
  · exact ⟨_, _, rfl⟩
  · exact ⟨_, _, rfl⟩

set_option maxRecDepth 100000 in
set_option maxHeartbeats 4000000 in
theorem law_LinesAlike (s : ByteArray) (k o n l c : Int) (w : World) (hT : Tabs w) (hs : s.size ≤ 140737488355328) :
    Calls Tryz.prog 5 #[.agg #[.string s, .int .i64 k], .int .i64 o, .agg #[.int .i64 n, .int .i64 l, .int .i64 c]] w fun e w' => e = .returned (.bool true) ∧ Below w.heap.size w w' := by
  obtain ⟨W0, hW0, A0, A1, b0, hsz⟩ := boxesL2 w [.string s, .int .i64 k] [.int .i64 n, .int .i64 l, .int .i64 c] 23 49
  have HE := Lib.hid hW0
  have HA := Lib.hid A0
  have HC := Lib.hid A1
  have HB := Lib.hid b0
  have HT := Lib.hid (tabs_below hT b0)
  clear hW0 A0 A1 b0 hsz hT
  go_enter Tryz.func5, Tryz.ntmps5
  go_wp2_with fail
  rw [HE.out]
  refine (awake_any W0 HT.out).mono ?_
  rintro e w1 ⟨rfl, hb⟩
  have HA := Lib.hid (HA.out.below hb)
  have HC := Lib.hid (HC.out.below hb)
  have HT := Lib.hid (tabs_below HT.out hb)
  have HB := Lib.hid (HB.out.trans (hb.mono HB.out.size))
  clear hb
  have lA := HA.out.1
  have lC := HC.out.1
  have a0 := (HA.out.2 0 _ rfl).1
  have a1 := (HA.out.2 1 _ rfl).1
  have c0 := (HC.out.2 0 _ rfl).1
  have c1 := (HC.out.2 1 _ rfl).1
  have c2 := (HC.out.2 2 _ rfl).1
  by_cases hbig : 1073741822 < s.size
  · have hb1 : (1073741822 : Int) < (s.size : Int) := by omega
    go_wp2
    go_ret
    exact ⟨rfl, HB.out⟩
  · have hb1 : ¬ (1073741822 : Int) < (s.size : Int) := by omega
    have hs2 : s.size ≤ 1073741824 := by omega
    obtain ⟨w2, hw2, S0, b2, -⟩ := boxL1 w1 [.int .i64 l, .int .i64 c] 37
    have HE2 := Lib.hid hw2
    have HSp := Lib.hid S0
    clear hw2 S0
    have HA := Lib.hid (HA.out.below b2)
    have HT := Lib.hid (tabs_below HT.out b2)
    have HB := Lib.hid (HB.out.trans (b2.mono HB.out.size))
    clear b2
    go_wp2_with fail
    rw [HE2.out]
    refine (keep_any s k w2 HT.out hs2).mono ?_
    rintro e w3 ⟨v, rfl, hv, hb⟩
    obtain ⟨vt, vx, rfl⟩ := hv.iface
    have HV := Lib.hid hv
    have HA := Lib.hid (HA.out.below hb)
    have HSp := Lib.hid (HSp.out.below hb)
    have HT := Lib.hid (tabs_below HT.out hb)
    have HB := Lib.hid (HB.out.trans (hb.mono HB.out.size))
    clear hb
    clear hv a0 a1 c0 c1 c2 lA lC
    have a0 := (HA.out.2 0 _ rfl).1
    go_wp2_with fail
    refine (keep_any s o w3 HT.out hs2).mono ?_
    rintro e w4 ⟨u, rfl, hu, hb⟩
    obtain ⟨ut, ux, rfl⟩ := hu.iface
    have hV := (HV.out.below hb).text (tabs_below HT.out hb) hs2
    have hU := hu.text (tabs_below HT.out hb) hs2
    have HV := Lib.hid hV
    have HU := Lib.hid hU
    have HSp := Lib.hid (HSp.out.below hb)
    have HT := Lib.hid (tabs_below HT.out hb)
    have HB := Lib.hid (HB.out.trans (hb.mono HB.out.size))
    clear hb
    clear hV hU hu a0
    have KC := fun v W hV hT => LnColumn_all v s n W hV hT
    have KS := fun v W hV => LnSpan_all v s n W hV
    have KO := fun v W hV => LnOf_all v s n W hV
    have KA := fun v W hV hT => LnAt_all v s l c W hV hT
    have KN := fun v W hV => LnCount_any v s W hV
    obtain ⟨⟨x1, x2⟩, hx⟩ : ∃ p, colA s n = p := ⟨_, rfl⟩
    obtain ⟨⟨y1, y2, y3⟩, hy⟩ : ∃ p, spanA s n = p := ⟨_, rfl⟩
    obtain ⟨⟨z1, z2⟩, hz⟩ : ∃ p, ofA s n = p := ⟨_, rfl⟩
    obtain ⟨⟨t1, t2⟩, ht⟩ : ∃ p, atA s l c = p := ⟨_, rfl⟩
    obtain ⟨N, hN⟩ : ∃ N : Int, (nlF s : Int) + 1 = N := ⟨_, rfl⟩
    simp only [hx] at KC
    simp only [hy] at KS
    simp only [hz] at KO
    simp only [ht] at KA
    simp only [hN] at KN
    have KC := Lib.hid KC
    have KS := Lib.hid KS
    have KO := Lib.hid KO
    have KA := Lib.hid KA
    have KN := Lib.hid KN
    clear hx hy hz ht hN
    go_wp2_with fail
    refine (KC.out _ w4 HV.out HT.out).mono ?_
    rintro e w5 ⟨rfl, hb⟩
    have HV := Lib.hid (HV.out.below hb)
    have HU := Lib.hid (HU.out.below hb)
    have HSp := Lib.hid (HSp.out.below hb)
    have HT := Lib.hid (tabs_below HT.out hb)
    have HB := Lib.hid (HB.out.trans (hb.mono HB.out.size))
    clear hb
    go_wp2_with fail
    refine (KC.out _ w5 HU.out HT.out).mono ?_
    rintro e w6 ⟨rfl, hb⟩
    have HV := Lib.hid (HV.out.below hb)
    have HU := Lib.hid (HU.out.below hb)
    have HSp := Lib.hid (HSp.out.below hb)
    have HT := Lib.hid (tabs_below HT.out hb)
    have HB := Lib.hid (HB.out.trans (hb.mono HB.out.size))
    clear hb
    go_wp2_with fail
    refine (KS.out _ w6 HV.out).mono ?_
    rintro e w7 ⟨rfl, hb⟩
    have HV := Lib.hid (HV.out.below hb)
    have HU := Lib.hid (HU.out.below hb)
    have HSp := Lib.hid (HSp.out.below hb)
    have HT := Lib.hid (tabs_below HT.out hb)
    have HB := Lib.hid (HB.out.trans (hb.mono HB.out.size))
    clear hb
    obtain ⟨w8, hw8, S8, b8, -⟩ := boxL1 w7 [.int .i64 y1, .int .i64 y2] 41
    have HE8 := Lib.hid hw8
    have HS8 := Lib.hid S8
    clear hw8 S8
    have HV := Lib.hid (HV.out.below b8)
    have HU := Lib.hid (HU.out.below b8)
    have HSp := Lib.hid (HSp.out.below b8)
    have HT := Lib.hid (tabs_below HT.out b8)
    have HB := Lib.hid (HB.out.trans (b8.mono HB.out.size))
    clear b8
    go_wp2_with fail
    rw [HE8.out]
    refine (KS.out _ w8 HU.out).mono ?_
    rintro e w9 ⟨rfl, hb⟩
    have HV := Lib.hid (HV.out.below hb)
    have HU := Lib.hid (HU.out.below hb)
    have HSp := Lib.hid (HSp.out.below hb)
    have HS8 := Lib.hid (HS8.out.below hb)
    have HT := Lib.hid (tabs_below HT.out hb)
    have HB := Lib.hid (HB.out.trans (hb.mono HB.out.size))
    clear hb
    obtain ⟨w10, hw10, S10, b10, -⟩ := boxL1 w9 [.int .i64 y1, .int .i64 y2] 41
    have HE10 := Lib.hid hw10
    have HS10 := Lib.hid S10
    clear hw10 S10
    have d0 := ((HS8.out).2 0 _ rfl).1
    have d1 := ((HS8.out).2 1 _ rfl).1
    have l8 := HS8.out.1
    have HV := Lib.hid (HV.out.below b10)
    have HU := Lib.hid (HU.out.below b10)
    have HSp := Lib.hid (HSp.out.below b10)
    have HT := Lib.hid (tabs_below HT.out b10)
    have HB := Lib.hid (HB.out.trans (b10.mono HB.out.size))
    clear b10
    go_wp2_with fail
    rw [HE10.out]
    refine (KN.out _ w10 HV.out).mono ?_
    rintro e w11 ⟨rfl, hb⟩
    have HV := Lib.hid (HV.out.below hb)
    have HU := Lib.hid (HU.out.below hb)
    have HSp := Lib.hid (HSp.out.below hb)
    have HT := Lib.hid (tabs_below HT.out hb)
    have HB := Lib.hid (HB.out.trans (hb.mono HB.out.size))
    clear hb
    clear d0 d1 l8
    go_wp2_with fail
    refine (KN.out _ w11 HU.out).mono ?_
    rintro e w12 ⟨rfl, hb⟩
    have HV := Lib.hid (HV.out.below hb)
    have HU := Lib.hid (HU.out.below hb)
    have HSp := Lib.hid (HSp.out.below hb)
    have HT := Lib.hid (tabs_below HT.out hb)
    have HB := Lib.hid (HB.out.trans (hb.mono HB.out.size))
    clear hb
    go_wp2_with fail
    refine (KO.out _ w12 HV.out).mono ?_
    rintro e w13 ⟨rfl, hb⟩
    have HV := Lib.hid (HV.out.below hb)
    have HU := Lib.hid (HU.out.below hb)
    have HSp := Lib.hid (HSp.out.below hb)
    have HT := Lib.hid (tabs_below HT.out hb)
    have HB := Lib.hid (HB.out.trans (hb.mono HB.out.size))
    clear hb
    go_wp2_with fail
    refine (KO.out _ w13 HU.out).mono ?_
    rintro e w14 ⟨rfl, hb⟩
    have HV := Lib.hid (HV.out.below hb)
    have HU := Lib.hid (HU.out.below hb)
    have HSp := Lib.hid (HSp.out.below hb)
    have HT := Lib.hid (tabs_below HT.out hb)
    have HB := Lib.hid (HB.out.trans (hb.mono HB.out.size))
    clear hb
    have p0 := (HSp.out.2 0 _ rfl).1
    have p1 := (HSp.out.2 1 _ rfl).1
    go_wp2_with fail
    refine (KA.out _ w14 HV.out HT.out).mono ?_
    rintro e w15 ⟨rfl, hb⟩
    have HV := Lib.hid (HV.out.below hb)
    have HU := Lib.hid (HU.out.below hb)
    have HSp := Lib.hid (HSp.out.below hb)
    have HT := Lib.hid (tabs_below HT.out hb)
    have HB := Lib.hid (HB.out.trans (hb.mono HB.out.size))
    clear hb
    clear p0 p1
    have p0 := (HSp.out.2 0 _ rfl).1
    have p1 := (HSp.out.2 1 _ rfl).1
    go_wp2_with fail
    refine (KA.out _ w15 HU.out HT.out).mono ?_
    rintro e w16 ⟨rfl, hb⟩
    have HB := Lib.hid (HB.out.trans (hb.mono HB.out.size))
    clear hb
    clear p0 p1
    go_wp2
    go_ret
    exact ⟨rfl, HB.out⟩
end Go.Proofs.YtgmpohdkignadaaGreatDoor.Ut
/-
  Opening the arguments of the laws on lines. No condition.
-/
namespace Go.Proofs.YtgmpohdkignadaaGreatDoor.Ut
open Go.RowKit Go.ChangeShapes Go.WideShapes Go.ChangeAt Go.Deep Go.Joins Go.Proofs.YtgmpohdkignadaaGreatDoor.Row
set_option linter.unusedVariables false
set_option linter.unusedSimpArgs false

section
variable {H : Type} {enc : TypeId × Value → H} {W : World} {base : Nat}
theorem trod_int1 {k : IntKind} {t : TypeId} {v : Value} {n : Nat} {y : DataW H × List MemPlace} (ht : Tryz.prog.underlying t = some (.int k)) (h : DataW.trod enc Tryz.prog W 0 (fun _ => true) true n t [v] = some y) : ∃ x, v = .int k x ∧ (Lit.int k x).wf = true := by
  obtain ⟨x, h1, -, hw⟩ := DataW.trod_int ht h
  simp at h1
  exact ⟨x, h1, hw⟩
theorem trod_str1 {t : TypeId} {v : Value} {n : Nat} {y : DataW H × List MemPlace} (ht : Tryz.prog.underlying t = some .string) (h : DataW.trod enc Tryz.prog W 0 (fun _ => true) true n t [v] = some y) : ∃ s : ByteArray, v = .string s ∧ y.1 = .lit (.string s.data.toList) := by
  obtain ⟨s, h1, hx, -⟩ := DataW.trod_string ht h
  simp at h1
  exact ⟨s, h1, by rw [hx]⟩
set_option maxRecDepth 100000 in
theorem open_kept {v : Value} {d : DataW H} {p : List MemPlace} (o : Value.okWide Tryz.prog W .any base 23 v) (h : DataW.Trod enc Tryz.prog W 0 (fun _ => true) true 23 v d p) (hw : ∀ n ∈ d.weights Tryz.prog 23, n ≤ reachBytes) :
    ∃ (s : ByteArray) (k : Int), v = .agg #[.string s, .int .i64 k] ∧ s.size ≤ reachBytes := by
  obtain ⟨v0, v1, y0, y1, n, rfl, rfl, -, h0, h1⟩ := open_agg2 Tryz.underlying23 (by kernel_rfl) (by kernel_rfl) o h
  obtain ⟨s, rfl, hs⟩ := trod_str1 Tryz.underlying9 h0
  obtain ⟨k, rfl, -⟩ := trod_int1 Tryz.underlying3 h1
  refine ⟨s, k, rfl, hw _ ?_⟩
  simp only [DataW.weights, Tryz.underlying23]
  refine DataW.weights_mem_each (j := 0) rfl rfl _ ?_
  rw [hs]
  simp [DataW.weights]
set_option maxRecDepth 100000 in
theorem open_at {v : Value} {d : DataW H} {p : List MemPlace} (o : Value.okWide Tryz.prog W .any base 49 v) (h : DataW.Trod enc Tryz.prog W 0 (fun _ => true) true 49 v d p) :
    ∃ n l c : Int, v = .agg #[.int .i64 n, .int .i64 l, .int .i64 c] := by
  obtain ⟨cs, rfl, hsz⟩ := okWide_struct Tryz.underlying49 o
  obtain ⟨c0, c1, c2, rfl⟩ := array3 (hsz.trans (by kernel_rfl))
  obtain ⟨fuel, hf⟩ := h
  obtain ⟨y0, y1, n, hx, _, h0, h1⟩ := trod_struct2 Tryz.underlying49 hf
  have k0 : Tryz.prog.cellsOf 3 = 1 := by kernel_rfl
  have k1 : Tryz.prog.cellsOf 37 = 2 := by kernel_rfl
  simp [Value.cells, k0, k1] at h0 h1
  obtain ⟨a, rfl, -⟩ := trod_int1 Tryz.underlying3 h0
  obtain ⟨z0, z1, m, _, _, g0, g1⟩ := trod_struct2 Tryz.underlying37 h1
  simp [k0] at g0 g1
  obtain ⟨b, rfl, -⟩ := trod_int1 Tryz.underlying3 g0
  obtain ⟨c, rfl, -⟩ := trod_int1 Tryz.underlying3 g1
  exact ⟨a, b, c, rfl⟩
end
end Go.Proofs.YtgmpohdkignadaaGreatDoor.Ut
