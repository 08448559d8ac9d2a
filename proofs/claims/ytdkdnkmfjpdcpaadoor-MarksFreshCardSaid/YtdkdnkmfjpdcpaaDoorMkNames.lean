/-
  (*Set).names: the names in order, in new memory. No condition.
-/
import Derived.Test.YtdkdnkmfjpdcpaaDoorMkIter
import Derived.Test.YtdkdnkmfjpdcpaaDoorSoE
namespace Go.Proofs.YtdkdnkmfjpdcpaaDoor.Mk
open Go.RowKit Go.Maps Go.Sort Go.Shelf
set_option linter.unusedVariables false
set_option linter.unusedSimpArgs false

theorem insertionSort_nil (p : Option Addr) (cap : Nat) (w : World) :
    Calls Tryd.prog 71 #[.slice p 0 cap, .int .i64 0, .int .i64 0] w fun e w' => e = .returned (.tuple #[]) ∧ w' = w := by
  go_enter Tryd.func71, Tryd.ntmps71
  go_wp2
  refine wp_loop_rounds 1 ?_
  rw [rounds_succ]
  go_wp2
  go_end0
  exact ⟨rfl, rfl⟩

set_option maxRecDepth 100000 in
theorem pdqsort_nil (p : Option Addr) (cap : Nat) (w : World) :
    Calls Tryd.prog 65 #[.slice p 0 cap, .int .i64 0, .int .i64 0, .int .i64 0] w fun e w' => e = .returned (.tuple #[]) ∧ w' = w := by
  go_enter Tryd.func65, Tryd.ntmps65
  go_wp2
  refine wp_loop_rounds 1 ?_
  rw [rounds_succ]
  go_wp2_with (first | (go_at_call 71; refine (insertionSort_nil p cap _).mono ?_; rintro e w' ⟨rfl, rfl⟩))
  refine bodyPost_ret (results_none rfl _ _ _) rfl ?_
  exact ⟨rfl, rfl⟩

set_option maxRecDepth 100000 in
theorem Sort_nil (p : Option Addr) (cap : Nat) (w : World) :
    Calls Tryd.prog 59 #[.slice p 0 cap] w fun e w' => e = .returned (.tuple #[]) ∧ w' = w := by
  have hLen : ∀ w, Calls Tryd.prog 66 #[.int .u64 0] w fun e w' => e = .returned (.int .i64 0) ∧ w' = w := fun w => bits_Len 0 w (by omega) (by omega)
  go_enter Tryd.func59, Tryd.ntmps59
  go_wp2_with (first
    | (go_at_call 66; refine (hLen _).mono ?_; rintro e w' ⟨rfl, rfl⟩)
    | (go_at_call 65; refine (pdqsort_nil p cap _).mono ?_; rintro e w' ⟨rfl, rfl⟩))
  go_end0
  exact ⟨rfl, rfl⟩

theorem sortsIn (m : Nat) : SortsIn Fence.wide m :=
  ⟨fun blk off cap ss W hH hblk hsz => callsIn_wide.2 (slices_Sort blk off cap ss W hH hblk hsz),
   fun p cap W => callsIn_wide.2 (Sort_nil p cap W)⟩

theorem keys_toD (l : ML) : byteKeys (toD l) = l.map (·.1) := by
  simp only [toD, byteKeys, List.map_map]
  rfl

theorem sorted_names {l : ML} (h : Ok l) {ss : List Int} (hp : ss.Perm (byteKeys (toD l))) : ss.mergeSort (fun x y => decide (x ≤ y)) = l.map (·.1) := by
  rw [keys_toD] at hp
  have e : ss.mergeSort (fun x y => decide (x ≤ y)) = (l.map (·.1)).mergeSort (fun x y => decide (x ≤ y)) := mergeSort_of_perm_b hp
  rw [e]
  refine List.mergeSort_of_pairwise ?_
  refine List.pairwise_map.2 (h.1.imp fun hab => ?_)
  simp only [decide_eq_true_eq]
  omega

set_option maxRecDepth 100000 in
set_option maxHeartbeats 1000000 in
theorem names_some (b r : Nat) (l : ML) (w : World) (hs : IsSet w b (some r) l) :
    Calls Tryd.prog 41 #[.pointer (some ⟨b, 0, none⟩)] w fun e w' => ∃ v, e = .returned v ∧ w'.ownsRow w.heap.size 5 1 v l.length (l.map fun x => .int .u8 x.1) ∧ Below w.heap.size w w' := by
  have hown : MapOf w r l := hs.map
  have hlen := hs.ok.length
  have c0 := hs.cell
  have HOK := Lib.hid hs.ok
  have hmax : Maps.size (toD l) ≤ maxLen := by rw [toD_size]; unfold maxLen; omega
  have hbytes : Maps.size (toD l) * 1 ≤ 140737488355328 := by rw [toD_size]; omega
  clear hs
  refine (callsIn_wide (n := 6)).1 ?_
  have hbl := hown.lt
  have hseq : SeqGives Fence.wide 2 Tryd.prog 60 #[.pointer (some ⟨w.heap.size, 0, none⟩)] encB (fun ss => ss.Perm (byteKeys (toD l))) (Maps.size (toD l)) (w.alloc (.cells #[.map (some r)] 68)) :=
    keys_gives Fence.wide _ trivial rfl (by omega) w.heap.size r l.length (toD l) _ (by simp) (by simp) (by
      obtain ⟨es, clock, hb, Ft, hs, hD⟩ := hown
      exact ⟨es, clock, (Below.heap_alloc _ _ r hbl).trans hb, Ft, hs, hD⟩)
  have cK : ∀ mb W, CallsIn Fence.wide 5 Tryd.prog 51 #[.map mb] W fun e w' => e = .returned (.func (.func 60) #[] #[.pointer (some ⟨W.heap.size, 0, none⟩)]) ∧ w' = W.alloc (.cells #[.map mb] 68) := fun mb W => keysCall_in Fence.wide 5 trivial rfl mb W
  have cS := sorted_in Fence.wide 5 trivial trivial trivial trivial rfl (by omega) (sortsIn _) 60 #[.pointer (some ⟨w.heap.size, 0, none⟩)] trivial (enters_of Tryd.func60 (by kernel_rfl) rfl) _ _ hmax hbytes _ hseq
  have hfK : Fence.wide.fn 51 := trivial
  have hfS : Fence.wide.fn 50 := trivial
  have CS := Lib.hid cS
  clear cS hseq hown hmax hbytes hlen
  refine callsIn_of_wp Tryd.func41 rfl trivial ?_ rfl
  simp only [Tryd.ntmps41, List.size_toArray, List.length_cons, List.length_nil, Nat.reduceAdd, Nat.reduceSub, Array.replicate_succ, Array.replicate_zero, List.push_toArray, List.append_toArray, List.nil_append, List.cons_append]
  gi_wp2_with (first
    | (gi_at_call 51; refine (cK _ _).mono ?_; rintro e w' ⟨rfl, rfl⟩)
    | (gi_at_call 50; refine CS.out.mono ?_; rintro e w' ⟨v, ss, rfl, hS, hrow, hnil, hb⟩; have HS := Lib.hid hS; have HR := Lib.hid hrow; have HBL := Lib.hid hb; clear hS hrow hnil hb))
  go_ret
  have e := sorted_names HOK.out HS.out
  have hrow := HR.out
  have hl : ss.length = l.length := by rw [HS.out.length_eq, keys_toD, List.length_map]
  rw [e, List.map_map, hl] at hrow
  exact ⟨v, rfl, ownsRow_base_a hrow (by simp), ((Below.refl _ w).alloc (Nat.le_refl _) _).trans (HBL.out.mono (by simp))⟩

set_option maxRecDepth 100000 in
set_option maxHeartbeats 1000000 in
theorem names_none (b : Nat) (l : ML) (w : World) (hs : IsSet w b none l) :
    Calls Tryd.prog 41 #[.pointer (some ⟨b, 0, none⟩)] w fun e w' => e = .returned (.slice none 0 0) ∧ Below w.heap.size w w' := by
  have c0 := hs.cell
  clear hs
  refine (callsIn_wide (n := 6)).1 ?_
  have hseq : SeqGives Fence.wide 2 Tryd.prog 60 #[.pointer (some ⟨w.heap.size, 0, none⟩)] encB (fun ss : List Int => ss = []) 0 (w.alloc (.cells #[.map none] 68)) :=
    keys_gives_nil Fence.wide _ trivial rfl w.heap.size _ (by simp) (by simp)
  have cK : ∀ mb W, CallsIn Fence.wide 5 Tryd.prog 51 #[.map mb] W fun e w' => e = .returned (.func (.func 60) #[] #[.pointer (some ⟨W.heap.size, 0, none⟩)]) ∧ w' = W.alloc (.cells #[.map mb] 68) := fun mb W => keysCall_in Fence.wide 5 trivial rfl mb W
  have cS := sorted_in Fence.wide 5 trivial trivial trivial trivial rfl (by omega) (sortsIn _) 60 #[.pointer (some ⟨w.heap.size, 0, none⟩)] trivial (enters_of Tryd.func60 (by kernel_rfl) rfl) _ 0 (Nat.zero_le _) (by omega) _ hseq
  have hfK : Fence.wide.fn 51 := trivial
  have hfS : Fence.wide.fn 50 := trivial
  have CS := Lib.hid cS
  clear cS hseq
  refine callsIn_of_wp Tryd.func41 rfl trivial ?_ rfl
  simp only [Tryd.ntmps41, List.size_toArray, List.length_cons, List.length_nil, Nat.reduceAdd, Nat.reduceSub, Array.replicate_succ, Array.replicate_zero, List.push_toArray, List.append_toArray, List.nil_append, List.cons_append]
  gi_wp2_with (first
    | (gi_at_call 51; refine (cK _ _).mono ?_; rintro e w' ⟨rfl, rfl⟩)
    | (gi_at_call 50; refine CS.out.mono ?_; rintro e w' ⟨v, ss, rfl, rfl, hrow, hnil, hb⟩; obtain rfl : v = .slice none 0 0 := hnil.2 rfl; have HBL := Lib.hid hb; clear hrow hnil hb))
  go_ret
  exact ⟨rfl, ((Below.refl _ w).alloc (Nat.le_refl _) _).trans (HBL.out.mono (by simp))⟩
end Go.Proofs.YtdkdnkmfjpdcpaaDoor.Mk
