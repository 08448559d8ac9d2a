/-
  (*Set).All, Get, Len, Drop: what they answer. No condition.
-/
import Derived.Test.YtdkdnkmfjpdcpaaDoorMkNames
import Derived.Test.YtdkdnkmfjpdcpaaDoorMkB
import Derived.Deep.AppendLies
import Derived.Laws.OwnMore
namespace Go.Proofs.YtdkdnkmfjpdcpaaDoor.Mk
open Go.RowKit Go.Maps
set_option linter.unusedVariables false
set_option linter.unusedSimpArgs false

theorem good_wf {n : Int} (h : good n = true) : (Lit.int .u8 n).wf = true := by
  have := good_range h
  simp only [Lit.wf, Bool.and_eq_true, decide_eq_true_eq, IntKind.min, IntKind.max, IntKind.signed, IntKind.bits]
  simp
  omega

theorem names_any (b : Nat) (ro : Option Nat) (l : ML) (w : World) (hs : IsSet w b ro l) :
    Calls Tryd.prog 41 #[.pointer (some ⟨b, 0, none⟩)] w fun e w' => ∃ v, e = .returned v ∧ w'.ownsRow w.heap.size 5 1 v l.length (l.map fun x => .int .u8 x.1) ∧ Below w.heap.size w w' := by
  cases ro with
  | some r => exact names_some b r l w hs
  | none =>
    obtain rfl : l = [] := hs.map
    refine (names_none b [] w hs).mono ?_
    rintro e w' ⟨rfl, hb⟩
    exact ⟨_, rfl, World.ownsRow_nil _ _ _ _, hb⟩

def cellsM (l : ML) : List Value := l.flatMap fun x => [.int .u8 x.1, .int .i64 x.2]
theorem cellsM_take (l : ML) (k : Nat) (h : k < l.length) : cellsM (l.take (k + 1)) = cellsM (l.take k) ++ [.int .u8 l[k].1, .int .i64 l[k].2] := by
  unfold cellsM; rw [List.take_succ_eq_append_getElem h, List.flatMap_append]; rfl
theorem cellsM_length (l : ML) : (cellsM l).length = l.length * 2 := by
  induction l with
  | nil => rfl
  | cons x r ih => simp only [cellsM, List.flatMap_cons, List.length_append, List.length_cons, List.length_nil] at ih ⊢; omega
theorem cellsM_get (l : ML) (k : Nat) (h : k < l.length) : (cellsM l)[k * 2]? = some (.int .u8 l[k].1) ∧ (cellsM l)[k * 2 + 1]? = some (.int .i64 l[k].2) := by
  induction l generalizing k with
  | nil => simp at h
  | cons x r ih =>
    have e : cellsM (x :: r) = .int .u8 x.1 :: .int .i64 x.2 :: cellsM r := rfl
    rw [e]
    cases k with
    | zero => simp
    | succ k =>
      have := ih k (by simpa using h)
      rw [show (k + 1) * 2 = k * 2 + 1 + 1 by omega]
      simpa using this

theorem get_at {l : ML} (h : Ok l) (k : Nat) (hk : k < l.length) : get l l[k].1 = some l[k].2 := by
  induction l generalizing k with
  | nil => simp at hk
  | cons x r ih =>
    cases k with
    | zero => simp [get]
    | succ k =>
      have hk' : k < r.length := by simpa using hk
      have hlt := (List.pairwise_cons.1 h.1).1 r[k] (List.getElem_mem hk')
      simp only [List.getElem_cons_succ, get]
      rw [if_neg (by omega)]
      exact ih h.tail k hk'

theorem infoMark : (Tryd.prog.info? 33).map (fun i => (i.zero, i.size, i.bytes)) = some (some (.agg #[.int .u8 0, .int .i64 0]), 2, 16) := by kernel_rfl

theorem cell_two_new' (w : World) (x y : Value) (t : TypeId) : ∀ (j : Nat) (u : Value), [x, y][j]? = some u → (w.alloc (.cells #[x, y] t)).cell? ((⟨w.heap.size, 0, none⟩ : Addr).add j) = some u := by
  intro j u hj
  match j, hj with
  | 0, hj => simp at hj; subst hj; simp [Addr.add]
  | 1, hj => simp at hj; subst hj; simp [Addr.add]

theorem row_ne {w : World} {base base' e e' size size' n n' : Nat} {v v' : Value} {xs xs' : List Value} (h : w.ownsRow base e size v n xs) (h' : w.ownsRow base' e' size' v' n' xs') (hne : e ≠ e') : v.ownBlock = none ∨ v.ownBlock ≠ v'.ownBlock := by
  rcases h.2 with ⟨rfl, _⟩ | ⟨g, cap, cur, rfl, _, hh, _⟩
  · exact .inl rfl
  · refine .inr fun hk => ?_
    rcases h'.2 with ⟨rfl, _⟩ | ⟨g', cap', cur', rfl, _, hh', _⟩
    · simp [Value.ownBlock] at hk
    · have : g = g' := by simpa [Value.ownBlock] using hk
      subst this
      rw [hh] at hh'
      injection hh' with hh'
      injection hh' with _ ht
      exact hne ht
theorem row_form {w : World} {base e size n : Nat} {v : Value} {xs : List Value} (h : w.ownsRow base e size v n xs) : ∃ A c, v = .slice A n c := by
  rcases h.2 with ⟨rfl, rfl⟩ | ⟨g, cap, cur, rfl, _⟩
  · exact ⟨none, 0, rfl⟩
  · exact ⟨_, cap, rfl⟩

set_option maxRecDepth 100000 in
set_option maxHeartbeats 1000000 in
theorem All_any (b : Nat) (ro : Option Nat) (l : ML) (w : World) (hs : IsSet w b ro l) :
    Calls Tryd.prog 24 #[.pointer (some ⟨b, 0, none⟩)] w fun e w' => ∃ v, e = .returned v ∧ w'.ownsRow w.heap.size 33 2 v l.length (cellsM l) ∧ Below w.heap.size w w' := by
  have HS := Lib.hid hs
  have HL : Hid (l.length ≤ 59) := hs.ok.length
  clear hs
  obtain ⟨i0, hi, hz0, hz1, hz2⟩ := info_parts infoMark
  go_enter Tryd.func24, Tryd.ntmps24
  go_wp2_with (go_at_call 41; refine (names_any b ro l _ HS.out).mono ?_; rintro e w1 ⟨v, rfl, hrow, hb⟩; obtain ⟨A, c, rfl⟩ := row_form hrow; have HR := Lib.hid hrow; have HB := Lib.hid hb; clear hrow hb)
  go_loopw [3, 9] (fun u i wr => ∃ k : Nat, k ≤ l.length ∧ i = .int .i64 k ∧ wr.ownsRow w.heap.size 33 2 u k (cellsM (l.take k)) ∧ wr.ownsRow w.heap.size 5 1 (.slice A l.length c) l.length (l.map fun x => .int .u8 x.1) ∧ Below w.heap.size w wr) (fun _ i _ => l.length - (intOf i).toNat)
  case atStart => exact ⟨0, Nat.zero_le _, rfl, World.ownsRow_nil _ _ _ _, HR.out, HB.out⟩
  case round =>
    obtain ⟨k, hk, rfl, hown, hnames, hb⟩ := hrel
    have h59 : l.length ≤ 59 := HL.out
    by_cases hlt : k < l.length
    · have hset := HS.out.below hb
      obtain ⟨r, rfl⟩ : ∃ r, ro = some r := by
        cases ro with
        | none => have : l = [] := hset.map; subst this; simp at hlt
        | some r => exact ⟨r, rfl⟩
      obtain ⟨g, cap, he, -, -⟩ := hnames.form (by omega)
      obtain ⟨rfl, rfl⟩ : A = some ⟨g, 0, none⟩ ∧ c = cap := by simpa using he
      have hcn : wr.cell? ⟨g, k, none⟩ = some (.int .u8 l[k].1) := (hnames.cellAt k (by omega)).trans (by simp [hlt])
      have hm : MapOf wr r l := hset.map
      have c0 := hset.cell
      have hwn : (Lit.int .u8 l[k].1).wf = true := good_wf (HS.out.ok.2 l[k] (List.getElem_mem hlt)).1
      have hkey := keyOf_int_mk Tryd.underlying5 hwn
      have HG : Hid (get l l[k].1 = some l[k].2) := get_at HS.out.ok k hlt
      have HT : Hid _ := cellsM_take l k hlt
      have HO := Lib.hid hown
      have HN := Lib.hid hnames
      have HBB := Lib.hid hb
      have HMM := Lib.hid hm
      clear hset hown hnames hb hm
      generalize hx : l[k] = x at *
      obtain ⟨nm, pl⟩ := x
      clear hx
      go_wp2_with (first
        | (at_lookup; refine wpList_lookup_own_int _ rfl _ _ 68 rfl 5 3 .i64 keyU8 Tryd.underlying68 Tryd.underlying3 (zeroInt _) r l.length (toD l) rfl HMM.out _ _ rfl hkey ?_; intro q hat hwc; obtain rfl : q = pl := by { rw [toD_at, HG.out] at hat; simpa using hat.symm })
        | (at_builtin; refine wpList_append_own _ rfl _ _ 31 rfl w.heap.size 33 i0 (.agg #[.int .u8 0, .int .i64 0]) 2 16 Tryd.underlying31 hi hz0 hz1 hz2 rfl (by decide) _ _ _ rfl (HO.out.alloc _) ⟨wr.heap.size, 0, none⟩ 1 1 [.int .u8 nm, .int .i64 q] rfl rfl (cell_two_new' _ _ _ _) (by intro u hu; simp at hu; rcases hu with rfl | rfl <;> rfl) (by unfold maxLen; omega) (by omega) (by have := HBB.out.size; simp; omega) ?_; intro v2 w3 hown3 hg3 hn3; have HO3 := Lib.hid hown3; have HG3 := Lib.hid hg3; clear hown3 hg3 hn3))
      go_roundw
      case rel =>
        refine ⟨k + 1, by omega, by go_num, ?_, ?_, ?_⟩
        · rw [HT.out]; exact HO3.out
        · exact (HN.out.alloc _).kept HG3.out (row_ne (HN.out.alloc (.cells #[] 0)) (HO.out.alloc (.cells #[] 0)) (by decide))
        · exact (HBB.out.alloc HBB.out.size _).grown HG3.out (by have := HBB.out.size; simp; omega) (fun j hj => (HO.out.lt j hj).1)
      case measure => simp [intOf]; omega
    · have e : l.take k = l := List.take_of_length_le (by omega)
      have hk' : k = l.length := by omega
      subst hk'
      rw [e] at hown
      have HO := Lib.hid hown
      clear hown hnames e
      go_wp2
      go_ret
      exact ⟨_, rfl, HO.out, hb⟩
end Go.Proofs.YtdkdnkmfjpdcpaaDoor.Mk
