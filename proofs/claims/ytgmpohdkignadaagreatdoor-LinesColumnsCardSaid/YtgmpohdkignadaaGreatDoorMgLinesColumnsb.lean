/-
  What the proof of the row LinesColumns rests on: the texts RfG PlC PlD. Conditions: each theorem names its own.
-/
import Derived.Test.YtgmpohdkignadaaGreatDoorMgLinesColumnsa
import Derived.Test.YtgmpohdkignadaaGreatDoorMgLf
import Derived.Test.YtgmpohdkignadaaGreatDoorMgLg
/-
  bodkinref01.Units: what it answers. No condition.
-/
namespace Go.Proofs.YtgmpohdkignadaaGreatDoor.Ut
open Go.RowKit Go.Proofs.YtgmpohdkignadaaGreatDoor.Reg
set_option linter.unusedVariables false
set_option linter.unusedSimpArgs false

/-- Where the units begin, from i on. -/
def unAtsF (s : ByteArray) : Nat → Nat → List Nat
  | 0, _ => []
  | f + 1, i => if i < s.size then i :: unAtsF s f (up s i) else []
def unAts (s : ByteArray) (i : Nat) : List Nat := unAtsF s (s.size - i) i
theorem unAtsF_more (s : ByteArray) : ∀ f i, s.size - i ≤ f → unAtsF s f i = unAts s i
  | 0, i, h => by unfold unAts; rw [show s.size - i = 0 by omega]
  | f + 1, i, h => by
    unfold unAts
    by_cases hi : i < s.size
    · have h1 := up_gt hi
      rw [show s.size - i = (s.size - i - 1) + 1 by omega]
      unfold unAtsF
      rw [if_pos hi, if_pos hi, unAtsF_more s f (up s i) (by omega), unAtsF_more s (s.size - i - 1) (up s i) (by omega)]
    · rw [show s.size - i = 0 by omega]
      unfold unAtsF
      rw [if_neg hi]
theorem unAts_step {s : ByteArray} {i : Nat} (h : i < s.size) : unAts s i = i :: unAts s (up s i) := by
  have h1 := up_gt h
  have e : unAts s i = unAtsF s ((s.size - i - 1) + 1) i := by unfold unAts; congr 1; omega
  rw [e]
  unfold unAtsF
  rw [if_pos h, unAtsF_more s _ _ (by omega)]
theorem unAts_end {s : ByteArray} {i : Nat} (h : s.size ≤ i) : unAts s i = [] := by unfold unAts; rw [show s.size - i = 0 by omega]; rfl
theorem unAts_len (s : ByteArray) : ∀ d i, s.size - i ≤ d → (unAts s i).length ≤ s.size - i
  | d, i, h => by
    by_cases hi : i < s.size
    · have h1 := up_gt hi
      obtain ⟨d', rfl⟩ : ∃ d', d = d' + 1 := ⟨d - 1, by omega⟩
      rw [unAts_step hi, List.length_cons]
      have := unAts_len s d' (up s i) (by omega)
      omega
    · rw [unAts_end (by omega)]; simp
theorem dec4_size (a b c d : Nat) (hb : a ≤ 256) : ((dec4 a b c d).2 : Int) = if 0 ≤ chOf (dec4 a b c d) then sizeF (chOf (dec4 a b c d)) else 1 := by
  have hbad : ((65533, 1) : Nat × Nat).2 = (if 0 ≤ chOf (65533, 1) then sizeF (chOf (65533, 1)) else 1 : Int) := rfl
  have hbig : ∀ v k : Nat, 2 ≤ k → sizeF (v : Int) = (k : Int) → (((v, k) : Nat × Nat).2 : Int) = if 0 ≤ chOf (v, k) then sizeF (chOf (v, k)) else 1 := by
    intro v k hk hz
    have : chOf (v, k) = (v : Int) := by unfold chOf; rw [if_neg (by rintro ⟨-, h⟩; simp only at h; omega)]
    rw [this, if_pos (by omega), hz]
  unfold dec4
  split
  · rename_i h
    have : chOf (a, 1) = (a : Int) := by unfold chOf; rw [if_neg (by rintro ⟨h, -⟩; simp only at h; omega)]
    rw [this, if_pos (by omega)]
    unfold sizeF
    rw [if_pos (by omega)]; rfl
  · split
    · split
      · exact hbig _ _ (by omega) (by unfold sizeF; rw [if_neg (by omega), if_pos (by omega)]; rfl)
      · exact hbad
    · split
      · split
        · rename_i h; exact hbig _ _ (by omega) (by unfold sizeF; rw [if_neg (by omega), if_neg (by omega), if_pos (by omega)]; rfl)
        · exact hbad
      · split
        · split
          · rename_i h; exact hbig _ _ (by omega) (by unfold sizeF; rw [if_neg (by omega), if_neg (by omega), if_neg (by omega)]; rfl)
          · exact hbad
        · exact hbad
theorem sz_ch (s : ByteArray) (h : 0 < s.size) : (sz s : Int) = if 0 ≤ ch s then sizeF (ch s) else 1 := by
  have e := dec4_size (bt s 0) (bt s 1) (bt s 2) (bt s 3) (by have := bt_lt s h; have e0 : ((0 : Nat) : Int) = 0 := rfl; rw [e0] at this; omega)
  have hc : chOf (dec4 (bt s 0) (bt s 1) (bt s 2) (bt s 3)) = ch s := begF_ch s h
  rw [hc] at e
  rw [← e]
  have hf : from_ s 0 = s := by unfold from_; exact extract_all s
  have := szD s (j := 0) h
  rw [hf] at this
  rw [this]
  rfl
def cellsU (s : ByteArray) (l : List Nat) : List Value := l.flatMap fun x => [.int .i32 (ch (from_ s x)), .int .i64 (sz (from_ s x))]
theorem infoUnit : (Tryz.prog.info? 111).map (fun i => (i.zero, i.size, i.bytes)) = some (some (.agg #[.int .i32 0, .int .i64 0]), 2, 16) := by kernel_rfl
theorem cellsU_app (s : ByteArray) (l : List Nat) (x : Nat) : cellsU s (l ++ [x]) = cellsU s l ++ [.int .i32 (ch (from_ s x)), .int .i64 (sz (from_ s x))] := by unfold cellsU; rw [List.flatMap_append]; rfl

/-- A block that the round laid, behind an append to a row that lay before. -/
theorem kept_after {wr W3 w3 : World} {base e size n g : Nat} {u : Value} {xs vs : List Value} {o : Obj} (hO : wr.ownsRow base e size u n xs) (hS : Lies W3 g vs) (hg : wr.heap.size ≤ g) (hgr : (W3.alloc o).grownBy w3 u.ownBlock) : ∀ j v, vs[j]? = some v → w3.cell? ⟨g, j, none⟩ = some v := by
  intro j v hj
  have b : Below W3.heap.size W3 (W3.alloc o) := (Below.refl _ _).alloc (Nat.le_refl _) _
  have hgl := hS.1
  rw [grown_cella hgr (p := ⟨g, j, none⟩) (Nat.lt_of_lt_of_le hgl b.size) (fun h => by have := (hO.lt g h).2; omega)]
  exact (b.cell (p := ⟨g, j, none⟩) hgl).trans (hS.2 j v hj).1
set_option maxRecDepth 100000 in
set_option maxHeartbeats 2000000 in
theorem RefUnits_any (s : ByteArray) (w : World) (hs : s.size ≤ 1073741824) :
    Calls Tryz.prog 56 #[.string s] w fun e w' => ∃ v, e = .returned v ∧ w'.ownsRow w.heap.size 111 2 v (unAts s 0).length (cellsU s (unAts s 0)) ∧ Below w.heap.size w w' := by
  go_enter Tryz.func56, Tryz.ntmps56
  go_wp2
  go_loopw [3, 4] (fun u y wr => ∃ (pre : List Nat) (i : Nat), i ≤ s.size ∧ pre.length ≤ i ∧ pre ++ unAts s i = unAts s 0 ∧ y = .int .i64 i ∧ wr.ownsRow w.heap.size 111 2 u pre.length (cellsU s pre) ∧ Below w.heap.size w wr) (fun _ y _ => s.size - (intOf y).toNat)
  case atStart => exact ⟨[], 0, Nat.zero_le _, Nat.le_refl _, rfl, rfl, World.ownsRow_nil _ _ _ _, Below.refl _ _⟩
  case round =>
    obtain ⟨pre, i, hi, hpl, hpre, rfl, hown, hb⟩ := hrel
    have HO := Lib.hid hown
    have HB := Lib.hid hb
    clear hown hb
    by_cases hlt : i < s.size
    · have hst := unAts_step hlt
      rw [hst] at hpre
      have HP := Lib.hid hpre
      have hup : up s i = i + sz (from_ s i) := rfl
      have hgt := up_gt hlt
      have hle := up_le (s := s) (j := i) (by omega)
      have hz := from_size s i
      have hbe := begF_ch (from_ s i) (by omega)
      have hsc := sz_ch (from_ s i) (by omega)
      have HBg := Lib.hid (fun w => RefBegins_any (from_ s i) w (by omega) (by omega))
      have happ := cellsU_app s pre i
      rw [hbe] at HBg
      have hfe : s.extract i s.size = from_ s i := rfl
      have HF : Hid (∀ (u : Value) (w3 : World), w3.ownsRow w.heap.size 111 2 u (pre.length + 1) (cellsU s pre ++ [.int .i32 (ch (from_ s i)), .int .i64 (sz (from_ s i))]) → Below w.heap.size w w3 →
          ∃ (pre' : List Nat) (i' : Nat), i' ≤ s.size ∧ pre'.length ≤ i' ∧ pre' ++ unAts s i' = unAts s 0 ∧ Value.int .i64 ((i : Int) + sz (from_ s i)) = .int .i64 i' ∧ w3.ownsRow w.heap.size 111 2 u pre'.length (cellsU s pre') ∧ Below w.heap.size w w3) :=
        fun u w3 h1 h2 => ⟨pre ++ [i], up s i, hle, by rw [List.length_append]; simp; omega, by rw [List.append_assoc]; exact HP.out, by rw [hup]; go_num, by rw [happ, List.length_append]; exact h1, h2⟩
      have hz1 : 1 ≤ sz (from_ s i) := by omega
      have hz4 := sz_le4 (from_ s i)
      have hi0 : (0 : Int) ≤ (i : Int) := by omega
      have hiI : (i : Int) ≤ (s.size : Int) := by omega
      clear hst hpre hbe happ hup hgt hz
      generalize ch (from_ s i) = C at *
      generalize sz (from_ s i) = Z at *
      generalize from_ s i = FS at *
      go_wp2_with fail
      refine (HBg.out wr).mono ?_
      rintro e w1 ⟨rfl, rfl⟩
      have hpl2 : pre.length ≤ 4294967296 := by omega
      have hwz : IntKind.i64.wrap ((i : Int) + (Z : Int)) = (i : Int) + (Z : Int) := IntWalk.i64_in _ (by omega)
      obtain ⟨w2, hw2, S2, b2, hs2⟩ := boxL1 w1 [.int .i32 C, .int .i64 1] 111
      have HE2 := Lib.hid hw2
      have hbb := HB.out
      by_cases hC : 0 ≤ C
      · rw [if_pos hC] at hsc
        have HSz := Lib.hid (RefSize_any C w2)
        rw [← hsc] at HSz
        have S3 := Lib.hid (S2.set 1 (.int .i64 Z))
        have B3 : Below w1.heap.size w1 (w2.setCell ⟨w1.heap.size, 1, none⟩ (.int .i64 Z)) := chg_mine b2 (Chg.set w2 ⟨w1.heap.size, 1, none⟩ _) (Nat.le_refl _)
        have HOW := Lib.hid (own_belowC HO.out B3)
        have hBW := Lib.hid (hbb.trans (B3.mono hbb.size))
        obtain ⟨c0, f0⟩ := S2.2 0 _ rfl
        obtain ⟨c1, f1⟩ := S2.2 1 _ rfl
        have d0 := (S3.out.2 0 _ rfl).1
        have d1 := (S3.out.2 1 _ rfl).1
        clear hw2 S2 b2 hs2 hsc B3 hbb
        go_wp2_with fail
        rw [HE2.out]
        refine HSz.out.mono ?_
        rintro e w4 ⟨rfl, rfl⟩
        go_wp2_with (at_builtin; refine wpList_app_gen rfl _ _ 107 111 rfl (.agg #[.int .i32 0, .int .i64 0]) 2 16 infoUnit Tryz.underlying107 rfl (by decide) (by decide) w.heap.size _ pre.length _ [.int .i32 C, .int .i64 Z] _ HOW.out rfl _ (by simp) rfl rfl (by intro u hu; simp at hu; rcases hu with rfl | rfl <;> rfl) hpl2 hBW.out.size ?_; intro v2 w3 hown3 hg3; have cz := kept_after HO.out S3.out (Nat.le_refl _) hg3 1 _ rfl; have HO3 := Lib.hid hown3; have HB3 := Lib.hid ((hBW.out.alloc hBW.out.size _).grown hg3 (Nat.le_trans hBW.out.size (by simp)) (fun j hj => (HOW.out.lt j hj).1)); clear hown3 hg3)
        go_roundw
        case rel => exact HF.out _ _ HO3.out HB3.out
        case measure => simp [intOf]; omega
      · rw [if_neg hC] at hsc
        obtain rfl : Z = 1 := by omega
        subst hw2
        have S3 := Lib.hid S2
        have HOW := Lib.hid (own_belowC HO.out b2)
        have hBW := Lib.hid (hbb.trans (b2.mono hbb.size))
        obtain ⟨c0, f0⟩ := S2.2 0 _ rfl
        obtain ⟨c1, f1⟩ := S2.2 1 _ rfl
        clear S2 b2 hs2 hbb hsc
        rw [show (((1 : Nat) : Int)) = 1 from rfl] at hwz
        go_wp2_with (at_builtin; refine wpList_app_gen rfl _ _ 107 111 rfl (.agg #[.int .i32 0, .int .i64 0]) 2 16 infoUnit Tryz.underlying107 rfl (by decide) (by decide) w.heap.size _ pre.length _ [.int .i32 C, .int .i64 1] _ HOW.out rfl _ (by simp) rfl rfl (by intro u hu; simp at hu; rcases hu with rfl | rfl <;> rfl) hpl2 hBW.out.size ?_; intro v2 w3 hown3 hg3; have cz := kept_after HO.out S3.out (Nat.le_refl _) hg3 1 _ rfl; have HO3 := Lib.hid hown3; have HB3 := Lib.hid ((hBW.out.alloc hBW.out.size _).grown hg3 (Nat.le_trans hBW.out.size (by simp)) (fun j hj => (HOW.out.lt j hj).1)); clear hown3 hg3)
        go_roundw
        case rel => exact HF.out _ _ HO3.out HB3.out
        case measure => simp [intOf]; omega
    · obtain rfl : i = s.size := by omega
      rw [unAts_end (Nat.le_refl _), List.append_nil] at hpre
      have hP := Lib.hid hpre
      clear hpre hlt
      go_wp2
      go_ret
      exact ⟨_, rfl, by rw [← hP.out]; exact HO.out, HB.out⟩
end Go.Proofs.YtgmpohdkignadaaGreatDoor.Ut
/-
  Clusters gathered unit by unit (plain): what is known behind the units ahead of a place. No condition.
-/
namespace Go.Proofs.YtgmpohdkignadaaGreatDoor.Ut
open Go.RowKit Go.Proofs.YtgmpohdkignadaaGreatDoor.Reg
set_option linter.unusedVariables false
set_option linter.unusedSimpArgs false

def chA (s : ByteArray) (x : Nat) : Int := ch (from_ s x)
theorem chA_low (s : ByteArray) {x : Nat} (hx : x < s.size) {v : Int} (h0 : 0 ≤ v) (h1 : v < 128) : chA s x = v ↔ (bt s x : Int) = v := by
  unfold chA
  rw [win_ch s (i := x) (k := 4) (j := x) (Nat.le_refl _) rfl hx]
  constructor
  · intro h
    have := dec4_ch h0 h1 h
    rw [win4] at this; exact this
  · intro h
    rw [win4_low s (by omega)]; exact h
theorem prev_up (s : ByteArray) {p : Nat} (hp : p < s.size) (hb : boundF s p = true) : prevU s (up s p) = p := by
  have hg := up_gt hp
  have hl := up_le (s := s) (j := p) (by omega)
  obtain ⟨a, b, c, d⟩ := ar_prev (s := s) (i := up s p - 1) (up s p - 1 - (up s p - 1 - 3)) (up s p - 1 - 3) (by omega) (prevU s (up s p)) rfl
  have hr : boundF s (prevU s (up s p)) = true := down_bound s (by omega)
  generalize prevU s (up s p) = r at *
  rcases Nat.lt_trichotomy r p with h | h | h
  · have := no_mid s (i := r) (k := p) (by omega) h (by have := b (by omega); omega)
    rw [hb] at this; cases this
  · exact h
  · have := no_mid s (i := p) (k := r) hp h (by omega)
    rw [hr] at this; cases this
/-- A boundary of clusters between two units. -/
theorem glue_up (s : ByteArray) {p : Nat} (hp : up s p < s.size) (hpl : p < s.size) (hb : boundF s p = true) : clB s (up s p) = !gluedF (chA s p) (chA s (up s p)) := by
  have hg := up_gt hpl
  have h2 := bound_up s hpl hb
  unfold clB
  rw [prev_up s hpl hb, h2]
  have e1 : atC s p = chA s p := by unfold atC; rw [if_pos hb]; rfl
  have e2 : atC s (up s p) = chA s (up s p) := by unfold atC; rw [if_pos h2]; rfl
  rw [e1, e2]
  have n1 : decide (up s p = 0) = false := by simp; omega
  have n2 : decide (up s p = s.size) = false := by simp; omega
  rw [n1, n2]; simp

def isCrlf (s : ByteArray) (c : Nat) : Prop := bt s c = 13 ∧ bt s ((c + 1 : Nat) : Int) = 10
instance (s : ByteArray) (c : Nat) : Decidable (isCrlf s c) := inferInstanceAs (Decidable (_ ∧ _))
def clsAt (s : ByteArray) (c x : Nat) : Int := if isCrlf s c ∧ c + 1 < x then 1 else classF (chA s c)
def widAt (s : ByteArray) (c x : Nat) : Int := if isCrlf s c ∧ c + 1 < x then 0 else cellsF (chA s c)
def quad (s : ByteArray) (x c : Nat) : Int × Int × Int × Int := ((c : Int), ((min (clN s c) x : Nat) : Int), clsAt s c x, widAt s c x)
def Lst (s : ByteArray) (x : Nat) : List (Int × Int × Int × Int) := (cutsOf s 0 x).map (quad s x)
theorem Lst_len (s : ByteArray) (x : Nat) : (Lst s x).length ≤ x := by
  unfold Lst cutsOf; rw [List.length_map]; refine Nat.le_trans (List.length_filter_le _ _) ?_; rw [List.length_range']; exact Nat.le_refl _
theorem cuts_mid (s : ByteArray) {x : Nat} (hx : x < s.size) : cutsOf s (x + 1) (up s x - x - 1) = [] := by
  unfold cutsOf
  rw [List.filter_eq_nil_iff]
  intro k hk
  rw [List.mem_range'_1] at hk
  have hl := up_le (s := s) (j := x) (by omega)
  cases h : clB s k with
  | false => simp
  | true =>
    have := clB_bound (s := s) (i := k) (by omega) h
    rw [no_mid s hx (k := k) (by omega) (by omega)] at this; cases this
theorem cuts_up (s : ByteArray) {x : Nat} (hx : x < s.size) : cutsOf s 0 (up s x) = if clB s x = true then cutsOf s 0 x ++ [x] else cutsOf s 0 x := by
  have hg := up_gt hx
  have e : cutsOf s 0 (up s x) = cutsOf s 0 (x + ((up s x - x - 1) + 1)) := congrArg _ (by omega)
  rw [e, cuts_split, Nat.zero_add]
  split
  · rename_i h; rw [cuts_cons s h, cuts_mid s hx]
  · rename_i h
    have : cutsOf s x (up s x - x - 1 + 1) = cutsOf s (x + 1) (up s x - x - 1) := by
      unfold cutsOf
      rw [List.range'_succ, List.filter_cons, if_neg h]
    rw [this, cuts_mid s hx, List.append_nil]
theorem crlf_size (s : ByteArray) {c : Nat} (h : isCrlf s c) : c + 1 < s.size := by
  rcases Nat.lt_or_ge (c + 1) s.size with h1 | h1
  · exact h1
  · have := h.2; rw [bt_big s (by omega)] at this; omega
theorem next_up (s : ByteArray) {x c : Nat} (hx : x < s.size) (hc : c < s.size) (hcb : clB s c = true) (h : x < clN s c) (hl : clN s c ≤ s.size) : up s x ≤ clN s c := by
  rcases Nat.lt_or_ge (clN s c) (up s x) with h1 | h1
  · have hb : clB s (clN s c) = true := next_clB hcb hc
    have := up_le (s := s) (j := x) (by omega)
    have := clB_bound (s := s) (i := clN s c) (by omega) hb
    rw [no_mid s hx (k := clN s c) h h1] at this; cases this
  · exact h1
/-- A unit that begins a cluster. -/
theorem Lst_new (s : ByteArray) {x : Nat} (hx : x < s.size) (hb : clB s x = true) : Lst s (up s x) = Lst s x ++ [((x : Int), (up s x : Int), classF (chA s x), cellsF (chA s x))] := by
  have hg := up_gt hx
  have hl := up_le (s := s) (j := x) (by omega)
  unfold Lst
  rw [cuts_up s hx, if_pos hb, List.map_append]
  congr 1
  · refine List.map_congr_left fun c hc => ?_
    obtain ⟨⟨-, h1⟩, h2⟩ := mem_cuts.1 hc
    have hn := next_le h2 hb (by omega) (by omega)
    unfold quad clsAt widAt
    have e1 : min (clN s c) (up s x) = min (clN s c) x := by omega
    have e2 : (isCrlf s c ∧ c + 1 < up s x) ↔ (isCrlf s c ∧ c + 1 < x) := by
      constructor
      · rintro ⟨a, b⟩
        have := (crlf_next s (crlf_size s a) a.1 a.2).2
        exact ⟨a, by omega⟩
      · rintro ⟨a, b⟩; exact ⟨a, by omega⟩
    rw [e1]
    simp only [e2]
  · have hn := next_up s hx hx hb (clN_gt hx) (clN_le s x)
    have hne : ¬ (isCrlf s x ∧ x + 1 < up s x) := by
      rintro ⟨a, b⟩
      have := (low_bound s hx (by rw [a.1]; decide)).2
      omega
    simp only [List.map_cons, List.map_nil, quad, clsAt, widAt]
    rw [if_neg hne, if_neg hne, show min (clN s x) (up s x) = up s x by omega]
/-- A unit that goes on with a cluster. -/
theorem Lst_grow (s : ByteArray) {x : Nat} (hx : x < s.size) (hbx : boundF s x = true) (hb : ¬ clB s x = true) : ∃ (L : List (Int × Int × Int × Int)) (c : Nat), Lst s x = L ++ [(((c : Nat) : Int), (x : Int), clsAt s c x, widAt s c x)] ∧
    Lst s (up s x) = L ++ [(((c : Nat) : Int), (up s x : Int), (if chA s x = 10 then 1 else clsAt s c x), (if chA s x = 10 then 0 else widAt s c x))] := by
  have hg := up_gt hx
  have hl := up_le (s := s) (j := x) (by omega)
  have hx0 : 0 < x := by
    rcases Nat.eq_zero_or_pos x with h | h
    · subst h; exact absurd (clB_zero s) hb
    · exact h
  have h0 : 0 ∈ cutsOf s 0 x := mem_cuts.2 ⟨⟨Nat.le_refl _, by omega⟩, clB_zero s⟩
  have hne : cutsOf s 0 x ≠ [] := fun h => by rw [h] at h0; simp at h0
  obtain ⟨ys, c, hys⟩ : ∃ ys c, cutsOf s 0 x = ys ++ [c] := ⟨(cutsOf s 0 x).dropLast, (cutsOf s 0 x).getLast hne, (List.dropLast_concat_getLast hne).symm⟩
  have hpw : (cutsOf s 0 x).Pairwise (· < ·) := List.Pairwise.filter _ List.pairwise_lt_range'
  have hcm : c ∈ cutsOf s 0 x := by rw [hys]; simp
  obtain ⟨⟨-, hcx⟩, hcb⟩ := mem_cuts.1 hcm
  have hlast : ∀ k, k < x → clB s k = true → k ≤ c := by
    intro k h1 h2
    have : k ∈ cutsOf s 0 x := mem_cuts.2 ⟨⟨Nat.zero_le _, by omega⟩, h2⟩
    rw [hys] at this hpw
    rw [List.pairwise_append] at hpw
    rcases List.mem_append.1 this with h | h
    · have := hpw.2.2 k h c (by simp); omega
    · simp at h; omega
  have hN : x < clN s c := by
    have hcl := next_clB hcb (by omega)
    have hcg := clN_gt (s := s) (i := c) (by omega)
    rcases Nat.lt_trichotomy x (clN s c) with h | h | h
    · exact h
    · rw [← h] at hcl; exact absurd hcl hb
    · have := hlast _ h hcl; omega
  have hup := next_up s hx (by omega) hcb hN (clN_le s c)
  have hold : ∀ c' ∈ ys, quad s (up s x) c' = quad s x c' := by
    intro c' hc'
    have hm : c' ∈ cutsOf s 0 x := by rw [hys]; simp [hc']
    obtain ⟨⟨-, h1⟩, h2⟩ := mem_cuts.1 hm
    have hlt : c' < c := by rw [hys, List.pairwise_append] at hpw; exact hpw.2.2 c' hc' c (by simp)
    have hn := next_le h2 hcb hlt (by omega)
    have e1 : min (clN s c') (up s x) = min (clN s c') x := by omega
    have e2 : (isCrlf s c' ∧ c' + 1 < up s x) ↔ (isCrlf s c' ∧ c' + 1 < x) := by
      constructor
      · rintro ⟨a, b⟩
        have := (crlf_next s (crlf_size s a) a.1 a.2).2
        exact ⟨a, by omega⟩
      · rintro ⟨a, b⟩; exact ⟨a, by omega⟩
    unfold quad clsAt widAt
    rw [e1]
    simp only [e2]
  refine ⟨ys.map (quad s x), c, ?_, ?_⟩
  · unfold Lst
    rw [hys, List.map_append]
    simp only [List.map_cons, List.map_nil, quad]
    rw [show min (clN s c) x = x by omega]
  · unfold Lst
    rw [cuts_up s hx, if_neg hb, hys, List.map_append]
    congr 1
    · exact List.map_congr_left hold
    · simp only [List.map_cons, List.map_nil, quad]
      rw [show min (clN s c) (up s x) = up s x by omega]
      have hch : chA s x = 10 ↔ bt s x = 10 := by rw [chA_low s hx (by omega) (by omega)]; omega
      by_cases h10 : chA s x = 10
      · have hbt := hch.1 h10
        have h13 : bt s ((x - 1 : Nat) : Int) = 13 := by
          rcases Nat.lt_or_ge 0 x with h | h
          · by_cases e : bt s ((x - 1 : Nat) : Int) = 13
            · exact e
            · exact absurd (lf_clB s hx hbt (.inr e)) hb
          · omega
        have hcr := cr_clB s (p := x - 1) (by omega) h13
        have hce : c = x - 1 := by have := hlast (x - 1) (by omega) hcr; omega
        have hend : isCrlf s c ∧ c + 1 < up s x := by
          refine ⟨⟨by rw [hce]; exact h13, ?_⟩, by omega⟩
          rw [show c + 1 = x by omega]; exact hbt
        unfold clsAt widAt
        rw [if_pos h10, if_pos h10, if_pos hend, if_pos hend]
      · have hnc : ¬ isCrlf s c := by
          intro a
          have := (crlf_next s (crlf_size s a) a.1 a.2).2
          have e : x = c + 1 := by omega
          exact h10 (hch.2 (by rw [e]; exact a.2))
        unfold clsAt widAt
        rw [if_neg h10, if_neg h10, if_neg (fun h => hnc h.1), if_neg (fun h => hnc h.1), if_neg (fun h => hnc h.1), if_neg (fun h => hnc h.1)]
/-- All units: the clusters, as they are. -/
theorem Lst_all (s : ByteArray) : Lst s s.size = (clAts s 0).map fun (c : Nat) => ((c : Int), (clN s c : Int), clC s c, clW s c) := by
  unfold Lst
  rw [cuts_all]
  refine List.map_congr_left fun c hc => ?_
  obtain ⟨⟨-, h1⟩, h2⟩ := mem_cuts.1 hc
  have hl := clN_le s c
  have hb := clB_bound (by omega) h2
  have e0 : atC s c = chA s c := by unfold atC; rw [if_pos hb]; rfl
  have hcr : crlf s c = true ↔ (isCrlf s c ∧ c + 1 < s.size) := by
    unfold crlf isCrlf
    rw [hasPrefix_lf, e0, Bool.and_eq_true, decide_eq_true_eq, decide_eq_true_eq, chA_low s (by omega) (by omega) (by omega)]
    constructor
    · rintro ⟨a, b⟩
      refine ⟨⟨by omega, b⟩, ?_⟩
      rcases Nat.lt_or_ge (c + 1) s.size with h | h
      · exact h
      · rw [bt_big s (by omega)] at b; omega
    · rintro ⟨⟨a, b⟩, -⟩; exact ⟨by omega, b⟩
  unfold quad clsAt widAt clC clW
  rw [show min (clN s c) s.size = clN s c by omega, e0]
  by_cases h : crlf s c = true
  · rw [if_pos (hcr.1 h), if_pos (hcr.1 h), if_pos h, if_pos h]
  · rw [if_neg (fun x => h (hcr.2 x)), if_neg (fun x => h (hcr.2 x)), if_neg h, if_neg h]
end Go.Proofs.YtgmpohdkignadaaGreatDoor.Ut
/-
  The document's column and its way back (plain): what the sums over the list of clusters are. No condition.
-/
namespace Go.Proofs.YtgmpohdkignadaaGreatDoor.Ut
open Go.RowKit Go.Proofs.YtgmpohdkignadaaGreatDoor.Reg
set_option linter.unusedVariables false
set_option linter.unusedSimpArgs false

theorem clAts_ge (u : ByteArray) : ∀ d i, u.size - i ≤ d → ∀ x ∈ clAts u i, i ≤ x ∧ x < u.size
  | 0, i, h, x, hx => by rw [clAts_end (by omega)] at hx; simp at hx
  | d + 1, i, h, x, hx => by
    rcases Nat.lt_or_ge i u.size with hi | hi
    · rw [clAts_step hi] at hx
      rcases List.mem_cons.1 hx with rfl | h1
      · exact ⟨Nat.le_refl _, hi⟩
      · have hg := clN_gt hi
        have := clAts_ge u d (clN u i) (by omega) x h1
        omega
    · rw [clAts_end hi] at hx; simp at hx
theorem upto_filter (u : ByteArray) (lim : Int) : ∀ d i, u.size - i ≤ d → (clAts u i).filter (fun x => decide ((clN u x : Int) ≤ lim)) = (clAts u i).takeWhile (fun x => decide ((clN u x : Int) ≤ lim))
  | 0, i, h => by rw [clAts_end (by omega)]; rfl
  | d + 1, i, h => by
    rcases Nat.lt_or_ge i u.size with hi | hi
    · have hg := clN_gt hi
      rw [clAts_step hi, List.filter_cons, List.takeWhile_cons]
      by_cases hl : (clN u i : Int) ≤ lim
      · rw [if_pos (by simpa using hl), if_pos (by simpa using hl), upto_filter u lim d _ (by omega)]
      · rw [if_neg (by simpa using hl), if_neg (by simpa using hl), List.filter_eq_nil_iff]
        intro x hx
        obtain ⟨h1, h2⟩ := clAts_ge u d (clN u i) (by omega) x hx
        have := clN_gt h2
        simp; omega
    · rw [clAts_end hi]; rfl
theorem upto_filter0 (u : ByteArray) (lim : Int) : (clAts u 0).filter (fun x => decide ((clN u x : Int) ≤ lim)) = uptoC u lim := upto_filter u lim _ 0 (Nat.le_refl _)
/-- The cells of the clusters that end at lim or ahead of it. -/
def cellT (u : ByteArray) (lim : Int) : Int := sumW u (uptoC u lim)
theorem cellT_at (u : ByteArray) {p : List Nat} {i : Nat} (h : clAts u 0 = p ++ clAts u i) (hi : i < u.size) (hp : ∀ x ∈ p, clN u x ≤ i) : cellT u (clN u i) = sumW u p + clW u i := by
  have hg := clN_gt hi
  unfold cellT
  rw [← upto_filter0, h, clAts_step hi, List.filter_append, List.filter_cons, if_pos (by simp)]
  have e1 : p.filter (fun x => decide ((clN u x : Int) ≤ (clN u i : Int))) = p := by
    rw [List.filter_eq_self]
    intro x hx
    have := hp x hx
    simp; omega
  have e2 : (clAts u (clN u i)).filter (fun x => decide ((clN u x : Int) ≤ (clN u i : Int))) = [] := by
    rw [List.filter_eq_nil_iff]
    intro x hx
    obtain ⟨h1, h2⟩ := clAts_ge u _ (clN u i) (Nat.le_refl _) x hx
    have := clN_gt h2
    simp; omega
  rw [e1, e2, sumW_app, sumW_cons]
  simp [sumW]
/-- The end of the last cluster of l behind which the column is not above col, as the document's loop finds it. -/
def bestF (u : ByteArray) (col : Int) (b : Int) (l : List Nat) : Int := l.foldl (fun b c => if cellT u (clN u c) ≤ col then (clN u c : Int) else b) b
theorem takeW_past (O : ByteArray) (col : Int) {n : Int} (h : col < n) : ∀ l, takeW O col n l = []
  | [] => rfl
  | x :: r => by
    have := (clW_bounds O x).1
    unfold takeW
    rw [if_neg (by omega)]
def lastOr (u : ByteArray) (b : Int) (l : List Nat) : Int := match l.getLast? with | none => b | some x => clN u x
theorem best_take (u : ByteArray) (col : Int) : ∀ d i p b, u.size - i ≤ d → clAts u 0 = p ++ clAts u i → (∀ x ∈ p, clN u x ≤ i) → bestF u col b (clAts u i) = lastOr u b (takeW u col (sumW u p) (clAts u i))
  | 0, i, p, b, h, _, _ => by rw [clAts_end (by omega)]; rfl
  | d + 1, i, p, b, h, hs, hp => by
    rcases Nat.lt_or_ge i u.size with hi | hi
    · have hg := clN_gt hi
      have hs' : clAts u 0 = (p ++ [i]) ++ clAts u (clN u i) := by rw [hs, clAts_step hi]; simp
      have hp' : ∀ x ∈ p ++ [i], clN u x ≤ clN u i := by
        intro x hx
        rcases List.mem_append.1 hx with h1 | h1
        · have := hp x h1; omega
        · simp at h1; rw [h1]; exact Nat.le_refl _
      have ha := cellT_at u hs hi hp
      have hsum : sumW u (p ++ [i]) = sumW u p + clW u i := by rw [sumW_app, sumW_cons]; simp [sumW]
      rw [clAts_step hi]
      have e : bestF u col b (i :: clAts u (clN u i)) = bestF u col (if cellT u (clN u i) ≤ col then (clN u i : Int) else b) (clAts u (clN u i)) := rfl
      rw [e, ha, best_take u col d (clN u i) (p ++ [i]) _ (by omega) hs' hp', hsum]
      by_cases hc : sumW u p + clW u i ≤ col
      · rw [if_pos hc]
        have e2 : takeW u col (sumW u p) (i :: clAts u (clN u i)) = i :: takeW u col (sumW u p + clW u i) (clAts u (clN u i)) := by rw [takeW, if_pos hc]
        rw [e2]
        unfold lastOr
        rw [List.getLast?_cons]
        cases (takeW u col (sumW u p + clW u i) (clAts u (clN u i))).getLast? <;> rfl
      · rw [if_neg hc, takeW_past u col (by omega)]
        have e2 : takeW u col (sumW u p) (i :: clAts u (clN u i)) = [] := by rw [takeW, if_neg hc]
        rw [e2]
    · rw [clAts_end hi]; rfl
theorem best_at (u : ByteArray) (col F : Int) : F + bestF u col 0 (clAts u 0) = atEnd u F (takeW u col 0 (clAts u 0)) := by
  have := best_take u col _ 0 [] 0 (Nat.le_refl _) rfl (by simp)
  rw [this]
  have e : sumW u [] = 0 := rfl
  rw [e]
  unfold lastOr atEnd
  cases (takeW u col 0 (clAts u 0)).getLast? <;> simp
theorem best_snoc (u : ByteArray) (col b : Int) (l : List Nat) (c : Nat) : bestF u col b (l ++ [c]) = if cellT u (clN u c) ≤ col then (clN u c : Int) else bestF u col b l := by
  unfold bestF
  rw [List.foldl_append]; rfl
theorem col_cellT (s : ByteArray) (i : Nat) : colN s i = cellT (s.extract (beginF s (nlTo s i : Nat)) (spanT s (nlTo s i))) ((i : Int) - beginF s (nlTo s i : Nat)) := rfl
theorem at_best (s : ByteArray) (N : Nat) (c : Int) : atN2 s N c = (beginF s (N : Nat) : Int) + bestF (s.extract (beginF s (N : Nat)) (spanT s N)) c 0 (clAts (s.extract (beginF s (N : Nat)) (spanT s N)) 0) := by
  unfold atN2
  rw [best_at]
/-- A list of clusters, as it lies. -/
def quads (s : ByteArray) (l : List Nat) : List (Int × Int × Int × Int) := l.map fun (c : Nat) => ((c : Int), (clN s c : Int), clC s c, clW s c)
theorem Lst_quads (s : ByteArray) : Lst s s.size = quads s (clAts s 0) := Lst_all s
theorem best_bounds (u : ByteArray) (col : Int) : ∀ (l : List Nat) (b : Int), (0 ≤ b ∧ b ≤ u.size) → 0 ≤ bestF u col b l ∧ bestF u col b l ≤ u.size
  | [], b, h => h
  | c :: r, b, h => by
    have := clN_le u c
    have e : bestF u col b (c :: r) = bestF u col (if cellT u (clN u c) ≤ col then (clN u c : Int) else b) r := rfl
    rw [e]
    exact best_bounds u col r _ (by split <;> omega)
end Go.Proofs.YtgmpohdkignadaaGreatDoor.Ut
