/-
  What the proof of the row LinesWalks rests on: the texts LwW. Conditions: each theorem names its own.
-/
import Derived.Test.YtgmpohdkignadaaGreatDoorMgLinesWalksc
import Derived.Test.YtgmpohdkignadaaGreatDoorMgLinesWalksb
import Derived.Test.YtgmpohdkignadaaGreatDoorMgLj
import Derived.Test.YtgmpohdkignadaaGreatDoorMgLg
import Derived.Test.YtgmpohdkignadaaGreatDoorMgLinesWalksd
/-
  The law LinesWalks, walked. Condition: the two tables of unicode/utf8 lie as laid.
-/
namespace Go.Proofs.YtgmpohdkignadaaGreatDoor.Ut
open Go.RowKit Go.Proofs.YtgmpohdkignadaaGreatDoor.Reg Go.ChangeShapes Go.WideShapes Go.ChangeAt Go.Deep Go.Joins Go.Proofs.YtgmpohdkignadaaGreatDoor.Row
set_option linter.unusedVariables false
set_option linter.unusedSimpArgs false
attribute [local go_sem] Oper.semAt_some

/-- A box. -/
def Bx (W : World) (B : Nat) (t : TypeId) (v : Value) : Prop := Boxed W B t v
theorem Bx.box {W : World} {B : Nat} {t : TypeId} {v : Value} (h : Bx W B t v) : Boxed W B t v := h
theorem Bx.below {W W' : World} {B : Nat} {t : TypeId} {v : Value} (h : Bx W B t v) (hb : Below W.heap.size W W') : Bx W' B t v := boxed_below h hb
theorem Bx.chg {S : Nat → Prop} {W W' : World} {B : Nat} {t : TypeId} {v : Value} (h : Bx W B t v) (hc : Chg S W W') (hS : ¬ S B) : Bx W' B t v := (hc.block B (Boxed.lt h) hS).trans h
theorem Bx.new (W : World) (t : TypeId) (v : Value) : Bx (W.alloc (.cells #[v] t)) W.heap.size t v := Boxed.new W t v
theorem new_box (W : World) (t : TypeId) (v : Value) : ∃ W', W.alloc (.cells #[v] t) = W' ∧ Bx W' W.heap.size t v ∧ Below W.heap.size W W' ∧ W'.heap.size = W.heap.size + 1 :=
  ⟨_, rfl, Bx.new W t v, (Below.refl _ _).alloc (Nat.le_refl _) _, World.size_alloc _ _⟩

theorem new_cellsW (w : World) (ys : List Value) (t : TypeId) : ∀ (j : Nat) (u : Value), ys[j]? = some u → (w.alloc (.cells ys.toArray t)).cell? ((⟨w.heap.size, 0, none⟩ : Addr).add j) = some u := by
  intro j u hj
  have := ((Lies.new w ys t).2 j u hj).1
  rw [Addr.add]
  split
  · rename_i h; subst h; exact this
  · simpa using this
set_option maxRecDepth 100000 in
theorem store_new (W : World) (z v : Value) (T : TypeId) (h1 : v.oneCell' = true) : (store ⟨W.heap.size, 0, none⟩ v).run Tryz.prog (W.alloc (.cells #[z] T)) = .ok () (W.alloc (.cells #[v] T)) := by
  have hB : Boxed (W.alloc (.cells #[z] T)) W.heap.size T z := Boxed.new W T z
  rw [run_store Tryz.prog _ _ v _ h1, hB.cell]
  simp only [hB.frozen]
  have e : (W.alloc (.cells #[z] T)).setCell ⟨W.heap.size, 0, none⟩ v = W.alloc (.cells #[v] T) := by
    unfold World.setCell World.alloc
    congr 1
    apply Array.ext
    · simp
    · intro i h1 h2
      rw [Array.getElem_modify]
      by_cases hi : i = W.heap.size
      · subst hi; simp
      · rw [if_neg (fun e => hi e.symm)]
        have hl : i < W.heap.size := by simp at h2; omega
        rw [Array.getElem_push_lt hl, Array.getElem_push_lt hl]
  simp [e]

set_option maxRecDepth 100000 in
set_option maxHeartbeats 8000000 in
theorem walks_big (s : ByteArray) (k stop : Int) (w : World) (hT : Tabs w) (hs : s.size ≤ 140737488355328) (hbig : 1073741822 < s.size) :
    Calls Tryz.prog 10 #[.agg #[.string s, .int .i64 k], .int .i64 stop] w fun e w' => e = .returned (.bool true) ∧ Below w.heap.size w w' := by
  obtain ⟨W0, hW0, A0, b0, hsz⟩ := boxL1 w [.string s, .int .i64 k] 23
  obtain ⟨W1, hW1, C0, bs0, hz1⟩ := new_box W0 3 (.int .i64 stop)
  obtain ⟨W2, hW2, R0, bs1, hz2⟩ := new_box W1 4 (.bool false)
  have HE := Lib.hid (And.intro hW0 (And.intro hW1 hW2))
  have HA := Lib.hid ((A0.below bs0).below bs1)
  have HC := Lib.hid (C0.below bs1)
  have HR := Lib.hid R0
  have HB := Lib.hid ((b0.trans (bs0.mono b0.size)).trans (bs1.mono (b0.trans (bs0.mono b0.size)).size))
  have HT := Lib.hid (tabs_below (tabs_below (tabs_below hT b0) bs0) bs1)
  rw [hz1, hsz] at HR
  rw [hsz] at HC
  have HT0 := Lib.hid hT
  clear hW0 A0 b0 hsz C0 bs0 R0 bs1 hW1 hW2 hT hz1 hz2
  go_enter Tryz.func10, Tryz.ntmps10
  go_wp2_with fail
  rw [HE.out.1, HE.out.2.1, HE.out.2.2]
  refine (awake_any W2 HT.out).mono ?_
  rintro e w1 ⟨rfl, hb⟩
  have HA := Lib.hid (HA.out.below hb)
  have HC := Lib.hid (HC.out.below hb)
  have HR := Lib.hid (HR.out.below hb)
  have HT := Lib.hid (tabs_below HT.out hb)
  have HB := Lib.hid (HB.out.trans (hb.mono HB.out.size))
  clear hb
  have lA := HA.out.1
  have a0 := (HA.out.2 0 _ rfl).1
  have a1 := (HA.out.2 1 _ rfl).1
  have lR := HR.out.box.lt
  have rf := HR.out.box.frozen
  have rc := HR.out.box.cell
  have hb1 : (1073741822 : Int) < (s.size : Int) := by omega
  have HRR := Lib.hid (HR.out.box.set (.bool true)).cell
  have HBB := Lib.hid (chg_mine (g := w.heap.size + 1 + 1) HB.out (Chg.set w1 ⟨w.heap.size + 1 + 1, 0, none⟩ (.bool true)) (by omega))
  clear hbig
  go_wp2
  have hc := HRR.out
  refine bodyPost_ret (v := .bool true) (by simp [results, Tryz.results10, go_sem, hc]) rfl ⟨rfl, HBB.out⟩
/-- What keeps a text stays where other blocks change. -/
theorem KeptIn.chg {W W' : World} {v : Value} {s : ByteArray} {S R : Nat → Prop} (h : KeptIn W v s S) (hc : Chg R W W') (hR : ∀ j, S j → ¬ R j) (hK : Keeps W W') : KeptIn W' v s S := by
  have hin : ∀ {T : TypeId} {p lim : Nat}, InnerIn W T p lim s S → InnerIn W' T p lim s S := by
    rintro T p lim ⟨h0, ⟨rfl, g, r, fr, tv, h1, h2, h3⟩ | ⟨rfl, h1⟩⟩
    · exact ⟨h0, .inl ⟨rfl, g, r, fr, tv, h1.chg hc (hR p h0) (hR g h3), h2, h3⟩⟩
    · refine ⟨h0, .inr ⟨rfl, h1.keeps hK ?_⟩⟩
      obtain ⟨rb, h2, -⟩ := h1
      exact hc.block p h2.lies.1 (hR p h0)
  rcases h with ⟨b, h1, h2, g, r, fr, tv, h3, h4, h5⟩ | ⟨b, i, T, h1, ⟨h2, p, h3, h4⟩, h5⟩
  · exact .inl ⟨b, h1, h2, g, r, fr, tv, h3.chg hc (hR b h2) (hR g h5), h4, h5⟩
  · exact .inr ⟨b, i, T, h1, ⟨h2, p, h3.chg hc (hR b h2), hin h4⟩, h5⟩
/-- The frame that a round's variables leave: d1 the number, d2 the span's box. -/
def AxW (a : Act) (B : Nat) (s : ByteArray) (ps : Array Tmp) (d1 d2 : Nat) (x : Nat) (a' : Act) (W : World) : Prop :=
  ∃ q, Lies W q [.int .i64 (beginF s (x : Nat)), .int .i64 (spanT s x)] ∧ B ≤ q ∧ a' = { tmps := (((ps.zip #[.int .i64 (x : Nat), spanV s x]).foldl (fun t (p, v) => t.setIfInBounds p v) a.tmps).setIfInBounds d1 (.int .i64 (x : Nat))).setIfInBounds d2 (.pointer (some ⟨q, 0, none⟩)), defers := [] }
theorem axW_own {B B0 : Nat} {a : Act} {s : ByteArray} {ps : Array Tmp} {d1 d2 : Nat} : ∀ (x : Nat) (a' : Act), OwnFrom B0 (fun (_ : Unit) W => AxW a B s ps d1 d2 x a' W) := by
  rintro x a' _ W W' row ⟨q, h1, h2, h3⟩ hg hr
  exact ⟨q, h1.kept hg (fun r e => (hr r e).2), h2, h3⟩
theorem range_n (s : ByteArray) (B d1 d2 : Nat) {F : Fence} {n : Nat} {P : Program} {w : World} {g : Operand} {ps : Array Tmp} {assign body : Code} {Q : Exit → Act → World → Prop} {a : Act}
    {l₀ : Nat} {r₀ : Loop} (hro : F.round = some l₀) (hl₀ : w.heap[l₀]? = some (.loop r₀)) (h1 : 1 ≤ n) {gf : Nat} {lb : Array Value} (hg : a.eval g = .func (.func gf) #[] lb) (hFg : F.fn gf) (eg : ∀ args w, (callFunc gf args).run P w = .ok (.enter gf args) w)
    {Kp : World → World → Prop} {S Sp : List Nat → Prop} {N : Nat} {w0 : World} (hseq : SeqStopsK F (n - 1) P gf lb (fun x : Nat => #[.int .i64 (x : Nat), spanV s x]) Kp S Sp N w0)
    (hKt : ∀ {A B C : World}, Kp A B → Kp B C → Kp A C) (hKb : ∀ (W : World) (l : Nat) (o o' : Obj), w.heap.size ≤ l → W.heap[l]? = some o → o.isCells = false → o.isWalk = false → Kp W (W.putObj l o')) (hb0 : Below w0.heap.size w0 w) (hps : 2 = ps.size)
    (I : List Nat → World → Prop) (Ix : Code → List Nat → World → Prop) (hI : OwnFrom w.heap.size I) (hIx : ∀ c, OwnFrom w.heap.size (Ix c)) (h0 : I [] w)
    (hassign : ∀ (l : Nat) (pre : List Nat) (x : Nat) (W : World) (K : Act → World → Prop), I pre W → (∀ a' W', KeepsFrom w.heap.size W W' → Kp W W' → I pre W' → AxW a B s ps d1 d2 x a' W' → K a' W') →
      assign.wpIn (F.inRound l) (n - 1 - 1) P (Exit.then K (fun _ _ _ => False)) { tmps := (ps.zip #[.int .i64 (x : Nat), spanV s x]).foldl (fun t (p, v) => t.setIfInBounds p v) a.tmps, defers := [] } W)
    (hbody : ∀ (l : Nat) (pre : List Nat) (x : Nat) (a' : Act) (W : World), w.heap.size ≤ l → (∃ r, W.heap[l]? = some (.loop r)) → I pre W → AxW a B s ps d1 d2 x a' W → pre.length < N → body.wpIn (F.inRound l) (n - 1 - 1) P (ownPostG w.heap.size Kp I Ix (pre ++ [x]) W) a' W)
    (hdone : ∀ (xs : List Nat) (W : World), S xs → I xs W → Q .normal a W)
    (hstop : ∀ (c : Code) (pre : List Nat) (W : World), Sp pre → Ix c pre W → c.wpIn F n P Q a W) :
    (Code.rangeFunc g ps assign body).wpIn F n P Q a w :=
  wpIn_rangeFunc_ownN hro hl₀ h1 hg hFg eg hseq hKt hKb hb0 (fun _ => hps) I Ix hI hIx h0 (AxW a B s ps d1 d2) axW_own hassign hbody hdone hstop
theorem range_h (s : ByteArray) (B d1 d2 : Nat) {F : Fence} {n : Nat} {P : Program} {w : World} {g : Operand} {ps : Array Tmp} {assign body : Code} {Q : Exit → Act → World → Prop} {a : Act}
    (hro : F.round = none) (h1 : 1 ≤ n) {gf : Nat} {lb : Array Value} (hg : a.eval g = .func (.func gf) #[] lb) (hFg : F.fn gf) (eg : ∀ args w, (callFunc gf args).run P w = .ok (.enter gf args) w)
    {Kp : World → World → Prop} {S Sp : List Nat → Prop} {N : Nat} {w0 : World} (hseq : SeqStopsK F (n - 1) P gf lb (fun x : Nat => #[.int .i64 (x : Nat), spanV s x]) Kp S Sp N w0)
    (hKt : ∀ {A B C : World}, Kp A B → Kp B C → Kp A C) (hKb : ∀ (W : World) (l : Nat) (o o' : Obj), w.heap.size ≤ l → W.heap[l]? = some o → o.isCells = false → o.isWalk = false → Kp W (W.putObj l o')) (hb0 : Below w0.heap.size w0 w) (hps : 2 = ps.size)
    (I : List Nat → World → Prop) (Ix : Code → List Nat → World → Prop) (hI : OwnFrom w.heap.size I) (hIx : ∀ c, OwnFrom w.heap.size (Ix c)) (h0 : I [] w)
    (hassign : ∀ (l : Nat) (pre : List Nat) (x : Nat) (W : World) (K : Act → World → Prop), I pre W → (∀ a' W', KeepsFrom w.heap.size W W' → Kp W W' → I pre W' → AxW a B s ps d1 d2 x a' W' → K a' W') →
      assign.wpIn (F.inRound l) (n - 1 - 1) P (Exit.then K (fun _ _ _ => False)) { tmps := (ps.zip #[.int .i64 (x : Nat), spanV s x]).foldl (fun t (p, v) => t.setIfInBounds p v) a.tmps, defers := [] } W)
    (hbody : ∀ (l : Nat) (pre : List Nat) (x : Nat) (a' : Act) (W : World), w.heap.size ≤ l → (∃ r, W.heap[l]? = some (.loop r)) → I pre W → AxW a B s ps d1 d2 x a' W → pre.length < N → body.wpIn (F.inRound l) (n - 1 - 1) P (ownPostG w.heap.size Kp I Ix (pre ++ [x]) W) a' W)
    (hdone : ∀ (D : Nat) (xs : List Nat) (W : World), w.heap.size ≤ D → S xs → I xs W → W.heap[D]? = some (.deferred (some [])) → Q .normal { a with defers := { target := .collected D, args := #[] } :: a.defers } W)
    (hstop : ∀ (D : Nat) (c : Code) (pre : List Nat) (W : World), w.heap.size ≤ D → Sp pre → Ix c pre W → W.heap[D]? = some (.deferred (some [])) → c.wpIn F n P Q { a with defers := { target := .collected D, args := #[] } :: a.defers } W) :
    (Code.rangeFunc g ps assign body).wpIn F n P Q a w :=
  wpIn_rangeFunc_ownH hro h1 hg hFg eg hseq hKt hKb hb0 (fun _ => hps) I Ix hI hIx h0 (AxW a B s ps d1 d2) axW_own hassign hbody hdone hstop
/-- The frame in the first loop. -/
def frW (s : ByteArray) (k stop : Int) (A Bw Ba Bg Bn : Nat) (vt : TypeId) (vx vw vf x11 x12 x42 x43 : Value) : Array Value := #[.agg #[.string s, .int .i64 k], .int .i64 stop, .pointer (some ⟨A, 0, none⟩), .pointer (some ⟨A + 1, 0, none⟩), .pointer (some ⟨A + 1 + 1, 0, none⟩), .iface vt vx, .bool true, .pointer (some ⟨Bw, 0, none⟩), .pointer (some ⟨Ba, 0, none⟩), .pointer (some ⟨Bg, 0, none⟩), .pointer (some ⟨Bn, 0, none⟩), x11, x12, undef, undef, undef, undef, undef, undef, undef, undef, .bool true, .bool false, .pointer (some ⟨A, 0, none⟩), .string s, .int .i64 s.size, .bool (decide (1073741822 < (s.size : Int))), .tuple #[.iface vt vx, .bool true], .agg #[.string s, .int .i64 k], .tuple #[.iface vt vx, .bool true], .iface vt vx, .bool true, .bool true, .bool false, .pointer (some ⟨A, 0, none⟩), .string s, vw, .iface vt vx, vf, vf, .bool false, vf, x42, x43, undef, undef, undef, undef, undef, undef, undef, undef, undef, undef, undef, undef, undef, undef, undef, undef, undef, undef, undef, undef, undef, undef, undef, undef, undef, undef, undef, undef, undef, undef, undef, undef, undef, undef, undef, undef, undef, undef, undef, undef, undef, undef, undef, undef, undef, undef, undef, undef, undef, undef, undef, undef, undef, undef, undef, undef, undef, undef, undef, undef, undef, undef, undef, undef, undef, undef, undef, undef, undef, undef, undef, undef]
def VWk25 (Bw gw q2 N cw m p r : Nat) : Nat → Value → World → Prop := fun d x w => match d with
  | 59 => x = .int .i64 m
  | 60 => x = .slice (some ⟨gw, 0, none⟩) N cw
  | 61 => x = .int .i64 N
  | 62 => x = .bool false
  | 63 => x = .bool false
  | 64 => x = .agg #[.int .i64 p, .int .i64 r]
  | 65 => x = .slice (some ⟨gw, 0, none⟩) N cw
  | 66 => x = .int .i64 m
  | 67 => x = .pointer (some ⟨gw, m * 2, none⟩)
  | 68 => x = .agg #[.int .i64 p, .int .i64 r]
  | 69 => x = .bool false
  | 70 => x = .bool false
  | _ => True
theorem VWk25_mono (Bw gw q2 N cw m p r : Nat) : ∀ d x w w', VWk25 Bw gw q2 N cw m p r d x w → Below w.heap.size w w' → VWk25 Bw gw q2 N cw m p r d x w' := by
  exact fun _ _ _ _ h _ => h
def VWk25b (Bw gw N cw m : Nat) : Nat → Value → World → Prop := fun d x w => match d with
  | 59 => x = .int .i64 m
  | 60 => x = .slice (some ⟨gw, 0, none⟩) N cw
  | 61 => x = .int .i64 N
  | 62 => x = .bool true
  | 63 => x = .bool true
  | 64 => True
  | 65 => True
  | 66 => True
  | 67 => True
  | 68 => True
  | 69 => True
  | 70 => x = .bool true
  | _ => True
theorem VWk25b_mono (Bw gw N cw m : Nat) : ∀ d x w w', VWk25b Bw gw N cw m d x w → Below w.heap.size w w' → VWk25b Bw gw N cw m d x w' := by
  exact fun _ _ _ _ h _ => h
def VWk33 (Bw gw q2 N cw m p r : Nat) : Nat → Value → World → Prop := fun d x w => match d with
  | 80 => x = .int .i64 m
  | 81 => x = .slice (some ⟨gw, 0, none⟩) N cw
  | 82 => x = .int .i64 N
  | 83 => x = .bool false
  | 84 => x = .bool false
  | 85 => x = .agg #[.int .i64 p, .int .i64 r]
  | 86 => x = .slice (some ⟨gw, 0, none⟩) N cw
  | 87 => x = .int .i64 m
  | 88 => x = .pointer (some ⟨gw, m * 2, none⟩)
  | 89 => x = .agg #[.int .i64 p, .int .i64 r]
  | 90 => x = .bool false
  | 91 => x = .bool false
  | _ => True
theorem VWk33_mono (Bw gw q2 N cw m p r : Nat) : ∀ d x w w', VWk33 Bw gw q2 N cw m p r d x w → Below w.heap.size w w' → VWk33 Bw gw q2 N cw m p r d x w' := by
  exact fun _ _ _ _ h _ => h
def VWk33b (Bw gw N cw m : Nat) : Nat → Value → World → Prop := fun d x w => match d with
  | 80 => x = .int .i64 m
  | 81 => x = .slice (some ⟨gw, 0, none⟩) N cw
  | 82 => x = .int .i64 N
  | 83 => x = .bool true
  | 84 => x = .bool true
  | 85 => True
  | 86 => True
  | 87 => True
  | 88 => True
  | 89 => True
  | 90 => True
  | 91 => x = .bool true
  | _ => True
theorem VWk33b_mono (Bw gw N cw m : Nat) : ∀ d x w w', VWk33b Bw gw N cw m d x w → Below w.heap.size w w' → VWk33b Bw gw N cw m d x w' := by
  exact fun _ _ _ _ h _ => h
theorem RowP.chg {R : Nat → Prop} {W W' : World} {g : Nat} {l : List (Nat × Nat)} (h : RowP W (some ⟨g, 0, none⟩) l) (hc : Chg R W W') (hR : ¬ R g) : RowP W' (some ⟨g, 0, none⟩) l := fun k hk => by
  obtain ⟨g', h1, h2, h3, h4⟩ := h k hk
  obtain rfl : g = g' := by simpa using h1
  exact ⟨g, rfl, Nat.lt_of_lt_of_le h2 hc.size, (hc.cell (p := ⟨g, k * 2, none⟩) h2 hR).trans h3, (hc.cell (p := ⟨g, k * 2 + 1, none⟩) h2 hR).trans h4⟩
theorem keeps_boxes {R : Nat → Prop} {W W' : World} (hc : Chg R W W') (hR : ∀ j, R j → ∃ T v, Boxed W j T v ∧ T ≠ 152 ∧ T ≠ 139) : Keeps W W' :=
  Keeps.of_chg hc fun j vs T hj hT' hb => by
    obtain ⟨T2, v, h1, h2, h3⟩ := hR j hj
    have h4 : Blk W j T2 [v] := h1
    have := hb.same h4
    subst this
    rcases hT' with h | h
    · exact h2 h
    · exact h3 h
theorem repl_front (s p : ByteArray) : repl s 0 0 p = p ++ s := by
  apply ext_of_list
  rw [repl_list]
  simp
theorem keepsFrom_below {B : Nat} {W W' : World} (hb : Below W.heap.size W W') : KeepsFrom B W W' :=
  ⟨hb.size, fun k o _ hk _ => (hb.block k (Array.getElem?_eq_some_iff.1 hk).1).trans hk⟩
set_option maxRecDepth 100000 in
set_option maxHeartbeats 8000000 in
theorem walks_small (s : ByteArray) (k stop : Int) (w : World) (hT : Tabs w) (hbig : ¬ 1073741822 < s.size) :
    Calls Tryz.prog 10 #[.agg #[.string s, .int .i64 k], .int .i64 stop] w fun e w' => e = .returned (.bool true) ∧ Below w.heap.size w w' := by
  obtain ⟨W0, hW0, A0, b0, hsz⟩ := boxL1 w [.string s, .int .i64 k] 23
  obtain ⟨W1, hW1, C0, bs0, hz1⟩ := new_box W0 3 (.int .i64 stop)
  obtain ⟨W2, hW2, R0, bs1, hz2⟩ := new_box W1 4 (.bool false)
  have HE := Lib.hid (And.intro hW0 (And.intro hW1 hW2))
  have HA := Lib.hid ((A0.below bs0).below bs1)
  have HC := Lib.hid (C0.below bs1)
  have HR := Lib.hid R0
  have HB := Lib.hid ((b0.trans (bs0.mono b0.size)).trans (bs1.mono (b0.trans (bs0.mono b0.size)).size))
  have HT := Lib.hid (tabs_below (tabs_below (tabs_below hT b0) bs0) bs1)
  rw [hz1, hsz] at HR
  rw [hsz] at HC
  have HT0 := Lib.hid hT
  clear hW0 A0 b0 hsz C0 bs0 R0 bs1 hW1 hW2 hT hz1 hz2
  refine (callsIn_wide (n := 9)).1 ?_
  refine callsIn_of_wp_marks Tryz.func10 rfl trivial ?_ rfl
  simp only [Tryz.ntmps10, List.size_toArray, List.length_cons, List.length_nil, Nat.reduceAdd, Nat.reduceSub, Array.replicate_succ, Array.replicate_zero, List.push_toArray, List.append_toArray, List.nil_append, List.cons_append]
  refine wpIn_wide.2 ?_
  go_wp2_with fail
  rw [HE.out.1, HE.out.2.1, HE.out.2.2]
  refine (awake_any W2 HT.out).mono ?_
  rintro e w1 ⟨rfl, hb⟩
  have HA := Lib.hid (HA.out.below hb)
  have HC := Lib.hid (HC.out.below hb)
  have HR := Lib.hid (HR.out.below hb)
  have HT := Lib.hid (tabs_below HT.out hb)
  have HB := Lib.hid (HB.out.trans (hb.mono HB.out.size))
  clear hb
  have lA := HA.out.1
  have a0 := (HA.out.2 0 _ rfl).1
  have a1 := (HA.out.2 1 _ rfl).1
  have lR := HR.out.box.lt
  have hRw1 := lR
  have rf := HR.out.box.frozen
  have rc := HR.out.box.cell
  have hb1 : ¬ (1073741822 : Int) < (s.size : Int) := by omega
  have hs2 : s.size ≤ 1073741822 := by omega
  go_wp2_with fail
  refine (keep_in s k w1 HT.out (by omega)).mono ?_
  rintro e w2 ⟨v, rfl, hv, hb⟩
  obtain ⟨vt, vx, rfl⟩ := hv.form
  have hsz := hb.size
  have HK := Lib.hid (hv.mono (S' := fun j => w1.heap.size ≤ j ∧ j < w2.heap.size) (fun j h1 h2 => ⟨h2, h1⟩))
  have HA := Lib.hid (HA.out.below hb)
  have HC := Lib.hid (HC.out.below hb)
  have HR := Lib.hid (HR.out.below hb)
  have HT := Lib.hid (tabs_below HT.out hb)
  have HB := Lib.hid (HB.out.trans (hb.mono HB.out.size))
  clear hb
  clear hv a0 a1 lA hbig hb1 lR rf rc
  have a0 := (HA.out.2 0 _ rfl).1
  go_wp2_with fail
  refine (RefLines_any s w2 (by omega)).mono ?_
  rintro e w3 ⟨rv, rfl, hrow, hb⟩
  obtain ⟨Aw, cw, rfl⟩ := row_forma hrow
  have HP := Lib.hid (rowP_at hrow rfl)
  have HTX := Lib.hid ((HK.out.text HT.out (by omega)).below hb)
  have hbsz := hb.size
  have HA := Lib.hid (HA.out.below hb)
  have HC := Lib.hid (HC.out.below hb)
  have HR := Lib.hid (HR.out.below hb)
  have HK := Lib.hid (HK.out.below hb)
  have HT := Lib.hid (tabs_below HT.out hb)
  have HB := Lib.hid (HB.out.trans (hb.mono HB.out.size))
  clear hb
  have hR3 := HR.out.box.lt
  have hw23 : w2.heap.size ≤ w3.heap.size := hbsz
  clear hrow a0
  have hlen := spansT_len s (nlF s + 1)
  rw [hlen]
  have hN31 : nlF s + 1 ≤ 1073741823 := by have := nlTo_le s s.size; rw [nlTo_all] at this; omega
  obtain ⟨N, hN⟩ : ∃ N, nlF s + 1 = N := ⟨_, rfl⟩
  rw [hN] at HP hN31 ⊢
  obtain ⟨gw, rfl, hgw, -, -⟩ := HP.out 0 (by rw [spansT_len]; omega)
  obtain ⟨w4, hw4, Q4, b4, hz4⟩ := new_box w3 72 (.slice (some ⟨gw, 0, none⟩) N cw)
  have HE4 := Lib.hid hw4
  have HQ := Lib.hid Q4
  clear hw4 Q4
  have HA := Lib.hid (HA.out.below b4)
  have HC := Lib.hid (HC.out.below b4)
  have HR := Lib.hid (HR.out.below b4)
  have HK := Lib.hid (HK.out.below b4)
  have HP := Lib.hid (HP.out.below b4)
  have HTX := Lib.hid (HTX.out.below b4)
  have HT := Lib.hid (tabs_below HT.out b4)
  have HB := Lib.hid (HB.out.trans (b4.mono HB.out.size))
  clear b4
  go_wp2_with fail
  rw [HE4.out]
  refine (LnLines_any _ w4 (.inr ⟨_, _, rfl⟩)).mono ?_
  rintro e w5 ⟨rfl, rfl⟩
  obtain ⟨w5, hw5, Q5, b5, hz5⟩ := new_box w4 28 (.iface vt vx)
  obtain ⟨w6, hw6, Q6, b6, hz6⟩ := new_box w5 68 (.func (.func 48) #[] #[.pointer (some ⟨w4.heap.size, 0, none⟩)])
  obtain ⟨w7, hw7, Q7, b7, hz7⟩ := new_box w6 72 (.slice none 0 0)
  obtain ⟨w8, hw8, Q8, b8, hz8⟩ := new_box w7 3 (.int .i64 0)
  have hfn := eq_fn (.func 48) #[] #[.pointer (some ⟨w4.heap.size, 0, none⟩)]
  have h6c := Q6.box.cell
  have l6 := Q6.box.lt
  have hB8 : Below w4.heap.size w4 w8 := ((b5.trans (b6.mono b5.size)).trans (b7.mono (b5.trans (b6.mono b5.size)).size)).trans (b8.mono ((b5.trans (b6.mono b5.size)).trans (b7.mono (b5.trans (b6.mono b5.size)).size)).size)
  have HX8 := Lib.hid (((Q5.below b6).below b7).below b8)
  have HF8 := Lib.hid ((Q6.below b7).below b8)
  have HG8 := Lib.hid (Q7.below b8)
  have HN8 := Lib.hid Q8
  have HEE := Lib.hid (And.intro hw5 (And.intro hw6 (And.intro hw7 hw8)))
  have hh7 : w7.cell? ⟨w5.heap.size, 0, none⟩ = some (.func (.func 48) #[] #[.pointer (some ⟨w4.heap.size, 0, none⟩)]) := (Q6.below b7).box.cell
  have HA := Lib.hid (HA.out.below hB8)
  have HC := Lib.hid (HC.out.below hB8)
  have HR := Lib.hid (HR.out.below hB8)
  have HK := Lib.hid (HK.out.below hB8)
  have HP := Lib.hid (HP.out.below hB8)
  have HTX := Lib.hid (HTX.out.below hB8)
  have HQ := Lib.hid (HQ.out.below hB8)
  have HT := Lib.hid (tabs_below HT.out hB8)
  have HB := Lib.hid (HB.out.trans (hB8.mono HB.out.size))
  clear hB8
  have HZ := Lib.hid (And.intro hz4 (And.intro hz5 (And.intro hz6 (And.intro hz7 hz8))))
  clear hw5 hw6 hw7 hw8 Q5 Q6 Q7 Q8 b5 b6 b7 b8 HE4 hz4 hz5 hz6 hz7 hz8 h6c l6
  have hst := store_new w5 .nilFunc (.func (.func 48) #[] #[.pointer (some ⟨w4.heap.size, 0, none⟩)]) 68 rfl
  go_wp2_with (rw [HEE.out.1])
  rw [HEE.out.2.1, HEE.out.2.2.1, HEE.out.2.2.2]
  obtain ⟨hz4, hz5, hz6, hz7, hz8⟩ := HZ.out
  have e6 : w5.heap.size + 1 = w6.heap.size := hz6.symm
  have e7 : w6.heap.size + 1 = w7.heap.size := hz7.symm
  rw [e6, e7]
  obtain ⟨vf, hvf⟩ : ∃ vf, Value.func (.func 48) #[] #[.pointer (some ⟨w4.heap.size, 0, none⟩)] = vf := ⟨_, rfl⟩
  have hbx : Hid (Value.func (.func 48) #[] #[.pointer (some ⟨w4.heap.size, 0, none⟩)] = vf) := hvf
  have hz3 := HB.out.size
  rw [hvf] at HF8 ⊢
  have HK23 : Hid (w2.heap.size ≤ w3.heap.size) := hw23
  clear hw23 hbsz
  have hR1 : Hid (w.heap.size + 1 + 1 < w1.heap.size) := hRw1
  clear hRw1
  have hord : Hid ((w.heap.size + 1 + 1 < w3.heap.size ∧ gw < w3.heap.size) ∧ w4.heap.size = w3.heap.size + 1 ∧ w5.heap.size = w4.heap.size + 1 ∧ w6.heap.size = w5.heap.size + 1 ∧ w7.heap.size = w6.heap.size + 1 ∧ w8.heap.size = w7.heap.size + 1) := ⟨⟨hR3, hgw⟩, hz4, hz5, hz6, hz7, hz8⟩
  clear hgw hR3 hfn hst hh7 HEE hz4 hz5 hz6 hz7 hz8 e6 e7 HZ hvf hlen hsz
  generalize w3.heap.size = Bw at HQ hord HK23 ⊢
  generalize w4.heap.size = Bc at HX8 hord hbx ⊢
  generalize w5.heap.size = Ba at HF8 hord ⊢
  generalize w6.heap.size = Bg at HG8 hord ⊢
  generalize w7.heap.size = Bn at HN8 hord ⊢
  refine (wpIn_wide (n := 9)).1 ?_
  have HI0 : Hid (Boxed w8 Bn 3 (.int .i64 0) ∧ Boxed w8 Bg 72 (.slice none 0 0)) := ⟨HN8.out, HG8.out⟩
  have hl8 : w8.heap.size = Bn + 1 := hord.out.2.2.2.2.2
  have HL8 := Lib.hid hl8
  have hseq := fun n hn => lines_stops n hn Bc (.iface vt vx) s w8 w8 HTX.out (Below.refl _ _) HX8.out.box.cell (MineG Bn Bg) (mineG_ok Bn Bg) (mineG_lt (by omega) HG8.out (by intro k hk; simp [Value.ownBlock] at hk))
  rw [hN] at hseq
  clear hl8
  refine wpIn_rangeFunc_ownH rfl (by omega) (gf := 48) (lb := #[.pointer (some ⟨Bc, 0, none⟩)]) (by show vf = _; exact hbx.out.symm) trivial (enters_of Tryz.func48 (by kernel_rfl) rfl)
    (hseq _ (by omega)) KpL.trans (kpL_b (mineG_ok Bn Bg)) (Below.refl _ _) (fun _ => rfl)
    (fun pre W => (pre = List.range pre.length ∧ Boxed W Bn 3 (.int .i64 pre.length)) ∧ GotIs W w8.heap.size Bg s pre.length ∧ Chg (fun j => j = Bg ∨ j = Bn) w8 W)
    (fun c pre W => c = .ret ∧ ¬ (pre <+: List.range N))
    ?hI ?hIx ?h0
    (fun x a' W => ∃ q, Lies W q [.int .i64 (beginF s (x : Nat)), .int .i64 (spanT s x)] ∧ w8.heap.size ≤ q ∧ a' = { tmps := frW s k stop w.heap.size Bw Ba Bg Bn vt vx (.slice (some ⟨gw, 0, none⟩) N cw) vf (.int .i64 x) (.pointer (some ⟨q, 0, none⟩)) (.int .i64 x) (spanV s x), defers := [] })
    ?hAx ?assign ?body ?done ?stop
  case hI =>
    rintro pre W W' row ⟨⟨h1, h2⟩, h3, h4⟩ hg hr
    have hr2 := fun r e => (hr r e).2
    exact ⟨⟨h1, boxed_from h2 hg hr2⟩, gotIs_kept h3 hg hr2, chg_from h4 hg (fun r e => (hr r e).1)⟩
  case hIx => rintro c pre W W' row h hg hr; exact h
  case h0 => exact ⟨⟨rfl, HI0.out.1⟩, ⟨_, HI0.out.2, World.ownsRow_nil _ _ _ _⟩, Chg.refl _ _⟩
  case hAx =>
    rintro x a' _ W W' row ⟨q, h1, h2, h3⟩ hg hr
    exact ⟨q, h1.kept hg (fun r e => (hr r e).2), h2, h3⟩
  case assign =>
    rintro l pre x W K ⟨⟨h1, h2⟩, h3, h4⟩ hK
    have hsv : spanV s x = .agg #[.int .i64 (beginF s (x : Nat)), .int .i64 (spanT s x)] := rfl
    have b7 : Below W.heap.size W (W.alloc (.cells #[.int .i64 (beginF s (x : Nat)), .int .i64 (spanT s x)] 41)) := (Below.refl _ _).alloc (Nat.le_refl _) _
    have HK7 := Lib.hid (hK _ _ ((KeepsOthers.alloc _ _).from _) (kpL_below (mineG_ok Bn Bg) b7) ⟨⟨h1, boxed_below h2 b7⟩, gotIs_kept h3 (grown_of_below b7) (fun r e => by cases e), h4.then_below b7⟩ ⟨W.heap.size, Lies.new _ [.int .i64 (beginF s (x : Nat)), .int .i64 (spanT s x)] _, h4.size, rfl⟩)
    unfold frW at HK7
    rw [hsv] at HK7 ⊢
    clear hK h2 h3 h4
    gi_wp2
    exact HK7.out
  case body =>
    rintro l pre x a' W hl hr ⟨⟨hpr, hn⟩, ⟨v, hv, hrow⟩, hc⟩ ⟨q, hq, hq8, rfl⟩ hlt
    unfold frW
    have hnc := hn.cell
    have hnf := hn.frozen
    have hnl := hn.lt
    by_cases hx : x = pre.length
    · subst hx
      have hpl : pre.length < N := by simpa using hlt
      have hw : IntKind.i64.wrap ((pre.length : Int) + 1) = (pre.length : Int) + 1 := IntWalk.i64_in _ (by omega)
      have hng : Bn ≠ Bg := by have := hord.out; omega
      have hch1 : Chg (fun j => j = Bn) W (W.setCell ⟨Bn, 0, none⟩ (.int .i64 ((pre.length : Int) + 1))) := Chg.set W ⟨Bn, 0, none⟩ _
      have hn1 := Lib.hid (hn.set (.int .i64 ((pre.length : Int) + 1)))
      have hv1 := Lib.hid (hv.other (Ne.symm hng) (.int .i64 ((pre.length : Int) + 1)))
      have hq1 := Lib.hid (hq.chg hch1 (by show ¬ q = Bn; have := HL8.out; omega))
      have hrow1 := Lib.hid (hrow.kept (grownBy_setCell' W Bn (.int .i64 ((pre.length : Int) + 1))) (.inr (fun e => by have := (hrow.lt Bn e).1; have := HL8.out; omega)))
      have hc1 := Lib.hid (hc.trans hch1 (fun x _ e => .inr e))
      have gv := hv1.out.cell
      have gf := hv1.out.frozen
      have gl := hv1.out.lt
      have q0 := (hq1.out.2 0 _ rfl).1
      have q1 := (hq1.out.2 1 _ rfl).1
      have HV0 := Lib.hid hv
      have HC0 := Lib.hid hc
      have HPR := Lib.hid hpr
      obtain ⟨i0, hi, hz0, hz1, hz2⟩ := info_parts infoSpan
      obtain ⟨W1, hW1⟩ : ∃ W1, W.setCell ⟨Bn, 0, none⟩ (.int .i64 ((pre.length : Int) + 1)) = W1 := ⟨_, rfl⟩
      have HW1 := Lib.hid hW1
      rw [hW1] at hn1 hv1 hq1 hrow1 hc1 gv gf gl q0 q1
      have h8l : w8.heap.size ≤ W1.heap.size := hc1.out.size
      have hroom : (pre.length + 1) * 16 ≤ 140737488355328 := by omega
      have hml : pre.length + 1 ≤ maxLen := by unfold maxLen; omega
      clear hv hrow hc hq hn hch1 hpr hW1
      have hgl8 : Bg < w8.heap.size := by have := hord.out; omega
      have hA1 : ¬ w.heap.size + 1 = Bg := by have := hord.out; omega
      have hA2 : ¬ w8.heap.size ≤ w.heap.size + 1 := by have := hord.out; omega
      have hC1 := Lib.hid (HC.out.chg hc1.out (by show ¬ (_ = Bg ∨ _ = Bn); have := hord.out; omega))
      have HEnd : Hid (∀ (w3 : World) (v' : Value), GotStep W1 w3 w8.heap.size Bg s pre.length v v' → KeepsFrom w8.heap.size W (w3.setCell ⟨Bg, 0, none⟩ v') ∧ KpL (MineG Bn Bg) W (w3.setCell ⟨Bg, 0, none⟩ v') ∧
          (pre ++ [pre.length] = List.range (pre ++ [pre.length]).length ∧ Boxed (w3.setCell ⟨Bg, 0, none⟩ v') Bn 3 (.int .i64 (pre ++ [pre.length]).length)) ∧ GotIs (w3.setCell ⟨Bg, 0, none⟩ v') w8.heap.size Bg s (pre ++ [pre.length]).length ∧ Chg (fun j => j = Bg ∨ j = Bn) w8 (w3.setCell ⟨Bg, 0, none⟩ v')) := by
        intro w3 v' hst
        obtain ⟨-, t2, t3, t4, -, t6, t7, t8⟩ := hst
        have hl8 := HL8.out
        have k1 : KeepsOthers W W1 := by rw [← HW1.out]; exact KeepsOthers.setCell _ _ _
        have c1 : Chg (fun j => j = Bn) W W1 := by rw [← HW1.out]; exact Chg.set W ⟨Bn, 0, none⟩ _
        have hlen : (pre ++ [pre.length]).length = pre.length + 1 := by simp
        have hbn : Boxed (w3.setCell ⟨Bg, 0, none⟩ v') Bn 3 (.int .i64 ((pre.length : Int) + 1)) := Bx.chg hn1.out t6 (by rintro (e | e); exact hng e; have := t8 _ e; omega)
        refine ⟨(k1.trans t4).from _, kpL_step HV0.out t3 (t7.imp (fun h => h) (fun h r e => Nat.le_trans c1.size (h r e))) ((c1.mono (fun j e => .inl e)).trans t6 (fun x _ e => .inr e)), ⟨range_snoc HPR.out, ?_⟩, ?_, hc1.out.trans t6 (fun x hx e => ?_)⟩
        · rw [hlen]; simpa using hbn
        · rw [hlen]; exact t2
        · rcases e with e | e
          · exact .inl e
          · have := t8 _ e; omega
      by_cases hstop : (pre.length : Int) = stop
      · subst hstop
        have hA3 : ¬ Ba = Bg := by have := hord.out; omega
        have hA4 : ¬ w8.heap.size ≤ Ba := by have := hord.out; omega
        have hF1 := Lib.hid (HF8.out.chg hc1.out (by show ¬ (_ = Bg ∨ _ = Bn); have := hord.out; omega))
        gi_wp2_with (first
          | rw [HW1.out]
          | (gi_at_builtin; refine wpListIn_append_own_at _ rfl (.tmp 49) (.tmp 51) 72 rfl w8.heap.size 41 i0 (.agg #[.int .i64 0, .int .i64 0]) 2 16 Tryz.underlying72 hi hz0 hz1 hz2 rfl (by decide) _ _ _ rfl (hrow1.out.alloc _) ⟨W1.heap.size, 0, none⟩ 1 1 [.int .i64 (beginF s (pre.length : Nat)), .int .i64 (spanT s pre.length)] rfl rfl (new_cellsW _ _ _) (by intro u hu; simp at hu; rcases hu with rfl | rfl <;> rfl) hml hroom (by simp; omega) ?_
             intro v' w3 hown' hg3 hnil3 hblk3
             obtain ⟨A', c', rfl⟩ := row_forma hown'
             have hstep := got_step hv1.out hrow1.out h8l hgl8 hown' hg3 hblk3
             have HStep := Lib.hid hstep
             have gv3 := hstep.1.cell
             have gf3 := hstep.1.frozen
             have gl3 := hstep.1.lt
             have cs3 := ((hC1.out.chg hstep.2.2.2.2.1 (by rintro (e | e); exact hA1 e; exact hA2 (hstep.2.2.2.2.2.2.2 _ e)))).box.cell
             have cf3 := ((hF1.out.chg hstep.2.2.2.2.1 (by rintro (e | e); exact hA3 e; have := hstep.2.2.2.2.2.2.2 _ e; exact hA4 this))).box.cell
             clear hown' hg3 hnil3 hblk3 hstep
             go_frame))
        have E4 := HEnd.out _ _ HStep.out
        obtain ⟨W4, hW4⟩ : ∃ W4, w3.setCell ⟨Bg, 0, none⟩ (.slice A' (pre.length + 1) c') = W4 := ⟨_, rfl⟩
        rw [hW4] at E4 ⊢
        obtain ⟨k4, p4, i4, g4, c4⟩ := E4
        have HE4 := Lib.hid (And.intro k4 (And.intro p4 (And.intro i4 (And.intro g4 c4))))
        have hnt : NoTab (fun j => j = Bg ∨ j = Bn) := by
          obtain ⟨t1, t2⟩ := tabs_lt HT0.out
          have := hord.out
          exact ⟨fun e => e.elim (by omega) (by omega), fun e => e.elim (by omega) (by omega)⟩
        have hkp : Keeps w8 W4 := Keeps.of_chg c4 fun j vs T hj hT' hb => by
          have h1 : Blk w8 Bg 72 [.slice none 0 0] := HI0.out.2
          have h2 : Blk w8 Bn 3 [.int .i64 0] := HI0.out.1
          rcases hj with rfl | rfl
          · have := hb.same h1; subst this; revert hT'; decide
          · have := hb.same h2; subst this; revert hT'; decide
        have X4 := (HK.out.chg c4 (fun j hj e => by have := hord.out; have := HK23.out; rcases e with e | e <;> omega) hkp).text (tabs_chg HT.out hnt c4) (by omega)
        obtain ⟨r4, hr4⟩ : ∃ r, W4.heap[l]? = some (.loop r) := by obtain ⟨r, hr⟩ := hr; exact ⟨r, k4.same l (.loop r) hl hr rfl⟩
        have hcc := (HX8.out.chg c4 (by show ¬ (_ = Bg ∨ _ = Bn); have := hord.out; omega)).box.cell
        have HR4 := Lib.hid (HR.out.chg c4 (by show ¬ (_ = Bg ∨ _ = Bn); have := hord.out; omega))
        have HQ4 := Lib.hid (HQ.out.chg c4 (by show ¬ (_ = Bg ∨ _ = Bn); have := hord.out; omega))
        have HC84 := Lib.hid c4
        have hseq2 := fun n hn => (lines_stops n hn Bc (.iface vt vx) s W4 W4 X4 (Below.refl _ _) hcc (fun _ _ => False) ownOk_none (fun _ h => h.elim)).inRound l
        rw [hN] at hseq2
        clear k4 p4 i4 g4 c4 hW4 hkp hnt X4 hcc gv3 gf3 gl3 cs3 cf3 HStep HEnd hr hq1 hrow1 hv1 hn1 hc1 HV0 HC0 HW1 hF1 hC1
        refine range_n s W4.heap.size 13 14 rfl hr4 (by omega) (gf := 48) (lb := #[.pointer (some ⟨Bc, 0, none⟩)]) (by show vf = _; exact hbx.out.symm) trivial (enters_of Tryz.func48 (by kernel_rfl) rfl)
          (hseq2 _ (by omega)) KpL.trans (kpL_b ownOk_none) (Below.refl _ _) rfl
          (fun _ W' => Below W4.heap.size W4 W' ∧ KeepsFrom w8.heap.size W4 W')
          (fun c pre' W' => (c = .exit 2 ∧ Below W4.heap.size W4 W' ∧ KeepsFrom w8.heap.size W4 W') ∨ (c = .ret ∧ ¬ (pre' <+: List.range N)))
          (OwnFrom.and (ownFrom_below (Nat.le_refl _) (Nat.le_refl _)) (ownFrom_keepsFrom (Nat.le_refl _))) ?hIx2 ⟨Below.refl _ _, KeepsFrom.refl _ _⟩ ?assign2 ?body2 ?done2 ?stop2
        case hIx2 =>
          rintro c pre2 W' W'' row h hg hr2
          rcases h with ⟨rfl, h1, h2⟩ | ⟨rfl, h1⟩
          · exact .inl ⟨rfl, ownFrom_below (β := Unit) (Nat.le_refl _) (Nat.le_refl _) () W' W'' row h1 hg hr2, ownFrom_keepsFrom (β := Unit) (Nat.le_refl _) () W' W'' row h2 hg hr2⟩
          · exact .inr ⟨rfl, h1⟩
        case assign2 =>
          rintro l2 pre2 x2 W' K ⟨h1, h2⟩ hK
          have hsv : spanV s x2 = .agg #[.int .i64 (beginF s (x2 : Nat)), .int .i64 (spanT s x2)] := rfl
          have b7 : Below W'.heap.size W' (W'.alloc (.cells #[.int .i64 (beginF s (x2 : Nat)), .int .i64 (spanT s x2)] 41)) := (Below.refl _ _).alloc (Nat.le_refl _) _
          have HB7 := Lib.hid b7
          have HKK := Lib.hid hK
          have HH1 := Lib.hid h1
          have HH2 := Lib.hid h2
          rw [hsv]
          clear b7 hK h1 h2 hsv
          gi_wp2
          refine HKK.out _ _ ((KeepsOthers.alloc _ _).from _) (kpL_below ownOk_none HB7.out) ⟨HH1.out.trans (HB7.out.mono HH1.out.size), HH2.out.trans (keepsFrom_below HB7.out)⟩ ⟨W'.heap.size, Lies.new _ [.int .i64 (beginF s (x2 : Nat)), .int .i64 (spanT s x2)] _, HH1.out.size, ?_⟩
          simp [spanV]
        case body2 =>
          rintro l2 pre2 x2 a2 W' hl2 hr2 ⟨h1, h2⟩ ⟨q2, hq2, hq28, ha2⟩ hlt2
          simp at ha2
          subst ha2
          have hw48 : w8.heap.size ≤ W4.heap.size := HC84.out.size
          have hgB : gw < w8.heap.size ∧ ¬ (gw = Bg ∨ gw = Bn) := by have := hord.out; omega
          have HQW := Lib.hid (HQ4.out.below h1)
          have HRW := Lib.hid (HR4.out.below h1)
          have HqW := Lib.hid hq2
          have HH1 := Lib.hid h1
          have HH2 := Lib.hid h2
          have hwl : W4.heap.size ≤ W'.heap.size := h1.size
          by_cases hm : x2 < N
          · obtain ⟨g', hg', hgl, r0, r1⟩ := HP.out x2 (by rw [spansT_len]; exact hm)
            obtain rfl : gw = g' := by simpa using hg'
            simp only [spansT_at] at r0 r1
            have R0 := Lib.hid ((h1.cell (p := ⟨gw, x2 * 2, none⟩) (by show gw < _; omega)).trans ((HC84.out.cell (p := ⟨gw, x2 * 2, none⟩) hgl hgB.2).trans r0))
            have R1 := Lib.hid ((h1.cell (p := ⟨gw, x2 * 2 + 1, none⟩) (by show gw < _; omega)).trans ((HC84.out.cell (p := ⟨gw, x2 * 2 + 1, none⟩) hgl hgB.2).trans r1))
            have hglW : gw < W'.heap.size := by omega
            have i0 : (0 : Int) ≤ (x2 : Int) := by omega
            have i1 : (x2 : Int) < (N : Int) := by omega
            have ig : ¬ N ≤ x2 := by omega
            obtain ⟨bp, hbp⟩ : ∃ p, beginF s (x2 : Nat) = p := ⟨_, rfl⟩
            obtain ⟨br, hbr⟩ : ∃ p, spanT s x2 = p := ⟨_, rfl⟩
            rw [hbp] at R0 HqW
            rw [hbr] at R1 HqW
            clear hm hg' hgl r0 r1 hbp hbr h1 h2 hq2 hw48 hgB hq28 hwl hl2 hr2 hlt2
            gi_wp2
            refine wpIn_held' mixed (by kernel_rfl) (VWk25 Bw gw q2 N cw x2 bp br) (VWk25_mono _ _ _ _ _ _ _ _) (by kernel_rfl) [59, 60, 61, 62, 63, 64, 65, 66, 67, 68, 69, 70] (by kernel_rfl) (by kernel_rfl) ?_ ?_
            · intro j hj
              have hj' : j < 12 := hj
              rcases (by omega : j = 0 ∨ j = 1 ∨ j = 2 ∨ j = 3 ∨ j = 4 ∨ j = 5 ∨ j = 6 ∨ j = 7 ∨ j = 8 ∨ j = 9 ∨ j = 10 ∨ j = 11) with rfl | rfl | rfl | rfl | rfl | rfl | rfl | rfl | rfl | rfl | rfl | rfl
              · -- operation 0
                (refine owes_val (L := [(13, false)]) rfl rfl rfl (by kernel_rfl) ?_; intro a' w' hb' hfacts; obtain ⟨hf13, -⟩ := hfacts; replace hf13 : a'.tmps[13]?.getD undef = .int .i64 x2 := hf13)
                have pW := (HQW.out.below hb').box.cell; have pq := HqW.out.below hb'; have p0 := (pq.2 0 _ rfl).1; have p1 := (pq.2 1 _ rfl).1; have pr0 := (hb'.cell (p := ⟨gw, x2 * 2, none⟩) hglW).trans R0.out; have pr1 := (hb'.cell (p := ⟨gw, x2 * 2 + 1, none⟩) hglW).trans R1.out
                (go_simp; first | exact ⟨_, rfl, Below.refl _ _, rfl⟩ | exact ⟨_, rfl, Below.refl _ _, trivial⟩ | exact ⟨_, rfl, (Below.refl _ _).alloc (Nat.le_refl _) _, trivial⟩ | exact ⟨_, rfl, Below.refl _ _, congrArg (Value.int _) (IntWalk.i64_in _ (by omega))⟩)
              · -- operation 1
                (refine owes_val (L := [(7, false)]) rfl rfl rfl (by kernel_rfl) ?_; intro a' w' hb' hfacts; obtain ⟨hf7, -⟩ := hfacts; replace hf7 : a'.tmps[7]?.getD undef = .pointer (some ⟨Bw, 0, none⟩) := hf7)
                have pW := (HQW.out.below hb').box.cell; have pq := HqW.out.below hb'; have p0 := (pq.2 0 _ rfl).1; have p1 := (pq.2 1 _ rfl).1; have pr0 := (hb'.cell (p := ⟨gw, x2 * 2, none⟩) hglW).trans R0.out; have pr1 := (hb'.cell (p := ⟨gw, x2 * 2 + 1, none⟩) hglW).trans R1.out
                (go_simp; first | exact ⟨_, rfl, Below.refl _ _, rfl⟩ | exact ⟨_, rfl, Below.refl _ _, trivial⟩ | exact ⟨_, rfl, (Below.refl _ _).alloc (Nat.le_refl _) _, trivial⟩ | exact ⟨_, rfl, Below.refl _ _, congrArg (Value.int _) (IntWalk.i64_in _ (by omega))⟩)
              · -- operation 2
                (refine owes_val (L := [(60, true)]) rfl rfl rfl (by kernel_rfl) ?_; intro a' w' hb' hfacts; obtain ⟨hf60, -⟩ := hfacts; try simp only [VWk25] at hf60)
                have pW := (HQW.out.below hb').box.cell; have pq := HqW.out.below hb'; have p0 := (pq.2 0 _ rfl).1; have p1 := (pq.2 1 _ rfl).1; have pr0 := (hb'.cell (p := ⟨gw, x2 * 2, none⟩) hglW).trans R0.out; have pr1 := (hb'.cell (p := ⟨gw, x2 * 2 + 1, none⟩) hglW).trans R1.out
                (go_simp; first | exact ⟨_, rfl, Below.refl _ _, rfl⟩ | exact ⟨_, rfl, Below.refl _ _, trivial⟩ | exact ⟨_, rfl, (Below.refl _ _).alloc (Nat.le_refl _) _, trivial⟩ | exact ⟨_, rfl, Below.refl _ _, congrArg (Value.int _) (IntWalk.i64_in _ (by omega))⟩)
              · -- operation 3
                (refine owes_val (L := [(59, true), (61, true)]) rfl rfl rfl (by kernel_rfl) ?_; intro a' w' hb' hfacts; obtain ⟨hf59, hf61, -⟩ := hfacts; try simp only [VWk25] at hf59; try simp only [VWk25] at hf61)
                have pW := (HQW.out.below hb').box.cell; have pq := HqW.out.below hb'; have p0 := (pq.2 0 _ rfl).1; have p1 := (pq.2 1 _ rfl).1; have pr0 := (hb'.cell (p := ⟨gw, x2 * 2, none⟩) hglW).trans R0.out; have pr1 := (hb'.cell (p := ⟨gw, x2 * 2 + 1, none⟩) hglW).trans R1.out
                (go_simp; first | exact ⟨_, rfl, Below.refl _ _, rfl⟩ | exact ⟨_, rfl, Below.refl _ _, trivial⟩ | exact ⟨_, rfl, (Below.refl _ _).alloc (Nat.le_refl _) _, trivial⟩ | exact ⟨_, rfl, Below.refl _ _, congrArg (Value.int _) (IntWalk.i64_in _ (by omega))⟩)
              · -- operation 4
                (refine owes_val (L := [(62, true)]) rfl rfl rfl (by kernel_rfl) ?_; intro a' w' hb' hfacts; obtain ⟨hf62, -⟩ := hfacts; try simp only [VWk25] at hf62)
                have pW := (HQW.out.below hb').box.cell; have pq := HqW.out.below hb'; have p0 := (pq.2 0 _ rfl).1; have p1 := (pq.2 1 _ rfl).1; have pr0 := (hb'.cell (p := ⟨gw, x2 * 2, none⟩) hglW).trans R0.out; have pr1 := (hb'.cell (p := ⟨gw, x2 * 2 + 1, none⟩) hglW).trans R1.out
                (go_simp; first | exact ⟨_, rfl, Below.refl _ _, rfl⟩ | exact ⟨_, rfl, Below.refl _ _, trivial⟩ | exact ⟨_, rfl, (Below.refl _ _).alloc (Nat.le_refl _) _, trivial⟩ | exact ⟨_, rfl, Below.refl _ _, congrArg (Value.int _) (IntWalk.i64_in _ (by omega))⟩)
              · -- operation 5
                (refine owes_if (L := [(14, false), (63, true)]) rfl rfl rfl rfl (by kernel_rfl) ?_; intro a' w' hb' hfacts; obtain ⟨hf14, hf63, -⟩ := hfacts; replace hf14 : a'.tmps[14]?.getD undef = .pointer (some ⟨q2, 0, none⟩) := hf14; try simp only [VWk25] at hf63)
                have pW := (HQW.out.below hb').box.cell; have pq := HqW.out.below hb'; have p0 := (pq.2 0 _ rfl).1; have p1 := (pq.2 1 _ rfl).1; have pr0 := (hb'.cell (p := ⟨gw, x2 * 2, none⟩) hglW).trans R0.out; have pr1 := (hb'.cell (p := ⟨gw, x2 * 2 + 1, none⟩) hglW).trans R1.out
                first
                  | (go_simp; first | exact ⟨_, rfl, Below.refl _ _, rfl⟩ | exact ⟨_, rfl, Below.refl _ _, trivial⟩ | exact ⟨_, rfl, Below.refl _ _⟩ | exact ⟨_, rfl, (Below.refl _ _).alloc (Nat.le_refl _) _, trivial⟩)
                  | (apply Exists.intro
                     apply And.intro
                     · assumption
                     · apply And.intro
                       · intro hc
                         first
                           | (refine absurd hc ?_; simp [undef]; done)
                           | (go_simp; first | exact ⟨_, rfl, Below.refl _ _, rfl⟩ | exact ⟨_, rfl, Below.refl _ _, trivial⟩ | exact ⟨_, rfl, Below.refl _ _⟩ | exact ⟨_, rfl, (Below.refl _ _).alloc (Nat.le_refl _) _, trivial⟩)
                       · intro hc
                         first | exact absurd rfl hc | exact trivial | exact rfl)
                  | (apply Exists.intro
                     apply And.intro
                     · assumption
                     · intro hc
                       first
                         | (refine absurd hc ?_; simp [undef]; done)
                         | (go_simp; first | exact ⟨_, rfl, Below.refl _ _, rfl⟩ | exact ⟨_, rfl, Below.refl _ _, trivial⟩ | exact ⟨_, rfl, Below.refl _ _⟩ | exact ⟨_, rfl, (Below.refl _ _).alloc (Nat.le_refl _) _, trivial⟩))
              · -- operation 6
                (refine owes_if (L := [(7, false), (63, true)]) rfl rfl rfl rfl (by kernel_rfl) ?_; intro a' w' hb' hfacts; obtain ⟨hf7, hf63, -⟩ := hfacts; replace hf7 : a'.tmps[7]?.getD undef = .pointer (some ⟨Bw, 0, none⟩) := hf7; try simp only [VWk25] at hf63)
                have pW := (HQW.out.below hb').box.cell; have pq := HqW.out.below hb'; have p0 := (pq.2 0 _ rfl).1; have p1 := (pq.2 1 _ rfl).1; have pr0 := (hb'.cell (p := ⟨gw, x2 * 2, none⟩) hglW).trans R0.out; have pr1 := (hb'.cell (p := ⟨gw, x2 * 2 + 1, none⟩) hglW).trans R1.out
                first
                  | (go_simp; first | exact ⟨_, rfl, Below.refl _ _, rfl⟩ | exact ⟨_, rfl, Below.refl _ _, trivial⟩ | exact ⟨_, rfl, Below.refl _ _⟩ | exact ⟨_, rfl, (Below.refl _ _).alloc (Nat.le_refl _) _, trivial⟩)
                  | (apply Exists.intro
                     apply And.intro
                     · assumption
                     · apply And.intro
                       · intro hc
                         first
                           | (refine absurd hc ?_; simp [undef]; done)
                           | (go_simp; first | exact ⟨_, rfl, Below.refl _ _, rfl⟩ | exact ⟨_, rfl, Below.refl _ _, trivial⟩ | exact ⟨_, rfl, Below.refl _ _⟩ | exact ⟨_, rfl, (Below.refl _ _).alloc (Nat.le_refl _) _, trivial⟩)
                       · intro hc
                         first | exact absurd rfl hc | exact trivial | exact rfl)
                  | (apply Exists.intro
                     apply And.intro
                     · assumption
                     · intro hc
                       first
                         | (refine absurd hc ?_; simp [undef]; done)
                         | (go_simp; first | exact ⟨_, rfl, Below.refl _ _, rfl⟩ | exact ⟨_, rfl, Below.refl _ _, trivial⟩ | exact ⟨_, rfl, Below.refl _ _⟩ | exact ⟨_, rfl, (Below.refl _ _).alloc (Nat.le_refl _) _, trivial⟩))
              · -- operation 7
                (refine owes_if (L := [(13, false), (63, true)]) rfl rfl rfl rfl (by kernel_rfl) ?_; intro a' w' hb' hfacts; obtain ⟨hf13, hf63, -⟩ := hfacts; replace hf13 : a'.tmps[13]?.getD undef = .int .i64 x2 := hf13; try simp only [VWk25] at hf63)
                have pW := (HQW.out.below hb').box.cell; have pq := HqW.out.below hb'; have p0 := (pq.2 0 _ rfl).1; have p1 := (pq.2 1 _ rfl).1; have pr0 := (hb'.cell (p := ⟨gw, x2 * 2, none⟩) hglW).trans R0.out; have pr1 := (hb'.cell (p := ⟨gw, x2 * 2 + 1, none⟩) hglW).trans R1.out
                first
                  | (go_simp; first | exact ⟨_, rfl, Below.refl _ _, rfl⟩ | exact ⟨_, rfl, Below.refl _ _, trivial⟩ | exact ⟨_, rfl, Below.refl _ _⟩ | exact ⟨_, rfl, (Below.refl _ _).alloc (Nat.le_refl _) _, trivial⟩)
                  | (apply Exists.intro
                     apply And.intro
                     · assumption
                     · apply And.intro
                       · intro hc
                         first
                           | (refine absurd hc ?_; simp [undef]; done)
                           | (go_simp; first | exact ⟨_, rfl, Below.refl _ _, rfl⟩ | exact ⟨_, rfl, Below.refl _ _, trivial⟩ | exact ⟨_, rfl, Below.refl _ _⟩ | exact ⟨_, rfl, (Below.refl _ _).alloc (Nat.le_refl _) _, trivial⟩)
                       · intro hc
                         first | exact absurd rfl hc | exact trivial | exact rfl)
                  | (apply Exists.intro
                     apply And.intro
                     · assumption
                     · intro hc
                       first
                         | (refine absurd hc ?_; simp [undef]; done)
                         | (go_simp; first | exact ⟨_, rfl, Below.refl _ _, rfl⟩ | exact ⟨_, rfl, Below.refl _ _, trivial⟩ | exact ⟨_, rfl, Below.refl _ _⟩ | exact ⟨_, rfl, (Below.refl _ _).alloc (Nat.le_refl _) _, trivial⟩))
              · -- operation 8
                (refine owes_if (L := [(65, true), (66, true), (63, true)]) rfl rfl rfl rfl (by kernel_rfl) ?_; intro a' w' hb' hfacts; obtain ⟨hf65, hf66, hf63, -⟩ := hfacts; try simp only [VWk25] at hf65; try simp only [VWk25] at hf66; try simp only [VWk25] at hf63)
                have pW := (HQW.out.below hb').box.cell; have pq := HqW.out.below hb'; have p0 := (pq.2 0 _ rfl).1; have p1 := (pq.2 1 _ rfl).1; have pr0 := (hb'.cell (p := ⟨gw, x2 * 2, none⟩) hglW).trans R0.out; have pr1 := (hb'.cell (p := ⟨gw, x2 * 2 + 1, none⟩) hglW).trans R1.out
                first
                  | (go_simp; first | exact ⟨_, rfl, Below.refl _ _, rfl⟩ | exact ⟨_, rfl, Below.refl _ _, trivial⟩ | exact ⟨_, rfl, Below.refl _ _⟩ | exact ⟨_, rfl, (Below.refl _ _).alloc (Nat.le_refl _) _, trivial⟩)
                  | (apply Exists.intro
                     apply And.intro
                     · assumption
                     · apply And.intro
                       · intro hc
                         first
                           | (refine absurd hc ?_; simp [undef]; done)
                           | (go_simp; first | exact ⟨_, rfl, Below.refl _ _, rfl⟩ | exact ⟨_, rfl, Below.refl _ _, trivial⟩ | exact ⟨_, rfl, Below.refl _ _⟩ | exact ⟨_, rfl, (Below.refl _ _).alloc (Nat.le_refl _) _, trivial⟩)
                       · intro hc
                         first | exact absurd rfl hc | exact trivial | exact rfl)
                  | (apply Exists.intro
                     apply And.intro
                     · assumption
                     · intro hc
                       first
                         | (refine absurd hc ?_; simp [undef]; done)
                         | (go_simp; first | exact ⟨_, rfl, Below.refl _ _, rfl⟩ | exact ⟨_, rfl, Below.refl _ _, trivial⟩ | exact ⟨_, rfl, Below.refl _ _⟩ | exact ⟨_, rfl, (Below.refl _ _).alloc (Nat.le_refl _) _, trivial⟩))
              · -- operation 9
                (refine owes_if (L := [(67, true), (63, true)]) rfl rfl rfl rfl (by kernel_rfl) ?_; intro a' w' hb' hfacts; obtain ⟨hf67, hf63, -⟩ := hfacts; try simp only [VWk25] at hf67; try simp only [VWk25] at hf63)
                have pW := (HQW.out.below hb').box.cell; have pq := HqW.out.below hb'; have p0 := (pq.2 0 _ rfl).1; have p1 := (pq.2 1 _ rfl).1; have pr0 := (hb'.cell (p := ⟨gw, x2 * 2, none⟩) hglW).trans R0.out; have pr1 := (hb'.cell (p := ⟨gw, x2 * 2 + 1, none⟩) hglW).trans R1.out
                first
                  | (go_simp; first | exact ⟨_, rfl, Below.refl _ _, rfl⟩ | exact ⟨_, rfl, Below.refl _ _, trivial⟩ | exact ⟨_, rfl, Below.refl _ _⟩ | exact ⟨_, rfl, (Below.refl _ _).alloc (Nat.le_refl _) _, trivial⟩)
                  | (apply Exists.intro
                     apply And.intro
                     · assumption
                     · apply And.intro
                       · intro hc
                         first
                           | (refine absurd hc ?_; simp [undef]; done)
                           | (go_simp; first | exact ⟨_, rfl, Below.refl _ _, rfl⟩ | exact ⟨_, rfl, Below.refl _ _, trivial⟩ | exact ⟨_, rfl, Below.refl _ _⟩ | exact ⟨_, rfl, (Below.refl _ _).alloc (Nat.le_refl _) _, trivial⟩)
                       · intro hc
                         first | exact absurd rfl hc | exact trivial | exact rfl)
                  | (apply Exists.intro
                     apply And.intro
                     · assumption
                     · intro hc
                       first
                         | (refine absurd hc ?_; simp [undef]; done)
                         | (go_simp; first | exact ⟨_, rfl, Below.refl _ _, rfl⟩ | exact ⟨_, rfl, Below.refl _ _, trivial⟩ | exact ⟨_, rfl, Below.refl _ _⟩ | exact ⟨_, rfl, (Below.refl _ _).alloc (Nat.le_refl _) _, trivial⟩))
              · -- operation 10
                (refine owes_if (L := [(64, true), (68, true), (63, true)]) rfl rfl rfl rfl (by kernel_rfl) ?_; intro a' w' hb' hfacts; obtain ⟨hf64, hf68, hf63, -⟩ := hfacts; try simp only [VWk25] at hf64; try simp only [VWk25] at hf68; try simp only [VWk25] at hf63)
                have pW := (HQW.out.below hb').box.cell; have pq := HqW.out.below hb'; have p0 := (pq.2 0 _ rfl).1; have p1 := (pq.2 1 _ rfl).1; have pr0 := (hb'.cell (p := ⟨gw, x2 * 2, none⟩) hglW).trans R0.out; have pr1 := (hb'.cell (p := ⟨gw, x2 * 2 + 1, none⟩) hglW).trans R1.out
                first
                  | (go_simp; first | exact ⟨_, rfl, Below.refl _ _, rfl⟩ | exact ⟨_, rfl, Below.refl _ _, trivial⟩ | exact ⟨_, rfl, Below.refl _ _⟩ | exact ⟨_, rfl, (Below.refl _ _).alloc (Nat.le_refl _) _, trivial⟩)
                  | (apply Exists.intro
                     apply And.intro
                     · assumption
                     · apply And.intro
                       · intro hc
                         first
                           | (refine absurd hc ?_; simp [undef]; done)
                           | (go_simp; first | exact ⟨_, rfl, Below.refl _ _, rfl⟩ | exact ⟨_, rfl, Below.refl _ _, trivial⟩ | exact ⟨_, rfl, Below.refl _ _⟩ | exact ⟨_, rfl, (Below.refl _ _).alloc (Nat.le_refl _) _, trivial⟩)
                       · intro hc
                         first | exact absurd rfl hc | exact trivial | exact rfl)
                  | (apply Exists.intro
                     apply And.intro
                     · assumption
                     · intro hc
                       first
                         | (refine absurd hc ?_; simp [undef]; done)
                         | (go_simp; first | exact ⟨_, rfl, Below.refl _ _, rfl⟩ | exact ⟨_, rfl, Below.refl _ _, trivial⟩ | exact ⟨_, rfl, Below.refl _ _⟩ | exact ⟨_, rfl, (Below.refl _ _).alloc (Nat.le_refl _) _, trivial⟩))
              · -- operation 11
                (refine owes_val (L := [(63, true), (69, true)]) rfl rfl rfl (by kernel_rfl) ?_; intro a' w' hb' hfacts; obtain ⟨hf63, hf69, -⟩ := hfacts; try simp only [VWk25] at hf63; try simp only [VWk25] at hf69)
                have pW := (HQW.out.below hb').box.cell; have pq := HqW.out.below hb'; have p0 := (pq.2 0 _ rfl).1; have p1 := (pq.2 1 _ rfl).1; have pr0 := (hb'.cell (p := ⟨gw, x2 * 2, none⟩) hglW).trans R0.out; have pr1 := (hb'.cell (p := ⟨gw, x2 * 2 + 1, none⟩) hglW).trans R1.out
                (go_simp; first | exact ⟨_, rfl, Below.refl _ _, rfl⟩ | exact ⟨_, rfl, Below.refl _ _, trivial⟩ | exact ⟨_, rfl, (Below.refl _ _).alloc (Nat.le_refl _) _, trivial⟩ | exact ⟨_, rfl, Below.refl _ _, congrArg (Value.int _) (IntWalk.i64_in _ (by omega))⟩)
            · intro f W9 hf hb9
              have f70 : f 70 = .bool false := hf 70 (by decide)
              have HB9 := Lib.hid (HH1.out.trans (hb9.mono HH1.out.size))
              have HK9 := Lib.hid (HH2.out.trans (keepsFrom_below hb9))
              have HKF := Lib.hid (keepsFrom_below (B := W4.heap.size) hb9)
              have HKP := Lib.hid (kpL_below ownOk_none hb9)
              clear hf hb9 i0 i1 ig R0 R1 HqW HQW HRW hglW
              simp only [putAll, put_lit, List.map_cons, List.map_nil, List.set_cons_succ, List.set_cons_zero]
              simp only [f70]
              clear f70
              by_cases h20 : (20 : Int) < (x2 : Int)
              · gi_wp2
                exact ⟨HKF.out, .inl ⟨rfl, HB9.out, HK9.out⟩⟩
              · gi_wp2
                exact ⟨HKF.out, HKP.out, HB9.out, HK9.out⟩
          · have hnp := not_prefix_ge (pre := pre2) (x := x2) (N := N) (by omega)
            have ig : (N : Int) ≤ (x2 : Int) := by omega
            have lR : w.heap.size + 1 + 1 < W'.heap.size := HRW.out.box.lt
            clear hm h1 h2 hq2 hw48 hgB hq28 hwl hl2 hr2 hlt2 HqW
            gi_wp2
            refine wpIn_held' mixed (by kernel_rfl) (VWk25b Bw gw N cw x2) (VWk25b_mono _ _ _ _ _) (by kernel_rfl) [59, 60, 61, 62, 63, 64, 65, 66, 67, 68, 69, 70] (by kernel_rfl) (by kernel_rfl) ?_ ?_
            · intro j hj
              have hj' : j < 12 := hj
              rcases (by omega : j = 0 ∨ j = 1 ∨ j = 2 ∨ j = 3 ∨ j = 4 ∨ j = 5 ∨ j = 6 ∨ j = 7 ∨ j = 8 ∨ j = 9 ∨ j = 10 ∨ j = 11) with rfl | rfl | rfl | rfl | rfl | rfl | rfl | rfl | rfl | rfl | rfl | rfl
              · -- operation 0
                (refine owes_val (L := [(13, false)]) rfl rfl rfl (by kernel_rfl) ?_; intro a' w' hb' hfacts; obtain ⟨hf13, -⟩ := hfacts; replace hf13 : a'.tmps[13]?.getD undef = .int .i64 x2 := hf13)
                have pW := (HQW.out.below hb').box.cell
                (go_simp; first | exact ⟨_, rfl, Below.refl _ _, rfl⟩ | exact ⟨_, rfl, Below.refl _ _, trivial⟩ | exact ⟨_, rfl, (Below.refl _ _).alloc (Nat.le_refl _) _, trivial⟩ | exact ⟨_, rfl, Below.refl _ _, congrArg (Value.int _) (IntWalk.i64_in _ (by omega))⟩)
              · -- operation 1
                (refine owes_val (L := [(7, false)]) rfl rfl rfl (by kernel_rfl) ?_; intro a' w' hb' hfacts; obtain ⟨hf7, -⟩ := hfacts; replace hf7 : a'.tmps[7]?.getD undef = .pointer (some ⟨Bw, 0, none⟩) := hf7)
                have pW := (HQW.out.below hb').box.cell
                (go_simp; first | exact ⟨_, rfl, Below.refl _ _, rfl⟩ | exact ⟨_, rfl, Below.refl _ _, trivial⟩ | exact ⟨_, rfl, (Below.refl _ _).alloc (Nat.le_refl _) _, trivial⟩ | exact ⟨_, rfl, Below.refl _ _, congrArg (Value.int _) (IntWalk.i64_in _ (by omega))⟩)
              · -- operation 2
                (refine owes_val (L := [(60, true)]) rfl rfl rfl (by kernel_rfl) ?_; intro a' w' hb' hfacts; obtain ⟨hf60, -⟩ := hfacts; try simp only [VWk25b] at hf60)
                have pW := (HQW.out.below hb').box.cell
                (go_simp; first | exact ⟨_, rfl, Below.refl _ _, rfl⟩ | exact ⟨_, rfl, Below.refl _ _, trivial⟩ | exact ⟨_, rfl, (Below.refl _ _).alloc (Nat.le_refl _) _, trivial⟩ | exact ⟨_, rfl, Below.refl _ _, congrArg (Value.int _) (IntWalk.i64_in _ (by omega))⟩)
              · -- operation 3
                (refine owes_val (L := [(59, true), (61, true)]) rfl rfl rfl (by kernel_rfl) ?_; intro a' w' hb' hfacts; obtain ⟨hf59, hf61, -⟩ := hfacts; try simp only [VWk25b] at hf59; try simp only [VWk25b] at hf61)
                have pW := (HQW.out.below hb').box.cell
                (go_simp; first | exact ⟨_, rfl, Below.refl _ _, rfl⟩ | exact ⟨_, rfl, Below.refl _ _, trivial⟩ | exact ⟨_, rfl, (Below.refl _ _).alloc (Nat.le_refl _) _, trivial⟩ | exact ⟨_, rfl, Below.refl _ _, congrArg (Value.int _) (IntWalk.i64_in _ (by omega))⟩)
              · -- operation 4
                (refine owes_val (L := [(62, true)]) rfl rfl rfl (by kernel_rfl) ?_; intro a' w' hb' hfacts; obtain ⟨hf62, -⟩ := hfacts; try simp only [VWk25b] at hf62)
                have pW := (HQW.out.below hb').box.cell
                (go_simp; first | exact ⟨_, rfl, Below.refl _ _, rfl⟩ | exact ⟨_, rfl, Below.refl _ _, trivial⟩ | exact ⟨_, rfl, (Below.refl _ _).alloc (Nat.le_refl _) _, trivial⟩ | exact ⟨_, rfl, Below.refl _ _, congrArg (Value.int _) (IntWalk.i64_in _ (by omega))⟩)
              · -- operation 5
                (refine owes_if (L := [(14, false), (63, true)]) rfl rfl rfl rfl (by kernel_rfl) ?_; intro a' w' hb' hfacts; obtain ⟨hf14, hf63, -⟩ := hfacts; try simp only [VWk25b] at hf63)
                have pW := (HQW.out.below hb').box.cell
                first
                  | (go_simp; first | exact ⟨_, rfl, Below.refl _ _, rfl⟩ | exact ⟨_, rfl, Below.refl _ _, trivial⟩ | exact ⟨_, rfl, Below.refl _ _⟩ | exact ⟨_, rfl, (Below.refl _ _).alloc (Nat.le_refl _) _, trivial⟩)
                  | (apply Exists.intro
                     apply And.intro
                     · assumption
                     · apply And.intro
                       · intro hc
                         first
                           | (refine absurd hc ?_; simp [undef]; done)
                           | (go_simp; first | exact ⟨_, rfl, Below.refl _ _, rfl⟩ | exact ⟨_, rfl, Below.refl _ _, trivial⟩ | exact ⟨_, rfl, Below.refl _ _⟩ | exact ⟨_, rfl, (Below.refl _ _).alloc (Nat.le_refl _) _, trivial⟩)
                       · intro hc
                         first | exact absurd rfl hc | exact trivial | exact rfl)
                  | (apply Exists.intro
                     apply And.intro
                     · assumption
                     · intro hc
                       first
                         | (refine absurd hc ?_; simp [undef]; done)
                         | (go_simp; first | exact ⟨_, rfl, Below.refl _ _, rfl⟩ | exact ⟨_, rfl, Below.refl _ _, trivial⟩ | exact ⟨_, rfl, Below.refl _ _⟩ | exact ⟨_, rfl, (Below.refl _ _).alloc (Nat.le_refl _) _, trivial⟩))
              · -- operation 6
                (refine owes_if (L := [(7, false), (63, true)]) rfl rfl rfl rfl (by kernel_rfl) ?_; intro a' w' hb' hfacts; obtain ⟨hf7, hf63, -⟩ := hfacts; replace hf7 : a'.tmps[7]?.getD undef = .pointer (some ⟨Bw, 0, none⟩) := hf7; try simp only [VWk25b] at hf63)
                have pW := (HQW.out.below hb').box.cell
                first
                  | (go_simp; first | exact ⟨_, rfl, Below.refl _ _, rfl⟩ | exact ⟨_, rfl, Below.refl _ _, trivial⟩ | exact ⟨_, rfl, Below.refl _ _⟩ | exact ⟨_, rfl, (Below.refl _ _).alloc (Nat.le_refl _) _, trivial⟩)
                  | (apply Exists.intro
                     apply And.intro
                     · assumption
                     · apply And.intro
                       · intro hc
                         first
                           | (refine absurd hc ?_; simp [undef]; done)
                           | (go_simp; first | exact ⟨_, rfl, Below.refl _ _, rfl⟩ | exact ⟨_, rfl, Below.refl _ _, trivial⟩ | exact ⟨_, rfl, Below.refl _ _⟩ | exact ⟨_, rfl, (Below.refl _ _).alloc (Nat.le_refl _) _, trivial⟩)
                       · intro hc
                         first | exact absurd rfl hc | exact trivial | exact rfl)
                  | (apply Exists.intro
                     apply And.intro
                     · assumption
                     · intro hc
                       first
                         | (refine absurd hc ?_; simp [undef]; done)
                         | (go_simp; first | exact ⟨_, rfl, Below.refl _ _, rfl⟩ | exact ⟨_, rfl, Below.refl _ _, trivial⟩ | exact ⟨_, rfl, Below.refl _ _⟩ | exact ⟨_, rfl, (Below.refl _ _).alloc (Nat.le_refl _) _, trivial⟩))
              · -- operation 7
                (refine owes_if (L := [(13, false), (63, true)]) rfl rfl rfl rfl (by kernel_rfl) ?_; intro a' w' hb' hfacts; obtain ⟨hf13, hf63, -⟩ := hfacts; replace hf13 : a'.tmps[13]?.getD undef = .int .i64 x2 := hf13; try simp only [VWk25b] at hf63)
                have pW := (HQW.out.below hb').box.cell
                first
                  | (go_simp; first | exact ⟨_, rfl, Below.refl _ _, rfl⟩ | exact ⟨_, rfl, Below.refl _ _, trivial⟩ | exact ⟨_, rfl, Below.refl _ _⟩ | exact ⟨_, rfl, (Below.refl _ _).alloc (Nat.le_refl _) _, trivial⟩)
                  | (apply Exists.intro
                     apply And.intro
                     · assumption
                     · apply And.intro
                       · intro hc
                         first
                           | (refine absurd hc ?_; simp [undef]; done)
                           | (go_simp; first | exact ⟨_, rfl, Below.refl _ _, rfl⟩ | exact ⟨_, rfl, Below.refl _ _, trivial⟩ | exact ⟨_, rfl, Below.refl _ _⟩ | exact ⟨_, rfl, (Below.refl _ _).alloc (Nat.le_refl _) _, trivial⟩)
                       · intro hc
                         first | exact absurd rfl hc | exact trivial | exact rfl)
                  | (apply Exists.intro
                     apply And.intro
                     · assumption
                     · intro hc
                       first
                         | (refine absurd hc ?_; simp [undef]; done)
                         | (go_simp; first | exact ⟨_, rfl, Below.refl _ _, rfl⟩ | exact ⟨_, rfl, Below.refl _ _, trivial⟩ | exact ⟨_, rfl, Below.refl _ _⟩ | exact ⟨_, rfl, (Below.refl _ _).alloc (Nat.le_refl _) _, trivial⟩))
              · -- operation 8
                (refine owes_if (L := [(65, true), (66, true), (63, true)]) rfl rfl rfl rfl (by kernel_rfl) ?_; intro a' w' hb' hfacts; obtain ⟨hf65, hf66, hf63, -⟩ := hfacts; try simp only [VWk25b] at hf65; try simp only [VWk25b] at hf66; try simp only [VWk25b] at hf63)
                have pW := (HQW.out.below hb').box.cell
                first
                  | (go_simp; first | exact ⟨_, rfl, Below.refl _ _, rfl⟩ | exact ⟨_, rfl, Below.refl _ _, trivial⟩ | exact ⟨_, rfl, Below.refl _ _⟩ | exact ⟨_, rfl, (Below.refl _ _).alloc (Nat.le_refl _) _, trivial⟩)
                  | (apply Exists.intro
                     apply And.intro
                     · assumption
                     · apply And.intro
                       · intro hc
                         first
                           | (refine absurd hc ?_; simp [undef]; done)
                           | (go_simp; first | exact ⟨_, rfl, Below.refl _ _, rfl⟩ | exact ⟨_, rfl, Below.refl _ _, trivial⟩ | exact ⟨_, rfl, Below.refl _ _⟩ | exact ⟨_, rfl, (Below.refl _ _).alloc (Nat.le_refl _) _, trivial⟩)
                       · intro hc
                         first | exact absurd rfl hc | exact trivial | exact rfl)
                  | (apply Exists.intro
                     apply And.intro
                     · assumption
                     · intro hc
                       first
                         | (refine absurd hc ?_; simp [undef]; done)
                         | (go_simp; first | exact ⟨_, rfl, Below.refl _ _, rfl⟩ | exact ⟨_, rfl, Below.refl _ _, trivial⟩ | exact ⟨_, rfl, Below.refl _ _⟩ | exact ⟨_, rfl, (Below.refl _ _).alloc (Nat.le_refl _) _, trivial⟩))
              · -- operation 9
                (refine owes_if (L := [(67, true), (63, true)]) rfl rfl rfl rfl (by kernel_rfl) ?_; intro a' w' hb' hfacts; obtain ⟨hf67, hf63, -⟩ := hfacts; try simp only [VWk25b] at hf67; try simp only [VWk25b] at hf63)
                have pW := (HQW.out.below hb').box.cell
                first
                  | (go_simp; first | exact ⟨_, rfl, Below.refl _ _, rfl⟩ | exact ⟨_, rfl, Below.refl _ _, trivial⟩ | exact ⟨_, rfl, Below.refl _ _⟩ | exact ⟨_, rfl, (Below.refl _ _).alloc (Nat.le_refl _) _, trivial⟩)
                  | (apply Exists.intro
                     apply And.intro
                     · assumption
                     · apply And.intro
                       · intro hc
                         first
                           | (refine absurd hc ?_; simp [undef]; done)
                           | (go_simp; first | exact ⟨_, rfl, Below.refl _ _, rfl⟩ | exact ⟨_, rfl, Below.refl _ _, trivial⟩ | exact ⟨_, rfl, Below.refl _ _⟩ | exact ⟨_, rfl, (Below.refl _ _).alloc (Nat.le_refl _) _, trivial⟩)
                       · intro hc
                         first | exact absurd rfl hc | exact trivial | exact rfl)
                  | (apply Exists.intro
                     apply And.intro
                     · assumption
                     · intro hc
                       first
                         | (refine absurd hc ?_; simp [undef]; done)
                         | (go_simp; first | exact ⟨_, rfl, Below.refl _ _, rfl⟩ | exact ⟨_, rfl, Below.refl _ _, trivial⟩ | exact ⟨_, rfl, Below.refl _ _⟩ | exact ⟨_, rfl, (Below.refl _ _).alloc (Nat.le_refl _) _, trivial⟩))
              · -- operation 10
                (refine owes_if (L := [(64, true), (68, true), (63, true)]) rfl rfl rfl rfl (by kernel_rfl) ?_; intro a' w' hb' hfacts; obtain ⟨hf64, hf68, hf63, -⟩ := hfacts; try simp only [VWk25b] at hf64; try simp only [VWk25b] at hf68; try simp only [VWk25b] at hf63)
                have pW := (HQW.out.below hb').box.cell
                first
                  | (go_simp; first | exact ⟨_, rfl, Below.refl _ _, rfl⟩ | exact ⟨_, rfl, Below.refl _ _, trivial⟩ | exact ⟨_, rfl, Below.refl _ _⟩ | exact ⟨_, rfl, (Below.refl _ _).alloc (Nat.le_refl _) _, trivial⟩)
                  | (apply Exists.intro
                     apply And.intro
                     · assumption
                     · apply And.intro
                       · intro hc
                         first
                           | (refine absurd hc ?_; simp [undef]; done)
                           | (go_simp; first | exact ⟨_, rfl, Below.refl _ _, rfl⟩ | exact ⟨_, rfl, Below.refl _ _, trivial⟩ | exact ⟨_, rfl, Below.refl _ _⟩ | exact ⟨_, rfl, (Below.refl _ _).alloc (Nat.le_refl _) _, trivial⟩)
                       · intro hc
                         first | exact absurd rfl hc | exact trivial | exact rfl)
                  | (apply Exists.intro
                     apply And.intro
                     · assumption
                     · intro hc
                       first
                         | (refine absurd hc ?_; simp [undef]; done)
                         | (go_simp; first | exact ⟨_, rfl, Below.refl _ _, rfl⟩ | exact ⟨_, rfl, Below.refl _ _, trivial⟩ | exact ⟨_, rfl, Below.refl _ _⟩ | exact ⟨_, rfl, (Below.refl _ _).alloc (Nat.le_refl _) _, trivial⟩))
              · -- operation 11
                (refine owes_val (L := [(63, true), (69, true)]) rfl rfl rfl (by kernel_rfl) ?_; intro a' w' hb' hfacts; obtain ⟨hf63, hf69, -⟩ := hfacts; try simp only [VWk25b] at hf63; try simp only [VWk25b] at hf69)
                have pW := (HQW.out.below hb').box.cell
                (go_simp; first | exact ⟨_, rfl, Below.refl _ _, rfl⟩ | exact ⟨_, rfl, Below.refl _ _, trivial⟩ | exact ⟨_, rfl, (Below.refl _ _).alloc (Nat.le_refl _) _, trivial⟩ | exact ⟨_, rfl, Below.refl _ _, congrArg (Value.int _) (IntWalk.i64_in _ (by omega))⟩)
            · intro f W9 hf hb9
              have f70 : f 70 = .bool true := hf 70 (by decide)
              have HKF := Lib.hid (keepsFrom_below (B := W4.heap.size) hb9)
              have hRR := HRW.out.below hb9
              have rc := hRR.box.cell
              have rf := hRR.box.frozen
              have rl := hRR.box.lt
              clear hf hb9 ig HQW lR
              simp only [putAll, put_lit, List.map_cons, List.map_nil, List.set_cons_succ, List.set_cons_zero]
              simp only [f70]
              clear f70
              gi_wp2
              exact ⟨HKF.out.trans ((KeepsOthers.setCell _ _ _).from _), .inr ⟨rfl, hnp⟩⟩
        case done2 =>
          rintro xs W' hxs ⟨h1, h2⟩
          obtain ⟨k4, p4, i4, g4, c4⟩ := HE4.out
          exact ⟨k4.trans h2, p4.trans (kpL_below (mineG_ok Bn Bg) h1), ⟨i4.1, boxed_below i4.2 h1⟩, gotIs_kept g4 (grown_of_below h1) (fun r e => by cases e), c4.then_below h1⟩
        case stop2 =>
          rintro c pre2 W' hsp h
          rcases h with ⟨rfl, h1, h2⟩ | ⟨rfl, h3⟩
          · obtain ⟨k4, p4, i4, g4, c4⟩ := HE4.out
            have HFi := Lib.hid (And.intro (k4.trans h2) (And.intro (p4.trans (kpL_below (mineG_ok Bn Bg) h1)) (And.intro (And.intro i4.1 (boxed_below i4.2 h1)) (And.intro (gotIs_kept g4 (grown_of_below h1) (fun r e => by cases e)) (c4.then_below h1)))))
            clear k4 p4 i4 g4 c4 h1 h2
            gi_wp2
            exact HFi.out
          · exact absurd hsp h3
      · have hst1 : ((pre.length : Int) == stop) = false := by rw [beq_eq_false_iff_ne]; exact hstop
        gi_wp2_with (first
          | rw [HW1.out]
          | (gi_at_builtin; refine wpListIn_append_own_at _ rfl (.tmp 49) (.tmp 51) 72 rfl w8.heap.size 41 i0 (.agg #[.int .i64 0, .int .i64 0]) 2 16 Tryz.underlying72 hi hz0 hz1 hz2 rfl (by decide) _ _ _ rfl (hrow1.out.alloc _) ⟨W1.heap.size, 0, none⟩ 1 1 [.int .i64 (beginF s (pre.length : Nat)), .int .i64 (spanT s pre.length)] rfl rfl (new_cellsW _ _ _) (by intro u hu; simp at hu; rcases hu with rfl | rfl <;> rfl) hml hroom (by simp; omega) ?_
             intro v' w3 hown' hg3 hnil3 hblk3
             obtain ⟨A', c', rfl⟩ := row_forma hown'
             have hstep := got_step hv1.out hrow1.out h8l hgl8 hown' hg3 hblk3
             have HStep := Lib.hid hstep
             have gv3 := hstep.1.cell
             have gf3 := hstep.1.frozen
             have gl3 := hstep.1.lt
             have cs3 := ((hC1.out.chg hstep.2.2.2.2.1 (by rintro (e | e); exact hA1 e; exact hA2 (hstep.2.2.2.2.2.2.2 _ e)))).box.cell
             clear hown' hg3 hnil3 hblk3 hstep
             go_frame))
        exact HEnd.out _ _ HStep.out
    · have hx1 : ((x : Int) == (pre.length : Int)) = false := by rw [beq_eq_false_iff_ne]; omega
      have hRW := HR.out.chg hc (by show ¬ (_ = Bg ∨ _ = Bn); have := hord.out; omega)
      have rc := hRW.box.cell
      have rf := hRW.box.frozen
      have rl := hRW.box.lt
      have hnp := not_prefix (N := N) hpr hx
      clear hv hrow hc hq hr hpr
      gi_wp2
      exact ⟨(KeepsOthers.setCell _ _ _).from _, rfl, hnp⟩
  case stop =>
    rintro D c pre W hD hpx ⟨rfl, hnp⟩ hK
    exact absurd hpx hnp
  case done =>
    rintro D xs W hD hxs ⟨⟨h1, h2⟩, h3, h4⟩ hK
    subst hxs
    rw [List.length_range] at h2 h3
    obtain ⟨vg, hg1, hg2⟩ := h3
    obtain ⟨Ag, cg, rfl⟩ := row_forma hg2
    have ho := hord.out
    have HKp : Keeps w8 W := keeps_boxes h4 (fun j e => by
      rcases e with rfl | rfl
      · exact ⟨_, _, HI0.out.2, by decide, by decide⟩
      · exact ⟨_, _, HI0.out.1, by decide, by decide⟩)
    have hnt : NoTab (fun j => j = Bg ∨ j = Bn) := by
      obtain ⟨t1, t2⟩ := tabs_lt HT0.out
      exact ⟨fun e => e.elim (by omega) (by omega), fun e => e.elim (by omega) (by omega)⟩
    have HA1 := Lib.hid (HA.out.chg h4 (by show ¬ (_ = Bg ∨ _ = Bn); omega))
    have HC1 := Lib.hid (HC.out.chg h4 (by show ¬ (_ = Bg ∨ _ = Bn); omega))
    have HR1 := Lib.hid (HR.out.chg h4 (by show ¬ (_ = Bg ∨ _ = Bn); omega))
    have HQ1 := Lib.hid (HQ.out.chg h4 (by show ¬ (_ = Bg ∨ _ = Bn); omega))
    have HX1 := Lib.hid (HX8.out.chg h4 (by show ¬ (_ = Bg ∨ _ = Bn); omega))
    have HF1 := Lib.hid (HF8.out.chg h4 (by show ¬ (_ = Bg ∨ _ = Bn); omega))
    have HG1 : Hid (Bx W Bg 72 (.slice Ag N cg)) := hg1
    have HK1 := Lib.hid (HK.out.chg h4 (fun j hj e => by have := HK23.out; rcases e with e | e <;> omega) HKp)
    have HT1 := Lib.hid (tabs_chg HT.out hnt h4)
    have HP1 := Lib.hid (HP.out.chg h4 (by show ¬ (_ = Bg ∨ _ = Bn); omega))
    have HPG := Lib.hid (rowP_at hg2 (spansT_len s N).symm)
    have HB1 : Hid (Below w.heap.size w W) := HB.out.trans (h4.below_le HB.out.size (fun x e => by rcases e with e | e <;> omega))
    have HD1 : Hid (W.heap[D]? = some (.deferred (some []))) := hK
    have hD8 : Bn < D := by omega
    have hDl : D < W.heap.size := (Array.getElem?_eq_some_iff.1 hK).1
    have HSm := RefSame_any Ag (some ⟨gw, 0, none⟩) cg cw (spansT s N) W HPG.out HP1.out (by rw [spansT_len]; omega)
    rw [spansT_len] at HSm
    have HSm := Lib.hid HSm
    clear h1 h2 hg1 hg2 h4 HKp hnt ho HA HC HR HQ HX8 HF8 HG8 HK HT HP HB hseq hK HPG HN8 HI0 HTX hD
    have c9 := HG1.out.box.cell
    have c7 := HQ1.out.box.cell
    go_wp2_with fail
    refine HSm.out.mono ?_
    rintro e Wb ⟨rfl, hb⟩
    have HD := Lib.hid ((hb.block D hDl).trans HD1.out)
    have hDl2 := Nat.lt_of_lt_of_le hDl hb.size
    have HA1 := Lib.hid (HA1.out.below hb)
    have HC1 := Lib.hid (HC1.out.below hb)
    have HR1 := Lib.hid (HR1.out.below hb)
    have HQ1 := Lib.hid (HQ1.out.below hb)
    have HX1 := Lib.hid (HX1.out.below hb)
    have HF1 := Lib.hid (HF1.out.below hb)
    have HG1 := Lib.hid (HG1.out.below hb)
    have HK1 := Lib.hid (HK1.out.below hb)
    have HP1 := Lib.hid (HP1.out.below hb)
    have HT1 := Lib.hid (tabs_below HT1.out hb)
    have HB1 := Lib.hid (HB1.out.trans (hb.mono HB1.out.size))
    clear hb
    clear HD1 HSm c9 c7 hDl
    have c8 := HF1.out.box.cell
    go_wp2
    refine (wpIn_wide (n := 9)).1 ?_
    have X1 := HK1.out.text HT1.out (by omega)
    have hseq2 := fun n hn => lines_stops n hn Bc (.iface vt vx) s Wb Wb X1 (Below.refl _ _) HX1.out.box.cell (fun _ _ => False) ownOk_none (fun _ h => h.elim)
    rw [hN] at hseq2
    clear X1 c8
    refine range_h s Wb.heap.size 15 16 rfl (by omega) (gf := 48) (lb := #[.pointer (some ⟨Bc, 0, none⟩)]) (by show vf = _; exact hbx.out.symm) trivial (enters_of Tryz.func48 (by kernel_rfl) rfl)
      (hseq2 _ (by omega)) KpL.trans (kpL_b ownOk_none) (Below.refl _ _) rfl
      (fun _ W' => Below Wb.heap.size Wb W')
      (fun c pre' W' => (c = .exit 4 ∧ Below Wb.heap.size Wb W') ∨ (c = .ret ∧ ¬ (pre' <+: List.range N)))
      (ownFrom_below (Nat.le_refl _) (Nat.le_refl _)) ?hIx2 (Below.refl _ _) ?assign2 ?body2 ?done2 ?stop2
    case hIx2 =>
      rintro c pre2 W' W'' row h hg hr2
      rcases h with ⟨rfl, h1⟩ | ⟨rfl, h1⟩
      · exact .inl ⟨rfl, ownFrom_below (β := Unit) (Nat.le_refl _) (Nat.le_refl _) () W' W'' row h1 hg hr2⟩
      · exact .inr ⟨rfl, h1⟩
    case assign2 =>
      rintro l2 pre2 x2 W' K h1 hK
      have hsv : spanV s x2 = .agg #[.int .i64 (beginF s (x2 : Nat)), .int .i64 (spanT s x2)] := rfl
      have b7 : Below W'.heap.size W' (W'.alloc (.cells #[.int .i64 (beginF s (x2 : Nat)), .int .i64 (spanT s x2)] 41)) := (Below.refl _ _).alloc (Nat.le_refl _) _
      have HB7 := Lib.hid b7
      have HKK := Lib.hid hK
      have HH1 := Lib.hid h1
      rw [hsv]
      clear b7 hK h1 hsv
      gi_wp2
      refine HKK.out _ _ ((KeepsOthers.alloc _ _).from _) (kpL_below ownOk_none HB7.out) (HH1.out.trans (HB7.out.mono HH1.out.size)) ⟨W'.heap.size, Lies.new _ [.int .i64 (beginF s (x2 : Nat)), .int .i64 (spanT s x2)] _, HH1.out.size, ?_⟩
      simp [spanV]
    case body2 =>
      rintro l2 pre2 x2 a2 W' hl2 hr2 h1 ⟨q2, hq2, hq28, ha2⟩ hlt2
      simp at ha2
      subst ha2
      have HQW := Lib.hid (HQ1.out.below h1)
      have HCW := Lib.hid (HC1.out.below h1)
      have HRW := Lib.hid (HR1.out.below h1)
      have HqW := Lib.hid hq2
      have HH1 := Lib.hid h1
      by_cases hm : x2 < N
      · obtain ⟨g', hg', hgl, r0, r1⟩ := (HP1.out.below h1) x2 (by rw [spansT_len]; exact hm)
        obtain rfl : gw = g' := by simpa using hg'
        simp only [spansT_at] at r0 r1
        have R0 := Lib.hid r0
        have R1 := Lib.hid r1
        have i0 : (0 : Int) ≤ (x2 : Int) := by omega
        have i1 : (x2 : Int) < (N : Int) := by omega
        have ig : ¬ N ≤ x2 := by omega
        obtain ⟨bp, hbp⟩ : ∃ p, beginF s (x2 : Nat) = p := ⟨_, rfl⟩
        obtain ⟨br, hbr⟩ : ∃ p, spanT s x2 = p := ⟨_, rfl⟩
        rw [hbp] at R0 HqW
        rw [hbr] at R1 HqW
        clear hm hg' r0 r1 hbp hbr h1 hq2 hq28 hl2 hr2 hlt2
        gi_wp2
        refine wpIn_held' mixed (by kernel_rfl) (VWk33 Bw gw q2 N cw x2 bp br) (VWk33_mono _ _ _ _ _ _ _ _) (by kernel_rfl) [80, 81, 82, 83, 84, 85, 86, 87, 88, 89, 90, 91] (by kernel_rfl) (by kernel_rfl) ?_ ?_
        · intro j hj
          have hj' : j < 12 := hj
          rcases (by omega : j = 0 ∨ j = 1 ∨ j = 2 ∨ j = 3 ∨ j = 4 ∨ j = 5 ∨ j = 6 ∨ j = 7 ∨ j = 8 ∨ j = 9 ∨ j = 10 ∨ j = 11) with rfl | rfl | rfl | rfl | rfl | rfl | rfl | rfl | rfl | rfl | rfl | rfl
          · -- operation 0
            (refine owes_val (L := [(15, false)]) rfl rfl rfl (by kernel_rfl) ?_; intro a' w' hb' hfacts; obtain ⟨hf15, -⟩ := hfacts; replace hf15 : a'.tmps[15]?.getD undef = .int .i64 x2 := hf15)
            have pW := (HQW.out.below hb').box.cell; have pq := HqW.out.below hb'; have p0 := (pq.2 0 _ rfl).1; have p1 := (pq.2 1 _ rfl).1; have pr0 := (hb'.cell (p := ⟨gw, x2 * 2, none⟩) hgl).trans R0.out; have pr1 := (hb'.cell (p := ⟨gw, x2 * 2 + 1, none⟩) hgl).trans R1.out
            (go_simp; first | exact ⟨_, rfl, Below.refl _ _, rfl⟩ | exact ⟨_, rfl, Below.refl _ _, trivial⟩ | exact ⟨_, rfl, (Below.refl _ _).alloc (Nat.le_refl _) _, trivial⟩ | exact ⟨_, rfl, Below.refl _ _, congrArg (Value.int _) (IntWalk.i64_in _ (by omega))⟩)
          · -- operation 1
            (refine owes_val (L := [(7, false)]) rfl rfl rfl (by kernel_rfl) ?_; intro a' w' hb' hfacts; obtain ⟨hf7, -⟩ := hfacts; replace hf7 : a'.tmps[7]?.getD undef = .pointer (some ⟨Bw, 0, none⟩) := hf7)
            have pW := (HQW.out.below hb').box.cell; have pq := HqW.out.below hb'; have p0 := (pq.2 0 _ rfl).1; have p1 := (pq.2 1 _ rfl).1; have pr0 := (hb'.cell (p := ⟨gw, x2 * 2, none⟩) hgl).trans R0.out; have pr1 := (hb'.cell (p := ⟨gw, x2 * 2 + 1, none⟩) hgl).trans R1.out
            (go_simp; first | exact ⟨_, rfl, Below.refl _ _, rfl⟩ | exact ⟨_, rfl, Below.refl _ _, trivial⟩ | exact ⟨_, rfl, (Below.refl _ _).alloc (Nat.le_refl _) _, trivial⟩ | exact ⟨_, rfl, Below.refl _ _, congrArg (Value.int _) (IntWalk.i64_in _ (by omega))⟩)
          · -- operation 2
            (refine owes_val (L := [(81, true)]) rfl rfl rfl (by kernel_rfl) ?_; intro a' w' hb' hfacts; obtain ⟨hf81, -⟩ := hfacts; try simp only [VWk33] at hf81)
            have pW := (HQW.out.below hb').box.cell; have pq := HqW.out.below hb'; have p0 := (pq.2 0 _ rfl).1; have p1 := (pq.2 1 _ rfl).1; have pr0 := (hb'.cell (p := ⟨gw, x2 * 2, none⟩) hgl).trans R0.out; have pr1 := (hb'.cell (p := ⟨gw, x2 * 2 + 1, none⟩) hgl).trans R1.out
            (go_simp; first | exact ⟨_, rfl, Below.refl _ _, rfl⟩ | exact ⟨_, rfl, Below.refl _ _, trivial⟩ | exact ⟨_, rfl, (Below.refl _ _).alloc (Nat.le_refl _) _, trivial⟩ | exact ⟨_, rfl, Below.refl _ _, congrArg (Value.int _) (IntWalk.i64_in _ (by omega))⟩)
          · -- operation 3
            (refine owes_val (L := [(80, true), (82, true)]) rfl rfl rfl (by kernel_rfl) ?_; intro a' w' hb' hfacts; obtain ⟨hf80, hf82, -⟩ := hfacts; try simp only [VWk33] at hf80; try simp only [VWk33] at hf82)
            have pW := (HQW.out.below hb').box.cell; have pq := HqW.out.below hb'; have p0 := (pq.2 0 _ rfl).1; have p1 := (pq.2 1 _ rfl).1; have pr0 := (hb'.cell (p := ⟨gw, x2 * 2, none⟩) hgl).trans R0.out; have pr1 := (hb'.cell (p := ⟨gw, x2 * 2 + 1, none⟩) hgl).trans R1.out
            (go_simp; first | exact ⟨_, rfl, Below.refl _ _, rfl⟩ | exact ⟨_, rfl, Below.refl _ _, trivial⟩ | exact ⟨_, rfl, (Below.refl _ _).alloc (Nat.le_refl _) _, trivial⟩ | exact ⟨_, rfl, Below.refl _ _, congrArg (Value.int _) (IntWalk.i64_in _ (by omega))⟩)
          · -- operation 4
            (refine owes_val (L := [(83, true)]) rfl rfl rfl (by kernel_rfl) ?_; intro a' w' hb' hfacts; obtain ⟨hf83, -⟩ := hfacts; try simp only [VWk33] at hf83)
            have pW := (HQW.out.below hb').box.cell; have pq := HqW.out.below hb'; have p0 := (pq.2 0 _ rfl).1; have p1 := (pq.2 1 _ rfl).1; have pr0 := (hb'.cell (p := ⟨gw, x2 * 2, none⟩) hgl).trans R0.out; have pr1 := (hb'.cell (p := ⟨gw, x2 * 2 + 1, none⟩) hgl).trans R1.out
            (go_simp; first | exact ⟨_, rfl, Below.refl _ _, rfl⟩ | exact ⟨_, rfl, Below.refl _ _, trivial⟩ | exact ⟨_, rfl, (Below.refl _ _).alloc (Nat.le_refl _) _, trivial⟩ | exact ⟨_, rfl, Below.refl _ _, congrArg (Value.int _) (IntWalk.i64_in _ (by omega))⟩)
          · -- operation 5
            (refine owes_if (L := [(16, false), (84, true)]) rfl rfl rfl rfl (by kernel_rfl) ?_; intro a' w' hb' hfacts; obtain ⟨hf16, hf84, -⟩ := hfacts; replace hf16 : a'.tmps[16]?.getD undef = .pointer (some ⟨q2, 0, none⟩) := hf16; try simp only [VWk33] at hf84)
            have pW := (HQW.out.below hb').box.cell; have pq := HqW.out.below hb'; have p0 := (pq.2 0 _ rfl).1; have p1 := (pq.2 1 _ rfl).1; have pr0 := (hb'.cell (p := ⟨gw, x2 * 2, none⟩) hgl).trans R0.out; have pr1 := (hb'.cell (p := ⟨gw, x2 * 2 + 1, none⟩) hgl).trans R1.out
            first
              | (go_simp; first | exact ⟨_, rfl, Below.refl _ _, rfl⟩ | exact ⟨_, rfl, Below.refl _ _, trivial⟩ | exact ⟨_, rfl, Below.refl _ _⟩ | exact ⟨_, rfl, (Below.refl _ _).alloc (Nat.le_refl _) _, trivial⟩)
              | (apply Exists.intro
                 apply And.intro
                 · assumption
                 · apply And.intro
                   · intro hc
                     first
                       | (refine absurd hc ?_; simp [undef]; done)
                       | (go_simp; first | exact ⟨_, rfl, Below.refl _ _, rfl⟩ | exact ⟨_, rfl, Below.refl _ _, trivial⟩ | exact ⟨_, rfl, Below.refl _ _⟩ | exact ⟨_, rfl, (Below.refl _ _).alloc (Nat.le_refl _) _, trivial⟩)
                   · intro hc
                     first | exact absurd rfl hc | exact trivial | exact rfl)
              | (apply Exists.intro
                 apply And.intro
                 · assumption
                 · intro hc
                   first
                     | (refine absurd hc ?_; simp [undef]; done)
                     | (go_simp; first | exact ⟨_, rfl, Below.refl _ _, rfl⟩ | exact ⟨_, rfl, Below.refl _ _, trivial⟩ | exact ⟨_, rfl, Below.refl _ _⟩ | exact ⟨_, rfl, (Below.refl _ _).alloc (Nat.le_refl _) _, trivial⟩))
          · -- operation 6
            (refine owes_if (L := [(7, false), (84, true)]) rfl rfl rfl rfl (by kernel_rfl) ?_; intro a' w' hb' hfacts; obtain ⟨hf7, hf84, -⟩ := hfacts; replace hf7 : a'.tmps[7]?.getD undef = .pointer (some ⟨Bw, 0, none⟩) := hf7; try simp only [VWk33] at hf84)
            have pW := (HQW.out.below hb').box.cell; have pq := HqW.out.below hb'; have p0 := (pq.2 0 _ rfl).1; have p1 := (pq.2 1 _ rfl).1; have pr0 := (hb'.cell (p := ⟨gw, x2 * 2, none⟩) hgl).trans R0.out; have pr1 := (hb'.cell (p := ⟨gw, x2 * 2 + 1, none⟩) hgl).trans R1.out
            first
              | (go_simp; first | exact ⟨_, rfl, Below.refl _ _, rfl⟩ | exact ⟨_, rfl, Below.refl _ _, trivial⟩ | exact ⟨_, rfl, Below.refl _ _⟩ | exact ⟨_, rfl, (Below.refl _ _).alloc (Nat.le_refl _) _, trivial⟩)
              | (apply Exists.intro
                 apply And.intro
                 · assumption
                 · apply And.intro
                   · intro hc
                     first
                       | (refine absurd hc ?_; simp [undef]; done)
                       | (go_simp; first | exact ⟨_, rfl, Below.refl _ _, rfl⟩ | exact ⟨_, rfl, Below.refl _ _, trivial⟩ | exact ⟨_, rfl, Below.refl _ _⟩ | exact ⟨_, rfl, (Below.refl _ _).alloc (Nat.le_refl _) _, trivial⟩)
                   · intro hc
                     first | exact absurd rfl hc | exact trivial | exact rfl)
              | (apply Exists.intro
                 apply And.intro
                 · assumption
                 · intro hc
                   first
                     | (refine absurd hc ?_; simp [undef]; done)
                     | (go_simp; first | exact ⟨_, rfl, Below.refl _ _, rfl⟩ | exact ⟨_, rfl, Below.refl _ _, trivial⟩ | exact ⟨_, rfl, Below.refl _ _⟩ | exact ⟨_, rfl, (Below.refl _ _).alloc (Nat.le_refl _) _, trivial⟩))
          · -- operation 7
            (refine owes_if (L := [(15, false), (84, true)]) rfl rfl rfl rfl (by kernel_rfl) ?_; intro a' w' hb' hfacts; obtain ⟨hf15, hf84, -⟩ := hfacts; replace hf15 : a'.tmps[15]?.getD undef = .int .i64 x2 := hf15; try simp only [VWk33] at hf84)
            have pW := (HQW.out.below hb').box.cell; have pq := HqW.out.below hb'; have p0 := (pq.2 0 _ rfl).1; have p1 := (pq.2 1 _ rfl).1; have pr0 := (hb'.cell (p := ⟨gw, x2 * 2, none⟩) hgl).trans R0.out; have pr1 := (hb'.cell (p := ⟨gw, x2 * 2 + 1, none⟩) hgl).trans R1.out
            first
              | (go_simp; first | exact ⟨_, rfl, Below.refl _ _, rfl⟩ | exact ⟨_, rfl, Below.refl _ _, trivial⟩ | exact ⟨_, rfl, Below.refl _ _⟩ | exact ⟨_, rfl, (Below.refl _ _).alloc (Nat.le_refl _) _, trivial⟩)
              | (apply Exists.intro
                 apply And.intro
                 · assumption
                 · apply And.intro
                   · intro hc
                     first
                       | (refine absurd hc ?_; simp [undef]; done)
                       | (go_simp; first | exact ⟨_, rfl, Below.refl _ _, rfl⟩ | exact ⟨_, rfl, Below.refl _ _, trivial⟩ | exact ⟨_, rfl, Below.refl _ _⟩ | exact ⟨_, rfl, (Below.refl _ _).alloc (Nat.le_refl _) _, trivial⟩)
                   · intro hc
                     first | exact absurd rfl hc | exact trivial | exact rfl)
              | (apply Exists.intro
                 apply And.intro
                 · assumption
                 · intro hc
                   first
                     | (refine absurd hc ?_; simp [undef]; done)
                     | (go_simp; first | exact ⟨_, rfl, Below.refl _ _, rfl⟩ | exact ⟨_, rfl, Below.refl _ _, trivial⟩ | exact ⟨_, rfl, Below.refl _ _⟩ | exact ⟨_, rfl, (Below.refl _ _).alloc (Nat.le_refl _) _, trivial⟩))
          · -- operation 8
            (refine owes_if (L := [(86, true), (87, true), (84, true)]) rfl rfl rfl rfl (by kernel_rfl) ?_; intro a' w' hb' hfacts; obtain ⟨hf86, hf87, hf84, -⟩ := hfacts; try simp only [VWk33] at hf86; try simp only [VWk33] at hf87; try simp only [VWk33] at hf84)
            have pW := (HQW.out.below hb').box.cell; have pq := HqW.out.below hb'; have p0 := (pq.2 0 _ rfl).1; have p1 := (pq.2 1 _ rfl).1; have pr0 := (hb'.cell (p := ⟨gw, x2 * 2, none⟩) hgl).trans R0.out; have pr1 := (hb'.cell (p := ⟨gw, x2 * 2 + 1, none⟩) hgl).trans R1.out
            first
              | (go_simp; first | exact ⟨_, rfl, Below.refl _ _, rfl⟩ | exact ⟨_, rfl, Below.refl _ _, trivial⟩ | exact ⟨_, rfl, Below.refl _ _⟩ | exact ⟨_, rfl, (Below.refl _ _).alloc (Nat.le_refl _) _, trivial⟩)
              | (apply Exists.intro
                 apply And.intro
                 · assumption
                 · apply And.intro
                   · intro hc
                     first
                       | (refine absurd hc ?_; simp [undef]; done)
                       | (go_simp; first | exact ⟨_, rfl, Below.refl _ _, rfl⟩ | exact ⟨_, rfl, Below.refl _ _, trivial⟩ | exact ⟨_, rfl, Below.refl _ _⟩ | exact ⟨_, rfl, (Below.refl _ _).alloc (Nat.le_refl _) _, trivial⟩)
                   · intro hc
                     first | exact absurd rfl hc | exact trivial | exact rfl)
              | (apply Exists.intro
                 apply And.intro
                 · assumption
                 · intro hc
                   first
                     | (refine absurd hc ?_; simp [undef]; done)
                     | (go_simp; first | exact ⟨_, rfl, Below.refl _ _, rfl⟩ | exact ⟨_, rfl, Below.refl _ _, trivial⟩ | exact ⟨_, rfl, Below.refl _ _⟩ | exact ⟨_, rfl, (Below.refl _ _).alloc (Nat.le_refl _) _, trivial⟩))
          · -- operation 9
            (refine owes_if (L := [(88, true), (84, true)]) rfl rfl rfl rfl (by kernel_rfl) ?_; intro a' w' hb' hfacts; obtain ⟨hf88, hf84, -⟩ := hfacts; try simp only [VWk33] at hf88; try simp only [VWk33] at hf84)
            have pW := (HQW.out.below hb').box.cell; have pq := HqW.out.below hb'; have p0 := (pq.2 0 _ rfl).1; have p1 := (pq.2 1 _ rfl).1; have pr0 := (hb'.cell (p := ⟨gw, x2 * 2, none⟩) hgl).trans R0.out; have pr1 := (hb'.cell (p := ⟨gw, x2 * 2 + 1, none⟩) hgl).trans R1.out
            first
              | (go_simp; first | exact ⟨_, rfl, Below.refl _ _, rfl⟩ | exact ⟨_, rfl, Below.refl _ _, trivial⟩ | exact ⟨_, rfl, Below.refl _ _⟩ | exact ⟨_, rfl, (Below.refl _ _).alloc (Nat.le_refl _) _, trivial⟩)
              | (apply Exists.intro
                 apply And.intro
                 · assumption
                 · apply And.intro
                   · intro hc
                     first
                       | (refine absurd hc ?_; simp [undef]; done)
                       | (go_simp; first | exact ⟨_, rfl, Below.refl _ _, rfl⟩ | exact ⟨_, rfl, Below.refl _ _, trivial⟩ | exact ⟨_, rfl, Below.refl _ _⟩ | exact ⟨_, rfl, (Below.refl _ _).alloc (Nat.le_refl _) _, trivial⟩)
                   · intro hc
                     first | exact absurd rfl hc | exact trivial | exact rfl)
              | (apply Exists.intro
                 apply And.intro
                 · assumption
                 · intro hc
                   first
                     | (refine absurd hc ?_; simp [undef]; done)
                     | (go_simp; first | exact ⟨_, rfl, Below.refl _ _, rfl⟩ | exact ⟨_, rfl, Below.refl _ _, trivial⟩ | exact ⟨_, rfl, Below.refl _ _⟩ | exact ⟨_, rfl, (Below.refl _ _).alloc (Nat.le_refl _) _, trivial⟩))
          · -- operation 10
            (refine owes_if (L := [(85, true), (89, true), (84, true)]) rfl rfl rfl rfl (by kernel_rfl) ?_; intro a' w' hb' hfacts; obtain ⟨hf85, hf89, hf84, -⟩ := hfacts; try simp only [VWk33] at hf85; try simp only [VWk33] at hf89; try simp only [VWk33] at hf84)
            have pW := (HQW.out.below hb').box.cell; have pq := HqW.out.below hb'; have p0 := (pq.2 0 _ rfl).1; have p1 := (pq.2 1 _ rfl).1; have pr0 := (hb'.cell (p := ⟨gw, x2 * 2, none⟩) hgl).trans R0.out; have pr1 := (hb'.cell (p := ⟨gw, x2 * 2 + 1, none⟩) hgl).trans R1.out
            first
              | (go_simp; first | exact ⟨_, rfl, Below.refl _ _, rfl⟩ | exact ⟨_, rfl, Below.refl _ _, trivial⟩ | exact ⟨_, rfl, Below.refl _ _⟩ | exact ⟨_, rfl, (Below.refl _ _).alloc (Nat.le_refl _) _, trivial⟩)
              | (apply Exists.intro
                 apply And.intro
                 · assumption
                 · apply And.intro
                   · intro hc
                     first
                       | (refine absurd hc ?_; simp [undef]; done)
                       | (go_simp; first | exact ⟨_, rfl, Below.refl _ _, rfl⟩ | exact ⟨_, rfl, Below.refl _ _, trivial⟩ | exact ⟨_, rfl, Below.refl _ _⟩ | exact ⟨_, rfl, (Below.refl _ _).alloc (Nat.le_refl _) _, trivial⟩)
                   · intro hc
                     first | exact absurd rfl hc | exact trivial | exact rfl)
              | (apply Exists.intro
                 apply And.intro
                 · assumption
                 · intro hc
                   first
                     | (refine absurd hc ?_; simp [undef]; done)
                     | (go_simp; first | exact ⟨_, rfl, Below.refl _ _, rfl⟩ | exact ⟨_, rfl, Below.refl _ _, trivial⟩ | exact ⟨_, rfl, Below.refl _ _⟩ | exact ⟨_, rfl, (Below.refl _ _).alloc (Nat.le_refl _) _, trivial⟩))
          · -- operation 11
            (refine owes_val (L := [(84, true), (90, true)]) rfl rfl rfl (by kernel_rfl) ?_; intro a' w' hb' hfacts; obtain ⟨hf84, hf90, -⟩ := hfacts; try simp only [VWk33] at hf84; try simp only [VWk33] at hf90)
            have pW := (HQW.out.below hb').box.cell; have pq := HqW.out.below hb'; have p0 := (pq.2 0 _ rfl).1; have p1 := (pq.2 1 _ rfl).1; have pr0 := (hb'.cell (p := ⟨gw, x2 * 2, none⟩) hgl).trans R0.out; have pr1 := (hb'.cell (p := ⟨gw, x2 * 2 + 1, none⟩) hgl).trans R1.out
            (go_simp; first | exact ⟨_, rfl, Below.refl _ _, rfl⟩ | exact ⟨_, rfl, Below.refl _ _, trivial⟩ | exact ⟨_, rfl, (Below.refl _ _).alloc (Nat.le_refl _) _, trivial⟩ | exact ⟨_, rfl, Below.refl _ _, congrArg (Value.int _) (IntWalk.i64_in _ (by omega))⟩)
        · intro f W9 hf hb9
          have f91 : f 91 = .bool false := hf 91 (by decide)
          have HB9 := Lib.hid (HH1.out.trans (hb9.mono HH1.out.size))
          have HKF := Lib.hid (keepsFrom_below (B := Wb.heap.size) hb9)
          have HKP := Lib.hid (kpL_below ownOk_none hb9)
          have cs := (HCW.out.below hb9).box.cell
          clear hf hb9 i0 i1 ig R0 R1 HqW HQW HRW hgl
          simp only [putAll, put_lit, List.map_cons, List.map_nil, List.set_cons_succ, List.set_cons_zero]
          simp only [f91]
          clear f91
          by_cases h20 : (x2 : Int) = stop
          · subst h20
            gi_wp2
            exact ⟨HKF.out, .inl ⟨rfl, HB9.out⟩⟩
          · have h21 : ((x2 : Int) == stop) = false := by rw [beq_eq_false_iff_ne]; exact h20
            clear h20
            gi_wp2
            exact ⟨HKF.out, HKP.out, HB9.out⟩
      · have hnp := not_prefix_ge (pre := pre2) (x := x2) (N := N) (by omega)
        have ig : (N : Int) ≤ (x2 : Int) := by omega
        clear hm h1 hq2 hq28 hl2 hr2 hlt2 HqW
        gi_wp2
        refine wpIn_held' mixed (by kernel_rfl) (VWk33b Bw gw N cw x2) (VWk33b_mono _ _ _ _ _) (by kernel_rfl) [80, 81, 82, 83, 84, 85, 86, 87, 88, 89, 90, 91] (by kernel_rfl) (by kernel_rfl) ?_ ?_
        · intro j hj
          have hj' : j < 12 := hj
          rcases (by omega : j = 0 ∨ j = 1 ∨ j = 2 ∨ j = 3 ∨ j = 4 ∨ j = 5 ∨ j = 6 ∨ j = 7 ∨ j = 8 ∨ j = 9 ∨ j = 10 ∨ j = 11) with rfl | rfl | rfl | rfl | rfl | rfl | rfl | rfl | rfl | rfl | rfl | rfl
          · -- operation 0
            (refine owes_val (L := [(15, false)]) rfl rfl rfl (by kernel_rfl) ?_; intro a' w' hb' hfacts; obtain ⟨hf15, -⟩ := hfacts; replace hf15 : a'.tmps[15]?.getD undef = .int .i64 x2 := hf15)
            have pW := (HQW.out.below hb').box.cell
            (go_simp; first | exact ⟨_, rfl, Below.refl _ _, rfl⟩ | exact ⟨_, rfl, Below.refl _ _, trivial⟩ | exact ⟨_, rfl, (Below.refl _ _).alloc (Nat.le_refl _) _, trivial⟩ | exact ⟨_, rfl, Below.refl _ _, congrArg (Value.int _) (IntWalk.i64_in _ (by omega))⟩)
          · -- operation 1
            (refine owes_val (L := [(7, false)]) rfl rfl rfl (by kernel_rfl) ?_; intro a' w' hb' hfacts; obtain ⟨hf7, -⟩ := hfacts; replace hf7 : a'.tmps[7]?.getD undef = .pointer (some ⟨Bw, 0, none⟩) := hf7)
            have pW := (HQW.out.below hb').box.cell
            (go_simp; first | exact ⟨_, rfl, Below.refl _ _, rfl⟩ | exact ⟨_, rfl, Below.refl _ _, trivial⟩ | exact ⟨_, rfl, (Below.refl _ _).alloc (Nat.le_refl _) _, trivial⟩ | exact ⟨_, rfl, Below.refl _ _, congrArg (Value.int _) (IntWalk.i64_in _ (by omega))⟩)
          · -- operation 2
            (refine owes_val (L := [(81, true)]) rfl rfl rfl (by kernel_rfl) ?_; intro a' w' hb' hfacts; obtain ⟨hf81, -⟩ := hfacts; try simp only [VWk33b] at hf81)
            have pW := (HQW.out.below hb').box.cell
            (go_simp; first | exact ⟨_, rfl, Below.refl _ _, rfl⟩ | exact ⟨_, rfl, Below.refl _ _, trivial⟩ | exact ⟨_, rfl, (Below.refl _ _).alloc (Nat.le_refl _) _, trivial⟩ | exact ⟨_, rfl, Below.refl _ _, congrArg (Value.int _) (IntWalk.i64_in _ (by omega))⟩)
          · -- operation 3
            (refine owes_val (L := [(80, true), (82, true)]) rfl rfl rfl (by kernel_rfl) ?_; intro a' w' hb' hfacts; obtain ⟨hf80, hf82, -⟩ := hfacts; try simp only [VWk33b] at hf80; try simp only [VWk33b] at hf82)
            have pW := (HQW.out.below hb').box.cell
            (go_simp; first | exact ⟨_, rfl, Below.refl _ _, rfl⟩ | exact ⟨_, rfl, Below.refl _ _, trivial⟩ | exact ⟨_, rfl, (Below.refl _ _).alloc (Nat.le_refl _) _, trivial⟩ | exact ⟨_, rfl, Below.refl _ _, congrArg (Value.int _) (IntWalk.i64_in _ (by omega))⟩)
          · -- operation 4
            (refine owes_val (L := [(83, true)]) rfl rfl rfl (by kernel_rfl) ?_; intro a' w' hb' hfacts; obtain ⟨hf83, -⟩ := hfacts; try simp only [VWk33b] at hf83)
            have pW := (HQW.out.below hb').box.cell
            (go_simp; first | exact ⟨_, rfl, Below.refl _ _, rfl⟩ | exact ⟨_, rfl, Below.refl _ _, trivial⟩ | exact ⟨_, rfl, (Below.refl _ _).alloc (Nat.le_refl _) _, trivial⟩ | exact ⟨_, rfl, Below.refl _ _, congrArg (Value.int _) (IntWalk.i64_in _ (by omega))⟩)
          · -- operation 5
            (refine owes_if (L := [(16, false), (84, true)]) rfl rfl rfl rfl (by kernel_rfl) ?_; intro a' w' hb' hfacts; obtain ⟨hf16, hf84, -⟩ := hfacts; try simp only [VWk33b] at hf84)
            have pW := (HQW.out.below hb').box.cell
            first
              | (go_simp; first | exact ⟨_, rfl, Below.refl _ _, rfl⟩ | exact ⟨_, rfl, Below.refl _ _, trivial⟩ | exact ⟨_, rfl, Below.refl _ _⟩ | exact ⟨_, rfl, (Below.refl _ _).alloc (Nat.le_refl _) _, trivial⟩)
              | (apply Exists.intro
                 apply And.intro
                 · assumption
                 · apply And.intro
                   · intro hc
                     first
                       | (refine absurd hc ?_; simp [undef]; done)
                       | (go_simp; first | exact ⟨_, rfl, Below.refl _ _, rfl⟩ | exact ⟨_, rfl, Below.refl _ _, trivial⟩ | exact ⟨_, rfl, Below.refl _ _⟩ | exact ⟨_, rfl, (Below.refl _ _).alloc (Nat.le_refl _) _, trivial⟩)
                   · intro hc
                     first | exact absurd rfl hc | exact trivial | exact rfl)
              | (apply Exists.intro
                 apply And.intro
                 · assumption
                 · intro hc
                   first
                     | (refine absurd hc ?_; simp [undef]; done)
                     | (go_simp; first | exact ⟨_, rfl, Below.refl _ _, rfl⟩ | exact ⟨_, rfl, Below.refl _ _, trivial⟩ | exact ⟨_, rfl, Below.refl _ _⟩ | exact ⟨_, rfl, (Below.refl _ _).alloc (Nat.le_refl _) _, trivial⟩))
          · -- operation 6
            (refine owes_if (L := [(7, false), (84, true)]) rfl rfl rfl rfl (by kernel_rfl) ?_; intro a' w' hb' hfacts; obtain ⟨hf7, hf84, -⟩ := hfacts; replace hf7 : a'.tmps[7]?.getD undef = .pointer (some ⟨Bw, 0, none⟩) := hf7; try simp only [VWk33b] at hf84)
            have pW := (HQW.out.below hb').box.cell
            first
              | (go_simp; first | exact ⟨_, rfl, Below.refl _ _, rfl⟩ | exact ⟨_, rfl, Below.refl _ _, trivial⟩ | exact ⟨_, rfl, Below.refl _ _⟩ | exact ⟨_, rfl, (Below.refl _ _).alloc (Nat.le_refl _) _, trivial⟩)
              | (apply Exists.intro
                 apply And.intro
                 · assumption
                 · apply And.intro
                   · intro hc
                     first
                       | (refine absurd hc ?_; simp [undef]; done)
                       | (go_simp; first | exact ⟨_, rfl, Below.refl _ _, rfl⟩ | exact ⟨_, rfl, Below.refl _ _, trivial⟩ | exact ⟨_, rfl, Below.refl _ _⟩ | exact ⟨_, rfl, (Below.refl _ _).alloc (Nat.le_refl _) _, trivial⟩)
                   · intro hc
                     first | exact absurd rfl hc | exact trivial | exact rfl)
              | (apply Exists.intro
                 apply And.intro
                 · assumption
                 · intro hc
                   first
                     | (refine absurd hc ?_; simp [undef]; done)
                     | (go_simp; first | exact ⟨_, rfl, Below.refl _ _, rfl⟩ | exact ⟨_, rfl, Below.refl _ _, trivial⟩ | exact ⟨_, rfl, Below.refl _ _⟩ | exact ⟨_, rfl, (Below.refl _ _).alloc (Nat.le_refl _) _, trivial⟩))
          · -- operation 7
            (refine owes_if (L := [(15, false), (84, true)]) rfl rfl rfl rfl (by kernel_rfl) ?_; intro a' w' hb' hfacts; obtain ⟨hf15, hf84, -⟩ := hfacts; replace hf15 : a'.tmps[15]?.getD undef = .int .i64 x2 := hf15; try simp only [VWk33b] at hf84)
            have pW := (HQW.out.below hb').box.cell
            first
              | (go_simp; first | exact ⟨_, rfl, Below.refl _ _, rfl⟩ | exact ⟨_, rfl, Below.refl _ _, trivial⟩ | exact ⟨_, rfl, Below.refl _ _⟩ | exact ⟨_, rfl, (Below.refl _ _).alloc (Nat.le_refl _) _, trivial⟩)
              | (apply Exists.intro
                 apply And.intro
                 · assumption
                 · apply And.intro
                   · intro hc
                     first
                       | (refine absurd hc ?_; simp [undef]; done)
                       | (go_simp; first | exact ⟨_, rfl, Below.refl _ _, rfl⟩ | exact ⟨_, rfl, Below.refl _ _, trivial⟩ | exact ⟨_, rfl, Below.refl _ _⟩ | exact ⟨_, rfl, (Below.refl _ _).alloc (Nat.le_refl _) _, trivial⟩)
                   · intro hc
                     first | exact absurd rfl hc | exact trivial | exact rfl)
              | (apply Exists.intro
                 apply And.intro
                 · assumption
                 · intro hc
                   first
                     | (refine absurd hc ?_; simp [undef]; done)
                     | (go_simp; first | exact ⟨_, rfl, Below.refl _ _, rfl⟩ | exact ⟨_, rfl, Below.refl _ _, trivial⟩ | exact ⟨_, rfl, Below.refl _ _⟩ | exact ⟨_, rfl, (Below.refl _ _).alloc (Nat.le_refl _) _, trivial⟩))
          · -- operation 8
            (refine owes_if (L := [(86, true), (87, true), (84, true)]) rfl rfl rfl rfl (by kernel_rfl) ?_; intro a' w' hb' hfacts; obtain ⟨hf86, hf87, hf84, -⟩ := hfacts; try simp only [VWk33b] at hf86; try simp only [VWk33b] at hf87; try simp only [VWk33b] at hf84)
            have pW := (HQW.out.below hb').box.cell
            first
              | (go_simp; first | exact ⟨_, rfl, Below.refl _ _, rfl⟩ | exact ⟨_, rfl, Below.refl _ _, trivial⟩ | exact ⟨_, rfl, Below.refl _ _⟩ | exact ⟨_, rfl, (Below.refl _ _).alloc (Nat.le_refl _) _, trivial⟩)
              | (apply Exists.intro
                 apply And.intro
                 · assumption
                 · apply And.intro
                   · intro hc
                     first
                       | (refine absurd hc ?_; simp [undef]; done)
                       | (go_simp; first | exact ⟨_, rfl, Below.refl _ _, rfl⟩ | exact ⟨_, rfl, Below.refl _ _, trivial⟩ | exact ⟨_, rfl, Below.refl _ _⟩ | exact ⟨_, rfl, (Below.refl _ _).alloc (Nat.le_refl _) _, trivial⟩)
                   · intro hc
                     first | exact absurd rfl hc | exact trivial | exact rfl)
              | (apply Exists.intro
                 apply And.intro
                 · assumption
                 · intro hc
                   first
                     | (refine absurd hc ?_; simp [undef]; done)
                     | (go_simp; first | exact ⟨_, rfl, Below.refl _ _, rfl⟩ | exact ⟨_, rfl, Below.refl _ _, trivial⟩ | exact ⟨_, rfl, Below.refl _ _⟩ | exact ⟨_, rfl, (Below.refl _ _).alloc (Nat.le_refl _) _, trivial⟩))
          · -- operation 9
            (refine owes_if (L := [(88, true), (84, true)]) rfl rfl rfl rfl (by kernel_rfl) ?_; intro a' w' hb' hfacts; obtain ⟨hf88, hf84, -⟩ := hfacts; try simp only [VWk33b] at hf88; try simp only [VWk33b] at hf84)
            have pW := (HQW.out.below hb').box.cell
            first
              | (go_simp; first | exact ⟨_, rfl, Below.refl _ _, rfl⟩ | exact ⟨_, rfl, Below.refl _ _, trivial⟩ | exact ⟨_, rfl, Below.refl _ _⟩ | exact ⟨_, rfl, (Below.refl _ _).alloc (Nat.le_refl _) _, trivial⟩)
              | (apply Exists.intro
                 apply And.intro
                 · assumption
                 · apply And.intro
                   · intro hc
                     first
                       | (refine absurd hc ?_; simp [undef]; done)
                       | (go_simp; first | exact ⟨_, rfl, Below.refl _ _, rfl⟩ | exact ⟨_, rfl, Below.refl _ _, trivial⟩ | exact ⟨_, rfl, Below.refl _ _⟩ | exact ⟨_, rfl, (Below.refl _ _).alloc (Nat.le_refl _) _, trivial⟩)
                   · intro hc
                     first | exact absurd rfl hc | exact trivial | exact rfl)
              | (apply Exists.intro
                 apply And.intro
                 · assumption
                 · intro hc
                   first
                     | (refine absurd hc ?_; simp [undef]; done)
                     | (go_simp; first | exact ⟨_, rfl, Below.refl _ _, rfl⟩ | exact ⟨_, rfl, Below.refl _ _, trivial⟩ | exact ⟨_, rfl, Below.refl _ _⟩ | exact ⟨_, rfl, (Below.refl _ _).alloc (Nat.le_refl _) _, trivial⟩))
          · -- operation 10
            (refine owes_if (L := [(85, true), (89, true), (84, true)]) rfl rfl rfl rfl (by kernel_rfl) ?_; intro a' w' hb' hfacts; obtain ⟨hf85, hf89, hf84, -⟩ := hfacts; try simp only [VWk33b] at hf85; try simp only [VWk33b] at hf89; try simp only [VWk33b] at hf84)
            have pW := (HQW.out.below hb').box.cell
            first
              | (go_simp; first | exact ⟨_, rfl, Below.refl _ _, rfl⟩ | exact ⟨_, rfl, Below.refl _ _, trivial⟩ | exact ⟨_, rfl, Below.refl _ _⟩ | exact ⟨_, rfl, (Below.refl _ _).alloc (Nat.le_refl _) _, trivial⟩)
              | (apply Exists.intro
                 apply And.intro
                 · assumption
                 · apply And.intro
                   · intro hc
                     first
                       | (refine absurd hc ?_; simp [undef]; done)
                       | (go_simp; first | exact ⟨_, rfl, Below.refl _ _, rfl⟩ | exact ⟨_, rfl, Below.refl _ _, trivial⟩ | exact ⟨_, rfl, Below.refl _ _⟩ | exact ⟨_, rfl, (Below.refl _ _).alloc (Nat.le_refl _) _, trivial⟩)
                   · intro hc
                     first | exact absurd rfl hc | exact trivial | exact rfl)
              | (apply Exists.intro
                 apply And.intro
                 · assumption
                 · intro hc
                   first
                     | (refine absurd hc ?_; simp [undef]; done)
                     | (go_simp; first | exact ⟨_, rfl, Below.refl _ _, rfl⟩ | exact ⟨_, rfl, Below.refl _ _, trivial⟩ | exact ⟨_, rfl, Below.refl _ _⟩ | exact ⟨_, rfl, (Below.refl _ _).alloc (Nat.le_refl _) _, trivial⟩))
          · -- operation 11
            (refine owes_val (L := [(84, true), (90, true)]) rfl rfl rfl (by kernel_rfl) ?_; intro a' w' hb' hfacts; obtain ⟨hf84, hf90, -⟩ := hfacts; try simp only [VWk33b] at hf84; try simp only [VWk33b] at hf90)
            have pW := (HQW.out.below hb').box.cell
            (go_simp; first | exact ⟨_, rfl, Below.refl _ _, rfl⟩ | exact ⟨_, rfl, Below.refl _ _, trivial⟩ | exact ⟨_, rfl, (Below.refl _ _).alloc (Nat.le_refl _) _, trivial⟩ | exact ⟨_, rfl, Below.refl _ _, congrArg (Value.int _) (IntWalk.i64_in _ (by omega))⟩)
        · intro f W9 hf hb9
          have f91 : f 91 = .bool true := hf 91 (by decide)
          have HKF := Lib.hid (keepsFrom_below (B := Wb.heap.size) hb9)
          have hRR := HRW.out.below hb9
          have rc := hRR.box.cell
          have rf := hRR.box.frozen
          have rl := hRR.box.lt
          clear hf hb9 ig HQW
          simp only [putAll, put_lit, List.map_cons, List.map_nil, List.set_cons_succ, List.set_cons_zero]
          simp only [f91]
          clear f91
          gi_wp2
          exact ⟨HKF.out.trans ((KeepsOthers.setCell _ _ _).from _), .inr ⟨rfl, hnp⟩⟩
    case' stop2 =>
      rintro D2 c pre2 W' hD2 hsp h hK2
      obtain ⟨rfl, hb⟩ := h.resolve_right (fun e => absurd hsp e.2)
      gi_wp2
    case' done2 =>
      rintro D2 xs W' hD2 hxs hb hK2
    all_goals
      have ho := hord.out
      have hw12 := hR1.out
      have hDl3 : D2 < W'.heap.size := (Array.getElem?_eq_some_iff.1 hK2).1
      have HD2 : Hid (W'.heap[D2]? = some (.deferred (some []))) := hK2
      have HDa := Lib.hid ((hb.block D hDl2).trans HD.out)
      have hDb : D < D2 := by omega
      have hDW : D < W'.heap.size := by omega
      have HWB : Hid (Bn < W'.heap.size) := by show _ < _; omega
      have HDD : Hid (D < D2 ∧ Bn < D) := ⟨hDb, hD8⟩
      have hnS : NoTab (fun j => w1.heap.size ≤ j ∧ j < w2.heap.size) := by
        obtain ⟨t1, t2⟩ := tabs_lt HT0.out
        exact ⟨fun e => by omega, fun e => by omega⟩
      have HA1 := Lib.hid (HA1.out.below hb)
      have HC1 := Lib.hid (HC1.out.below hb)
      have HR1 := Lib.hid (HR1.out.below hb)
      have HQ1 := Lib.hid (HQ1.out.below hb)
      have HX1 := Lib.hid (HX1.out.below hb)
      have HF1 := Lib.hid (HF1.out.below hb)
      have HG1 := Lib.hid (HG1.out.below hb)
      have HK1 := Lib.hid (HK1.out.below hb)
      have HT1 := Lib.hid (tabs_below HT1.out hb)
      have HB1 := Lib.hid (HB1.out.trans (hb.mono HB1.out.size))
      clear hb
      obtain ⟨fR, qR, hfR, hRep⟩ := HK1.out.replace HT1.out hnS 0 0 ⟨#[120, 10]⟩ (by omega) (by omega) (by show s.size - 0 + 2 ≤ _; omega)
      have HRep := Lib.hid hRep
      have hno : ∀ j, j < w1.heap.size ∨ w2.heap.size ≤ j → ¬ (w1.heap.size ≤ j ∧ j < w2.heap.size) := by intro j hj; omega
      have hw2B := HK23.out
      clear hRep HD hseq2 hK2 HP1
      rcases hfR with ⟨e1, rfl⟩ | ⟨e1, rfl⟩
      all_goals
        obtain ⟨rfl, rfl⟩ : vt = _ ∧ vx = _ := by simpa using e1
        clear e1 ho hw12 hw2B hDb hDW hDl3
        go_wp2_with fail
        refine HRep.out.mono ?_
        rintro e Wd ⟨rfl, hkd, hcd⟩
        have ho := hord.out
        have hw12 := hR1.out
        have hw2B := HK23.out
        have hDl3 : D2 < W'.heap.size := (Array.getElem?_eq_some_iff.1 HD2.out).1
        have hDW : D < W'.heap.size := (Array.getElem?_eq_some_iff.1 HDa.out).1
        have HAd := Lib.hid (HA1.out.chg hcd (hno _ (.inl (by omega))))
        have HRd := Lib.hid (HR1.out.chg hcd (hno _ (.inl (by omega))))
        have HQd := Lib.hid (HQ1.out.chg hcd (hno _ (.inr (by omega))))
        have HXd := Lib.hid (HX1.out.chg hcd (hno _ (.inr (by omega))))
        have HFd := Lib.hid (HF1.out.chg hcd (hno _ (.inr (by omega))))
        have HGd := Lib.hid (HG1.out.chg hcd (hno _ (.inr (by omega))))
        have HTd := Lib.hid (tabs_chg HT1.out hnS hcd)
        have HBd : Hid (Below w.heap.size w Wd) := HB1.out.trans (hcd.below_le HB1.out.size (fun x e => by omega))
        have HDd := Lib.hid ((hcd.block D hDW (hno _ (.inr (by omega)))).trans HDa.out)
        have HD2d := Lib.hid ((hcd.block D2 hDl3 (hno _ (.inr (by omega)))).trans HD2.out)
        rw [repl_front] at hkd
        obtain ⟨s2, hs2e⟩ : ∃ s2, (⟨#[120, 10]⟩ : ByteArray) ++ s = s2 := ⟨_, rfl⟩
        have hz2 : s2.size = s.size + 2 := by rw [← hs2e, ByteArray.size_append]; show 2 + s.size = _; omega
        have hcat : ¬ 9223372036854775807 < (⟨#[120, 10]⟩ : ByteArray).size + s.size := by show ¬ 9223372036854775807 < 2 + s.size; omega
        have hs21 : s2.size ≤ 1073741824 := by omega
        rw [hs2e] at hkd
        have HKd := Lib.hid hkd
        have HS2 := Lib.hid hs2e
        have HWd := Lib.hid hcd.size
        have hc0 := (HAd.out.2 0 _ rfl).1
        clear hkd hcd hs2e HRep HA1 HR1 HQ1 HX1 HF1 HG1 HT1 HB1 HDa HD2 HK1 HC1 hz2 ho hw12 hw2B hDl3 hDW
        go_wp2_with fail
        rw [HS2.out]
        refine (RefLines_any s2 Wd hs21).mono ?_
        rintro e We ⟨rv, rfl, hrow, hb⟩
        obtain ⟨A2, c2, rfl⟩ := row_forma hrow
        have hl0 : 0 < (spansT s2 (nlF s2 + 1)).length := by rw [spansT_len]; omega
        obtain ⟨g2, c3, he2, -, -⟩ := hrow.form hl0
        obtain ⟨rfl, rfl⟩ : A2 = some ⟨g2, 0, none⟩ ∧ c2 = c3 := by simpa using he2
        have HG2 : Hid (W'.heap.size ≤ g2) := Nat.le_trans HWd.out (hrow.lt g2 rfl).1
        have HP2 := Lib.hid (rowP_at hrow rfl)
        have HDe := Lib.hid ((hb.block D (Array.getElem?_eq_some_iff.1 HDd.out).1).trans HDd.out)
        have HD2e := Lib.hid ((hb.block D2 (Array.getElem?_eq_some_iff.1 HD2d.out).1).trans HD2d.out)
        have ho := hord.out
        have HRd := Lib.hid (HRd.out.below hb)
        have HQd := Lib.hid (HQd.out.below hb)
        have HXd := Lib.hid (HXd.out.below hb)
        have HFd := Lib.hid (HFd.out.below hb)
        have HGd := Lib.hid (HGd.out.below hb)
        have HKd := Lib.hid (HKd.out.below hb)
        have HTd := Lib.hid (tabs_below HTd.out hb)
        have HBd := Lib.hid (HBd.out.trans (hb.mono HBd.out.size))
        clear hb
        clear hrow HDd HD2d hc0 hcat HAd he2 hl0
        rw [spansT_len]
        have hN2 : nlF s2 + 1 ≤ 1073741825 := by have := nlTo_le s2 s2.size; rw [nlTo_all] at this; omega
        obtain ⟨N2, hN2e⟩ : ∃ N2, nlF s2 + 1 = N2 := ⟨_, rfl⟩
        rw [hN2e] at HP2 hN2 ⊢
        have hcq := HQd.out.box.cell
        have hfq := HQd.out.box.frozen
        have hlq := HQd.out.box.lt
        have hcg := HGd.out.box.cell
        have hfg := HGd.out.box.frozen
        have hlg := HGd.out.box.lt
        have hcf := HFd.out.box.cell
        have hne1 : ¬ Bg = Bw := by omega
        have hne2 : ¬ Ba = Bw := by omega
        have hne3 : ¬ Ba = Bg := by omega
        have hne4 : ¬ Bw = Bg := by omega
        have hne5 : ¬ Bg = Ba := by omega
        clear ho
        go_wp2
        have hce : Chg (fun j => j = Bw ∨ j = Bg) We ((We.setCell ⟨Bw, 0, none⟩ (.slice (some ⟨g2, 0, none⟩) N2 c2)).setCell ⟨Bg, 0, none⟩ (.slice none 0 0)) := ((Chg.set We ⟨Bw, 0, none⟩ _).mono (fun j e => .inl e)).trans (Chg.set _ ⟨Bg, 0, none⟩ _) (fun x _ e => .inr e)
        have hQf : Bx ((We.setCell ⟨Bw, 0, none⟩ (.slice (some ⟨g2, 0, none⟩) N2 c2)).setCell ⟨Bg, 0, none⟩ (.slice none 0 0)) Bw 72 (.slice (some ⟨g2, 0, none⟩) N2 c2) := (HQd.out.box.set (.slice (some ⟨g2, 0, none⟩) N2 c2)).other hne4 _
        have hGf : Bx ((We.setCell ⟨Bw, 0, none⟩ (.slice (some ⟨g2, 0, none⟩) N2 c2)).setCell ⟨Bg, 0, none⟩ (.slice none 0 0)) Bg 72 (.slice none 0 0) := (HGd.out.box.other hne1 (.slice (some ⟨g2, 0, none⟩) N2 c2)).set (.slice none 0 0)
        obtain ⟨Wf, hWf⟩ : ∃ Wf, (We.setCell ⟨Bw, 0, none⟩ (.slice (some ⟨g2, 0, none⟩) N2 c2)).setCell ⟨Bg, 0, none⟩ (.slice none 0 0) = Wf := ⟨_, rfl⟩
        rw [hWf] at hce hQf hGf
        try rw [hWf]
        have ho := hord.out
        have hwb := HWB.out
        have HKf := Lib.hid (HKd.out.chg hce (fun j hj e => by have := HK23.out; rcases e with e | e <;> rcases hj with hj | hj <;> omega) (keeps_boxes hce (fun j e => by
          rcases e with rfl | rfl
          · exact ⟨_, _, HQd.out.box, by decide, by decide⟩
          · exact ⟨_, _, HGd.out.box, by decide, by decide⟩)))
        have hnt2 : NoTab (fun j => j = Bw ∨ j = Bg) := by
          obtain ⟨t1, t2⟩ := tabs_lt HT0.out
          exact ⟨fun e => e.elim (by omega) (by omega), fun e => e.elim (by omega) (by omega)⟩
        have HTf := Lib.hid (tabs_chg HTd.out hnt2 hce)
        have HXf := Lib.hid (HXd.out.chg hce (by show ¬ (_ = Bw ∨ _ = Bg); omega))
        have HFf := Lib.hid (HFd.out.chg hce (by show ¬ (_ = Bw ∨ _ = Bg); omega))
        have HRf := Lib.hid (HRd.out.chg hce (by show ¬ (_ = Bw ∨ _ = Bg); omega))
        have HQf := Lib.hid hQf
        have HPf := Lib.hid (HP2.out.chg hce (by show ¬ (_ = Bw ∨ _ = Bg); have := HG2.out; omega))
        have HDf := Lib.hid ((hce.block D (Array.getElem?_eq_some_iff.1 HDe.out).1 (by show ¬ (_ = Bw ∨ _ = Bg); omega)).trans HDe.out)
        have HD2f := Lib.hid ((hce.block D2 (Array.getElem?_eq_some_iff.1 HD2e.out).1 (by show ¬ (_ = Bw ∨ _ = Bg); have := HDD.out; omega)).trans HD2e.out)
        have HBf : Hid (Below w.heap.size w Wf) := HBd.out.trans (hce.below_le HBd.out.size (fun x e => by rcases e with e | e <;> omega))
        have HGf := Lib.hid hGf
        have X2 := HKf.out.text HTf.out hs21
        have hcf2 := HFf.out.box.cell
        have hgfl : Bg < Wf.heap.size := hGf.box.lt
        have hseq3 := fun n hn => lines_stops n hn Bc _ s2 Wf Wf X2 (Below.refl _ _) HXf.out.box.cell (MineG Bg Bg) (mineG_ok Bg Bg) (mineG_lt hgfl HGf.out.box (by intro k hk; simp [Value.ownBlock] at hk))
        rw [hN2e] at hseq3
        have hg2f : g2 < Wf.heap.size := by obtain ⟨g', h1, h2, -⟩ := HPf.out 0 (by rw [spansT_len]; omega); obtain rfl : g2 = g' := (by simpa using h1); exact h2
        clear X2 hcf2 hcq hfq hlq hcg hfg hlg hcf hne1 hne2 hne3 hne4 hne5 hQf hGf hWf hce hnt2 HKd HTd HXd HFd HRd HQd HGd HP2 HDe HD2e HBd hwb ho
        refine (wpIn_wide (n := 9)).1 ?_
        refine range_h s2 Wf.heap.size 107 20 rfl (by omega) (gf := 48) (lb := #[.pointer (some ⟨Bc, 0, none⟩)]) (by show vf = _; exact hbx.out.symm) trivial (enters_of Tryz.func48 (by kernel_rfl) rfl)
          (hseq3 _ (by omega)) KpL.trans (kpL_b (mineG_ok Bg Bg)) (Below.refl _ _) rfl
          (fun pre W9 => GotL W9 Wf.heap.size Bg (pre.map fun (l : Nat) => (beginF s2 (l : Nat), spanT s2 l)) ∧ Chg (fun j => j = Bg) Wf W9)
          (fun _ _ _ => False)
          ?hI3 (fun _ _ _ _ _ h _ _ => h) ⟨⟨_, HGf.out, World.ownsRow_nil _ _ _ _⟩, Chg.refl _ _⟩ ?assign3 ?body3 ?done3 (fun _ _ _ _ _ _ h _ => h.elim)
        case hI3 =>
          rintro pre W9 W10 row ⟨h3, h4⟩ hg hr
          exact ⟨gotL_kept h3 hg (fun r e => (hr r e).2), chg_from h4 hg (fun r e => (hr r e).1)⟩
        case assign3 =>
          rintro l2 pre2 x2 W9 K ⟨h1, h2⟩ hK
          have hsv : spanV s2 x2 = .agg #[.int .i64 (beginF s2 (x2 : Nat)), .int .i64 (spanT s2 x2)] := rfl
          have b7 : Below W9.heap.size W9 (W9.alloc (.cells #[.int .i64 (beginF s2 (x2 : Nat)), .int .i64 (spanT s2 x2)] 41)) := (Below.refl _ _).alloc (Nat.le_refl _) _
          have HB7 := Lib.hid b7
          have HKK := Lib.hid hK
          have HH1 := Lib.hid h1
          have HH2 := Lib.hid h2
          rw [hsv]
          clear b7 hK h1 h2 hsv
          gi_wp2
          refine HKK.out _ _ ((KeepsOthers.alloc _ _).from _) (kpL_below (mineG_ok Bg Bg) HB7.out) ⟨gotL_kept HH1.out (grown_of_below HB7.out) (fun r e => by cases e), HH2.out.then_below HB7.out⟩ ⟨W9.heap.size, Lies.new _ [.int .i64 (beginF s2 (x2 : Nat)), .int .i64 (spanT s2 x2)] _, HH2.out.size, ?_⟩
          simp [spanV]
        case body3 =>
          rintro l2 pre2 x2 a2 W9 hl2 hr2 ⟨⟨v, hv, hrow⟩, hc⟩ ⟨q2, hq2, hq28, ha2⟩ hlt2
          simp at ha2
          subst ha2
          obtain ⟨i0, hi, hz0, hz1, hz2⟩ := info_parts infoSpan
          have hpl : pre2.length < N2 := by simpa using hlt2
          obtain ⟨xs, hxs⟩ : ∃ xs, (pre2.map fun (l : Nat) => (beginF s2 (l : Nat), spanT s2 l)) = xs := ⟨_, rfl⟩
          have hxl : xs.length = pre2.length := by rw [← hxs]; simp
          rw [hxs] at hrow
          have HXS := Lib.hid hxs
          have gv := hv.cell
          have gf := hv.frozen
          have gl := hv.lt
          have q0 := (hq2.2 0 _ rfl).1
          have q1 := (hq2.2 1 _ rfl).1
          have HV := Lib.hid hv
          have HRW := Lib.hid hrow
          have HC9 := Lib.hid hc
          have h9l : Wf.heap.size ≤ W9.heap.size := hc.size
          have hroom : (xs.length + 1) * 16 ≤ 140737488355328 := by omega
          have hml : xs.length + 1 ≤ maxLen := by unfold maxLen; omega
          obtain ⟨ba, hba⟩ : ∃ p, beginF s2 (x2 : Nat) = p := ⟨_, rfl⟩
          obtain ⟨bb, hbb⟩ : ∃ p, spanT s2 x2 = p := ⟨_, rfl⟩
          rw [hba] at q0
          rw [hbb] at q1
          have HBA := Lib.hid (And.intro hba hbb)
          clear hv hrow hc hq2 hxs hxl hpl hlt2 hba hbb hr2 hl2
          gi_wp2_with ((gi_at_builtin; refine wpListIn_append_own_at _ rfl (.tmp 109) (.tmp 111) 72 rfl Wf.heap.size 41 i0 (.agg #[.int .i64 0, .int .i64 0]) 2 16 Tryz.underlying72 hi hz0 hz1 hz2 rfl (by decide) _ _ _ rfl (HRW.out.alloc _) ⟨W9.heap.size, 0, none⟩ 1 1 [.int .i64 ba, .int .i64 bb] rfl rfl (new_cellsW _ _ _) (by intro u hu; simp at hu; rcases hu with rfl | rfl <;> rfl) hml hroom (by simp; omega) ?_
                        intro v' w3' hown' hg3 hnil3 hblk3
                        obtain ⟨A', c', rfl⟩ := row_forma hown'
                        have hstep := got_stepL HV.out HRW.out h9l hown' hg3 hblk3
                        have HStep := Lib.hid hstep
                        have gv3 := hstep.1.cell
                        have gf3 := hstep.1.frozen
                        have gl3 := hstep.1.lt
                        clear hown' hg3 hnil3 hblk3 hstep
                        go_frame))
          obtain ⟨-, t2, t3, t4, t6, t7, t8⟩ := HStep.out
          refine ⟨t4.from _, kpL_step HV.out t3 t7 (t6.mono (fun j e => .inr e)), ?_, HC9.out.trans t6 (fun x hx e => ?_)⟩
          · rw [List.map_append, List.map_cons, List.map_nil, HXS.out, HBA.out.1, HBA.out.2]; exact t2
          · rcases e with e | e
            · exact e
            · have := t8 _ e; omega
        case done3 =>
          rintro D3 xs W9 hD3 hxs ⟨⟨v, hv, hrow⟩, hc⟩ hK3
          subst hxs
          obtain ⟨Ag3, cg3, rfl⟩ := row_forma hrow
          have ho := hord.out
          have hsp : ((List.range N2).map fun (l : Nat) => (beginF s2 (l : Nat), spanT s2 l)) = spansT s2 N2 := rfl
          rw [hsp] at hrow hv
          have HPG3 := rowP_at hrow rfl
          rw [spansT_len] at hv
          have HQ9 := HQf.out.chg hc (by show ¬ _ = Bg; omega)
          have HR9 := Lib.hid (HRf.out.chg hc (by show ¬ _ = Bg; omega))
          have HP9 := HPf.out.chg hc (by show ¬ _ = Bg; have := HG2.out; have := HWB.out; omega)
          have HSm := RefSame_any Ag3 (some ⟨g2, 0, none⟩) cg3 c2 (spansT s2 N2) W9 HPG3 HP9 (by rw [spansT_len]; omega)
          rw [spansT_len] at HSm
          have HSm := Lib.hid HSm
          have HB9 : Hid (Below w.heap.size w W9) := HBf.out.trans (hc.below_le HBf.out.size (fun x e => by omega))
          have HD9 := Lib.hid ((hc.block D (Array.getElem?_eq_some_iff.1 HDf.out).1 (by show ¬ _ = Bg; omega)).trans HDf.out)
          have HD29 := Lib.hid ((hc.block D2 (Array.getElem?_eq_some_iff.1 HD2f.out).1 (by show ¬ _ = Bg; have := HDD.out; omega)).trans HD2f.out)
          have HD39 : Hid (W9.heap[D3]? = some (.deferred (some []))) := hK3
          have hD2l : D2 < Wf.heap.size := (Array.getElem?_eq_some_iff.1 HD2f.out).1
          have HDD3 : Hid (D2 < D3) := by show _ < _; omega
          have c9 := hv.cell
          have c7 := HQ9.box.cell
          clear hv hrow hc hK3 ho hsp HPG3 HQ9 HP9 hD2l hD3 hseq3
          go_wp2_with fail
          refine HSm.out.mono ?_
          rintro e Wh ⟨rfl, hb⟩
          have hRh := HR9.out.below hb
          have rc := hRh.box.cell
          have rf := hRh.box.frozen
          have rl := hRh.box.lt
          have HBh : Hid (Below w.heap.size w (Wh.setCell ⟨w.heap.size + 1 + 1, 0, none⟩ (.bool true))) := chg_mine (g := w.heap.size + 1 + 1) (HB9.out.trans (hb.mono HB9.out.size)) (Chg.set Wh ⟨w.heap.size + 1 + 1, 0, none⟩ (.bool true)) (by omega)
          have hset : Chg (fun j => j = w.heap.size + 1 + 1) Wh (Wh.setCell ⟨w.heap.size + 1 + 1, 0, none⟩ (.bool true)) := Chg.set Wh ⟨w.heap.size + 1 + 1, 0, none⟩ _
          have ho := hord.out
          have hdd := HDD.out
          have hdd3 := HDD3.out
          have hb0 := HB9.out.size
          have k1 := (hset.block D (Array.getElem?_eq_some_iff.1 ((hb.block D (Array.getElem?_eq_some_iff.1 HD9.out).1).trans HD9.out)).1 (by show ¬ _ = _; omega)).trans ((hb.block D (Array.getElem?_eq_some_iff.1 HD9.out).1).trans HD9.out)
          have k2 := (hset.block D2 (Array.getElem?_eq_some_iff.1 ((hb.block D2 (Array.getElem?_eq_some_iff.1 HD29.out).1).trans HD29.out)).1 (by show ¬ _ = _; omega)).trans ((hb.block D2 (Array.getElem?_eq_some_iff.1 HD29.out).1).trans HD29.out)
          have k3 := (hset.block D3 (Array.getElem?_eq_some_iff.1 ((hb.block D3 (Array.getElem?_eq_some_iff.1 HD39.out).1).trans HD39.out)).1 (by show ¬ _ = _; omega)).trans ((hb.block D3 (Array.getElem?_eq_some_iff.1 HD39.out).1).trans HD39.out)
          have hRs := hRh.box.set (.bool true)
          have HRs := Lib.hid hRs
          have K1 := Lib.hid k1
          have K2 := Lib.hid k2
          have K3 := Lib.hid k3
          clear k1 k2 k3 hRs ho hdd hdd3 hset hRh c9 c7 hb HSm HD9 HD29 HD39 hb0
          go_wp2
          have ho := hord.out
          have hdd := HDD.out
          have hdd3 := HDD3.out
          obtain ⟨Wi, hWi⟩ : ∃ Wi, Wh.setCell ⟨w.heap.size + 1 + 1, 0, none⟩ (.bool true) = Wi := ⟨_, rfl⟩
          rw [hWi] at HRs K1 K2 K3 HBh
          try rw [hWi]
          have kk2 : (Wi.putObj D3 (.deferred none)).heap[D2]? = some (.deferred (some [])) := (World.putObj_heap_other (by omega)).trans K2.out
          have kk1 : ((Wi.putObj D3 (.deferred none)).putObj D2 (.deferred none)).heap[D]? = some (.deferred (some [])) := (World.putObj_heap_other (by omega)).trans ((World.putObj_heap_other (by omega)).trans K1.out)
          have kr : (((Wi.putObj D3 (.deferred none)).putObj D2 (.deferred none)).putObj D (.deferred none)).heap[w.heap.size + 1 + 1]? = some (.cells #[.bool true] 4 (0, 0)) := (World.putObj_heap_other (by omega)).trans ((World.putObj_heap_other (by omega)).trans ((World.putObj_heap_other (by omega)).trans HRs.out))
          have hrc : (((Wi.putObj D3 (.deferred none)).putObj D2 (.deferred none)).putObj D (.deferred none)).cell? ⟨w.heap.size + 1 + 1, 0, none⟩ = some (.bool true) := Boxed.cell (t := 4) kr
          have hBf : Below w.heap.size w (((Wi.putObj D3 (.deferred none)).putObj D2 (.deferred none)).putObj D (.deferred none)) :=
            (((HBh.out.trans (belowK_b (w := w) (Nat.le_refl _) Wi D3 _ _ (by omega) K3.out rfl rfl)).trans (belowK_b (w := w) (Nat.le_refl _) _ D2 _ _ (by omega) kk2 rfl rfl)).trans (belowK_b (w := w) (Nat.le_refl _) _ D _ _ (by omega) kk1 rfl rfl))
          refine ⟨by simp, .inl ⟨_, _, rfl, run_takeDeferred K3.out, ⟨by simp, .inl ⟨_, _, rfl, run_takeDeferred kk2, ⟨by simp, .inl ⟨_, _, rfl, run_takeDeferred kk1, ?_⟩⟩⟩⟩⟩⟩
          exact ⟨.bool true, by simp [results, Tryz.results10, go_sem, hrc], rfl, hBf⟩
theorem law_LinesWalks (s : ByteArray) (k stop : Int) (w : World) (hT : Tabs w) (hs : s.size ≤ 140737488355328) :
    Calls Tryz.prog 10 #[.agg #[.string s, .int .i64 k], .int .i64 stop] w fun e w' => e = .returned (.bool true) ∧ Below w.heap.size w w' := by
  by_cases hbig : 1073741822 < s.size
  · exact walks_big s k stop w hT hs hbig
  · exact walks_small s k stop w hT hbig
set_option maxRecDepth 100000 in
theorem calls_LinesWalks {H : Type} {enc : TypeId × Value → H} {W : World} {base : Nat} {v0 v1 : Value} {d0 d1 : DataW H} {p0 p1 : List MemPlace} (hL : laidMetH Tryz.prog Rows.linesWalksRow.laid W)
    (o0 : Value.okWide Tryz.prog W .any base 23 v0) (h0 : DataW.Trod enc Tryz.prog W 0 (fun _ => true) true 23 v0 d0 p0) (w0 : ∀ n ∈ d0.weights Tryz.prog 23, n ≤ reachBytes)
    (o1 : Value.okWide Tryz.prog W .any base 3 v1) (h1 : DataW.Trod enc Tryz.prog W 0 (fun _ => true) true 3 v1 d1 p1) (w1 : ∀ n ∈ d1.weights Tryz.prog 3, n ≤ reachBytes) :
    Calls Tryz.prog 10 #[v0, v1] W fun e W' => e = .returned (.bool true) ∧ Below W.heap.size W W' := by
  obtain ⟨s, k, rfl, hs⟩ := open_kept o0 h0 w0
  obtain ⟨x, rfl, rfl, rfl, hx⟩ := open_int Tryz.underlying3 o1 h1
  exact law_LinesWalks s k x W (tabs_of_laid hL) (by unfold reachBytes at hs; omega)
end Go.Proofs.YtgmpohdkignadaaGreatDoor.Ut
