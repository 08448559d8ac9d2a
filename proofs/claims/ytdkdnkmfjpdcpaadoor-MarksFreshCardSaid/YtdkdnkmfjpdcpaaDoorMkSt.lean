/-
  A set, the document's set, as states of a walk that began in a world: what each call makes of them. No condition.
-/
import Derived.Test.YtdkdnkmfjpdcpaaDoorMkDrop
import Derived.Test.YtdkdnkmfjpdcpaaDoorMkRef4
import Derived.Test.YtdkdnkmfjpdcpaaDoorMkOpen
namespace Go.Proofs.YtdkdnkmfjpdcpaaDoor.Mk
open Go.RowKit Go.Maps Go.Proofs.YtdkdnkmfjpdcpaaDoor.Reg
set_option linter.unusedVariables false
set_option linter.unusedSimpArgs false

theorem i64_wf {x : Int} (h : -9223372036854775808 ≤ x ∧ x ≤ 9223372036854775807) : (Lit.int .i64 x).wf = true := by
  simpa [Lit.wf, IntKind.min, IntKind.max, IntKind.signed, IntKind.bits] using h
theorem wf_i64' {x : Int} (h : (Lit.int .i64 x).wf = true) : -9223372036854775808 ≤ x ∧ x ≤ 9223372036854775807 := by
  simpa [Lit.wf, IntKind.min, IntKind.max, IntKind.signed, IntKind.bits] using h
theorem one_fit (p : Int) (d : Dl) (hp : (Lit.int .i64 p).wf = true) (hd : (Lit.int .i64 d.pos).wf = true) : (Lit.int .i64 (one p d)).wf = true := by
  unfold one
  split
  · exact hp
  · split
    · exact hd
    · unfold wrap64; exact i64_wf (by omega)
theorem moved_fit (ds : List Dl) (hd : ∀ d ∈ ds, (Lit.int .i64 d.pos).wf = true) : ∀ p : Int, (Lit.int .i64 p).wf = true → (Lit.int .i64 (moved p ds)).wf = true := by
  induction ds with
  | nil => intro p hp; exact hp
  | cons d r ih => intro p hp; exact ih (fun x hx => hd x (List.mem_cons_of_mem _ hx)) _ (one_fit p d hp (hd d List.mem_cons_self))
/-- Where no delta lies below 0 the two ways to move are one. -/
theorem oneR_eq (p : Int) (d : Dl) (hp : (Lit.int .i64 p).wf = true) (h0 : 0 ≤ d.pos) (h1 : d.pos ≤ 1099511627776) (ho : d.out.size ≤ reachBytes) (hi : d.inn.size ≤ reachBytes) : oneR p d = one p d := by
  have hw := wf_i64' hp
  unfold oneR one wrap64
  unfold reachBytes at ho hi
  by_cases h : p ≤ d.pos
  · simp [h]
  · rw [if_neg h, if_neg h]
    have e1 : ((p : Int) - d.pos + 9223372036854775808) % 18446744073709551616 - 9223372036854775808 = p - d.pos := by omega
    have e2 : ((d.pos : Int) + d.out.size + 9223372036854775808) % 18446744073709551616 - 9223372036854775808 = d.pos + d.out.size := by omega
    rw [e1, e2]
    by_cases h2 : p < d.pos + d.out.size
    · rw [if_pos h2, if_pos (by omega)]
    · rw [if_neg h2, if_neg (by omega)]
      omega
theorem movedR_eq (ds : List Dl) (hd : ∀ d ∈ ds, 0 ≤ d.pos ∧ d.pos ≤ 1099511627776 ∧ DlOk d) : ∀ p : Int, (Lit.int .i64 p).wf = true → movedR p ds = moved p ds := by
  induction ds with
  | nil => intro p hp; rfl
  | cons d r ih =>
    intro p hp
    obtain ⟨h0, h1, h2, h3, h4⟩ := hd d List.mem_cons_self
    show movedR (oneR p d) r = moved (one p d) r
    rw [oneR_eq p d hp h0 h1 h3 h4]
    exact ih (fun x hx => hd x (List.mem_cons_of_mem _ hx)) _ (one_fit p d hp h2)

/-- What a set is, since world w0: in new blocks; nothing older has turned. -/
def St (w0 w : World) (b : Nat) (l : ML) : Prop := ∃ ro, IsSet w b ro l ∧ (∀ k, foot b ro k → w0.heap.size ≤ k) ∧ Below w0.heap.size w0 w
def Rt (w0 w : World) (b : Nat) (l : ML) : Prop := ∃ v, IsRef w b v l ∧ (∀ k, footR b v k → w0.heap.size ≤ k) ∧ Below w0.heap.size w0 w
/-- All blocks stay but those of sets (of document's sets and of marks). -/
def KeepR (w w' : World) : Prop := ∀ (k : Nat) (o : Obj), w.heap[k]? = some o → (∀ cs fr, o ≠ .cells cs 70 fr) → (∀ es c, o ≠ .map es c) → w'.heap[k]? = some o
def KeepS (w w' : World) : Prop := ∀ (k : Nat) (o : Obj), w.heap[k]? = some o → (∀ cs fr, o ≠ .cells cs 76 fr) → (∀ cs fr, o ≠ .cells cs 33 fr) → w'.heap[k]? = some o
theorem KeepR.ref {w w' : World} (h : KeepR w w') {c : Nat} {v : Value} {m : ML} (k : IsRef w c v m) : IsRef w' c v m := by
  refine ⟨h c _ k.blk (fun cs fr e => ?_) (fun es c e => by cases e), k.ok, k.row.1, ?_⟩
  · injection e with _ e2; exact absurd e2 (by decide)
  · rcases k.row.2 with h0 | ⟨g, cap, cur, rfl, hg, hh, hr⟩
    · exact .inl h0
    · exact .inr ⟨g, cap, cur, rfl, hg, h g _ hh (fun cs fr e => by injection e with _ e2; exact absurd e2 (by decide)) (fun es c e => by cases e), hr⟩
theorem KeepS.set {w w' : World} (h : KeepS w w') {b : Nat} {ro : Option Nat} {l : ML} (k : IsSet w b ro l) : IsSet w' b ro l := by
  refine ⟨h b _ k.blk (fun cs fr e => by injection e with _ e2; exact absurd e2 (by decide)) (fun cs fr e => by injection e with _ e2; exact absurd e2 (by decide)), k.ok, ?_⟩
  have hm := k.map
  cases ro with
  | none => exact hm
  | some r =>
    obtain ⟨es, clock, hb, F, hs, hD⟩ := hm
    exact ⟨es, clock, h r _ hb (fun cs fr e => by cases e) (fun cs fr e => by cases e), F, hs, hD⟩
theorem KeepR.trans {w w1 w2 : World} (h : KeepR w w1) (k : KeepR w1 w2) : KeepR w w2 := fun i o e h1 h2 => k i o (h i o e h1 h2) h1 h2
theorem KeepS.trans {w w1 w2 : World} (h : KeepS w w1) (k : KeepS w1 w2) : KeepS w w2 := fun i o e h1 h2 => k i o (h i o e h1 h2) h1 h2
theorem KeepR.below {w w' : World} (h : Below w.heap.size w w') : KeepR w w' := fun i o e _ _ => (h.block i (Array.getElem?_eq_some_iff.1 e).1).trans e
theorem KeepS.below {w w' : World} (h : Below w.heap.size w w') : KeepS w w' := fun i o e _ _ => (h.block i (Array.getElem?_eq_some_iff.1 e).1).trans e
theorem KeepR.of {w w' : World} {b : Nat} {ro : Option Nat} {l : ML} (hs : IsSet w b ro l) (hc : Chg (foot b ro) w w') : KeepR w w' := by
  intro k o e h1 h2
  refine (hc.block k (Array.getElem?_eq_some_iff.1 e).1 (fun hf => ?_)).trans e
  rcases hf with rfl | hf
  · have := hs.blk; rw [e] at this; exact h1 _ _ (Option.some.inj this)
  · subst hf
    obtain ⟨es, clock, hb, -⟩ : MapOf w k l := hs.map
    rw [e] at hb; exact h2 _ _ (Option.some.inj hb)
theorem KeepS.of {w w' : World} {b : Nat} {v : Value} {l : ML} (hs : IsRef w b v l) (hc : Chg (footR b v) w w') : KeepS w w' := by
  intro k o e h1 h2
  refine (hc.block k (Array.getElem?_eq_some_iff.1 e).1 (fun hf => ?_)).trans e
  rcases hf with rfl | hf
  · have := hs.blk; rw [e] at this; exact h1 _ _ (Option.some.inj this)
  · rcases hs.row.2 with ⟨rfl, _⟩ | ⟨g', cap, cur, rfl, _, hh, _⟩
    · simp [Value.ownBlock] at hf
    · obtain rfl : g' = k := by simpa [Value.ownBlock] using hf
      rw [e] at hh; exact h2 _ _ (Option.some.inj hh)
/-- The cells of a block that stays. -/
theorem cells_same {w w' : World} {k : Nat} (h : w'.heap[k]? = w.heap[k]?) (j : Nat) : w'.cell? ⟨k, j, none⟩ = w.cell? ⟨k, j, none⟩ := World.cell?_of_block (w := w) (a := ⟨k, j, none⟩) h

theorem St.keep {w0 w w' : World} {b : Nat} {l : ML} (h : St w0 w b l) (hk : KeepS w w') (hb : Below w0.heap.size w0 w') : St w0 w' b l := by
  obtain ⟨ro, h1, h2, -⟩ := h
  exact ⟨ro, hk.set h1, h2, hb⟩
theorem Rt.keep {w0 w w' : World} {b : Nat} {l : ML} (h : Rt w0 w b l) (hk : KeepR w w') (hb : Below w0.heap.size w0 w') : Rt w0 w' b l := by
  obtain ⟨v, h1, h2, -⟩ := h
  exact ⟨v, hk.ref h1, h2, hb⟩
theorem St.below {w0 w w' : World} {b : Nat} {l : ML} (h : St w0 w b l) (hb : Below w.heap.size w w') : St w0 w' b l := by
  obtain ⟨ro, h1, h2, h3⟩ := h
  exact ⟨ro, h1.below hb, h2, h3.trans (hb.mono h3.size)⟩
theorem Rt.below {w0 w w' : World} {b : Nat} {l : ML} (h : Rt w0 w b l) (hb : Below w.heap.size w w') : Rt w0 w' b l := by
  obtain ⟨v, h1, h2, h3⟩ := h
  exact ⟨v, h1.below hb, h2, h3.trans (hb.mono h3.size)⟩
theorem St.since {w0 w : World} {b : Nat} {l : ML} (h : St w0 w b l) : Below w0.heap.size w0 w := by
  obtain ⟨ro, h1, h2, h3⟩ := h; exact h3
theorem Rt.since {w0 w : World} {b : Nat} {l : ML} (h : Rt w0 w b l) : Below w0.heap.size w0 w := by
  obtain ⟨ro, h1, h2, h3⟩ := h; exact h3
theorem St.ok {w0 w : World} {b : Nat} {l : ML} (h : St w0 w b l) : Ok l := by
  obtain ⟨ro, h1, h2, h3⟩ := h; exact h1.ok
theorem Rt.ok {w0 w : World} {b : Nat} {l : ML} (h : Rt w0 w b l) : Ok l := by
  obtain ⟨ro, h1, h2, h3⟩ := h; exact h1.ok

/-- The step of a set: from a contract's word. -/
theorem St.step {w0 w w' : World} {b : Nat} {ro ro' : Option Nat} {l l' : ML} (hs : IsSet w b ro l) (hf : ∀ k, foot b ro k → w0.heap.size ≤ k) (hb : Below w0.heap.size w0 w) (hs' : IsSet w' b ro' l') (hn : Next w ro ro') (hc : Chg (foot b ro) w w') :
    St w0 w' b l' ∧ KeepR w w' := by
  refine ⟨⟨ro', hs', fun k hk => ?_, hb.trans (hc.below_le hb.size hf)⟩, KeepR.of hs hc⟩
  rcases hk with hk | hk
  · exact hf k (.inl hk)
  · rcases hn with rfl | ⟨r, rfl, hr⟩
    · exact hf k (.inr hk)
    · cases hk; exact Nat.le_trans hb.size hr
theorem Rt.step {w0 w w' : World} {b : Nat} {v v' : Value} {l l' : ML} (hs : IsRef w b v l) (hf : ∀ k, footR b v k → w0.heap.size ≤ k) (hb : Below w0.heap.size w0 w) (hs' : IsRef w' b v' l') (hn : NextV w v v') (hc : Chg (footR b v) w w') :
    Rt w0 w' b l' ∧ KeepS w w' := by
  refine ⟨⟨v', hs', fun k hk => ?_, hb.trans (hc.below_le hb.size hf)⟩, KeepS.of hs hc⟩
  rcases hk with hk | hk
  · exact hf k (.inl hk)
  · rcases hn with rfl | hn
    · exact hf k (.inr hk)
    · exact Nat.le_trans hb.size (hn k hk)

section
variable {w0 w : World} {b : Nat} {l : ML}

theorem St.put (h : St w0 w b l) (n x : Int) (hwn : (Lit.int .u8 n).wf = true) (hwx : (Lit.int .i64 x).wf = true) :
    Calls Tryd.prog 28 #[.pointer (some ⟨b, 0, none⟩), .int .u8 n, .int .i64 x] w fun e w' => e = .returned (.int .i64 (putE n x)) ∧ St w0 w' b (putL l n x) ∧ KeepR w w' := by
  obtain ⟨ro, h1, h2, h3⟩ := h
  refine (Put_any b ro l n x w hwn hwx h1).mono ?_
  rintro e w' ⟨rfl, ro', hs', hn, hc⟩
  exact ⟨rfl, St.step h1 h2 h3 hs' hn hc⟩
theorem Rt.put (h : Rt w0 w b l) (n x : Int) (hwx : (Lit.int .i64 x).wf = true) :
    Calls Tryd.prog 44 #[.pointer (some ⟨b, 0, none⟩), .int .u8 n, .int .i64 x] w fun e w' => e = .returned (.int .i64 (putE n x)) ∧ Rt w0 w' b (putL l n x) ∧ KeepS w w' := by
  obtain ⟨ro, h1, h2, h3⟩ := h
  refine (PutR_any b ro l n x w hwx h1).mono ?_
  rintro e w' ⟨rfl, ro', hs', hn, hc⟩
  exact ⟨rfl, Rt.step h1 h2 h3 hs' hn hc⟩
theorem St.get (h : St w0 w b l) (n : Int) (hwn : (Lit.int .u8 n).wf = true) :
    Calls Tryd.prog 27 #[.pointer (some ⟨b, 0, none⟩), .int .u8 n] w fun e w' => e = .returned (.tuple #[.int .i64 (getE l n).1, .int .i64 (getE l n).2]) ∧ w' = w := by
  obtain ⟨ro, h1, h2, h3⟩ := h
  exact Get_any b ro l n w hwn h1
theorem Rt.get (h : Rt w0 w b l) (n : Int) :
    Calls Tryd.prog 43 #[.pointer (some ⟨b, 0, none⟩), .int .u8 n] w fun e w' => e = .returned (.tuple #[.int .i64 (getE l n).1, .int .i64 (getE l n).2]) ∧ w' = w := by
  obtain ⟨ro, h1, h2, h3⟩ := h
  exact GetR_any b ro l n w h1
theorem St.drop (h : St w0 w b l) (n : Int) (hwn : (Lit.int .u8 n).wf = true) :
    Calls Tryd.prog 37 #[.pointer (some ⟨b, 0, none⟩), .int .u8 n] w fun e w' => e = .returned (.int .i64 (getE l n).2) ∧ St w0 w' b (dropL l n) ∧ KeepR w w' := by
  obtain ⟨ro, h1, h2, h3⟩ := h
  refine (Drop_any b ro l n w hwn h1).mono ?_
  rintro e w' ⟨rfl, hs', hc⟩
  exact ⟨rfl, St.step h1 h2 h3 hs' (.inl rfl) hc⟩
theorem Rt.drop (h : Rt w0 w b l) (n : Int) :
    Calls Tryd.prog 45 #[.pointer (some ⟨b, 0, none⟩), .int .u8 n] w fun e w' => e = .returned (.int .i64 (getE l n).2) ∧ Rt w0 w' b (dropL l n) ∧ KeepS w w' := by
  obtain ⟨ro, h1, h2, h3⟩ := h
  refine (DropR_any b ro l n w h1).mono ?_
  rintro e w' ⟨rfl, ro', hs', hn, hc⟩
  exact ⟨rfl, Rt.step h1 h2 h3 hs' hn hc⟩
theorem St.clear (h : St w0 w b l) :
    Calls Tryd.prog 36 #[.pointer (some ⟨b, 0, none⟩)] w fun e w' => e = .returned (.tuple #[]) ∧ St w0 w' b [] ∧ KeepR w w' := by
  obtain ⟨ro, h1, h2, h3⟩ := h
  refine (Clear_any b ro l w h1).mono ?_
  rintro e w' ⟨rfl, hs', hc⟩
  exact ⟨rfl, St.step h1 h2 h3 hs' (.inl rfl) hc⟩
theorem Rt.clear (h : Rt w0 w b l) :
    Calls Tryd.prog 46 #[.pointer (some ⟨b, 0, none⟩)] w fun e w' => e = .returned (.tuple #[]) ∧ Rt w0 w' b [] ∧ KeepS w w' := by
  obtain ⟨ro, h1, h2, h3⟩ := h
  refine (ClearR_any b ro l w h1).mono ?_
  rintro e w' ⟨rfl, hs', hc⟩
  exact ⟨rfl, Rt.step h1 h2 h3 hs' (.inr (NewV.nil w)) hc⟩

/-- A slice that lay before is not in the feet of what is newer. -/
theorem older {A : Option Addr} {F : Nat → Prop} {w0 : World} (hf : ∀ k, F k → w0.heap.size ≤ k) (hA : ∀ ad, A = some ad → ad.block < w0.heap.size) {α : Type} {ms : List α} (w : World) : ms = [] ∨ ∀ ad, A = some ad → ad.block < w.heap.size → ¬ F ad.block :=
  .inr fun ad e _ h => by have := hf _ h; have := hA ad e; omega

theorem St.load (h : St w0 w b l) (A : Option Addr) (ms : ML) (c : Nat) (hm : MksAt w A ms) (hA : ms = [] ∨ ∀ ad, A = some ad → ad.block < w.heap.size → ∀ ro, IsSet w b ro l → ¬ foot b ro ad.block) (hf : Fits ms) (hlen : ms.length ≤ 9223372036854775807) :
    Calls Tryd.prog 20 #[.pointer (some ⟨b, 0, none⟩), .slice A ms.length c] w fun e w' => e = .returned (.tuple #[]) ∧ St w0 w' b (loadL ms) ∧ KeepR w w' := by
  obtain ⟨ro, h1, h2, h3⟩ := h
  refine (Load_any b ro l A ms c w h1 hm (by rcases hA with h | h; · exact .inl h
                                             · exact .inr fun ad e hl => h ad e hl ro h1) hf hlen).mono ?_
  rintro e w' ⟨rfl, ro', hs', hn, hc⟩
  exact ⟨rfl, St.step h1 h2 h3 hs' hn hc⟩
theorem Rt.load (h : Rt w0 w b l) (A : Option Addr) (ms : ML) (c : Nat) (hm : MksAt w A ms) (hA : ms = [] ∨ ∀ ad, A = some ad → ad.block < w.heap.size → ∀ v, IsRef w b v l → ¬ footR b v ad.block) (hf : Fits ms) (hlen : ms.length ≤ 9223372036854775807) :
    Calls Tryd.prog 40 #[.pointer (some ⟨b, 0, none⟩), .slice A ms.length c] w fun e w' => e = .returned (.tuple #[]) ∧ Rt w0 w' b (loadL ms) ∧ KeepS w w' := by
  obtain ⟨ro, h1, h2, h3⟩ := h
  refine (LoadR_any b ro l A ms c w h1 hm (by rcases hA with h | h; · exact .inl h
                                              · exact .inr fun ad e hl => h ad e hl ro h1) hf hlen).mono ?_
  rintro e w' ⟨rfl, ro', hs', hn, hc⟩
  exact ⟨rfl, Rt.step h1 h2 h3 hs' (.inr hn) hc⟩
/-- Deltas that lay before: they stay what they are. -/
theorem dls_old {A : Option Addr} {ds : List Dl} (hd : DlsAt w0 A ds) (hb : Below w0.heap.size w0 w) : DlsAt w A ds := hd.below hb
theorem dls_far {A : Option Addr} {ds : List Dl} (hd : DlsAt w0 A ds) {F : Nat → Prop} (hf : ∀ k, F k → w0.heap.size ≤ k) : ds = [] ∨ ∀ ad, A = some ad → ad.block < w.heap.size → ¬ F ad.block := by
  rcases hd with h | ⟨ad, rfl, hl, -⟩
  · exact .inl h
  · exact .inr fun a e _ hk => by cases e; have := hf _ hk; omega
theorem mks_far {A : Option Addr} {ms : ML} (hd : MksAt w0 A ms) {F : Nat → Prop} (hf : ∀ k, F k → w0.heap.size ≤ k) : ms = [] ∨ ∀ ad, A = some ad → ad.block < w.heap.size → ¬ F ad.block := by
  rcases hd with h | ⟨ad, rfl, hl, -⟩
  · exact .inl h
  · exact .inr fun a e _ hk => by cases e; have := hf _ hk; omega
theorem St.move (h : St w0 w b l) (A : Option Addr) (ds : List Dl) (c : Nat) (hl : ds.length ≤ 9223372036854775807) (hd : DlsAt w0 A ds) (hp : ∀ d ∈ ds, (Lit.int .i64 d.pos).wf = true) :
    Calls Tryd.prog 22 #[.pointer (some ⟨b, 0, none⟩), .slice A ds.length c] w fun e w' => e = .returned (.tuple #[]) ∧ St w0 w' b (moveL (fun x => moved x ds) l) ∧ KeepR w w' := by
  obtain ⟨ro, h1, h2, h3⟩ := h
  refine (Move_any b ro l A ds c w h1 hl (hd.below h3) (dls_far hd h2) (fun x hx => moved_fit ds hp _ (h1.ok.2 x hx).2)).mono ?_
  rintro e w' ⟨rfl, hs', hc⟩
  exact ⟨rfl, St.step h1 h2 h3 hs' (.inl rfl) hc⟩
theorem Rt.move (h : Rt w0 w b l) (A : Option Addr) (ds : List Dl) (c : Nat) (hl : ds.length ≤ 9223372036854775807) (hd : DlsAt w0 A ds) (hp : ∀ d ∈ ds, 0 ≤ d.pos ∧ d.pos ≤ 1099511627776 ∧ DlOk d) :
    Calls Tryd.prog 23 #[.pointer (some ⟨b, 0, none⟩), .slice A ds.length c] w fun e w' => e = .returned (.tuple #[]) ∧ Rt w0 w' b (moveL (fun x => moved x ds) l) ∧ KeepS w w' := by
  obtain ⟨ro, h1, h2, h3⟩ := h
  have he : ∀ x ∈ l, movedR x.2 ds = moved x.2 ds := fun x hx => movedR_eq ds hp _ (h1.ok.2 x hx).2
  have hm : moveL (fun x => movedR x ds) l = moveL (fun x => moved x ds) l := List.map_congr_left fun x hx => by show (x.1, movedR x.2 ds) = (x.1, moved x.2 ds); rw [he x hx]
  refine (MoveR_any b ro l A ds c w h1 hl (hd.below h3) (dls_far hd h2) (fun x hx => by rw [he x hx]; exact moved_fit ds (fun d hd => (hp d hd).2.2.1) _ (h1.ok.2 x hx).2)).mono ?_
  rintro e w' ⟨rfl, hs', hc⟩
  rw [hm] at hs'
  exact ⟨rfl, Rt.step h1 h2 h3 hs' (.inl rfl) hc⟩
theorem St.all (h : St w0 w b l) :
    Calls Tryd.prog 24 #[.pointer (some ⟨b, 0, none⟩)] w fun e w' => ∃ A c, e = .returned (.slice A l.length c) ∧ w'.ownsRow w.heap.size 33 2 (.slice A l.length c) l.length (cellsM l) ∧ Below w.heap.size w w' := by
  obtain ⟨ro, h1, h2, h3⟩ := h
  refine (All_any b ro l w h1).mono ?_
  rintro e w' ⟨v, rfl, hr, hb⟩
  obtain ⟨A, c, rfl⟩ := row_form hr
  exact ⟨A, c, rfl, hr, hb⟩
theorem Rt.all (h : Rt w0 w b l) :
    Calls Tryd.prog 26 #[.pointer (some ⟨b, 0, none⟩)] w fun e w' => ∃ A c, e = .returned (.slice A l.length c) ∧ w'.ownsRow w.heap.size 33 2 (.slice A l.length c) l.length (cellsM l) ∧ Below w.heap.size w w' := by
  obtain ⟨ro, h1, h2, h3⟩ := h
  refine (AllR_any b ro l w h1).mono ?_
  rintro e w' ⟨v, rfl, hr, hb⟩
  obtain ⟨A, c, rfl⟩ := row_form hr
  exact ⟨A, c, rfl, hr, hb⟩
theorem St.len (h : St w0 w b l) : Calls Tryd.prog 29 #[.pointer (some ⟨b, 0, none⟩)] w fun e w' => e = .returned (.int .i64 l.length) ∧ w' = w := by
  obtain ⟨ro, h1, h2, h3⟩ := h
  exact Len_any b ro l w h1
theorem Rt.len (h : Rt w0 w b l) : Calls Tryd.prog 42 #[.pointer (some ⟨b, 0, none⟩)] w fun e w' => e = .returned (.int .i64 l.length) ∧ w' = w := by
  obtain ⟨ro, h1, h2, h3⟩ := h
  exact LenR_any b ro l w h1
theorem St.load0 (h : St w0 w b l) (A : Option Addr) (ms : ML) (c : Nat) (hm : MksAt w0 A ms) (hf : Fits ms) (hlen : ms.length ≤ 9223372036854775807) :
    Calls Tryd.prog 20 #[.pointer (some ⟨b, 0, none⟩), .slice A ms.length c] w fun e w' => e = .returned (.tuple #[]) ∧ St w0 w' b (loadL ms) ∧ KeepR w w' := by
  obtain ⟨ro, h1, h2, h3⟩ := h
  refine (Load_any b ro l A ms c w h1 (hm.below h3) (mks_far hm h2) hf hlen).mono ?_
  rintro e w' ⟨rfl, ro', hs', hn, hc⟩
  exact ⟨rfl, St.step h1 h2 h3 hs' hn hc⟩
theorem Rt.load0 (h : Rt w0 w b l) (A : Option Addr) (ms : ML) (c : Nat) (hm : MksAt w0 A ms) (hf : Fits ms) (hlen : ms.length ≤ 9223372036854775807) :
    Calls Tryd.prog 40 #[.pointer (some ⟨b, 0, none⟩), .slice A ms.length c] w fun e w' => e = .returned (.tuple #[]) ∧ Rt w0 w' b (loadL ms) ∧ KeepS w w' := by
  obtain ⟨ro, h1, h2, h3⟩ := h
  refine (LoadR_any b ro l A ms c w h1 (hm.below h3) (mks_far hm h2) hf hlen).mono ?_
  rintro e w' ⟨rfl, ro', hs', hn, hc⟩
  exact ⟨rfl, Rt.step h1 h2 h3 hs' (.inr hn) hc⟩
end
/-- A block of another kind stays. -/
theorem KeepR.stays {w w' : World} (h : KeepR w w') {k : Nat} {cs : Array Value} {t : TypeId} {fr : Nat × Nat} (hb : w.heap[k]? = some (.cells cs t fr)) (ht : t ≠ 70) : w'.heap[k]? = some (.cells cs t fr) :=
  h k _ hb (fun cs' fr' e => by injection e with _ e2; exact ht e2) (fun es c e => by cases e)
theorem KeepS.stays {w w' : World} (h : KeepS w w') {k : Nat} {cs : Array Value} {t : TypeId} {fr : Nat × Nat} (hb : w.heap[k]? = some (.cells cs t fr)) (ht : t ≠ 76) (ht2 : t ≠ 33) : w'.heap[k]? = some (.cells cs t fr) :=
  h k _ hb (fun cs' fr' e => by injection e with _ e2; exact ht e2) (fun cs' fr' e => by injection e with _ e2; exact ht2 e2)
theorem five_cells {w : World} {q : Nat} {v0 v1 v2 v3 v4 : Value} {t : TypeId} {fr : Nat × Nat} (h : w.heap[q]? = some (.cells #[v0, v1, v2, v3, v4] t fr)) :
    w.cell? ⟨q, 0, none⟩ = some v0 ∧ w.cell? ⟨q, 1, none⟩ = some v1 ∧ w.cell? ⟨q, 2, none⟩ = some v2 ∧ w.cell? ⟨q, 3, none⟩ = some v3 ∧ w.cell? ⟨q, 4, none⟩ = some v4 := by
  refine ⟨?_, ?_, ?_, ?_, ?_⟩ <;> simp [World.cell?, h]
theorem St.new (A : Option Addr) (ms : ML) (c : Nat) (w : World) (hm : MksAt w A ms) (hf : Fits ms) (hlen : ms.length ≤ 9223372036854775807) :
    Calls Tryd.prog 19 #[.slice A ms.length c] w fun e w' => ∃ b, e = .returned (.pointer (some ⟨b, 0, none⟩)) ∧ St w w' b (loadL ms) := by
  refine (New_any A ms c w hm hf hlen).mono ?_
  rintro e w' ⟨rfl, ro, hs, hfr, hb⟩
  refine ⟨_, rfl, ro, hs, fun k hk => ?_, hb⟩
  rcases hk with rfl | hk
  · exact Nat.le_refl _
  · exact hfr k hk.symm
theorem Rt.new (A : Option Addr) (ms : ML) (c : Nat) (w : World) (hm : MksAt w A ms) (hf : Fits ms) (hlen : ms.length ≤ 9223372036854775807) :
    Calls Tryd.prog 18 #[.slice A ms.length c] w fun e w' => ∃ b, e = .returned (.pointer (some ⟨b, 0, none⟩)) ∧ Rt w w' b (loadL ms) := by
  refine (NewR_any A ms c w hm hf hlen).mono ?_
  rintro e w' ⟨rfl, ro, hs, hfr, hb⟩
  refine ⟨_, rfl, ro, hs, fun k hk => ?_, hb⟩
  rcases hk with rfl | hk
  · exact Nat.le_refl _
  · exact hfr k hk
/-- Since an earlier world, too. -/
theorem St.earlier {w0 w1 w : World} {b : Nat} {l : ML} (h : St w1 w b l) (hb : Below w0.heap.size w0 w1) : St w0 w b l := by
  obtain ⟨ro, h1, h2, h3⟩ := h
  exact ⟨ro, h1, fun k hk => Nat.le_trans hb.size (h2 k hk), hb.trans (h3.mono hb.size)⟩
theorem Rt.earlier {w0 w1 w : World} {b : Nat} {l : ML} (h : Rt w1 w b l) (hb : Below w0.heap.size w0 w1) : Rt w0 w b l := by
  obtain ⟨ro, h1, h2, h3⟩ := h
  exact ⟨ro, h1, fun k hk => Nat.le_trans hb.size (h2 k hk), hb.trans (h3.mono hb.size)⟩
end Go.Proofs.YtdkdnkmfjpdcpaaDoor.Mk
