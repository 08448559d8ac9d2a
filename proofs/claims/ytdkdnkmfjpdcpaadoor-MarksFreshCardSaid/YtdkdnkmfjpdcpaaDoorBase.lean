/-
  General words for the walks of this seat: what a call may change (Chg), and small helpers. No condition.
-/
import Derived.Test.YtdkdnkmfjpdcpaaDoorRows
import Derived.WalkKit
import Derived.ProofKit
import Derived.OpenShut
import Derived.Below
import Derived.LoopTactic
import Derived.Outline
import Derived.Lib.Hide
import Derived.Handy
import Derived.IntWalk
import Derived.Deep.QuietTactic
import Derived.BigQuiet
import Derived.Deep.RegionHeld3
import Derived.Deep.RegionLaw
import Derived.Deep.RegionWith
import Derived.Deep.DeepFit
import Derived.Deep.LoopGhost
import Derived.StillTailTactics
import Derived.Maps.OwnSet
import Derived.WalkSpells
import Derived.WalkLawsBesides
namespace Go.Proofs.YtdkdnkmfjpdcpaaDoor
open Go.RowKit
set_option linter.unusedVariables false
set_option linter.unusedSimpArgs false

/-- What a call may change of what lay before it: the blocks in S, nothing else. -/
structure Chg (S : Nat → Prop) (w w' : World) : Prop where
  os : w'.os = w.os
  tape : w'.tape = w.tape
  output : w'.output = w.output
  size : w.heap.size ≤ w'.heap.size
  block : ∀ k, k < w.heap.size → ¬ S k → w'.heap[k]? = w.heap[k]?

namespace Chg
variable {S T : Nat → Prop} {w w1 w2 : World}
theorem refl (S : Nat → Prop) (w : World) : Chg S w w := ⟨rfl, rfl, rfl, Nat.le_refl _, fun _ _ _ => rfl⟩
theorem trans (h : Chg S w w1) (k : Chg T w1 w2) (hT : ∀ x, x < w.heap.size → T x → S x) : Chg S w w2 :=
  ⟨k.os.trans h.os, k.tape.trans h.tape, k.output.trans h.output, Nat.le_trans h.size k.size, fun x hx hn => (k.block x (Nat.lt_of_lt_of_le hx h.size) (fun ht => hn (hT x hx ht))).trans (h.block x hx hn)⟩
theorem mono (h : Chg S w w1) (hT : ∀ x, S x → T x) : Chg T w w1 := ⟨h.os, h.tape, h.output, h.size, fun x hx hn => h.block x hx (fun hs => hn (hT x hs))⟩
theorem of_below (h : Below w.heap.size w w1) : Chg S w w1 := ⟨h.os, h.tape, h.output, h.size, fun x hx _ => h.block x hx⟩
theorem below (h : Chg (fun _ => False) w w1) : Below w.heap.size w w1 := ⟨h.os, h.tape, h.output, h.size, fun x hx => h.block x hx (fun f => f)⟩
theorem below_le {B : Nat} (h : Chg S w w1) (hB : B ≤ w.heap.size) (hS : ∀ x, S x → B ≤ x) : Below B w w1 := ⟨h.os, h.tape, h.output, h.size, fun x hx => h.block x (Nat.lt_of_lt_of_le hx hB) (fun hs => by have := hS x hs; omega)⟩
theorem then_below (h : Chg S w w1) (k : Below w1.heap.size w1 w2) : Chg S w w2 := h.trans (of_below (S := fun _ => False) k) (fun _ _ f => f.elim)
theorem of_grown {row : Option Nat} (h : w.grownBy w1 row) : Chg (fun k => some k = row) w w1 := ⟨h.os, h.tape, h.output, h.size, fun x hx hn => h.block x hx hn⟩
theorem set (w : World) (p : Addr) (u : Value) : Chg (fun k => k = p.block) w (w.setCell p u) := ⟨rfl, rfl, rfl, by simp [World.setCell], fun k _ hn => Below.heap_setCell w p u k hn⟩
theorem alloc (w : World) (o : Obj) : Chg S w (w.alloc o) := of_below ((Below.refl _ w).alloc (Nat.le_refl _) o)
theorem cell (h : Chg S w w1) {p : Addr} (hp : p.block < w.heap.size) (hS : ¬ S p.block) : w1.cell? p = w.cell? p := World.cell?_of_block (w := w) (h.block p.block hp hS)
theorem frozen (h : Chg S w w1) {p : Addr} (hp : p.block < w.heap.size) (hS : ¬ S p.block) : w1.frozen? p = w.frozen? p := World.frozen?_of_block (w := w) (h.block p.block hp hS)
end Chg

end Go.Proofs.YtdkdnkmfjpdcpaaDoor
