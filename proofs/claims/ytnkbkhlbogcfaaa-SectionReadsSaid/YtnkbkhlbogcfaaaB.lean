/- What is kept over calls that only make memory. -/
import Derived.Test.YtnkbkhlbogcfaaaC4
import Derived.Deep.RegionHeld3
set_option linter.unusedVariables false
set_option linter.unusedSimpArgs false
namespace Go.Proofs.Ytnkbkhlbogcfaaa
open Go.RowKit Go.Proofs.YtnkbkhlbogcfaaaW.PrintWords
noncomputable section

/-- nothing that was there at w has turned at w', and what holds at w' of memory holds on -/
structure Inv (w : World) (S : World → Prop) (w' : World) : Prop where
  b : Below w.heap.size w w'
  s : ∀ w'', Below w'.heap.size w' w'' → S w''
theorem Inv.at_ {w w' : World} {S : World → Prop} (h : Inv w S w') : S w' := h.s w' (Below.refl _ _)
theorem Inv.next {w w' w'' : World} {S : World → Prop} (h : Inv w S w') (k : Below w'.heap.size w' w'') : Inv w S w'' :=
  ⟨h.b.trans (k.mono h.b.size), fun w3 k3 => h.s w3 (k.trans (k3.mono k.size))⟩
theorem Inv.drew {w w' : World} {S : World → Prop} (h : Inv w S w') : Inv w S w'.drew := h.next (Below.refl _ _).drew
theorem Inv.of_inv {w w' : World} {S : World → Prop} {f : FuncId} {args : Array Value} {v : Value} (h : Inv w S w')
    (c : Calls Try.prog f args w' fun e w'' => e = .returned v ∧ Below w'.heap.size w' w'') : Calls Try.prog f args w' fun e w'' => e = .returned v ∧ Inv w S w'' :=
  c.mono fun _ _ ⟨he, hb⟩ => ⟨he, h.next hb⟩
end
end Go.Proofs.Ytnkbkhlbogcfaaa
