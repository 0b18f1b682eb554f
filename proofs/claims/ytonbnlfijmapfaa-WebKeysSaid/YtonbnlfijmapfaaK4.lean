/- Small laws: a call that only reads, behind draws. No condition. -/
import Derived.Test.YtonbnlfijmapfaaK3
namespace Go.Proofs.Ytonbnlfijmapfaa
open Go.RowKit Go.Shelf Go.Proofs.YtonbnlfijmapfaaW.PrintWords
set_option linter.unusedVariables false
set_option linter.unusedSimpArgs false

/-- A contract that leaves the world alone, behind draws that were joined. -/
theorem quiet_joined {P : Program} {f : FuncId} {args : Array Value} {w : World} {a n : Nat} {v : Value} (c : ∀ W : World, Calls P f args W fun e w' => e = .returned v ∧ W = w') :
    Calls P f args (w.drewN (a + n)) fun e w'' => e = .returned v ∧ ∃ m, w'' = w.drewN (a + m) :=
  (c _).mono fun _ _ ⟨he, hm⟩ => ⟨he, n, hm.symm⟩
theorem quiet_once {P : Program} {f : FuncId} {args : Array Value} {w : World} {n : Nat} {v : Value} (c : ∀ W : World, Calls P f args W fun e w' => e = .returned v ∧ W = w') :
    Calls P f args (w.drewN n) fun e w'' => e = .returned v ∧ ∃ m, w'' = w.drewN m :=
  (c _).mono fun _ _ ⟨he, hm⟩ => ⟨he, n, hm.symm⟩
theorem R_box1g {W : World} {base : Nat} {T g : Nat} (hg : g = W.heap.size) (x : Int) (k : IntKind) (hb : base ≤ W.heap.size) : (Kd.int k).R T (W.alloc (.cells #[.int k x] T)) base (fun _ => True) (.slice (some ⟨g, 0, none⟩) 1 1) [x] := by
  subst hg; exact R_box1 x k hb
/-- In the midst of a region: from here on more is kept. -/
theorem wpAnyH_stronger {P : Program} {md : Region.Mode} {ops : Array Oper} {Q : Exit → Act → World → Prop} {S S2 : World → Prop} (hS : ∀ w, S2 w → S w) :
    ∀ (fuel : Nat) (listed : Array Bool) (a : Act) (w : World), wpAnyH P md ops Q S2 fuel listed a w → wpAnyH P md ops Q S fuel listed a w
  | 0, _, _, _, h => h
  | fuel + 1, _, _, _, h => ⟨h.1, fun i hi => wpOp_mono (fun a' w' h' => ⟨hS _ h'.1, wpAnyH_stronger hS fuel _ a' w' h'.2⟩) (h.2 i hi)⟩
end Go.Proofs.Ytonbnlfijmapfaa
