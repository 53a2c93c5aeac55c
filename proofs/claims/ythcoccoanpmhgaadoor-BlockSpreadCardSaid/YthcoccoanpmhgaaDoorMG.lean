/- What a call is shown to tell, of slices. -/
import Derived.Test.YthcoccoanpmhgaaDoorLib
import Derived.Test.YthcoccoanpmhgaaDoorReg
namespace Go.Proofs.YthcoccoanpmhgaaDoor
open Go.RowKit
def MG.sl {α : Type} (d : Kd α) (hs : 0 < d.sz) (O : Nat → Prop) (xs : List α) : MG :=
  ⟨{ G := fun v w => Sl d w O v xs, ok := fun v => ∃ A n c, v = .slice A n c, imp := fun v w h => (by obtain ⟨A, c, rfl, _, _⟩ := h.val; exact ⟨_, _, _, rfl⟩), x0 := .slice none 0 0, hx0 := ⟨_, _, _, rfl⟩ },
    fun v w w' hb h => h.keep hs (keeps_of hb _)⟩
/-- Just this value. -/
theorem wpL_val {P : Program} {w0 : World} {ops : Array Oper} {plan : Plan} {F : Act → World → Prop} {k : Nat} {R : List Oper} {a : Act} {kn : List (Nat × (World → Prop))} {o : Oper} {u : Value}
    (hw : Region.wanted o (yielded ops a.tmps) = true) (hp : plan k = some (MG.val u).pg)
    (h1 : ∀ w, Bel w0 w → (∀ p ∈ kn, anc ops k p.1 = true → p.2 w) → StepOk P (execOp a.eval o) w fun v w' => v = u ∧ Bel w w')
    (h2 : wpL P w0 ops plan F (k + 1) R (a.put o.dst u) ((k, (MG.val u).pg.G u) :: kn)) : wpL P w0 ops plan F k (o :: R) a kn :=
  wpL_fact hw hp (fun w hE hK => by
    have := h1 w hE hK
    unfold StepOk at this ⊢
    generalize (execOp a.eval o).run P w = r at *
    cases r with
    | ok n w' =>
      cases n <;> simp only at this ⊢
      case value v => exact ⟨this.2, this.1⟩
      case skip => exact ⟨this.2, this.1⟩
      case enter f args => exact this.mono fun e w'' he => by cases e <;> first | exact ⟨he.2, he.1⟩ | exact he
      case row row args => exact this.mono fun v w'' he => ⟨he.2, he.1⟩
    | halt x w' => exact this) (fun x hx => by
    have hx' : x = u := hx
    subst hx'
    exact h2)
end Go.Proofs.YthcoccoanpmhgaaDoor
