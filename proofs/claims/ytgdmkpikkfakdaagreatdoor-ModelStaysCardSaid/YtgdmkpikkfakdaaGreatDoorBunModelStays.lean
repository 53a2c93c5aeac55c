/- The law ModelStays. -/
import Derived.Test.YtgdmkpikkfakdaaGreatDoorBunModel6
namespace Go.Proofs.YtgdmkpikkfakdaaGreatDoor
open Go.RowKit
set_option maxRecDepth 100000
set_option linter.unusedVariables false
set_option linter.unusedSimpArgs false
set_option linter.unusedSectionVars false
section
attribute [local irreducible] zA AO zt zo ADr AL AW zF zh zU Tells APure ACall
theorem mstays_law (s:MSt) (o:MOp) (hs:FOk s) (hk:o.keys.length≤9223372036854775807):APure Tryz.prog 5 [stA s,opA o] (.lit (.bool true)) []:=by
 refine ent Tryz.func5 Tryz.ntmps5 ⟨?_⟩;refine gcg QY QV ⟨?_⟩;refine cal Hh (zao s hs) ⟨?_⟩;cases h1:U_ s
 ·exact gf
 refine gc P_ (P0 o hk) ⟨?_⟩;cases h2:W4 o
 ·exact gf
 have hok:=zal h1;have hks:=VG h2;refine gc vu (vO s hok) ⟨?_⟩;cases h3:Zd s
 ·exact gf
 have hsn:=YQ s o
 have hal:=qt s o;have hd:=Jj s o hok hks;have herr:=zg5 s o;have hq:=G4 s o;rw [Xw h3] at herr hq;generalize mDo s o=p at*;obtain ⟨u,a⟩:=p;simp only at hsn hal hd herr hq;have hsame:=PS u s (Zj hsn).1 (uE h3);have hu:=vO u (Zj hsn).1;rw [hsn] at hu;refine gcg Xx hd ⟨?_⟩;refine cg vu hu ⟨?_⟩;by_cases he:a.e=0
 ·rw [bne_eq_false_iff_eq.2 he];by_cases h9:9≤o.what
  ·by_cases h15:o.what≤15
   ·obtain rfl:=hq ⟨h9,h15⟩;refine go ⟨?_⟩;rw [beq_iff_eq.2 he];exact gcgf qG (XJ u hsn)
   ·refine go ⟨?_⟩;rw [beq_iff_eq.2 he];exact gf
  ·refine go ⟨?_⟩;rw [beq_iff_eq.2 he];exact gf
 ·obtain ⟨ha,rfl⟩:=herr he;generalize a.e=e at ha he;subst ha;have hsa:=XK (zu e) (Nat.zero_le _);rw [bne_iff_ne.2 he];by_cases h9:9≤o.what
  ·by_cases h15:o.what≤15
   ·skip
    refine gcg wD hsa ⟨?_⟩;rw [beq_eq_false_iff_ne.2 he];exact gcgf qG (XJ u hsn)
   ·skip
    refine gcg wD hsa ⟨?_⟩;rw [beq_eq_false_iff_ne.2 he];exact gcgf qG (XJ u hsn)
  ·skip
   refine gcg wD hsa ⟨?_⟩;rw [beq_eq_false_iff_ne.2 he];exact gcgf qG (XJ u hsn)
end
end Go.Proofs.YtgdmkpikkfakdaaGreatDoor
