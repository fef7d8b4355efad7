/- What the statements' lists of variables give to the walks. -/
import Derived.Test.YtbigllcononkbaaDoorQ0
import Derived.Stop.LaidErr
namespace Go.Proofs.YtbigllcononkbaaDoor
open Go Go.ChangeShapes Go.WideShapes Go.ChangeAt Go.RowKit

theorem tab_of {W : World} (hL : laidMet Tryd.prog laidL W) {n : String} {k : IntKind} {zs : List Int} {g : Nat} {t e : TypeId} {m : Nat} (hm : (n, Lib.tabData k zs) ∈ laidL)
    (hg : Tryd.prog.globalNamed n = some g) (hty : (Tryd.prog.globals[g]?).map (·.type) = some t) (ht : Tryd.prog.underlying t = some (.array m e)) (he : Tryd.prog.underlying e = some (.int k)) (hce : Tryd.prog.cellsOf e = 1) (hct : Tryd.prog.cellsOf t = m) :
    Lib.TabIs Tryd.prog W n k zs := by
  obtain ⟨g', t', cs, fuel, p, hg', ht', hv, hd⟩ := Lib.laidMet.reads hL hm
  obtain rfl := Option.some.inj (hg.symm.trans hg')
  obtain rfl := Option.some.inj (hty.symm.trans ht')
  unfold Lib.TabIs
  rw [hv, ← Lib.cells_of_tab ht he hce hct hd]
theorem star : "*" ++ "errors.errorString" = "*errors.errorString" := by decide
theorem rowErr (u : TypeId) (h : Tryd.prog.typeName? 3 u = some "*errors.errorString") : u = 177 :=
  typeName_ptr_named (nm := "errors.errorString") (by rw [star]; kernel_rfl) (by kernel_rfl) (by decide) u (by rw [star]; exact h)
theorem gShapes : Tryd.prog.globalNamed "carousel/code.shapes" = some 1 := by kernel_rfl
set_option maxRecDepth 100000 in
/-- What the list gives. -/
theorem env_of (W : World) (hL : laidMetH Tryd.prog laidL W) (hS : W.ShapedOpen Tryd.prog) : Env W := by
  have hL' : laidMet Tryd.prog laidL W := hL
  have h8 : Tryd.prog.cellsOf 5 = 1 := by kernel_rfl
  have h64 : Tryd.prog.cellsOf 103 = 1 := by kernel_rfl
  have hsh : Lib.TabIs Tryd.prog W "carousel/code.shapes" .u8 (shapeTab.map fun (z : Nat) => (z : Int)) :=
    tab_of hL' (.tail _ (.tail _ (.tail _ (.tail _ (.head _))))) gShapes (by kernel_rfl) Tryd.underlying100 Tryd.underlying5 h8 (by kernel_rfl)
  refine ⟨?_, ?_, ?_, ?_, ?_, ?_, ?_⟩
  · obtain ⟨cs, h1, _⟩ := hS.1 11 #[.pointer none] 115 (of_decide_eq_true (by kernel_rfl)) (by kernel_rfl)
    exact (Array.getElem?_eq_some_iff.1 h1).1
  · intro c hc
    have := hsh.cell gShapes c (by simp [shapeTab]; omega)
    rw [this]
    simp only [List.getD_eq_getElem?_getD, List.getElem?_map, shapeN]
    have h41 : c < shapeTab.length := by simp [shapeTab]; omega
    simp [List.getElem?_eq_getElem h41]
  · exact cell_of_shapedOpen_int (P := Tryd.prog) (g := 4) (t := 3) (zero := #[.int .i64 0]) hS (of_decide_eq_true (by kernel_rfl)) (by kernel_rfl) rfl (by kernel_rfl) (by kernel_rfl) Tryd.underlying3
  · exact tab_of hL' (.tail _ (.tail _ (.head _))) gPow (by kernel_rfl) Tryd.underlying145 Tryd.underlying103 h64 (by kernel_rfl)
  · exact tab_of hL' (.tail _ (.tail _ (.tail _ (.tail _ (.tail _ (.tail _ (.tail _ (.tail _ (.head _))))))))) gAsc (by kernel_rfl) Tryd.underlying88 Tryd.underlying5 h8 (by kernel_rfl)
  · obtain ⟨a, s, h, _⟩ := laid_sentinel (ts := 9) (hL'.tail.tail.tail.tail.tail.tail) gSyn (by kernel_rfl) Tryd.underlying45 rowErr Tryd.underlying177 Tryd.underlying179 rfl rfl Tryd.underlying9 (by kernel_rfl) (by kernel_rfl)
    exact ⟨_, _, h⟩
  · obtain ⟨a, s, h, _⟩ := laid_sentinel (ts := 9) (hL'.tail.tail.tail.tail.tail) gRan (by kernel_rfl) Tryd.underlying45 rowErr Tryd.underlying177 Tryd.underlying179 rfl rfl Tryd.underlying9 (by kernel_rfl) (by kernel_rfl)
    exact ⟨_, _, h⟩
end Go.Proofs.YtbigllcononkbaaDoor
