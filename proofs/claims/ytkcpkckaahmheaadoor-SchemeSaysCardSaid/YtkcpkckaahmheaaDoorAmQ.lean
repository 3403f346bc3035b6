/- Functions of the library that the abstract machine takes whole. -/
import Derived.Test.YtkcpkckaahmheaaDoorAmX
import Derived.Lib.Bytealg
import Derived.Laws.Externs
namespace Go.Am

/-- What compares two strings. -/
def cmpP : List V → Option V
  | [.str a, .str b] => some (.int .i64 (Lib.compareBytes a b))
  | _ => none

theorem cmpP_ok {P : Program} {f : Nat} {fn : Func} (hf : P.funcs[f]? = some fn) (hname : (fn.name == "runtime.NumGoroutine") = false)
    (hb : fn.body.isNone = true) (hn : Extern.findNext fn = none) (he : Extern.find fn = some Extern.BytealgCompare.compare) : PrimOk P f cmpP := by
  intro args v hp γ w h cargs hh hargs
  obtain ⟨h1, h2, h3⟩ := hargs
  unfold cmpP at hp
  split at hp
  · rename_i a b
    cases hp
    obtain ⟨l⟩ := cargs
    match l, h1 with
    | [x, y], _ =>
      have hx := h3 0 _ x rfl rfl
      have hy := h3 1 _ y rfl rfl
      cases hx with
      | str _ ba ha =>
        cases hy with
        | str _ bb hb' =>
          subst ha; subst hb'
          refine .inr ⟨_, w, ?_, γ, .int _ _, hh, Ev.refl _ _⟩
          rw [run_callFunc_extern hf hname hb hn he]
          show ((Extern.BytealgCompare.compare #[.string ba, .string bb]).run P w).andThen _ = _
          rw [Lib.run_compareString]
          rfl
  · cases hp

end Go.Am
