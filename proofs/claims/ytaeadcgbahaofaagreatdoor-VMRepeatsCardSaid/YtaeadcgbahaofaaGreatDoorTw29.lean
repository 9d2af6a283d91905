/- The machines that run the program, closed and with open leaves: what they answer is so. -/
import Derived.Test.YtaeadcgbahaofaaGreatDoorTw28
import Derived.Lib.Bytealg
section
namespace Go.Tw

/-! ## Functions without a body -/

theorem run_extern {P : Program} {f : FuncId} {fn : Func} {e : Array Value → Sem Value} (hf : P.funcs[f]? = some fn) (hb : fn.body.isNone = true) (hn : (fn.name == "runtime.NumGoroutine") = false) (h1 : (Extern.findNext fn).isNone = true) (h2 : Extern.find fn = some e)
    {args : Array Value} {w : World} {u : Value} (h : (e args).run P w = .ok u w) : (callFunc f args).run P w = .ok (.value u) w := by
  have h1' : Extern.findNext fn = none := by simpa using h1
  have hb' : fn.body = none := by simpa using hb
  have hn' : ¬ fn.name = "runtime.NumGoroutine" := by simpa using hn
  simp [callFunc, hf, hb', hn', h1', h2, h]

theorem natP_indexByte {P : Program} {f : FuncId} {fn : Func} (hf : P.funcs[f]? = some fn) (hb : fn.body.isNone = true) (hn : (fn.name == "runtime.NumGoroutine") = false) (h1 : (Extern.findNext fn).isNone = true) (h2 : Extern.find fn = some Extern.BytealgIndexByte.indexByte) (s : List UInt8) (c : Int) :
    NatP P f [.str s, .int .u8 c] (.int .i64 (Lib.indexByte s c.toNat.toUInt8)) := by
  refine ⟨rfl, fun X ρ w vs hv => ?_⟩
  simp only [VRs, VR] at hv
  obtain ⟨v1, vs1, rfl, rfl, v2, vs2, rfl, rfl, rfl⟩ := hv
  refine ⟨.int .i64 (Lib.indexByte s c.toNat.toUInt8), run_extern hf hb hn h1 h2 ?_, by simp only [VR]⟩
  have := Lib.run_indexByteString (P := P) ⟨s.toArray⟩ c w
  simpa using this

end Go.Tw
end
