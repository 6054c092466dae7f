/- The run of 'munimentlaw10.SpaceBare' ahead of its argument. -/
import Derived.Test.YtdllelamfamfcaaGreatAmCut
import Derived.ProofKit
namespace Go.Proofs.YtdllelamfamfcaaGreat.SpaceBareRun.A
open Go Go.Proofs.YtdllelamfamfcaaGreat.Am

noncomputable def Abody : Code := (Tryz.f5.body).getD .skip
noncomputable def AS0h : Am.H := ⟨0, .lf⟩
noncomputable def AS0 (a : Int) : Am.St := ⟨(.nd .lf (some (.int .i64 a)) .lf), 151, AS0h⟩
noncomputable def AEndh : Am.H := ⟨602, .lf⟩
noncomputable def AEnd (a : Int) : Am.St := ⟨(.nd (.nd (.nd .lf none (.nd (.nd .lf (some (.bool false)) .lf) none .lf)) none .lf) (some (.int .i64 a)) (.nd .lf (some (.bool false)) (.nd (.nd (.nd .lf (some (.bool true)) .lf) none .lf) none .lf))), 151, AEndh⟩
set_option maxRecDepth 10000000 in
set_option maxHeartbeats 0 in
theorem At1 (a : Int) : gcO [] (runK C₂ 100000 Abody 8 [.c []] (AS0 a)) = some (.go [.c [1, 1, 0], .c [1, 1, 1]] (AEnd a)) := by kernel_rfl
theorem At1o (a : Int) {ex : Ex} {s' : Am.St} (h : LOkE Tryz.prog Abody [.c [1, 1, 0], .c [1, 1, 1]] .normal (AEnd a) ex s') : LOkE Tryz.prog Abody [.c []] .normal (AS0 a) ex s' := cutGo (C := C₂) mixed told₂_ok (At1 a) h

end Go.Proofs.YtdllelamfamfcaaGreat.SpaceBareRun.A
