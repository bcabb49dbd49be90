/- Part 18 of the proof of ScanNext: an abstract machine over plain values, its soundness, and the functions of the program on plain values. -/
import Derived.Test.YtipklgbboecciaaGreatMScanNext17
namespace Go.Proofs.YtipklgbboecciaaGreat
set_option maxRecDepth 100000
set_option linter.unusedVariables false
set_option linter.unusedSimpArgs false
open List renaming forall_mem_cons->Wdb
section
noncomputable section
theorem YZ:d9 (cN rows) 320 zeM:=eH (D:=310) (md:=mdI) (is:=[J5,TI,Yh,Ug,XO]) (Wdb.2 ⟨cH (by decide) KZ,Wdb.2 ⟨cH (by decide) VK,Wdb.2 ⟨cH (by decide) Zt,Wdb.2 ⟨cH (by decide) Ws,Wdb.2 ⟨cH (by decide) Y5,List.forall_mem_nil _⟩⟩⟩⟩⟩) 10 (by decide) (by kernel_rfl)
end
end
end Go.Proofs.YtipklgbboecciaaGreat
