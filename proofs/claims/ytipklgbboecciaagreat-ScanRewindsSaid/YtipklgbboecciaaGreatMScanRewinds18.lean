/- Part 18 of the proof of ScanRewinds: an abstract machine over plain values, its soundness, and the functions of the program on plain values. -/
import Derived.Test.YtipklgbboecciaaGreatMScanRewinds17
namespace Go.Proofs.YtipklgbboecciaaGreat
set_option maxRecDepth 100000
set_option linter.unusedVariables false
set_option linter.unusedSimpArgs false
open List renaming forall_mem_cons->WcY
section
noncomputable section
theorem zeE:eY (dl rows) 320 zj2:=fm (D:=310) (md:=mdI) (is:=[N8,Yg,zcF,X8,zcd]) (WcY.2 ⟨dj (by decide) OB,WcY.2 ⟨dj (by decide) zaL,WcY.2 ⟨dj (by decide) zd2,WcY.2 ⟨dj (by decide) zbi,WcY.2 ⟨dj (by decide) zdb,List.forall_mem_nil _⟩⟩⟩⟩⟩) 10 (by decide) (by kernel_rfl)
end
end
end Go.Proofs.YtipklgbboecciaaGreat
