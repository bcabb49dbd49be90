/- Part 15 of the proof of ScanRewinds: an abstract machine over plain values, its soundness, and the functions of the program on plain values. -/
import Derived.Test.YtipklgbboecciaaGreatMScanRewinds14
namespace Go.Proofs.YtipklgbboecciaaGreat
set_option maxRecDepth 100000
set_option linter.unusedVariables false
set_option linter.unusedSimpArgs false
open List renaming forall_mem_cons->WcY,forall_mem_nil->WcZ
section
noncomputable section
theorem YT:eY (dl rows) 10 Vt:=fm (D:=0) (md:=mdI) (is:=[]) (WcZ _) 10 (by decide) (by kernel_rfl)
theorem Y3:eY (dl rows) 20 UU:=fm (D:=10) (md:=mdI) (is:=[Vt]) (WcY.2 ⟨dj (by decide) YT,WcZ _⟩) 10 (by decide) (by kernel_rfl)
theorem RO:eY (dl rows) 30 Zr:=fm (D:=20) (md:=mdI) (is:=[ziK,UU]) (WcY.2 ⟨dj (by decide) zhN,WcY.2 ⟨dj (by decide) Y3,WcZ _⟩⟩) 10 (by decide) (by kernel_rfl)
theorem Jq:eY (dl rows) 40 LL:=fm (D:=30) (md:=mdI) (is:=[Zr]) (WcY.2 ⟨dj (by decide) RO,WcZ _⟩) 10 (by decide) (by kernel_rfl)
theorem I0:eY (dl rows) 50 UW:=fm (D:=40) (md:=mdI) (is:=[LL]) (WcY.2 ⟨dj (by decide) Jq,WcZ _⟩) 10 (by decide) (by kernel_rfl)
theorem zas:eY (dl rows) 10 zdJ:=fm (D:=0) (md:=mdI) (is:=[]) (WcZ _) 10 (by decide) (by kernel_rfl)
theorem Jb:eY (dl rows) 10 Pq:=fm (D:=0) (md:=mdI) (is:=[]) (WcZ _) 10 (by decide) (by kernel_rfl)
theorem SW:eY (dl rows) 20 Zm:=fm (D:=10) (md:=mdI) (is:=[Pq]) (WcY.2 ⟨dj (by decide) Jb,WcZ _⟩) 10 (by decide) (by kernel_rfl)
theorem LH:eY (dl rows) 10 U0:=fm (D:=0) (md:=mdI) (is:=[]) (WcZ _) 10 (by decide) (by kernel_rfl)
theorem zaH:eY (dl rows) 10 zdc:=fm (D:=0) (md:=mdI) (is:=[]) (WcZ _) 10 (by decide) (by kernel_rfl)
theorem Jn:eY (dl rows) 30 Ml:=fm (D:=20) (md:=mdI) (is:=[Pq,Zm,U0,zdc]) (WcY.2 ⟨dj (by decide) Jb,WcY.2 ⟨dj (by decide) SW,WcY.2 ⟨dj (by decide) LH,WcY.2 ⟨dj (by decide) zaH,WcZ _⟩⟩⟩⟩) 10 (by decide) (by kernel_rfl)
theorem ZL:eY (dl rows) 30 Yq:=fm (D:=20) (md:=mdI) (is:=[Pq,Zm,U0,zdc]) (WcY.2 ⟨dj (by decide) Jb,WcY.2 ⟨dj (by decide) SW,WcY.2 ⟨dj (by decide) LH,WcY.2 ⟨dj (by decide) zaH,WcZ _⟩⟩⟩⟩) 10 (by decide) (by kernel_rfl)
theorem U6:eY (dl rows) 40 Xz:=fm (D:=30) (md:=mdI) (is:=[Ml]) (WcY.2 ⟨dj (by decide) Jn,WcZ _⟩) 10 (by decide) (by kernel_rfl)
theorem xh:eY (dl rows) 40 Dx:=fm (D:=30) (md:=mdI) (is:=[Ml]) (WcY.2 ⟨dj (by decide) Jn,WcZ _⟩) 10 (by decide) (by kernel_rfl)
theorem Rm:eY (dl rows) 10 Sr:=fm (D:=0) (md:=mdI) (is:=[]) (WcZ _) 10 (by decide) (by kernel_rfl)
theorem zbF:eY (dl rows) 50 ZF:=fm (D:=40) (md:=mdI) (is:=[zdJ,Ml,Yq,Dx]) (WcY.2 ⟨dj (by decide) zas,WcY.2 ⟨dj (by decide) Jn,WcY.2 ⟨dj (by decide) ZL,WcY.2 ⟨dj (by decide) xh,WcZ _⟩⟩⟩⟩) 10 (by decide) (by kernel_rfl)
theorem XV:eY (dl rows) 60 zaZ:=fm (D:=50) (md:=mdI) (is:=[Dx,ZF]) (WcY.2 ⟨dj (by decide) xh,WcY.2 ⟨dj (by decide) zbF,WcZ _⟩⟩) 10 (by decide) (by kernel_rfl)
theorem zeL:eY (dl rows) 70 zeS:=fm (D:=60) (md:=mdI) (is:=[UW,Xz,Sr,zaZ]) (WcY.2 ⟨dj (by decide) I0,WcY.2 ⟨dj (by decide) U6,WcY.2 ⟨dj (by decide) Rm,WcY.2 ⟨dj (by decide) XV,WcZ _⟩⟩⟩⟩) 10 (by decide) (by kernel_rfl)
theorem OB:eY (dl rows) 60 N8:=fm (D:=50) (md:=mdI) (is:=[UW,Dx]) (WcY.2 ⟨dj (by decide) I0,WcY.2 ⟨dj (by decide) xh,WcZ _⟩⟩) 10 (by decide) (by kernel_rfl)
theorem zaL:eY (dl rows) 70 Yg:=fm (D:=60) (md:=mdI) (is:=[Xz,Sr,zaZ,N8]) (WcY.2 ⟨dj (by decide) U6,WcY.2 ⟨dj (by decide) Rm,WcY.2 ⟨dj (by decide) XV,WcY.2 ⟨dj (by decide) OB,WcZ _⟩⟩⟩⟩) 10 (by decide) (by kernel_rfl)
end
end
end Go.Proofs.YtipklgbboecciaaGreat
