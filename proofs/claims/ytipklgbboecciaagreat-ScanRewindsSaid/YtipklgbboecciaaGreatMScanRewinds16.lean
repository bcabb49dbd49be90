/- Part 16 of the proof of ScanRewinds: an abstract machine over plain values, its soundness, and the functions of the program on plain values. -/
import Derived.Test.YtipklgbboecciaaGreatMScanRewinds15
namespace Go.Proofs.YtipklgbboecciaaGreat
set_option maxRecDepth 100000
set_option linter.unusedVariables false
set_option linter.unusedSimpArgs false
open List renaming forall_mem_cons->WcY,forall_mem_nil->WcZ
section
noncomputable section
theorem Ef:eY (dl rows) 10 KJ:=fm (D:=0) (md:=mdI) (is:=[]) (WcZ _) 10 (by decide) (by kernel_rfl)
theorem IY:eY (dl rows) 20 OP:=fm (D:=10) (md:=mdI) (is:=[KJ]) (WcY.2 ⟨dj (by decide) Ef,WcZ _⟩) 10 (by decide) (by kernel_rfl)
theorem Ak:eY (dl rows) 30 HV:=fm (D:=20) (md:=mdI) (is:=[KJ,OP]) (WcY.2 ⟨dj (by decide) Ef,WcY.2 ⟨dj (by decide) IY,WcZ _⟩⟩) 10 (by decide) (by kernel_rfl)
theorem Ns:eY (dl rows) 40 Oe:=fm (D:=30) (md:=mdI) (is:=[HV]) (WcY.2 ⟨dj (by decide) Ak,WcZ _⟩) 10 (by decide) (by kernel_rfl)
theorem Zk:eY (dl rows) 40 Uv:=fm (D:=30) (md:=mdI) (is:=[KJ,OP,HV]) (WcY.2 ⟨dj (by decide) Ef,WcY.2 ⟨dj (by decide) IY,WcY.2 ⟨dj (by decide) Ak,WcZ _⟩⟩⟩) 10 (by decide) (by kernel_rfl)
theorem zdO:eY (dl rows) 10 zcN:=fm (D:=0) (md:=mdI) (is:=[]) (WcZ _) 10 (by decide) (by kernel_rfl)
theorem PW:eY (dl rows) 50 zdv:=fm (D:=40) (md:=mdI) (is:=[LL,KJ,OP,HV]) (WcY.2 ⟨dj (by decide) Jq,WcY.2 ⟨dj (by decide) Ef,WcY.2 ⟨dj (by decide) IY,WcY.2 ⟨dj (by decide) Ak,WcZ _⟩⟩⟩⟩) 10 (by decide) (by kernel_rfl)
theorem zgM:eY (dl rows) 50 zfr:=fm (D:=40) (md:=mdI) (is:=[LL,KJ,OP,HV]) (WcY.2 ⟨dj (by decide) Jq,WcY.2 ⟨dj (by decide) Ef,WcY.2 ⟨dj (by decide) IY,WcY.2 ⟨dj (by decide) Ak,WcZ _⟩⟩⟩⟩) 10 (by decide) (by kernel_rfl)
theorem zbL:eY (dl rows) 40 zbj:=fm (D:=30) (md:=mdI) (is:=[Zr]) (WcY.2 ⟨dj (by decide) RO,WcZ _⟩) 10 (by decide) (by kernel_rfl)
theorem YP:eY (dl rows) 60 zbp:=fm (D:=50) (md:=mdI) (is:=[zfr,zbj]) (WcY.2 ⟨dj (by decide) zgM,WcY.2 ⟨dj (by decide) zbL,WcZ _⟩⟩) 10 (by decide) (by kernel_rfl)
theorem Ui:eY (dl rows) 70 zcl:=fm (D:=60) (md:=mdI) (is:=[HV,Oe,Uv,zcN,zdv,zbp]) (WcY.2 ⟨dj (by decide) Ak,WcY.2 ⟨dj (by decide) Ns,WcY.2 ⟨dj (by decide) Zk,WcY.2 ⟨dj (by decide) zdO,WcY.2 ⟨dj (by decide) PW,WcY.2 ⟨dj (by decide) YP,WcZ _⟩⟩⟩⟩⟩⟩) 10 (by decide) (by kernel_rfl)
theorem zbl:eY (dl rows) 50 zfB:=fm (D:=40) (md:=mdI) (is:=[Zr,zdJ,Pq,Zm,U0,HV,Oe]) (WcY.2 ⟨dj (by decide) RO,WcY.2 ⟨dj (by decide) zas,WcY.2 ⟨dj (by decide) Jb,WcY.2 ⟨dj (by decide) SW,WcY.2 ⟨dj (by decide) LH,WcY.2 ⟨dj (by decide) Ak,WcY.2 ⟨dj (by decide) Ns,WcZ _⟩⟩⟩⟩⟩⟩⟩) 10 (by decide) (by kernel_rfl)
theorem vY:eY (dl rows) 10 Ax:=fm (D:=0) (md:=mdI) (is:=[]) (WcZ _) 10 (by decide) (by kernel_rfl)
theorem zeF:eY (dl rows) 20 zcA:=fm (D:=10) (md:=mdI) (is:=[Ax]) (WcY.2 ⟨dj (by decide) vY,WcZ _⟩) 10 (by decide) (by kernel_rfl)
theorem Py:eY (dl rows) 50 X1:=fm (D:=40) (md:=mdI) (is:=[Dx]) (WcY.2 ⟨dj (by decide) xh,WcZ _⟩) 10 (by decide) (by kernel_rfl)
theorem zdL:eY (dl rows) 80 zjm:=fm (D:=70) (md:=mdI) (is:=[Dx,zcl,zcA]) (WcY.2 ⟨dj (by decide) xh,WcY.2 ⟨dj (by decide) Ui,WcY.2 ⟨dj (by decide) zeF,WcZ _⟩⟩⟩) 10 (by decide) (by kernel_rfl)
theorem vC:eY (dl rows) 60 Et:=fm (D:=50) (md:=mdI) (is:=[zdv]) (WcY.2 ⟨dj (by decide) PW,WcZ _⟩) 10 (by decide) (by kernel_rfl)
theorem Jg:eY (dl rows) 10 Nt:=fm (D:=0) (md:=mdI) (is:=[]) (WcZ _) 10 (by decide) (by kernel_rfl)
theorem zdR:eY (dl rows) 10 ziU:=fm (D:=0) (md:=mdI) (is:=[]) (WcZ _) 10 (by decide) (by kernel_rfl)
theorem Jc:eY (dl rows) 70 Wl:=fm (D:=60) (md:=mdI) (is:=[Ax,Et,Nt]) (WcY.2 ⟨dj (by decide) vY,WcY.2 ⟨dj (by decide) vC,WcY.2 ⟨dj (by decide) Jg,WcZ _⟩⟩⟩) 10 (by decide) (by kernel_rfl)
theorem NG:eY (dl rows) 80 zaM:=fm (D:=70) (md:=mdI) (is:=[Ax,Et,Nt,Wl]) (WcY.2 ⟨dj (by decide) vY,WcY.2 ⟨dj (by decide) vC,WcY.2 ⟨dj (by decide) Jg,WcY.2 ⟨dj (by decide) Jc,WcZ _⟩⟩⟩⟩) 10 (by decide) (by kernel_rfl)
theorem Ya:eY (dl rows) 90 zfA:=fm (D:=80) (md:=mdI) (is:=[Ax,Et,Nt,Wl,zaM]) (WcY.2 ⟨dj (by decide) vY,WcY.2 ⟨dj (by decide) vC,WcY.2 ⟨dj (by decide) Jg,WcY.2 ⟨dj (by decide) Jc,WcY.2 ⟨dj (by decide) NG,WcZ _⟩⟩⟩⟩⟩) 10 (by decide) (by kernel_rfl)
theorem zgy:eY (dl rows) 100 zks:=fm (D:=90) (md:=mdI) (is:=[Ax,Et,Nt,Wl,zaM,zfA]) (WcY.2 ⟨dj (by decide) vY,WcY.2 ⟨dj (by decide) vC,WcY.2 ⟨dj (by decide) Jg,WcY.2 ⟨dj (by decide) Jc,WcY.2 ⟨dj (by decide) NG,WcY.2 ⟨dj (by decide) Ya,WcZ _⟩⟩⟩⟩⟩⟩) 10 (by decide) (by kernel_rfl)
theorem zdn:eY (dl rows) 10 zcn:=fm (D:=0) (md:=mdI) (is:=[]) (WcZ _) 10 (by decide) (by kernel_rfl)
theorem Qh:eY (dl rows) 60 Ko:=fm (D:=50) (md:=mdI) (is:=[zdv,zcn]) (WcY.2 ⟨dj (by decide) PW,WcY.2 ⟨dj (by decide) zdn,WcZ _⟩⟩) 10 (by decide) (by kernel_rfl)
theorem zd2:eY (dl rows) 80 zcF:=fm (D:=70) (md:=mdI) (is:=[zeS,zbp,X1,Ko]) (WcY.2 ⟨dj (by decide) zeL,WcY.2 ⟨dj (by decide) YP,WcY.2 ⟨dj (by decide) Py,WcY.2 ⟨dj (by decide) Qh,WcZ _⟩⟩⟩⟩) 10 (by decide) (by kernel_rfl)
theorem zdb:eY (dl rows) 60 zcd:=fm (D:=50) (md:=mdI) (is:=[UW,U0,Dx]) (WcY.2 ⟨dj (by decide) I0,WcY.2 ⟨dj (by decide) LH,WcY.2 ⟨dj (by decide) xh,WcZ _⟩⟩⟩) 10 (by decide) (by kernel_rfl)
end
end
end Go.Proofs.YtipklgbboecciaaGreat
