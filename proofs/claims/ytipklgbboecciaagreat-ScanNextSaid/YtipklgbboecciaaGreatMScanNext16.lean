/- Part 16 of the proof of ScanNext: an abstract machine over plain values, its soundness, and the functions of the program on plain values. -/
import Derived.Test.YtipklgbboecciaaGreatMScanNext15
namespace Go.Proofs.YtipklgbboecciaaGreat
set_option maxRecDepth 100000
set_option linter.unusedVariables false
set_option linter.unusedSimpArgs false
open List renaming forall_mem_cons->Wdb,forall_mem_nil->Wdc
section
noncomputable section
theorem AQ:d9 (cN rows) 10 Hd:=eH (D:=0) (md:=mdI) (is:=[]) (Wdc _) 10 (by decide) (by kernel_rfl)
theorem Fj:d9 (cN rows) 20 Ku:=eH (D:=10) (md:=mdI) (is:=[Hd]) (Wdb.2 ⟨cH (by decide) AQ,Wdc _⟩) 10 (by decide) (by kernel_rfl)
theorem w5:d9 (cN rows) 30 C3:=eH (D:=20) (md:=mdI) (is:=[Hd,Ku]) (Wdb.2 ⟨cH (by decide) AQ,Wdb.2 ⟨cH (by decide) Fj,Wdc _⟩⟩) 10 (by decide) (by kernel_rfl)
theorem JA:d9 (cN rows) 40 JY:=eH (D:=30) (md:=mdI) (is:=[C3]) (Wdb.2 ⟨cH (by decide) w5,Wdc _⟩) 10 (by decide) (by kernel_rfl)
theorem UT:d9 (cN rows) 40 Rg:=eH (D:=30) (md:=mdI) (is:=[Hd,Ku,C3]) (Wdb.2 ⟨cH (by decide) AQ,Wdb.2 ⟨cH (by decide) Fj,Wdb.2 ⟨cH (by decide) w5,Wdc _⟩⟩⟩) 10 (by decide) (by kernel_rfl)
theorem ZN:d9 (cN rows) 10 X0:=eH (D:=0) (md:=mdI) (is:=[]) (Wdc _) 10 (by decide) (by kernel_rfl)
theorem Lx:d9 (cN rows) 50 Zc:=eH (D:=40) (md:=mdI) (is:=[Iw,Hd,Ku,C3]) (Wdb.2 ⟨cH (by decide) Gb,Wdb.2 ⟨cH (by decide) AQ,Wdb.2 ⟨cH (by decide) Fj,Wdb.2 ⟨cH (by decide) w5,Wdc _⟩⟩⟩⟩) 10 (by decide) (by kernel_rfl)
theorem zbG:d9 (cN rows) 50 zbN:=eH (D:=40) (md:=mdI) (is:=[Iw,Hd,Ku,C3]) (Wdb.2 ⟨cH (by decide) Gb,Wdb.2 ⟨cH (by decide) AQ,Wdb.2 ⟨cH (by decide) Fj,Wdb.2 ⟨cH (by decide) w5,Wdc _⟩⟩⟩⟩) 10 (by decide) (by kernel_rfl)
theorem XG:d9 (cN rows) 40 VD:=eH (D:=30) (md:=mdI) (is:=[Vc]) (Wdb.2 ⟨cH (by decide) Oh,Wdc _⟩) 10 (by decide) (by kernel_rfl)
theorem TF:d9 (cN rows) 60 Wh:=eH (D:=50) (md:=mdI) (is:=[zbN,VD]) (Wdb.2 ⟨cH (by decide) zbG,Wdb.2 ⟨cH (by decide) XG,Wdc _⟩⟩) 10 (by decide) (by kernel_rfl)
theorem QC:d9 (cN rows) 70 YK:=eH (D:=60) (md:=mdI) (is:=[C3,JY,Rg,X0,Zc,Wh]) (Wdb.2 ⟨cH (by decide) w5,Wdb.2 ⟨cH (by decide) JA,Wdb.2 ⟨cH (by decide) UT,Wdb.2 ⟨cH (by decide) ZN,Wdb.2 ⟨cH (by decide) Lx,Wdb.2 ⟨cH (by decide) TF,Wdc _⟩⟩⟩⟩⟩⟩) 10 (by decide) (by kernel_rfl)
theorem VL:d9 (cN rows) 50 zbm:=eH (D:=40) (md:=mdI) (is:=[Vc,ZV,Ld,U0,Ph,C3,JY]) (Wdb.2 ⟨cH (by decide) Oh,Wdb.2 ⟨cH (by decide) WW,Wdb.2 ⟨cH (by decide) Fc,Wdb.2 ⟨cH (by decide) OD,Wdb.2 ⟨cH (by decide) Iq,Wdb.2 ⟨cH (by decide) w5,Wdb.2 ⟨cH (by decide) JA,Wdc _⟩⟩⟩⟩⟩⟩⟩) 10 (by decide) (by kernel_rfl)
theorem tJ:d9 (cN rows) 10 xm:=eH (D:=0) (md:=mdI) (is:=[]) (Wdc _) 10 (by decide) (by kernel_rfl)
theorem ZM:d9 (cN rows) 20 YG:=eH (D:=10) (md:=mdI) (is:=[xm]) (Wdb.2 ⟨cH (by decide) tJ,Wdc _⟩) 10 (by decide) (by kernel_rfl)
theorem K4:d9 (cN rows) 50 Uf:=eH (D:=40) (md:=mdI) (is:=[zB]) (Wdb.2 ⟨cH (by decide) tX,Wdc _⟩) 10 (by decide) (by kernel_rfl)
theorem Zz:d9 (cN rows) 80 zeH:=eH (D:=70) (md:=mdI) (is:=[zB,YK,YG]) (Wdb.2 ⟨cH (by decide) tX,Wdb.2 ⟨cH (by decide) QC,Wdb.2 ⟨cH (by decide) ZM,Wdc _⟩⟩⟩) 10 (by decide) (by kernel_rfl)
theorem s8:d9 (cN rows) 60 Bm:=eH (D:=50) (md:=mdI) (is:=[Zc]) (Wdb.2 ⟨cH (by decide) Lx,Wdc _⟩) 10 (by decide) (by kernel_rfl)
theorem Fi:d9 (cN rows) 10 Jw:=eH (D:=0) (md:=mdI) (is:=[]) (Wdc _) 10 (by decide) (by kernel_rfl)
theorem Y0:d9 (cN rows) 10 zft:=eH (D:=0) (md:=mdI) (is:=[]) (Wdc _) 10 (by decide) (by kernel_rfl)
theorem Ev:d9 (cN rows) 70 RG:=eH (D:=60) (md:=mdI) (is:=[xm,Bm,Jw]) (Wdb.2 ⟨cH (by decide) tJ,Wdb.2 ⟨cH (by decide) s8,Wdb.2 ⟨cH (by decide) Fi,Wdc _⟩⟩⟩) 10 (by decide) (by kernel_rfl)
theorem KY:d9 (cN rows) 80 Wp:=eH (D:=70) (md:=mdI) (is:=[xm,Bm,Jw,RG]) (Wdb.2 ⟨cH (by decide) tJ,Wdb.2 ⟨cH (by decide) s8,Wdb.2 ⟨cH (by decide) Fi,Wdb.2 ⟨cH (by decide) Ev,Wdc _⟩⟩⟩⟩) 10 (by decide) (by kernel_rfl)
theorem Uo:d9 (cN rows) 90 zam:=eH (D:=80) (md:=mdI) (is:=[xm,Bm,Jw,RG,Wp]) (Wdb.2 ⟨cH (by decide) tJ,Wdb.2 ⟨cH (by decide) s8,Wdb.2 ⟨cH (by decide) Fi,Wdb.2 ⟨cH (by decide) Ev,Wdb.2 ⟨cH (by decide) KY,Wdc _⟩⟩⟩⟩⟩) 10 (by decide) (by kernel_rfl)
theorem zaQ:d9 (cN rows) 100 zg4:=eH (D:=90) (md:=mdI) (is:=[xm,Bm,Jw,RG,Wp,zam]) (Wdb.2 ⟨cH (by decide) tJ,Wdb.2 ⟨cH (by decide) s8,Wdb.2 ⟨cH (by decide) Fi,Wdb.2 ⟨cH (by decide) Ev,Wdb.2 ⟨cH (by decide) KY,Wdb.2 ⟨cH (by decide) Uo,Wdc _⟩⟩⟩⟩⟩⟩) 10 (by decide) (by kernel_rfl)
theorem YS:d9 (cN rows) 10 Ys:=eH (D:=0) (md:=mdI) (is:=[]) (Wdc _) 10 (by decide) (by kernel_rfl)
theorem Mj:d9 (cN rows) 60 Gu:=eH (D:=50) (md:=mdI) (is:=[Zc,Ys]) (Wdb.2 ⟨cH (by decide) Lx,Wdb.2 ⟨cH (by decide) YS,Wdc _⟩⟩) 10 (by decide) (by kernel_rfl)
theorem Zt:d9 (cN rows) 80 Yh:=eH (D:=70) (md:=mdI) (is:=[zaN,Wh,Uf,Gu]) (Wdb.2 ⟨cH (by decide) zbL,Wdb.2 ⟨cH (by decide) TF,Wdb.2 ⟨cH (by decide) K4,Wdb.2 ⟨cH (by decide) Mj,Wdc _⟩⟩⟩⟩) 10 (by decide) (by kernel_rfl)
theorem Y5:d9 (cN rows) 60 XO:=eH (D:=50) (md:=mdI) (is:=[RD,Ph,zB]) (Wdb.2 ⟨cH (by decide) EP,Wdb.2 ⟨cH (by decide) Iq,Wdb.2 ⟨cH (by decide) tX,Wdc _⟩⟩⟩) 10 (by decide) (by kernel_rfl)
end
end
end Go.Proofs.YtipklgbboecciaaGreat
