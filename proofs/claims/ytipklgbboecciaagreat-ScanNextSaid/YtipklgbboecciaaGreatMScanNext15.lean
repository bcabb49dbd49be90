/- Part 15 of the proof of ScanNext: an abstract machine over plain values, its soundness, and the functions of the program on plain values. -/
import Derived.Test.YtipklgbboecciaaGreatMScanNext14
namespace Go.Proofs.YtipklgbboecciaaGreat
set_option maxRecDepth 100000
set_option linter.unusedVariables false
set_option linter.unusedSimpArgs false
open List renaming forall_mem_cons->Wdb,forall_mem_nil->Wdc
section
noncomputable section
theorem UM:d9 (cN rows) 10 PF:=eH (D:=0) (md:=mdI) (is:=[]) (Wdc _) 10 (by decide) (by kernel_rfl)
theorem UQ:d9 (cN rows) 20 Qt:=eH (D:=10) (md:=mdI) (is:=[PF]) (Wdb.2 ⟨cH (by decide) UM,Wdc _⟩) 10 (by decide) (by kernel_rfl)
theorem Oh:d9 (cN rows) 30 Vc:=eH (D:=20) (md:=mdI) (is:=[zd6,Qt]) (Wdb.2 ⟨cH (by decide) zcq,Wdb.2 ⟨cH (by decide) UQ,Wdc _⟩⟩) 10 (by decide) (by kernel_rfl)
theorem Gb:d9 (cN rows) 40 Iw:=eH (D:=30) (md:=mdI) (is:=[Vc]) (Wdb.2 ⟨cH (by decide) Oh,Wdc _⟩) 10 (by decide) (by kernel_rfl)
theorem EP:d9 (cN rows) 50 RD:=eH (D:=40) (md:=mdI) (is:=[Iw]) (Wdb.2 ⟨cH (by decide) Gb,Wdc _⟩) 10 (by decide) (by kernel_rfl)
theorem WW:d9 (cN rows) 10 ZV:=eH (D:=0) (md:=mdI) (is:=[]) (Wdc _) 10 (by decide) (by kernel_rfl)
theorem Fc:d9 (cN rows) 10 Ld:=eH (D:=0) (md:=mdI) (is:=[]) (Wdc _) 10 (by decide) (by kernel_rfl)
theorem OD:d9 (cN rows) 20 U0:=eH (D:=10) (md:=mdI) (is:=[Ld]) (Wdb.2 ⟨cH (by decide) Fc,Wdc _⟩) 10 (by decide) (by kernel_rfl)
theorem Iq:d9 (cN rows) 10 Ph:=eH (D:=0) (md:=mdI) (is:=[]) (Wdc _) 10 (by decide) (by kernel_rfl)
theorem Wz:d9 (cN rows) 10 Z0:=eH (D:=0) (md:=mdI) (is:=[]) (Wdc _) 10 (by decide) (by kernel_rfl)
theorem FS:d9 (cN rows) 30 HS:=eH (D:=20) (md:=mdI) (is:=[Ld,U0,Ph,Z0]) (Wdb.2 ⟨cH (by decide) Fc,Wdb.2 ⟨cH (by decide) OD,Wdb.2 ⟨cH (by decide) Iq,Wdb.2 ⟨cH (by decide) Wz,Wdc _⟩⟩⟩⟩) 10 (by decide) (by kernel_rfl)
theorem V6:d9 (cN rows) 30 TV:=eH (D:=20) (md:=mdI) (is:=[Ld,U0,Ph,Z0]) (Wdb.2 ⟨cH (by decide) Fc,Wdb.2 ⟨cH (by decide) OD,Wdb.2 ⟨cH (by decide) Iq,Wdb.2 ⟨cH (by decide) Wz,Wdc _⟩⟩⟩⟩) 10 (by decide) (by kernel_rfl)
theorem Qd:d9 (cN rows) 40 RU:=eH (D:=30) (md:=mdI) (is:=[HS]) (Wdb.2 ⟨cH (by decide) FS,Wdc _⟩) 10 (by decide) (by kernel_rfl)
theorem tX:d9 (cN rows) 40 zB:=eH (D:=30) (md:=mdI) (is:=[HS]) (Wdb.2 ⟨cH (by decide) FS,Wdc _⟩) 10 (by decide) (by kernel_rfl)
theorem Nh:d9 (cN rows) 10 OG:=eH (D:=0) (md:=mdI) (is:=[]) (Wdc _) 10 (by decide) (by kernel_rfl)
theorem Xy:d9 (cN rows) 50 Vl:=eH (D:=40) (md:=mdI) (is:=[ZV,HS,TV,zB]) (Wdb.2 ⟨cH (by decide) WW,Wdb.2 ⟨cH (by decide) FS,Wdb.2 ⟨cH (by decide) V6,Wdb.2 ⟨cH (by decide) tX,Wdc _⟩⟩⟩⟩) 10 (by decide) (by kernel_rfl)
theorem Uk:d9 (cN rows) 60 Wb:=eH (D:=50) (md:=mdI) (is:=[zB,Vl]) (Wdb.2 ⟨cH (by decide) tX,Wdb.2 ⟨cH (by decide) Xy,Wdc _⟩⟩) 10 (by decide) (by kernel_rfl)
theorem zbL:d9 (cN rows) 70 zaN:=eH (D:=60) (md:=mdI) (is:=[RD,RU,OG,Wb]) (Wdb.2 ⟨cH (by decide) EP,Wdb.2 ⟨cH (by decide) Qd,Wdb.2 ⟨cH (by decide) Nh,Wdb.2 ⟨cH (by decide) Uk,Wdc _⟩⟩⟩⟩) 10 (by decide) (by kernel_rfl)
theorem KZ:d9 (cN rows) 60 J5:=eH (D:=50) (md:=mdI) (is:=[RD,zB]) (Wdb.2 ⟨cH (by decide) EP,Wdb.2 ⟨cH (by decide) tX,Wdc _⟩⟩) 10 (by decide) (by kernel_rfl)
theorem VK:d9 (cN rows) 70 TI:=eH (D:=60) (md:=mdI) (is:=[RU,OG,Wb,J5]) (Wdb.2 ⟨cH (by decide) Qd,Wdb.2 ⟨cH (by decide) Nh,Wdb.2 ⟨cH (by decide) Uk,Wdb.2 ⟨cH (by decide) KZ,Wdc _⟩⟩⟩⟩) 10 (by decide) (by kernel_rfl)
end
end
end Go.Proofs.YtipklgbboecciaaGreat
