/- BlockDecodes: for every input the call returns true, and each argument reads afterwards as it read before. Condition: the package variables lightclient/sha.k and lightclient/sha.initial begin as the program text lays them (the card ties them to the pruned copy of the text); nothing else is asked. -/
import Derived.LaidMore
import Derived.OpenShut
import Derived.MakeChecks
import Derived.LaidLaws
import Derived.Test.YtgmhijonllockaaGreatDoorRows
import Derived.JoinedOf
import Derived.Test.YtgmhijonllockaaGreatDoorCards
import Derived.Test.YtgmhijonllockaaGreatDoorTie
import Derived.SevenTiedAt
import Derived.Stop.Joined
import Derived.Test.YtgmhijonllockaaGreatDoorMBlockDecodes13
namespace Go.Proofs.YtgmhijonllockaaGreatDoor
set_option maxRecDepth 100000
set_option linter.unusedVariables false
set_option linter.unusedSimpArgs false
open List renaming replicate->We,getD_eq_getElem?_getD->Ws
open Option.some renaming inj->QV
open Bool renaming and_eq_true->Wh
open _root_.Array renaming getElem?_toList->W5
section
noncomputable section
theorem zbd{P:Program}{ren:Rn}{fg:List (Nat × Nat)}{l m:List (Nat × Nat × Hint)}(z:zdc P ren fg l=true)(A:zdc P ren fg m=true):zdc P ren fg (l++m)=true:=by
 unfold zdc at *
 rw [List.all_append,z,A]; rfl
def rh0:List (Nat × Nat × Hint):=[(150,531,zxk),(151,532,zqg),(192,572,zin),(178,571,zus),(176,569,zoN),(177,570,znY),(152,533,zoR),(94,494,zw4),(54,454,zrV),(155,497,zAa),(154,496,zBj),(180,535,zyU)]
theorem zVB:zdc Tryz.prog (zbv fg gls) fg rh0=true:=by kernel_rfl
def rh1:List (Nat × Nat × Hint):=[(179,534,zrO),(156,498,zrA),(104,458,zAr),(63,501,zuz),(100,198,zuh),(99,197,zlQ),(58,170,zwT),(59,172,zuM),(26,503,zlm),(157,207,zng),(107,195,zyx),(158,208,zmb)]
theorem zWo:zdc Tryz.prog (zbv fg gls) fg rh1=true:=by kernel_rfl
def rh2:List (Nat × Nat × Hint):=[(108,196,zwd),(159,199,zme),(109,173,zwH),(66,164,zuJ),(117,169,zo0),(112,163,zsx),(111,162,zoT),(110,161,zv2),(118,171,znj),(74,191,zrK),(116,168,zsX),(115,167,zto)]
theorem zVd:zdc Tryz.prog (zbv fg gls) fg rh2=true:=by kernel_rfl
def rh3:List (Nat × Nat × Hint):=[(114,166,zqJ),(113,165,zwx),(67,139,zAx),(68,179,zxl),(32,509,zrI),(119,209,zry),(101,200,zxf),(102,202,zuo),(60,676,zrE),(69,201,zuy),(120,174,zl2),(121,175,zml)]
theorem zWt:zdc Tryz.prog (zbv fg gls) fg rh3=true:=by kernel_rfl
def rh4:List (Nat × Nat × Hint):=[(122,176,zlU),(181,210,zv3),(160,203,zmj),(105,193,zrQ),(161,204,ztB),(124,178,zln),(123,177,zkx),(70,140,zug),(71,180,zwQ),(33,675,zrU),(15,130,zuI),(125,181,zqm)]
theorem zVt:zdc Tryz.prog (zbv fg gls) fg rh4=true:=by kernel_rfl
def rh5:List (Nat × Nat × Hint):=[(72,143,zrz),(34,431,znU),(73,145,zue),(35,127,zBh),(12,670,zuj),(103,192,zrP),(61,157,znu),(62,158,zm6),(28,502,zlh),(75,205,znD),(76,183,zor),(36,182,znk)]
theorem zVP:zdc Tryz.prog (zbv fg gls) fg rh5=true:=by kernel_rfl
def rh6:List (Nat × Nat × Hint):=[(126,137,zy7),(127,184,zma),(78,147,zw9),(77,146,zBz),(37,128,zwi),(13,577,zrN),(187,562,zoW),(174,552,zwq),(147,513,zwe),(175,553,zum),(190,565,zws),(198,593,zw2)]
theorem zVE:zdc Tryz.prog (zbv fg gls) fg rh6=true:=by kernel_rfl
def rh7:List (Nat × Nat × Hint):=[(191,566,zwb),(171,527,zrw),(148,514,zHC),(91,467,zEr),(172,528,zIc),(149,515,zEs),(106,194,zCy),(64,159,zxD),(65,160,zxo),(31,455,zt2),(30,429,zGi),(92,468,zEt)]
theorem zVa:zdc Tryz.prog (zbv fg gls) fg rh7=true:=by kernel_rfl
def rh8:List (Nat × Nat × Hint):=[(93,469,zDU),(52,442,zF7),(182,554,zJ1),(132,448,zEG),(162,516,zFP),(79,185,zwa),(95,138,zDT),(153,206,zxO),(97,187,zvL),(96,186,zHS),(55,149,zCc),(53,148,zFW)]
theorem zVN:zdc Tryz.prog (zbv fg gls) fg rh8=true:=by kernel_rfl
def rh9:List (Nat × Nat × Hint):=[(25,517,zJM),(129,470,zvb),(131,472,zz6),(163,518,zIh),(130,471,zAG),(22,519,zFQ),(98,453,zGz),(57,588,zFz),(56,555,zCK),(42,520,zGV),(17,474,zGj),(134,475,zC0)]
theorem zWm:zdc Tryz.prog (zbv fg gls) fg rh9=true:=by kernel_rfl
def zWk:List (Nat × Nat × Hint):=[(196,117,zxS),(186,561,zHb),(199,594,zHU),(188,563,zII),(189,564,zAF),(170,526,zCi),(143,484,zGZ),(145,486,zCx),(173,529,zxB),(144,485,zEL),(133,473,zHj),(87,443,zGm)]
theorem zTD:zdc Tryz.prog (zbv fg gls) fg zWk=true:=by kernel_rfl
def zVM:List (Nat × Nat × Hint):=[(183,136,zzQ),(164,521,zER),(80,129,zCt),(39,488,zDe),(38,449,zGY),(86,152,zFf),(46,153,zzs),(47,132,zEv),(48,556,zEC),(49,557,zBv),(50,558,zEk),(19,522,zEM)]
theorem zUC:zdc Tryz.prog (zbv fg gls) fg zVM=true:=by kernel_rfl
def zWe:List (Nat × Nat × Hint):=[(165,134,zET),(135,476,zDW),(139,480,zFq),(166,441,zzf),(136,477,zD9),(167,523,zHt),(193,589,zCp),(184,559,zz9),(216,618,zE3),(209,610,zIt),(200,599,zEJ),(201,600,zDd)]
theorem zUb:zdc Tryz.prog (zbv fg gls) fg zWe=true:=by kernel_rfl
def zVZ:List (Nat × Nat × Hint):=[(202,601,zGC),(203,602,zCf),(204,603,zB4),(205,604,zEz),(206,605,zEH),(195,591,zFj),(210,611,zCN),(212,613,zFO),(211,612,zEP),(228,630,zA0),(223,625,zDS),(234,636,zCv)]
theorem zUi:zdc Tryz.prog (zbv fg gls) fg zVZ=true:=by kernel_rfl
def zU1:List (Nat × Nat × Hint):=[(230,632,zCS),(231,633,zCo),(226,628,zH5),(229,631,zIJ),(221,623,zCb),(217,619,zES),(222,624,zEF),(218,620,zCA),(225,627,zDO),(224,626,zHQ),(236,638,zEi),(233,635,zDc)]
theorem zUI:zdc Tryz.prog (zbv fg gls) fg zU1=true:=by kernel_rfl
def zVA:List (Nat × Nat × Hint):=[(237,639,zB8),(235,637,zxx),(232,634,zC5),(227,629,zxV),(219,621,zDf),(213,614,zCB),(214,615,zEp),(220,622,zCH),(215,616,zCh),(207,606,zFn),(194,590,zHp),(185,560,zxR)]
theorem zUx:zdc Tryz.prog (zbv fg gls) fg zVA=true:=by kernel_rfl
def zVl:List (Nat × Nat × Hint):=[(168,524,zEj),(137,478,zD0),(138,479,zAN),(142,483,zAZ),(169,525,zGH),(140,481,zHw),(141,482,zD6),(88,444,zBC),(146,487,zGQ),(90,446,zAS),(89,445,zEw),(51,424,zHm)]
theorem zTz:zdc Tryz.prog (zbv fg gls) fg zVl=true:=by kernel_rfl
def zWh:List (Nat × Nat × Hint):=[(20,422,zGK),(83,188,zLd),(43,151,zEu),(84,150,zJy),(44,131,zJY),(81,583,zIG),(85,548,zOU),(45,578,zEf),(40,596,zKN),(128,617,zEQ),(82,608,zzU),(41,597,zE0)]
theorem zUh:zdc Tryz.prog (zbv fg gls) fg zWh=true:=by kernel_rfl
def zVF:List (Nat × Nat × Hint):=[(16,579,zFh),(18,542,zDQ),(11,669,zFS),(8,666,zlo),(10,668,zoK)]
theorem zUs:zdc Tryz.prog (zbv fg gls) fg zVF=true:=by kernel_rfl
noncomputable def rows:List Row:=zTs Tryz.prog (zbv fg gls) (rh0++(rh1++(rh2++(rh3++(rh4++(rh5++(rh6++(rh7++(rh8++(rh9++(zWk++(zVM++(zWe++(zVZ++(zU1++(zVA++(zVl++(zWh++(zVF)))))))))))))))))))
theorem zTy:∀ r∈rows,(r.f,r.g)∈fg∧zel Tryz.prog r.f=true∧zv0 Tryz.prog (zbv fg gls) r.h r.f=some r.c:=zST (zbd zVB (zbd zWo (zbd zVd (zbd zWt (zbd zVt (zbd zVP (zbd zVE (zbd zVa (zbd zVN (zbd zWm (zbd zTD (zbd zUC (zbd zUb (zbd zUi (zbd zUI (zbd zUx (zbd zTz (zbd zUh (zUs)))))))))))))))))))
theorem zW8:Tryz.prog.follows .mixedOrders=true:=by kernel_rfl
theorem zW5:zR7 fg=true:=by kernel_rfl
theorem zXa:zhB Tryz.prog (zbv fg gls) zx3:=zUF (zUB (by kernel_rfl)) (zVn (by kernel_rfl))
theorem zW9(L d:Nat):zhB Tryz.prog (zbv fg gls) (zrm (evF (yn rows) zx3 L d)):=zUE zW8 zW5 zXa zTy L d
theorem zJ6(L:Nat):FOk (yn rows) L 531 (zvB xC L) 1:=yv (D:=0) (by kernel_rfl) fun m hm=>⟨zaN,zaS L,xu,zHy L⟩
theorem zCX(L:Nat):FOk (yn rows) L 532 (zn3 xq L) 1:=yv (D:=0) (by kernel_rfl) fun m hm=>⟨zmQ,zm0 L,xu,zA2 L⟩
theorem zi8(L:Nat):FOk (yn rows) L 572 (zdt xi L) 1:=yv (D:=0) (by kernel_rfl) fun m hm=>⟨zfD,zfx L,xu,zqE L⟩
theorem zv7(L:Nat):FOk (yn rows) L 571 (znT xg L) 2:=yv (D:=1) (by kernel_rfl) fun m hm=>⟨zrd,zrj xi L,(yk xu (zi8 L m (by omega))),zGg L⟩
theorem zA6(L:Nat):FOk (yn rows) L 569 (zm2 zu L) 3:=yv (D:=2) (by kernel_rfl) fun m hm=>⟨xR,zS xg L,(yk xu (zv7 L m (by omega))),zzd L⟩
theorem zza(L:Nat):FOk (yn rows) L 570 (zlE zt L) 1:=yv (D:=0) (by kernel_rfl) fun m hm=>⟨zkS,zkD L,xu,zyi L⟩
theorem zzB(L:Nat):FOk (yn rows) L 533 (zmU ym L) 4:=yv (D:=3) (by kernel_rfl) fun m hm=>⟨zbg,zbf zu zt xg L,(yk (yk (yk xu (zA6 L m (by omega))) (zza L m (by omega))) (zv7 L m (by omega))),zzk L⟩
theorem zy6(L:Nat):FOk (yn rows) L 494 (zp8 xX L) 5:=yv (D:=4) (by kernel_rfl) fun m hm=>⟨zaR,zaM xC xq ym L,(yk (yk (yk xu (zJ6 L m (by omega))) (zCX L m (by omega))) (zzB L m (by omega))),zHW L⟩
theorem zA7(L:Nat):FOk (yn rows) L 494 (zjV zre L) 5:=zsZ (zy6 L) (zIu L)
theorem zEA(L:Nat):FOk (yn rows) L 454 (zo1 zc5 L) 6:=yv (D:=5) (by kernel_rfl) fun m hm=>⟨zn8,znJ xX L,(yk xu (zy6 L m (by omega))),zCn L⟩
theorem zw6(L:Nat):FOk (yn rows) L 454 (zjV zxC L) 6:=zsZ (zEA L) (zC1 L)
theorem zMA(L:Nat):FOk (yn rows) L 497 (zBD xM L) 1:=yv (D:=0) (by kernel_rfl) fun m hm=>⟨zcW,zcX L,xu,zKQ L⟩
theorem zMH(L:Nat):FOk (yn rows) L 496 (zAu yL L) 1:=yv (D:=0) (by kernel_rfl) fun m hm=>⟨zfJ,zfB L,xu,zLH L⟩
theorem zAP(L:Nat):FOk (yn rows) L 535 (zr6 xh L) 2:=yv (D:=1) (by kernel_rfl) fun m hm=>⟨zu1,zvT xi L,(yk xu (zi8 L m (by omega))),zJJ L⟩
theorem zEn(L:Nat):FOk (yn rows) L 534 (zpP xy L) 3:=yv (D:=2) (by kernel_rfl) fun m hm=>⟨xI,xJ xh L,(yk xu (zAP L m (by omega))),zC4 L⟩
theorem zE4(L:Nat):FOk (yn rows) L 498 (zpH yp L) 4:=yv (D:=3) (by kernel_rfl) fun m hm=>⟨zb0,zbR xy xh L,(yk (yk xu (zEn L m (by omega))) (zAP L m (by omega))),zCs L⟩
theorem zDJ(L:Nat):FOk (yn rows) L 458 (zuD zaD L) 5:=yv (D:=4) (by kernel_rfl) fun m hm=>⟨zbC,zbz xM yL yp L,(yk (yk (yk xu (zMA L m (by omega))) (zMH L m (by omega))) (zE4 L m (by omega))),zKD L⟩
theorem zEm(L:Nat):FOk (yn rows) L 458 (zjV zre L) 5:=zsZ (zDJ L) (zLI L)
theorem zIm(L:Nat):FOk (yn rows) L 501 (ztN zeM L) 6:=yv (D:=5) (by kernel_rfl) fun m hm=>⟨zq9,zrf zaD L,(yk xu (zDJ L m (by omega))),zF3 L⟩
theorem zzj(L:Nat):FOk (yn rows) L 501 (zjV zxC L) 6:=zsZ (zIm L) (zG9 L)
theorem zh5(L:Nat):FOk (yn rows) L 198 (zf5 yc L) 1:=yv (D:=0) (by kernel_rfl) fun m hm=>⟨zrq,zrb L,xu,zFR L⟩
theorem zwB(L:Nat):FOk (yn rows) L 197 (zjx zK L) 2:=yv (D:=1) (by kernel_rfl) fun m hm=>⟨zav,zaB yc L,(yk xu (zh5 L m (by omega))),zvt L⟩
theorem zrh(L:Nat):FOk (yn rows) L 170 (zmk yt L) 3:=yv (D:=2) (by kernel_rfl) fun m hm=>⟨zsQ,ztl zK L,(yk xu (zwB L m (by omega))),zHs L⟩
theorem zv8(L:Nat):FOk (yn rows) L 172 (znv yE L) 2:=yv (D:=1) (by kernel_rfl) fun m hm=>⟨zqK,zqY yc L,(yk xu (zh5 L m (by omega))),zGL L⟩
theorem zvP(L:Nat):FOk (yn rows) L 503 (ziq xn L) 4:=yv (D:=3) (by kernel_rfl) fun m hm=>⟨zhM,zie yt yE L,(yk (yk xu (zrh L m (by omega))) (zv8 L m (by omega))),ztW L⟩
theorem zxW(L:Nat):FOk (yn rows) L 207 (zj6 yM L) 2:=yv (D:=1) (by kernel_rfl) fun m hm=>⟨zaU,zaV yc L,(yk xu (zh5 L m (by omega))),zwL L⟩
theorem zMl(L:Nat):FOk (yn rows) L 195 (zxQ zaZ L) 3:=yv (D:=2) (by kernel_rfl) fun m hm=>⟨zvY,zuW yM L,(yk xu (zxW L m (by omega))),zJE L⟩
theorem zwr(L:Nat):FOk (yn rows) L 208 (zjA xK L) 2:=yv (D:=1) (by kernel_rfl) fun m hm=>⟨zau,zax yc L,(yk xu (zh5 L m (by omega))),zuV L⟩
theorem zJ4(L:Nat):FOk (yn rows) L 196 (zve zaG L) 3:=yv (D:=2) (by kernel_rfl) fun m hm=>⟨ztO,ztn xK L,(yk xu (zwr L m (by omega))),zIg L⟩
theorem zxa(L:Nat):FOk (yn rows) L 199 (zjq yK L) 2:=yv (D:=1) (by kernel_rfl) fun m hm=>⟨zay,zaA yc L,(yk xu (zh5 L m (by omega))),zvV L⟩
theorem zyN(L:Nat):FOk (yn rows) L 173 (zpW zM L) 3:=yv (D:=2) (by kernel_rfl) fun m hm=>⟨ztq,zsE yK L,(yk xu (zxa L m (by omega))),zHT L⟩
theorem zo9(L:Nat):FOk (yn rows) L 164 (zj9 xl L) 4:=yv (D:=3) (by kernel_rfl) fun m hm=>⟨zqT,zq1 zaZ zaG yt zM L,(yk (yk (yk (yk xu (zMl L m (by omega))) (zJ4 L m (by omega))) (zrh L m (by omega))) (zyN L m (by omega))),zGt L⟩
theorem zAt(L:Nat):FOk (yn rows) L 169 (ziv zc L) 4:=yv (D:=3) (by kernel_rfl) fun m hm=>⟨zlu,zlK yt L,(yk xu (zrh L m (by omega))),zzh L⟩
theorem zGG(L:Nat):FOk (yn rows) L 163 (zmE zaa L) 5:=yv (D:=4) (by kernel_rfl) fun m hm=>⟨zpi,zpg xl L,(yk xu (zo9 L m (by omega))),zE1 L⟩
theorem zzR(L:Nat):FOk (yn rows) L 162 (ziO xP L) 6:=yv (D:=5) (by kernel_rfl) fun m hm=>⟨zlA,zlM zaa L,(yk xu (zGG L m (by omega))),zzm L⟩
theorem zJF(L:Nat):FOk (yn rows) L 161 (zp4 yg L) 7:=yv (D:=6) (by kernel_rfl) fun m hm=>⟨ztz,zsV xP L,(yk xu (zzR L m (by omega))),zIB L⟩
theorem zyk(L:Nat):FOk (yn rows) L 171 (zg1 zf L) 3:=yv (D:=2) (by kernel_rfl) fun m hm=>⟨zjJ,zjD yE L,(yk xu (zv8 L m (by omega))),zw1 L⟩
theorem zwP(L:Nat):FOk (yn rows) L 162 (zgn xc L) 4:=yv (D:=3) (by kernel_rfl) fun m hm=>⟨ziH,ziD zM L,(yk xu (zyN L m (by omega))),zu3 L⟩
theorem zEl(L:Nat):FOk (yn rows) L 191 (zco zi L) 1:=yv (D:=0) (by kernel_rfl) fun m hm=>⟨zn2,zop L,xu,zCM L⟩
theorem zG5(L:Nat):FOk (yn rows) L 168 (zqL xZ L) 5:=yv (D:=4) (by kernel_rfl) fun m hm=>⟨zpO,zo2 xl zi L,(yk (yk xu (zo9 L m (by omega))) (zEl L m (by omega))),zEc L⟩
theorem zFo(L:Nat):FOk (yn rows) L 167 (zmp y9 L) 6:=yv (D:=5) (by kernel_rfl) fun m hm=>⟨zpB,zpd xZ L,(yk xu (zG5 L m (by omega))),zEh L⟩
theorem zCq(L:Nat):FOk (yn rows) L 166 (zjR yS L) 7:=yv (D:=6) (by kernel_rfl) fun m hm=>⟨zmP,zmN y9 L,(yk xu (zFo L m (by omega))),zAq L⟩
theorem zJP(L:Nat):FOk (yn rows) L 165 (zpS ye L) 8:=yv (D:=7) (by kernel_rfl) fun m hm=>⟨zs1,ztf yS L,(yk xu (zCq L m (by omega))),zIq L⟩
theorem zMJ(L:Nat):FOk (yn rows) L 139 (zAH yP L) 9:=yv (D:=8) (by kernel_rfl) fun m hm=>⟨xQ,zQ zc yg zf xc ye L,(yk (yk (yk (yk (yk xu (zAt L m (by omega))) (zJF L m (by omega))) (zyk L m (by omega))) (zwP L m (by omega))) (zJP L m (by omega))),zLb L⟩
theorem zJK(L:Nat):FOk (yn rows) L 179 (zu5 zJ L) 1:=yv (D:=0) (by kernel_rfl) fun m hm=>⟨zsD,zsz L,xu,zHE L⟩
theorem zEd(L:Nat):FOk (yn rows) L 509 (zk6 zz L) 10:=yv (D:=9) (by kernel_rfl) fun m hm=>⟨zbt,zbs xn xl yP zJ L,(yk (yk (yk (yk xu (zvP L m (by omega))) (zo9 L m (by omega))) (zMJ L m (by omega))) (zJK L m (by omega))),zCZ L⟩
theorem zmZ(L:Nat):FOk (yn rows) L 209 (zig zo L) 1:=yv (D:=0) (by kernel_rfl) fun m hm=>⟨zbQ,zbV L,xu,zCO L⟩
theorem zyA(L:Nat):FOk (yn rows) L 200 (zp5 xF L) 2:=yv (D:=1) (by kernel_rfl) fun m hm=>⟨ztt,zsU zo L,(yk xu (zmZ L m (by omega))),zHh L⟩
theorem zww(L:Nat):FOk (yn rows) L 202 (zoD xE L) 1:=yv (D:=0) (by kernel_rfl) fun m hm=>⟨zq8,zru L,xu,zFv L⟩
theorem zDV(L:Nat):FOk (yn rows) L 676 (zpx zx L) 3:=yv (D:=2) (by kernel_rfl) fun m hm=>⟨znW,zoH xF xE L,(yk (yk xu (zyA L m (by omega))) (zww L m (by omega))),zCe L⟩
theorem zpn(L:Nat):FOk (yn rows) L 201 (zkn zm L) 2:=yv (D:=1) (by kernel_rfl) fun m hm=>⟨zrp,zqR zo L,(yk xu (zmZ L m (by omega))),zGF L⟩
theorem zwp(L:Nat):FOk (yn rows) L 174 (zgz yb L) 3:=yv (D:=2) (by kernel_rfl) fun m hm=>⟨ziI,ziy xF L,(yk xu (zyA L m (by omega))),zvF L⟩
theorem zxc(L:Nat):FOk (yn rows) L 175 (zgB zb L) 3:=yv (D:=2) (by kernel_rfl) fun m hm=>⟨zix,zit zm L,(yk xu (zpn L m (by omega))),zvA L⟩
theorem zv9(L:Nat):FOk (yn rows) L 176 (zgp xe L) 2:=yv (D:=1) (by kernel_rfl) fun m hm=>⟨ziu,ziT xE L,(yk xu (zww L m (by omega))),zvN L⟩
theorem zJ0(L:Nat):FOk (yn rows) L 210 (zvm zaH L) 2:=yv (D:=1) (by kernel_rfl) fun m hm=>⟨ztp,zsB zo L,(yk xu (zmZ L m (by omega))),zHM L⟩
theorem zwW(L:Nat):FOk (yn rows) L 203 (zgu zH L) 3:=yv (D:=2) (by kernel_rfl) fun m hm=>⟨ziR,zir zaH L,(yk xu (zJ0 L m (by omega))),zvM L⟩
theorem zD3(L:Nat):FOk (yn rows) L 193 (zpA xW L) 1:=yv (D:=0) (by kernel_rfl) fun m hm=>⟨zok,zoz L,xu,zC9 L⟩
theorem zG2(L:Nat):FOk (yn rows) L 204 (zqP yZ L) 3:=yv (D:=2) (by kernel_rfl) fun m hm=>⟨zpl,zpt zm xW L,(yk (yk xu (zpn L m (by omega))) (zD3 L m (by omega))),zEI L⟩
theorem zl9(L:Nat):FOk (yn rows) L 178 (zdy za L) 4:=yv (D:=3) (by kernel_rfl) fun m hm=>⟨zif,zh2 yZ L,(yk xu (zG2 L m (by omega))),zt4 L⟩
theorem zt1(L:Nat):FOk (yn rows) L 177 (zfa xb L) 5:=yv (D:=4) (by kernel_rfl) fun m hm=>⟨zhx,zho zH za L,(yk (yk xu (zwW L m (by omega))) (zl9 L m (by omega))),zs8 L⟩
theorem zH0(L:Nat):FOk (yn rows) L 140 (zte xA L) 6:=yv (D:=5) (by kernel_rfl) fun m hm=>⟨zE,xD yb zb xe xb za L,(yk (yk (yk (yk (yk xu (zwp L m (by omega))) (zxc L m (by omega))) (zv9 L m (by omega))) (zt1 L m (by omega))) (zl9 L m (by omega))),zF2 L⟩
theorem zJT(L:Nat):FOk (yn rows) L 180 (zvn yJ L) 1:=yv (D:=0) (by kernel_rfl) fun m hm=>⟨zty,ztP L,xu,zIp L⟩
theorem zE2(L:Nat):FOk (yn rows) L 675 (zo5 zO L) 7:=yv (D:=6) (by kernel_rfl) fun m hm=>⟨zbr,zbo zx zm xA yJ L,(yk (yk (yk (yk xu (zDV L m (by omega))) (zpn L m (by omega))) (zH0 L m (by omega))) (zJT L m (by omega))),zCj L⟩
theorem zwF(L:Nat):FOk (yn rows) L 130 (zkC yh L) 1:=yv (D:=0) (by kernel_rfl) fun m hm=>⟨zq0,zrt L,xu,zFx L⟩
theorem zCY(L:Nat):FOk (yn rows) L 181 (zn4 yi L) 2:=yv (D:=1) (by kernel_rfl) fun m hm=>⟨zmK,zmF yh L,(yk xu (zwF L m (by omega))),zzV L⟩
theorem zDY(L:Nat):FOk (yn rows) L 143 (zpe yu L) 3:=yv (D:=2) (by kernel_rfl) fun m hm=>⟨zC,yC yh yi L,(yk (yk xu (zwF L m (by omega))) (zCY L m (by omega))),zCz L⟩
theorem zzg(L:Nat):FOk (yn rows) L 431 (zhF xw L) 4:=yv (D:=3) (by kernel_rfl) fun m hm=>⟨zaF,zaI yu L,(yk xu (zDY L m (by omega))),zxs L⟩
theorem zzX(L:Nat):FOk (yn rows) L 562 (zmX zV L) 1:=yv (D:=0) (by kernel_rfl) fun m hm=>⟨zlB,zlD L,xu,zzr L⟩
theorem zyO(L:Nat):FOk (yn rows) L 552 (zpU yo L) 1:=yv (D:=0) (by kernel_rfl) fun m hm=>⟨zs0,zti L,xu,zIw L⟩
theorem zJ2(L:Nat):FOk (yn rows) L 513 (zvX za4 L) 2:=yv (D:=1) (by kernel_rfl) fun m hm=>⟨zdJ,zdp yo L,(yk xu (zyO L m (by omega))),zHr L⟩
theorem zH4(L:Nat):FOk (yn rows) L 553 (zs4 y8 L) 1:=yv (D:=0) (by kernel_rfl) fun m hm=>⟨zri,zqV L,xu,zE7 L⟩
theorem zJR(L:Nat):FOk (yn rows) L 565 (zuY za1 L) 2:=yv (D:=1) (by kernel_rfl) fun m hm=>⟨zcP,zcT yo L,(yk xu (zyO L m (by omega))),zIn L⟩
theorem zJS(L:Nat):FOk (yn rows) L 593 (zvo xL L) 1:=yv (D:=0) (by kernel_rfl) fun m hm=>⟨zdw,zdD L,xu,zH2 L⟩
theorem zJI(L:Nat):FOk (yn rows) L 566 (zvK zaW L) 2:=yv (D:=1) (by kernel_rfl) fun m hm=>⟨zdB,zdA xL L,(yk xu (zJS L m (by omega))),zHZ L⟩
theorem zEb(L:Nat):FOk (yn rows) L 527 (zpb zej L) 3:=yv (D:=2) (by kernel_rfl) fun m hm=>⟨zos,znA zV za4 y8 za1 zaW L,(yk (yk (yk (yk (yk xu (zzX L m (by omega))) (zJ2 L m (by omega))) (zH4 L m (by omega))) (zJR L m (by omega))) (zJI L m (by omega))),zCV L⟩
theorem zxn(L:Nat):FOk (yn rows) L 527 (zOJ L) 3:=zsZ (zEb L) (zCQ L)
end
end
section
def zD7{α:Type}(e:α→α→Bool):List α→List α→Bool
 | [],[]=>true
 | x::xs,y::ys=>e x y&&zD7 e xs ys
 | _,_=>false
theorem zwu{α:Type}{e:α→α→Bool}(h:∀ x y,e x y=true→x=y):∀ (a b:List α),zD7 e a b=true→a=b
 | [],[],_=>rfl
 | x::xs,y::ys,q=>by
  simp only [zD7,Wh] at q
  rw [h _ _ q.1,zwu h xs ys q.2]
 | [],_::_,q=>by cases q
 | _::_,[],q=>by cases q
def eqW:Nat→V→V→Bool
 | 0,_,_=>false
 | n+1,a,b=>match a,b with
  | .sc (.int k x),.sc (.int k' y)=>decide (k=k')&&decide (x=y)
  | .sc (.bool x),.sc (.bool y)=>x==y
  | .agg x,.agg y=>zD7 (eqW n) x y
  | .sl s x,.sl s' y=>decide (s=s')&&zD7 (zD7 (eqW n)) x y
  | _,_=>false
theorem zK3:∀ (n:Nat) (a b:V),eqW n a b=true→a=b
 | 0,a,b,h=>by cases h
 | n+1,a,b,h=>by
  unfold eqW at h
  split at h
  ·simp only [Wh,decide_eq_true_eq] at h; rw [h.1,h.2]
  ·simp only [beq_iff_eq] at h; rw [h]
  ·rw [zwu (zK3 n) _ _ h]
  ·simp only [Wh,decide_eq_true_eq] at h; rw [h.1,zwu (zwu (zK3 n)) _ _ h.2]
  ·cases h
def zeT:List (List V × V)→Nat→Nat→Dk
 | [],_,_=>fun β a b k=>none
 | p::l,N,L=>fun β a b k=>match zD7 (eqW 12) p.1 a&&b.isEmpty with
  | true=>chk (N≤L) (k p.2 [])
  | false=>zeT l N L β a b k
def zN0{α:Type}(P:α→Prop):List α→Prop
 | []=>True
 | x::l=>P x∧zN0 P l
def zyz:List V:=[.agg (row .u32 [1]++row .u8 (We 64 0)++row .u32 [1000,545259519,0]++row .u64 [18446744073709551615,18446744073709551615,18446744073709551615,9223372036854775807]++row .i64 [3]++row .u32 [5,600,1]++[.sl 33 []]++row .i64 [1000,4,0])]
def zyZ:V:=.sc (.bool true)
def zA5:List V:=[.agg (row .u32 [1]++row .u8 (We 64 0)++row .u32 [1000,545259519,0])]
def zBo:V:=.agg (row .u8 [61,203,117,189,137,197,20,104,21,221,192,209,215,49,76,183,70,25,253,247,43,253,106,115,55,132,161,91,255,182,29,187])
def zAl:List V:=[.agg (row .u32 [1]++row .u8 [61,203,117,189,137,197,20,104,21,221,192,209,215,49,76,183,70,25,253,247,43,253,106,115,55,132,161,91,255,182,29,187,97,228,166,135,80,63,52,148,101,13,25,29,89,117,227,159,228,238,226,170,227,84,108,105,186,52,19,141,87,189,48,35]++row .u32 [1036,545259519,0])]
def zBl:V:=.agg (row .u8 [204,99,164,11,133,249,164,118,106,58,27,21,13,141,80,81,249,36,133,152,12,66,104,247,116,191,119,57,25,244,188,172])
def zzJ:List V:=[.agg (row .u32 [1]++row .u8 [61,203,117,189,137,197,20,104,21,221,192,209,215,49,76,183,70,25,253,247,43,253,106,115,55,132,161,91,255,182,29,187,97,228,166,135,80,63,52,148,101,13,25,29,89,117,227,159,228,238,226,170,227,84,108,105,186,52,19,141,87,189,48,35]++row .u32 [1036,545259519,1])]
def zAL:V:=.agg (row .u8 [180,145,100,116,38,117,98,22,21,167,210,119,61,195,48,7,53,69,228,10,94,211,156,99,252,16,125,78,47,155,40,152])
def zBf:List V:=[.agg (row .u32 [1]++row .u8 [61,203,117,189,137,197,20,104,21,221,192,209,215,49,76,183,70,25,253,247,43,253,106,115,55,132,161,91,255,182,29,187,97,228,166,135,80,63,52,148,101,13,25,29,89,117,227,159,228,238,226,170,227,84,108,105,186,52,19,141,87,189,48,35]++row .u32 [1036,545259519,2])]
def zAT:V:=.agg (row .u8 [47,199,49,240,163,253,175,23,134,220,234,86,165,150,31,128,139,37,174,9,253,178,164,124,168,93,102,235,22,236,186,248])
def zAU:List V:=[.sc (.int .u8 0)]
def zAk:V:=.agg (row .u32 [1]++row .u8 (We 64 0)++row .u32 [1000,545259519,0]++row .u64 [18446744073709551615,18446744073709551615,18446744073709551615,9223372036854775807]++row .i64 [3]++row .u32 [5,600,1]++[.sl 33 []]++row .i64 [1000,4,0]++[.sl 69 []]++[.sl 34 [(row .i64 [0]++row .u8 [61,203,117,189,137,197,20,104,21,221,192,209,215,49,76,183,70,25,253,247,43,253,106,115,55,132,161,91,255,182,29,187]++[.sl 37 []])]]++[.sl 36 [(row .i64 [0]++row .u8 [61,203,117,189,137,197,20,104,21,221,192,209,215,49,76,183,70,25,253,247,43,253,106,115,55,132,161,91,255,182,29,187]++row .u32 [545259519,1000]++[.sl 1 [(row .u32 [1000])]])]]++[.sl 1 []])
def zA9:List V:=[.sl 4 [(row .u32 [1]++[.sl 35 [(row .u8 (We 32 0)++row .u32 [4294967295,1]++[.sl 1 []])]]++[.sl 2 [(row .i64 [1000]++[.sl 1 [(row .u8 [1]),(row .u8 [1]),(row .u8 [1]),(row .u8 [5])]])]]++row .u32 [0])]]
def zBE:V:=.agg (row .u8 [97,228,166,135,80,63,52,148,101,13,25,29,89,117,227,159,228,238,226,170,227,84,108,105,186,52,19,141,87,189,48,35])
def zA8:List V:=[.agg (row .u32 [1]++row .u8 (We 64 0)++row .u32 [1000,545259519,0]++row .u64 [18446744073709551615,18446744073709551615,18446744073709551615,9223372036854775807]++row .i64 [3]++row .u32 [5,600,1]++[.sl 33 []]++row .i64 [1000,4,0]),.agg (row .i64 [0]++row .u8 [61,203,117,189,137,197,20,104,21,221,192,209,215,49,76,183,70,25,253,247,43,253,106,115,55,132,161,91,255,182,29,187]++row .u32 [545259519,1000]++[.sl 1 [(row .u32 [1000])]])]
def zzI:V:=.tup [.sc (.int .u32 545259519),.sc (.int .i64 0)]
def zBc:List V:=[.agg (row .u32 [1]++row .u8 (We 64 0)++row .u32 [1000,545259519,0]++row .u64 [18446744073709551615,18446744073709551615,18446744073709551615,9223372036854775807]++row .i64 [3]++row .u32 [5,600,1]++[.sl 33 []]++row .i64 [1000,4,0]),.agg (row .i64 [0]++row .u8 [61,203,117,189,137,197,20,104,21,221,192,209,215,49,76,183,70,25,253,247,43,253,106,115,55,132,161,91,255,182,29,187]++[.sl 37 []]),.agg (row .i64 [0]++row .u8 [61,203,117,189,137,197,20,104,21,221,192,209,215,49,76,183,70,25,253,247,43,253,106,115,55,132,161,91,255,182,29,187]++row .u32 [545259519,1000]++[.sl 1 [(row .u32 [1000])]]),.sc (.int .u8 1)]
def zAn:V:=.agg (row .u32 [1]++row .u8 [61,203,117,189,137,197,20,104,21,221,192,209,215,49,76,183,70,25,253,247,43,253,106,115,55,132,161,91,255,182,29,187,97,228,166,135,80,63,52,148,101,13,25,29,89,117,227,159,228,238,226,170,227,84,108,105,186,52,19,141,87,189,48,35]++row .u32 [1036,545259519,2]++[.sl 4 [(row .u32 [1]++[.sl 35 [(row .u8 (We 32 0)++row .u32 [4294967295,1]++[.sl 1 []])]]++[.sl 2 [(row .i64 [1000]++[.sl 1 [(row .u8 [1]),(row .u8 [1]),(row .u8 [1]),(row .u8 [5])]])]]++row .u32 [0])]])
def zGw:List V:=[.agg (row .u32 [1]++[.sl 35 [(row .u8 (We 32 0)++row .u32 [4294967295,1]++[.sl 1 []])]]++[.sl 2 [(row .i64 [1000]++[.sl 1 [(row .u8 [1]),(row .u8 [1]),(row .u8 [1]),(row .u8 [5])]])]]++row .u32 [0])]
def zGR:V:=.agg (row .u8 [37,205,216,223,81,203,80,27,2,210,68,135,186,37,122,45,54,153,215,87,97,164,65,30,18,4,133,45,141,199,157,21])
def zyT:List V:=[.agg (row .u32 [1]++row .u8 [61,203,117,189,137,197,20,104,21,221,192,209,215,49,76,183,70,25,253,247,43,253,106,115,55,132,161,91,255,182,29,187,97,228,166,135,80,63,52,148,101,13,25,29,89,117,227,159,228,238,226,170,227,84,108,105,186,52,19,141,87,189,48,35]++row .u32 [1036,545259519,2]++[.sl 4 [(row .u32 [1]++[.sl 35 [(row .u8 (We 32 0)++row .u32 [4294967295,1]++[.sl 1 []])]]++[.sl 2 [(row .i64 [1000]++[.sl 1 [(row .u8 [1]),(row .u8 [1]),(row .u8 [1]),(row .u8 [5])]])]]++row .u32 [0])]])]
def zy4:V:=.sc (.int .i64 0)
def zuH:List V:=[.agg (row .u32 [1]++row .u8 (We 64 0)++row .u32 [1000,545259519,0]++row .u64 [18446744073709551615,18446744073709551615,18446744073709551615,9223372036854775807]++row .i64 [3]++row .u32 [5,600,1]++[.sl 33 []]++row .i64 [1000,4,0]),.agg (row .i64 [0]++row .u8 [61,203,117,189,137,197,20,104,21,221,192,209,215,49,76,183,70,25,253,247,43,253,106,115,55,132,161,91,255,182,29,187]++[.sl 37 []]),.agg (row .u32 [1]++row .u8 [61,203,117,189,137,197,20,104,21,221,192,209,215,49,76,183,70,25,253,247,43,253,106,115,55,132,161,91,255,182,29,187,97,228,166,135,80,63,52,148,101,13,25,29,89,117,227,159,228,238,226,170,227,84,108,105,186,52,19,141,87,189,48,35]++row .u32 [1036,545259519,2]++[.sl 4 [(row .u32 [1]++[.sl 35 [(row .u8 (We 32 0)++row .u32 [4294967295,1]++[.sl 1 []])]]++[.sl 2 [(row .i64 [1000]++[.sl 1 [(row .u8 [1]),(row .u8 [1]),(row .u8 [1]),(row .u8 [5])]])]]++row .u32 [0])]])]
def zux:V:=.tup [.agg (row .i64 [1]++row .u8 [47,199,49,240,163,253,175,23,134,220,234,86,165,150,31,128,139,37,174,9,253,178,164,124,168,93,102,235,22,236,186,248]++[.sl 37 [(row .u8 [37,205,216,223,81,203,80,27,2,210,68,135,186,37,122,45,54,153,215,87,97,164,65,30,18,4,133,45,141,199,157,21]++row .u32 [0]++row .i64 [1000]++[.sl 1 [(row .u8 [1]),(row .u8 [1]),(row .u8 [1]),(row .u8 [5])]]++row .i64 [1]++[.sc (.bool true)])]]),.agg ([.sl 37 []]),.sc (.int .i64 0)]
def zy5:List V:=[.agg (row .u32 [1]++row .u8 (We 64 0)++row .u32 [1000,545259519,0]++row .u64 [18446744073709551615,18446744073709551615,18446744073709551615,9223372036854775807]++row .i64 [3]++row .u32 [5,600,1]++[.sl 33 []]++row .i64 [1000,4,0]),.agg (row .i64 [0]++row .u8 [61,203,117,189,137,197,20,104,21,221,192,209,215,49,76,183,70,25,253,247,43,253,106,115,55,132,161,91,255,182,29,187]++row .u32 [545259519,1000]++[.sl 1 [(row .u32 [1000])]]),.agg (row .u32 [1]++row .u8 [61,203,117,189,137,197,20,104,21,221,192,209,215,49,76,183,70,25,253,247,43,253,106,115,55,132,161,91,255,182,29,187,97,228,166,135,80,63,52,148,101,13,25,29,89,117,227,159,228,238,226,170,227,84,108,105,186,52,19,141,87,189,48,35]++row .u32 [1036,545259519,2]),.sc (.int .u32 1073741824)]
def zyD:V:=.sc (.int .i64 0)
def zAX:List V:=[.sc (.int .u8 0),.sl 1 [(row .u8 [1])]]
def zz4:V:=.agg (row .u32 [1]++row .u8 (We 64 0)++row .u32 [1000,545259519,0]++row .u64 [18446744073709551615,18446744073709551615,18446744073709551615,9223372036854775807]++row .i64 [3]++row .u32 [5,600,1]++[.sl 33 []]++row .i64 [1000,4,0]++[.sl 69 [(row .u32 [1]++row .u8 [61,203,117,189,137,197,20,104,21,221,192,209,215,49,76,183,70,25,253,247,43,253,106,115,55,132,161,91,255,182,29,187,97,228,166,135,80,63,52,148,101,13,25,29,89,117,227,159,228,238,226,170,227,84,108,105,186,52,19,141,87,189,48,35]++row .u32 [1036,545259519,2]++[.sl 4 [(row .u32 [1]++[.sl 35 [(row .u8 (We 32 0)++row .u32 [4294967295,1]++[.sl 1 []])]]++[.sl 2 [(row .i64 [1000]++[.sl 1 [(row .u8 [1]),(row .u8 [1]),(row .u8 [1]),(row .u8 [5])]])]]++row .u32 [0])]])]]++[.sl 34 [(row .i64 [0]++row .u8 [61,203,117,189,137,197,20,104,21,221,192,209,215,49,76,183,70,25,253,247,43,253,106,115,55,132,161,91,255,182,29,187]++[.sl 37 []]),(row .i64 [1]++row .u8 [47,199,49,240,163,253,175,23,134,220,234,86,165,150,31,128,139,37,174,9,253,178,164,124,168,93,102,235,22,236,186,248]++[.sl 37 [(row .u8 [37,205,216,223,81,203,80,27,2,210,68,135,186,37,122,45,54,153,215,87,97,164,65,30,18,4,133,45,141,199,157,21]++row .u32 [0]++row .i64 [1000]++[.sl 1 [(row .u8 [1]),(row .u8 [1]),(row .u8 [1]),(row .u8 [5])]]++row .i64 [1]++[.sc (.bool true)])]])]]++[.sl 36 [(row .i64 [0]++row .u8 [61,203,117,189,137,197,20,104,21,221,192,209,215,49,76,183,70,25,253,247,43,253,106,115,55,132,161,91,255,182,29,187]++row .u32 [545259519,1000]++[.sl 1 [(row .u32 [1000])]]),(row .i64 [1]++row .u8 [47,199,49,240,163,253,175,23,134,220,234,86,165,150,31,128,139,37,174,9,253,178,164,124,168,93,102,235,22,236,186,248]++row .u32 [545259519,1000]++[.sl 1 [(row .u32 [1000]),(row .u32 [1036])]])]]++[.sl 1 [([.sl 37 []])]])
def zM1:List V:=[.agg (row .u32 [1]++[.sl 35 [(row .u8 (We 32 0)++row .u32 [4294967295,1]++[.sl 1 []])]]++[.sl 2 [(row .i64 [1000]++[.sl 1 [(row .u8 [1]),(row .u8 [1]),(row .u8 [1]),(row .u8 [5])]])]]++row .u32 [0])]
def zNp:V:=.agg (row .u8 [37,205,216,223,81,203,80,27,2,210,68,135,186,37,122,45,54,153,215,87,97,164,65,30,18,4,133,45,141,199,157,21])
def zyM:List V:=[.agg (row .u32 [1]++row .u8 [61,203,117,189,137,197,20,104,21,221,192,209,215,49,76,183,70,25,253,247,43,253,106,115,55,132,161,91,255,182,29,187,97,228,166,135,80,63,52,148,101,13,25,29,89,117,227,159,228,238,226,170,227,84,108,105,186,52,19,141,87,189,48,35]++row .u32 [1036,545259519,2]++[.sl 4 [(row .u32 [1]++[.sl 35 [(row .u8 (We 32 0)++row .u32 [4294967295,1]++[.sl 1 []])]]++[.sl 2 [(row .i64 [1000]++[.sl 1 [(row .u8 [1]),(row .u8 [1]),(row .u8 [1]),(row .u8 [5])]])]]++row .u32 [0])]])]
def zyQ:V:=.sc (.int .i64 0)
def zy1:List V:=[.agg (row .u32 [1]++row .u8 [61,203,117,189,137,197,20,104,21,221,192,209,215,49,76,183,70,25,253,247,43,253,106,115,55,132,161,91,255,182,29,187,98,228,166,135,80,63,52,148,101,13,25,29,89,117,227,159,228,238,226,170,227,84,108,105,186,52,19,141,87,189,48,35]++row .u32 [1036,545259519,2]++[.sl 4 [(row .u32 [1]++[.sl 35 [(row .u8 (We 32 0)++row .u32 [4294967295,1]++[.sl 1 []])]]++[.sl 2 [(row .i64 [1000]++[.sl 1 [(row .u8 [1]),(row .u8 [1]),(row .u8 [1]),(row .u8 [5])]])]]++row .u32 [0])]])]
def zyP:V:=.sc (.int .i64 110)
def zyG:List V:=[.agg (row .u32 [0]++row .u8 (We 64 0)++row .u32 [0,0,0]++[.sl 4 []])]
def zyW:V:=.sc (.int .i64 93)
end
section
def ovF:List (Nat × (Nat→Dk))→Nat→Nat→Option Dk
 | [],_,_=>none
 | p::l,L,g=>match Nat.beq p.1 g with
  | true=>some (p.2 L)
  | false=>ovF l L g
def zeK(T:Nat→Option CF)(ov:Nat→Option Dk)(L:Nat):Nat→CBC
 | 0=>noC
 | n+1=>fun β g a b k=>match ov g with
  | some d=>d β a b k
  | none=>match T g,frN g with
   | some c,false=>zj (yD []) (zeK T ov L n) L c a b k
   | _,_=>none
def zhm(T:Nat→Option CF)(D:Nat)(l:List (Nat × (Nat→Dk))):Prop:=∀ L g d,ovF l L g=some d→FOk T L g d D
theorem zU5{T:Nat→Option CF}:zhm T 0 []:=fun L g d h=>by cases h
theorem zw8{T:Nat→Option CF}{L g D D':Nat}{d:Dk}(h:FOk T L g d D)(hD:D≤D'):FOk T L g d D':=fun n hn=>h n (by omega)
theorem zsn{T:Nat→Option CF}{D D' g:Nat}{d:Nat→Dk}{l:List (Nat × (Nat→Dk))}(h:zhm T D l)(hd:∀ L,FOk T L g (d L) D')(hD:D≤D'):zhm T D' ((g,d)::l):=fun L g' d' e=>by
 unfold ovF at e
 split at e
 ·rename_i q
  cases e
  rw [← Nat.eq_of_beq_eq_true q]; exact hd L
 ·exact zw8 (h L g' d' e) hD
theorem zNi{T:Nat→Option CF}{D:Nat}{l:List (Nat × (Nat→Dk))}(h:zhm T D l){L:Nat}:∀ (n m:Nat),D+n≤m→zms (zeK T (ovF l L) L n) (zrm (evF T zx3 L m))
 | 0,m,hm=>xu
 | n+1,m,hm=>fun β g a b k r e=>by
  unfold zeK at e
  split at e
  ·rename_i d hd
   exact h L g d hd m (by omega) β a b k r e
  ·split at e
   ·rename_i c hT hf
    obtain ⟨m,rfl⟩:∃ q,m=q+1:=⟨m-1,by omega⟩
    rw [zTa hf]
    exact zNv (zNi h n m (by omega)) hT e
   ·cases e
theorem zNf{T:Nat→Option CF}{D:Nat}{l:List (Nat × (Nat→Dk))}(h:zhm T D l)(L n g:Nat){d:Dk}(hd:DK d (fun β a b k=>zeK T (ovF l L) L n β g a b k)):FOk T L g d (D+n):=fun m hm β a b k r e=>zNi h n m hm β g a b k r (hd _ _ _ _ _ e)
end
section
theorem zIQ{N:Nat}{X:Nat→Dk}:∀ (l:List (List V × V)),zN0 (fun p=>∀ (β:Type) (n:Nat) (k:V→Bor→Option β),X (n+N) β p.1 [] k=k p.2 []) l→∀ L,DK (zeT l N L) (X L)
 | [],_,L=>fun β a b k r h=>by cases h
 | p::l,H,L=>fun β a b k r h=>by
  unfold zeT at h
  split at h
  ·rename_i q
   rw [Wh] at q
   obtain rfl:=zwu (zK3 12) _ _ q.1
   obtain rfl:b=[]:=by cases b with | nil=>rfl | cons x y=>cases q.2
   obtain ⟨hN,h2⟩:=zr h
   obtain ⟨n,rfl⟩:∃ n,L=n+N:=⟨L-N,by omega⟩
   rw [H.1]; exact h2
  ·exact zIQ l H.2 L β a b k r h
theorem zk9{T:Nat→Option CF}{D:Nat}{l:List (Nat × (Nat→Dk))}(h:zhm T D l)(g:Nat)(vs:List (List V × V))(H:zN0 (fun p=>∀ (β:Type) (n:Nat) (k:V→Bor→Option β),zeK T (ovF l (n+30000)) (n+30000) 40 β g p.1 [] k=k p.2 []) vs):zhm T (D+40) ((g,zeT vs 30000)::l):=
 zsn h (fun L=>zNf h L 40 g (zIQ (X:=fun L β a b k=>zeK T (ovF l L) L 40 β g a b k) vs H L)) (by omega)
noncomputable section
def ov0:List (Nat × (Nat→Dk)):=[(454,zjV zxC),(494,zjV zre),(501,zjV zxC),(458,zjV zre),(527,zOJ)]
theorem zU0:zhm (yn rows) 40 ov0:=zsn (D':=40) (zsn (D':=40) (zsn (D':=40) (zsn (D':=40) (zsn (D':=40) (zU5) (fun L=>zw8 (zxn L) (by omega)) (by omega)) (fun L=>zw8 (zEm L) (by omega)) (by omega)) (fun L=>zw8 (zzj L) (by omega)) (by omega)) (fun L=>zw8 (zA7 L) (by omega)) (by omega)) (fun L=>zw8 (zw6 L) (by omega)) (by omega)
theorem zJX(β:Type)(n:Nat)(k:V→Bor→Option β):zeK (yn rows) (ovF ov0 (n+30000)) (n+30000) 40 β 515 zyz [] k=k zyZ []:=by kernel_rfl
def ov1:List (Nat × (Nat→Dk)):=(515,zeT [(zyz,zyZ)] 30000)::ov0
theorem zVJ:zhm (yn rows) 80 ov1:=zk9 zU0 515 _ ⟨zJX,trivial⟩
theorem zLr(β:Type)(n:Nat)(k:V→Bor→Option β):zeK (yn rows) (ovF ov1 (n+30000)) (n+30000) 40 β 429 zA5 [] k=k zBo []:=by kernel_rfl
theorem zLf(β:Type)(n:Nat)(k:V→Bor→Option β):zeK (yn rows) (ovF ov1 (n+30000)) (n+30000) 40 β 429 zAl [] k=k zBl []:=by kernel_rfl
theorem zKG(β:Type)(n:Nat)(k:V→Bor→Option β):zeK (yn rows) (ovF ov1 (n+30000)) (n+30000) 40 β 429 zzJ [] k=k zAL []:=by kernel_rfl
theorem zL0(β:Type)(n:Nat)(k:V→Bor→Option β):zeK (yn rows) (ovF ov1 (n+30000)) (n+30000) 40 β 429 zBf [] k=k zAT []:=by kernel_rfl
def ov2:List (Nat × (Nat→Dk)):=(429,zeT [(zA5,zBo),(zAl,zBl),(zzJ,zAL),(zBf,zAT)] 30000)::ov1
theorem zWj:zhm (yn rows) 120 ov2:=zk9 zVJ 429 _ ⟨zLr,zLf,zKG,zL0,trivial⟩
theorem zKr(β:Type)(n:Nat)(k:V→Bor→Option β):zeK (yn rows) (ovF ov2 (n+30000)) (n+30000) 40 β 442 zAU [] k=k zAk []:=by kernel_rfl
def ov3:List (Nat × (Nat→Dk)):=(442,zeT [(zAU,zAk)] 30000)::ov2
theorem zVr:zhm (yn rows) 160 ov3:=zk9 zWj 442 _ ⟨zKr,trivial⟩
theorem zLR(β:Type)(n:Nat)(k:V→Bor→Option β):zeK (yn rows) (ovF ov3 (n+30000)) (n+30000) 40 β 474 zA9 [] k=k zBE []:=by kernel_rfl
def ov4:List (Nat × (Nat→Dk)):=(474,zeT [(zA9,zBE)] 30000)::ov3
theorem zV0:zhm (yn rows) 200 ov4:=zk9 zVr 474 _ ⟨zLR,trivial⟩
theorem zLw(β:Type)(n:Nat)(k:V→Bor→Option β):zeK (yn rows) (ovF ov4 (n+30000)) (n+30000) 40 β 484 zA8 [] k=k zzI []:=by kernel_rfl
def ov5:List (Nat × (Nat→Dk)):=(484,zeT [(zA8,zzI)] 30000)::ov4
theorem zVz:zhm (yn rows) 240 ov5:=zk9 zV0 484 _ ⟨zLw,trivial⟩
theorem zKo(β:Type)(n:Nat)(k:V→Bor→Option β):zeK (yn rows) (ovF ov5 (n+30000)) (n+30000) 40 β 443 zBc [] k=k zAn []:=by kernel_rfl
def ov6:List (Nat × (Nat→Dk)):=(443,zeT [(zBc,zAn)] 30000)::ov5
theorem zWp:zhm (yn rows) 280 ov6:=zk9 zVz 443 _ ⟨zKo,trivial⟩
theorem zN3(β:Type)(n:Nat)(k:V→Bor→Option β):zeK (yn rows) (ovF ov6 (n+30000)) (n+30000) 40 β 517 zGw [] k=k zGR []:=by kernel_rfl
def ov7:List (Nat × (Nat→Dk)):=(517,zeT [(zGw,zGR)] 30000)::ov6
theorem zVO:zhm (yn rows) 320 ov7:=zk9 zWp 517 _ ⟨zN3,trivial⟩
theorem zJZ(β:Type)(n:Nat)(k:V→Bor→Option β):zeK (yn rows) (ovF ov7 (n+30000)) (n+30000) 40 β 522 zyT [] k=k zy4 []:=by kernel_rfl
def ov8:List (Nat × (Nat→Dk)):=(522,zeT [(zyT,zy4)] 30000)::ov7
theorem zVj:zhm (yn rows) 360 ov8:=zk9 zVO 522 _ ⟨zJZ,trivial⟩
theorem zFw(β:Type)(n:Nat)(k:V→Bor→Option β):zeK (yn rows) (ovF ov8 (n+30000)) (n+30000) 40 β 444 zuH [] k=k zux []:=by kernel_rfl
def ov9:List (Nat × (Nat→Dk)):=(444,zeT [(zuH,zux)] 30000)::ov8
theorem zVk:zhm (yn rows) 400 ov9:=zk9 zVj 444 _ ⟨zFw,trivial⟩
theorem zJH(β:Type)(n:Nat)(k:V→Bor→Option β):zeK (yn rows) (ovF ov9 (n+30000)) (n+30000) 40 β 445 zy5 [] k=k zyD []:=by kernel_rfl
def zRQ:List (Nat × (Nat→Dk)):=(445,zeT [(zy5,zyD)] 30000)::ov9
theorem zTJ:zhm (yn rows) 440 zRQ:=zk9 zVk 445 _ ⟨zJH,trivial⟩
theorem zK6(β:Type)(n:Nat)(k:V→Bor→Option β):zeK (yn rows) (ovF zRQ (n+30000)) (n+30000) 40 β 422 zAX [] k=k zz4 []:=by kernel_rfl
def zSo:List (Nat × (Nat→Dk)):=(422,zeT [(zAX,zz4)] 30000)::zRQ
theorem zUd:zhm (yn rows) 480 zSo:=zk9 zTJ 422 _ ⟨zK6,trivial⟩
theorem zT2(β:Type)(n:Nat)(k:V→Bor→Option β):zeK (yn rows) (ovF zSo (n+30000)) (n+30000) 40 β 548 zM1 [] k=k zNp []:=by kernel_rfl
def zKY:List (Nat × (Nat→Dk)):=(548,zeT [(zM1,zNp)] 30000)::zSo
theorem zUg:zhm (yn rows) 520 zKY:=zk9 zUd 548 _ ⟨zT2,trivial⟩
theorem zJV(β:Type)(n:Nat)(k:V→Bor→Option β):zeK (yn rows) (ovF zKY (n+30000)) (n+30000) 40 β 542 zyM [] k=k zyQ []:=by kernel_rfl
theorem zJN(β:Type)(n:Nat)(k:V→Bor→Option β):zeK (yn rows) (ovF zKY (n+30000)) (n+30000) 40 β 542 zy1 [] k=k zyP []:=by kernel_rfl
theorem zJ3(β:Type)(n:Nat)(k:V→Bor→Option β):zeK (yn rows) (ovF zKY (n+30000)) (n+30000) 40 β 542 zyG [] k=k zyW []:=by kernel_rfl
def zR3:List (Nat × (Nat→Dk)):=(542,zeT [(zyM,zyQ),(zy1,zyP),(zyG,zyW)] 30000)::zKY
theorem zTB:zhm (yn rows) 560 zR3:=zk9 zUg 542 _ ⟨zJV,zJN,zJ3,trivial⟩
end
end
section
noncomputable section
theorem zKL(β:Type)(n:Nat)(k:KK β):zeK (yn rows) (ovF zR3 (n+30000)) (n+30000) 40 β 669 [] [] k=k (.sc (.bool true)) []:=by kernel_rfl
theorem zHc(L:Nat):FOk (yn rows) L 669 (zsO zX L) 600:=zNf zTB L 40 669 (zUL (X:=fun L β a b k=>zeK (yn rows) (ovF zR3 L) L 40 β 669 a b k) zKL L)
theorem zu9(L:Nat):FOk (yn rows) L 666 (ziw zaY L) 601:=yv (D:=600) (by kernel_rfl) fun m hm=>⟨zh4,zhV zX zz zO xw L,(yk (yk (yk (yk xu (zHc L m (by omega))) (zEd L m (by omega))) (zE2 L m (by omega))) (zzg L m (by omega))),zt3 L⟩
end
end
section
open Go.ChangeShapes Go.WideShapes Go.ChangeAt Go.RowKit
theorem zJq{H:Type}{enc:TypeId × Value→H}{P:Program}{w:World}{base:Nat}{spare:Nat→Bool}{held:Bool}{fuel n:Nat}{t e:TypeId}{k:IntKind}{cs:List Value}{d:DataW H}{p:List MemPlace}(ht:P.underlying t=some (.array n e))(he:P.underlying e=some (.int k))(hc:P.cellsOf e=1)
  (ns:List Int) (hd:d=.agg (ns.map fun x=>.lit (.int k x))) (h:DataW.trod enc P w base spare held fuel t cs=some (d,p)) {i:Nat} (hi:i<n):cs[i]?=some (.int k (ns.getD i 0)):=by
 obtain ⟨xs,m,_,hx,_,hlen,hel⟩:=DataW.trod_array ht h
 have h1:=hel i hi
 rw [hc,Nat.mul_one] at h1
 have hxi:xs[i]?=some (xs[i]'(by omega)):=List.getElem?_eq_getElem _
 rw [hxi] at h1
 obtain ⟨v,e1,e2,_⟩:=DataW.trod_int he h1
 simp only [Prod.mk.injEq] at hx
 have h2:d=.agg (xs.map (·.1)):=hx.1
 rw [hd] at h2
 have h3:ns.map (fun x=>DataW.lit (H:=H) (.int k x))=xs.map (·.1):=by injection h2
 have h4:=congrArg (fun l=>l[i]?) h3
 simp only [List.getElem?_map,hxi,Option.map_some,e2] at h4
 have h5:ns[i]?=some v:=by
  cases hq:ns[i]? with
  | none=>rw [hq] at h4; cases h4
  | some q=>
   rw [hq] at h4
   simp only [Option.map_some,Option.some.injEq] at h4
   injection h4 with h6
   injection h6 with _ h7
   rw [h7]
 rw [Ws,h5]
 have h8:=congrArg (fun l=>l[0]?) e1
 simp only [List.getElem?_take,List.getElem?_drop] at h8
 simpa using h8
theorem zLp{k:IntKind}{ns:List Int}{i:Nat}{v:V}(h:(row k ns)[i]?=some v):i<ns.length∧v=.sc (.int k (ns.getD i 0)):=by
 unfold row at h
 rw [List.getElem?_map] at h
 cases hq:ns[i]? with
 | none=>rw [hq] at h; cases h
 | some q=>
  rw [hq] at h
  obtain ⟨hi,_⟩:=List.getElem?_eq_some_iff.1 hq
  refine ⟨hi,?_⟩
  rw [Ws,hq]
  simpa using h.symm
def zFl{H:Type}:List (String × DataW H):=[("lightclient/sha.k",Rows.laid_lightclient_sha_k),("lightclient/sha.initial",Rows.laid_lightclient_sha_initial)]
theorem gK:Tryz.prog.globalNamed "lightclient/sha.k"=some 1:=by kernel_rfl
theorem gI:Tryz.prog.globalNamed "lightclient/sha.initial"=some 0:=by kernel_rfl
theorem tK:(Tryz.prog.globals[1]?).map (·.type)=some 230:=by kernel_rfl
theorem tI:(Tryz.prog.globals[0]?).map (·.type)=some 206:=by kernel_rfl
theorem zTU{W:World}(h:laidMetH Tryz.prog zFl W):GV (zbv fg gls) W zlz:=by
 rw [MakeChecks.laidMetH_plain _ _ _ (by kernel_rfl)] at h
 obtain ⟨ps,⟨g0,t0,cs0,f0,p0,q0,hg0,ht0,hv0,hd0,⟨g1,t1,cs1,f1,p1,q1,hg1,ht1,hv1,hd1,_,_⟩,_⟩,_,_⟩:=h
 obtain rfl:=QV (gK.symm.trans hg0)
 obtain rfl:=QV (gI.symm.trans hg1)
 obtain rfl:=QV (tK.symm.trans ht0)
 obtain rfl:=QV (tI.symm.trans ht1)
 have eu:Tryz.prog.underlying 22=some (.int .u32):=by kernel_rfl
 have ec:Tryz.prog.cellsOf 22=1:=by kernel_rfl
 have ek:Tryz.prog.underlying 230=some (.array 64 22):=by kernel_rfl
 have ei:Tryz.prog.underlying 206=some (.array 8 22):=by kernel_rfl
 have dk:(Rows.laid_lightclient_sha_k:DataW Unit)=.agg (kc.map fun x=>.lit (.int .u32 x)):=rfl
 have di:(Rows.laid_lightclient_sha_initial:DataW Unit)=.agg (init0.map fun x=>.lit (.int .u32 x)):=rfl
 intro g cs hg i v hv
 have hg':(gls.find? (fun e=>e.1==g)).map (·.2)=some cs:=hg
 by_cases hk:g=1
 ·subst hk
  obtain rfl:gk_sha_k=cs:=QV ((show (gls.find? (fun e=>e.1==1)).map (·.2)=some gk_sha_k from rfl).symm.trans hg')
  obtain ⟨hi,rfl⟩:=zLp (k:=.u32) (ns:=kc) hv
  refine ⟨_,rfl,rfl,fun hw=>hw,?_⟩
  rw [World.var?_cell gK hv0 i,W5.symm]
  exact zJq ek eu ec kc dk hd0 hi
 ·by_cases hk2:g=0
  ·subst hk2
   obtain rfl:gk_sha_initial=cs:=QV ((show (gls.find? (fun e=>e.1==0)).map (·.2)=some gk_sha_initial from rfl).symm.trans hg')
   obtain ⟨hi,rfl⟩:=zLp (k:=.u32) (ns:=init0) hv
   refine ⟨_,rfl,rfl,fun hw=>hw,?_⟩
   rw [World.var?_cell gI hv1 i,W5.symm]
   exact zJq ei eu ec init0 di hd1 hi
  ·exfalso
   have e:gls=[(0,gk_sha_initial),(1,gk_sha_k)]:=rfl
   rw [e] at hg'
   simp only [List.find?_cons,List.find?_nil,beq_eq_false_iff_ne.2 (Ne.symm hk),beq_eq_false_iff_ne.2 (Ne.symm hk2)] at hg'
   cases hg'
theorem zRH(os:Os)(args:Array Value):laidMetH Tryz.prog zFl ((World.doorLaid Tryz.prog 400 os).forCall (fun _ _=>0) ⟨#[],args,[]⟩).memory:=
 laidMetH_of_parts3 (fuel:=8) (laidMet_of_run' 8 (by kernel_rfl) (by kernel_rfl)) (by kernel_rfl) (by kernel_rfl)
end
section
theorem zaO{a b:Bool}(ha:a=true)(hb:b=true):(a&&b)=true:=by rw [ha,hb]; rfl
theorem zTS:laidOutB Tryz.prog=true:=by kernel_rfl
theorem zTK:mapsRowed Tryz.prog=true:=by kernel_rfl
theorem zRJ:(Tryz.prog.stops==[])=true:=by kernel_rfl
theorem zSP:(Tryz.prog.stopKnobs==[])=true:=by kernel_rfl
theorem zSm:Tryz.prog.stopsHeard=true:=by kernel_rfl
theorem zSv:Tryz.prog.mayEnter=true:=by kernel_rfl
theorem zSQ:(false==Tryz.prog.liftsFinal)=true:=by kernel_rfl
theorem zTV:(false==Tryz.prog.plainKeys)=true:=by kernel_rfl
end
section
namespace blockDecodesL
open Go.ChangeShapes Go.WideShapes Go.ChangeAt Go.RowKit
theorem own:ownKnob Tryz.prog.godebug=none:=by kernel_rfl
theorem zUf:laidOutB Tryz.prog=true:=by kernel_rfl
set_option maxRecDepth 100000 in
theorem zV3(os:Os)(started:os.Started)(H:Type)(enc:TypeId × Value→H) :
  ReturnsInHanded {} Tryz.checked os 8 .any (fun w args=>(Rows.blockDecodesSpec.pre enc Tryz.prog Tryz.f8 [] false w args∧laidMetH Tryz.prog zFl w)∧sizedMet enc Tryz.prog Tryz.f8 (OpenSpec.ofChange Rows.blockDecodesSpec) false w args)
   (Rows.blockDecodesSpec.post enc Tryz.prog Tryz.f8 false true false false):=by
 refine returnsInHanded_of_change_and (C:=Tryz.checked) (X:=fun w _=>laidMetH Tryz.prog zFl w) (fun _ _ _ hh h=>h.of_heap hh) own started (by kernel_rfl) Tryz.func8
  (ChangeSpec.witness_shaped (enc:=enc) (C:=Tryz.checked) (os:=os) (X:=fun w _=>laidMetH Tryz.prog zFl w) false (World.doorLaid Tryz.prog 400 os) #[.slice none 0 0] 8 rfl (World.shaped_of_RefB (by kernel_rfl) (by kernel_rfl)) (by kernel_rfl) (by kernel_rfl) (by kernel_rfl) (zRH os _)) ?_
 intro W base args ds gs before hval0 hW hcnd _ hlaid _
 have hval:∀ (j:Nat) t v,Tryz.f8.params[j]?=some t→args[j]?=some v→Value.okWide Tryz.prog W .any base t v:=hval0
 have hW':=hW
 obtain ⟨p,q,hA0,hV,rfl,hfz,hnd⟩:=hW
 have hA:DataW.TrodAll enc Tryz.prog W 0 (fun _=>true) true Tryz.f8.params.toList args.toList ds p:=hA0
 rw [Tryz.params8] at hA hval
 obtain ⟨v0,vs0,d0,ds0,p0,q0,hargs,rfl,rfl,h0,r0⟩:=trodAll_cons hA
 obtain ⟨rfl,rfl,rfl⟩:=trodAll_nil r0
 obtain rfl:args=#[v0]:=by cases args; simp_all
 obtain ⟨rfl,rfl⟩:=trodVars_none hV
 have k0:=h0
 have lt0:∀ x∈p0,x.block<W.heap.size:=by obtain ⟨m,hm⟩:=k0; exact DataW.trod_lt m _ _ _ hm
 obtain ⟨A0,len0,cap0,rfl⟩:=okWide_slice Tryz.underlying32 (hval 0 32 v0 rfl rfl)
 obtain ⟨x0,hx0,rp0⟩:=zT8 (r:=.any) (b0:=base) (ren:=zbv fg gls) (d:=20) (ct:=.sl ([.int .u8])) rfl h0 (by kernel_rfl)
 obtain ⟨a0,rfl,hl0,wf0⟩:=hx0.sl_inv
 clear hA0 hval0
 obtain ⟨L,hL⟩:=zBa a0 hl0 wf0
 have hd:ziw zaY L Bool [(V.sl 1 a0)] [] zBY=some true:=by
  show (aL 1 (V.sl 1 a0) fun x0=>zaY Bool L x0 (fun p=>zBY (V.sc (.bool p)) []))=some true
  rw [zWL]
  exact (hL (fun p=>zBY (V.sc (.bool p)) [])).trans rfl
 obtain ⟨v,b,hev,hk⟩:=zu9 L 1000 (by decide) Bool [(V.sl 1 a0)] [] zBY true hd
 have hv:=zQ4 hk
 subst hv
 refine (zNR (us:=[.slice A0 len0 cap0]) (w:=W) (zTU hlaid) (zW9 L 1000) (f:=8) (by kernel_rfl) rfl (fun i x u hx hu=>?_) hev).mono fun e W' ⟨he,bel0⟩=>?_
 ·match i,hx,hu with
  | 0,hx,hu=>cases hx; cases hu; exact rp0
  | n+1,hx,hu=>simp at hx
 ·have bel:=Kept.below bel0
  subst he
  exact ⟨_,rfl,_,_,_,[],_,[],hW',trodAll_mk1 (shut_bool Tryz.underlying4 _),(trodAll_cons_mk (Below.trod zUf (by kernel_rfl) (of_decide_eq_true (by kernel_rfl)) k0 bel lt0) trodAll_mk0),rfl,bel.frame _,fun h=>by cases h⟩
theorem zXd:(Rows.blockDecodesRow.wf (OpenSpec.ofChange Rows.blockDecodesSpec))=true:=by kernel_rfl
theorem zWZ:(Tryz.f8.params.all (Tryz.prog.readableRec ·))=true:=by kernel_rfl
theorem zWH:(namedTie Tryz.prog Rows.blockDecodesRow.named Rows.blockDecodesSpec.vars)=true:=by kernel_rfl
theorem zW2:((Rows.blockDecodesRow.stops==[]))=true:=by kernel_rfl
theorem zWS:((Rows.blockDecodesRow.knobs==[]))=true:=by kernel_rfl
theorem zXe:((Rows.blockDecodesRow.inPlace==Tryz.prog.inPlace 8))=true:=by kernel_rfl
theorem zVV:((Rows.blockDecodesRow.unfollowed==Tryz.prog.unfollowed 8))=true:=by kernel_rfl
theorem zU3:((Rows.blockDecodesRow.recurses==Tryz.prog.recurses 8))=true:=by kernel_rfl
theorem zVL:((Rows.blockDecodesRow.named==Tryz.prog.varsNamed 8))=true:=by kernel_rfl
theorem zVp:((Rows.blockDecodesRow.maps==(Tryz.f8.params.toList++Rows.blockDecodesSpec.plain.varTypes Tryz.prog).any (Tryz.prog.mapsRec ·)))=true:=by kernel_rfl
theorem zVw:((Rows.blockDecodesRow.ifaces==(Tryz.f8.params.toList++Rows.blockDecodesSpec.plain.varTypes Tryz.prog).any (Tryz.prog.ifacesRec ·)))=true:=by kernel_rfl
theorem zWn:((Rows.blockDecodesRow.mapsOut==Tryz.prog.mapsAmong Tryz.f8.resultTypes.toList))=true:=by kernel_rfl
theorem zWl:((Rows.blockDecodesRow.loops==(Tryz.f8.params.toList++Rows.blockDecodesSpec.plain.varTypes Tryz.prog).any (Tryz.prog.loopsFrom ·)))=true:=by kernel_rfl
theorem zVY:((Rows.blockDecodesRow.wideKeys==(Tryz.f8.params.toList++Rows.blockDecodesSpec.plain.varTypes Tryz.prog++Tryz.f8.resultTypes.toList).any (Tryz.prog.wideKeysFrom ·)))=true:=by kernel_rfl
theorem zVI:(Rows.blockDecodesSpec.vars.all (Tryz.prog.varReadable ·))=true:=by kernel_rfl
theorem zVb:(Tryz.f8.resultTypes.all (fun t=>Tryz.prog.readableRec t&&decide (t<Tryz.prog.types.size)))=true:=by kernel_rfl
theorem zWa:((Rows.blockDecodesRow.ifacesOut==Tryz.f8.resultTypes.toList.any (Tryz.prog.ifacesRec ·)))=true:=by kernel_rfl
theorem zWy:((Rows.blockDecodesRow.loopsOut==Tryz.f8.resultTypes.toList.any (Tryz.prog.loopsFrom ·)))=true:=by kernel_rfl
theorem zU6:(Rows.blockDecodesRow.shortTexts.isNone)=true:=by kernel_rfl
theorem zVm:((Tryz.prog.make==some Rows.blockDecodesRow.make))=true:=by kernel_rfl
theorem zWg:((Rows.blockDecodesRow.kinds==(if Rows.blockDecodesRow.domain.isEmpty then [] else Tryz.f8.params.toList.map fun t=>match Tryz.prog.underlying t with | some (.int k)=>some k | _=>none)))=true:=by kernel_rfl
theorem zVG:((Rows.blockDecodesRow.pinned==Rows.blockDecodesRow.pinnedBy))=true:=by kernel_rfl
theorem zVC:((Rows.blockDecodesRow.veiled==(Tryz.f8.params.toList++Rows.blockDecodesSpec.plain.varTypes Tryz.prog++Tryz.f8.resultTypes.toList).any (Tryz.prog.veiledRec ·)))=true:=by kernel_rfl
theorem zVW:(Rows.blockDecodesRow.veiledFits Tryz.prog Tryz.f8.params.toList (Tryz.f8.params.toList++Rows.blockDecodesSpec.plain.varTypes Tryz.prog++Tryz.f8.resultTypes.toList))=true:=by kernel_rfl
theorem zVv:joinedFacts Tryz.prog 8 Tryz.f8 Rows.blockDecodesSpec Rows.blockDecodesRow=true:=by
 unfold joinedFacts
 exact (zaO (zaO (zaO (zaO (zaO (zaO (zaO (zaO (zaO (zaO (zaO (zaO (zaO (zaO (zaO (zaO (zaO (zaO (zaO (zaO (zaO (zaO (zaO (zaO (zaO (zaO (zaO (zaO (zaO (zaO (zaO zXd zTS) zTK) zWZ) zWH) zW2) zRJ) zWS) zSP) zXe) zVV) zU3) zVL) zVp) zVw) zWn) zWl) zVY) zVI) zVb) zWa) zWy) zTV) zU6) zSm) zSv) zSQ) zVm) zWg) zVG) zVC) zVW)
theorem inst:Tryz.f8.isInstance Tryz.prog Rows.blockDecodesRow.origin Rows.blockDecodesRow.targs:=of_decide_eq_true (by kernel_rfl)
theorem xa:Tryz.f8.isWrapper Tryz.prog Rows.blockDecodesRow.wrapper Rows.blockDecodesRow.mainSum:=by
 unfold Func.isWrapper
 first | (rw [if_pos (by decide +kernel)]; kernel_rfl) | (rw [if_neg (by decide +kernel)]; exact ⟨rfl,rfl⟩)
theorem zeh:Tryz.prog.funcNamed Rows.blockDecodesRow.func=some 8:=by kernel_rfl
theorem over:Rows.blockDecodesRow.holds Tryz.pinned (OpenSpec.ofChange Rows.blockDecodesSpec):=
 OpenClaim.holds_of_wide 8 Tryz.f8 rfl rfl rfl rfl rfl rfl rfl ⟨rfl,rfl,rfl,rfl,rfl⟩ rfl rfl rfl rfl rfl zeh Tryz.func8 zVv inst xa
  (fun os started H enc _=>zV3 os started H enc)
theorem card:Claim7.holds Tryz.pinned (.plain (OpenSpec.ofChange Rows.blockDecodesSpec)) Rows.blockDecodesCard:=
 Claim7.holds_tied_plain_at .later [] [.data,.data] true (true,"605e51a862096062536ad9be249d0ad3e318cc34ccb4262f49b7334d7bd3505f") false
  over (fun _ h=>by cases h) (by kernel_rfl) (fun _ h=>by cases h) blockDecodes_row_tie rfl ⟨rfl,rfl⟩ (by kernel_rfl) rfl
  (fun f fn hf hfn=>by
   obtain rfl:f=8:=QV ((show Tryz.prog.funcNamed "lightclient/lightclientlaw11.BlockDecodes"=some 8 by kernel_rfl).symm.trans hf) |>.symm
   obtain rfl:fn=Tryz.f8:=(QV (Tryz.func8.symm.trans hfn)).symm
   exact ⟨by kernel_rfl,fun j t ht=>by
    rw [Tryz.params8] at ht
    have hm:t∈[32]:=by simpa using Array.mem_of_getElem? ht
    have hall:([32].all fun u=>!Tryz.prog.wantsStandIn u)=true:=by kernel_rfl
    exact (show Tryz.prog.wantsStandIn t=false by simpa using List.all_eq_true.1 hall t hm)⟩)
  (by kernel_rfl)
end blockDecodesL
theorem blockDecodes_holds:Rows.BlockDecodesCardSaid:=blockDecodesL.card
end
end Go.Proofs.YtgmhijonllockaaGreatDoor
