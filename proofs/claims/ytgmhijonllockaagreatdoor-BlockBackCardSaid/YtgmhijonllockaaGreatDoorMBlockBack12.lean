/- Part 12 of the proof of BlockBack: an abstract machine over plain values, its soundness, and the functions of the program on plain values. -/
import Derived.Test.YtgmhijonllockaaGreatDoorMBlockBack11
namespace Go.Proofs.YtgmhijonllockaaGreatDoor
set_option maxRecDepth 100000
set_option linter.unusedVariables false
set_option linter.unusedSimpArgs false
open List renaming length->XK,replicate->We,take->XM,length_map->QB,length_cons->XS,mem_cons->Q9,length_nil->XT,append_assoc->Wu,getElem?_append_right->Wt,length_take->Ww,length_drop->XU,getD_eq_getElem?_getD->Ws,map_cons->QW,take_of_length_le->XE,set_append_right->XW,mem_map->Xy,map->Xv,mem_append->QD,getElem?_eq_getElem->Wc,flatten_cons->WL,nil_append->XY,getElem?_append_left->Wv,getElem_mem->W2,append_nil->XZ,length_replicate->X0,singleton_append->X1,length_append->Wm
open IntKind renaming wrap->QG
open Int renaming toNat_natCast->XV,toNat->XL
open Nat renaming sub_zero->XX,mul_le_mul_right->WI
open Bool renaming not_true->Xh
section
noncomputable section
def zKE:Hint:=⟨[(0,0),(15,2),(24,2)],[],[none,none,none,none,none,some ((bl 100663302 81),(bl 2417851639229258349407055 81)),none,some ((bl 6 81),(bl 2417851639229258349407055 81)),none,none,some ((bl 48 81),(bl 2417851639229258349407099 81)),none,some ((bl 30786325577988 81),(bl 2417851639229258349407183 81)),none,some ((bl 260 81),(bl 2417851639229258349407183 81)),none,none,some ((bl 48 81),(bl 2417851639229258349406971 81)),none,none,none,some ((bl 1033017668127734890752 81),(bl 2417851639229258349407227 81)),none,some ((bl 256 81),(bl 2417851639229258349407227 81)),none,none,none,none],[],[],false,false,[]⟩
def zEk:Hint:=⟨[],[],[none],[],[],false,false,[]⟩
def zCi:Hint:=⟨[(0,0),(0,1),(5,0),(5,1),(5,2),(8,2),(9,0),(9,5),(14,2),(15,0),(15,4),(17,3),(18,4),(19,4),(20,4),(21,4),(22,4),(23,0)],[],[none,none,none,none,none,some ((bl 30786325579626 98),(bl 316912650056978537380696797183 98)),none,some ((bl 1898 98),(bl 316912650056978537380696797183 98)),none,none,some ((bl 4035225266123966314 98),(bl 316912649614335492605146542079 98)),none,some ((bl 1898 98),(bl 316912649614335492605146542079 98)),none,none],[],[],false,false,[]⟩
def zGn:Hint:=⟨[(0,0)],[],[none,none,none,none,none,none,none,none,none,none,none],[],[],false,false,[]⟩
def zKq:Hint:=⟨[(0,0),(0,1),(3,2),(4,0),(4,2),(8,2),(10,5),(10,10),(13,2),(14,8),(14,14),(15,1),(15,5)],[],[none,none,none,none,none,none,none,none,none,none],[],[],false,false,[]⟩
def zGl:Hint:=⟨[(0,0),(2,0),(3,0),(5,2),(5,4),(5,6),(7,1),(8,0),(8,5),(9,0),(9,1)],[],[none,none,none,some ((bl 17 29),(bl 435220243 29)),none,some ((bl 16 29),(bl 435220242 29)),none,none,some ((bl 12 29),(bl 435220238 29)),none],[],[],false,false,[]⟩
def zEM:Hint:=⟨[(1,0),(4,2),(7,0),(7,3),(15,5)],[(7,2)],[none,some ((bl 456 51),(bl 2232953357844443 51)),none,some ((bl 8 51),(bl 2232953357844443 51)),none,none,none,none,none,some ((bl 4 51),(bl 2232953357844439 51)),none,none,some ((bl 4 51),(bl 2232953357844439 51)),none],[],[],false,false,[]⟩
def zIt:Hint:=⟨[],[],[none,none,none,some ((bl 1792 18),(bl 229355 18)),none,some ((bl 0 18),(bl 229355 18)),none,none,some ((bl 4 18),(bl 229359 18)),none],[],[],false,false,[]⟩
def zEt:Hint:=⟨[(0,0),(1,3),(5,0),(5,6),(7,0),(7,1)],[],[none,some ((bl 3592 23),(bl 6422495 23)),none,some ((bl 8 23),(bl 6422495 23)),none,none],[],[],false,false,[]⟩
def zEo:Hint:=⟨[],[],[none],[],[],false,false,[]⟩
def zFM:Hint:=⟨[(0,0)],[],[none,none,none,none,none,none,none,none],[],[],false,false,[]⟩
def zGI:Hint:=⟨[(0,0)],[],[none,none,none,none,none,none,none,none,none,none,none,none,none,none,none,none,none,none],[],[],false,false,[]⟩
def zIq:Hint:=⟨[],[],[none,some ((bl 224 14),(bl 16363 14)),none,some ((bl 0 14),(bl 16363 14)),none,none,some ((bl 4 14),(bl 16367 14)),none],[],[],false,false,[]⟩
def zER:Hint:=⟨[(0,0),(2,0),(3,9)],[],[none,none,none],[],[],false,false,[]⟩
def zHc:Hint:=⟨[(0,0),(1,0),(4,0),(4,5),(5,0),(5,1)],[],[none,some ((bl 9 14),(bl 10239 14)),none,some ((bl 8 14),(bl 10238 14)),none,none],[],[],false,false,[]⟩
def zGk:Hint:=⟨[(0,0),(2,1),(3,1)],[],[none,none,none],[],[],false,false,[]⟩
def zDy:Hint:=⟨[(1,3)],[],[none],[],[],false,false,[]⟩
def zGF:Hint:=⟨[],[],[none],[],[],false,false,[]⟩
def zEH:Hint:=⟨[(1,4)],[],[none],[],[],false,false,[]⟩
def zEz:Hint:=⟨[(3,7),(4,4)],[],[none,none,none],[],[],false,false,[]⟩
def zEy:Hint:=⟨[],[],[none,none,none,some ((bl 504 34),(bl 12582911999 34)),none,some ((bl 192 34),(bl 12582911687 34)),none,none,none],[],[],false,false,[]⟩
def zJX:Hint:=⟨[],[],[none],[],[],false,false,[]⟩
def zJr:Hint:=⟨[],[],[none],[],[],false,false,[]⟩
def zEN:Hint:=⟨[],[],[none],[],[],false,false,[]⟩
def zGK:Hint:=⟨[],[],[none],[],[],false,false,[]⟩
def zGQ:Hint:=⟨[],[],[none],[],[],false,false,[]⟩
def zEw:Hint:=⟨[(5,1)],[],[none,none,none,none,none],[],[],false,false,[]⟩
def zF4:Hint:=⟨[],[],[none],[],[],false,false,[]⟩
def zKv:Hint:=⟨[],[],[none],[],[],false,false,[]⟩
def zGv:Hint:=⟨[],[],[none,some ((bl 78 24),(bl 16777167 24)),none,some ((bl 12 24),(bl 16777165 24)),none,none],[],[],false,false,[]⟩
def zEV:Hint:=⟨[(0,1),(2,1)],[],[none],[],[],false,false,[]⟩
def zEJ:Hint:=⟨[(4,3),(6,3)],[],[none,none,none,none],[],[],false,false,[]⟩
def zzs:Hint:=⟨[],[],[none],[],[],false,false,[]⟩
def zET:Hint:=⟨[],[],[none],[],[],false,false,[]⟩
def zzE:Hint:=⟨[],[],[none],[(1,[5])],[],false,false,[]⟩
def zEj:Hint:=⟨[(3,4)],[],[none,none,none],[],[],false,false,[]⟩
def zEL:Hint:=⟨[(10,2)],[],[none,none,none,none,none,none,none,none,none],[],[],false,false,[]⟩
def zGd:Hint:=⟨[(0,0),(5,13)],[],[none,some ((bl 810 44),(bl 17577153655615 44)),none,some ((bl 264 44),(bl 17577153655071 44)),none,none,some ((bl 192 44),(bl 17577153654999 44)),none,none],[],[],false,false,[]⟩
def zEZ:Hint:=⟨[],[],[none,none,none,some ((bl 50331665 40),(bl 1099511627743 40)),none,some ((bl 16 40),(bl 1099511627743 40)),none,none],[],[],false,false,[]⟩
def zE1:Hint:=⟨[(1,2)],[],[none,none,none,none,none],[],[],false,false,[]⟩
def zIn:Hint:=⟨[(0,0),(0,2),(4,6),(4,8),(6,7),(6,9),(8,0),(8,4),(10,18),(12,20),(14,16),(17,0),(18,0),(18,4),(21,0),(21,9),(23,10),(23,12),(25,13),(26,0),(26,11),(29,7),(30,0),(30,9),(32,9),(34,9),(35,0)],[],[none,none,none,none,none,none,none,none,none,none,none,none,none,none,none,none,none,none,none,none,none,none,none,none,none,none,none,none,none,none],[(21,[9])],[],false,false,[]⟩
def zI8:Hint:=⟨[(0,1),(1,2),(1,3),(3,1),(5,0),(7,0),(8,2),(10,0),(13,2),(20,0),(22,0),(27,5),(28,0),(28,4),(32,5),(34,4),(34,5),(34,7),(36,1),(38,0),(38,2)],[(28,3)],[none,none,none,none,none,none,none,some ((bl 60129556512 134),(bl 21479575417666174971013579263329479457343 134)),none,some ((bl 6144 134),(bl 21479575417666174971013579263329479449119 134)),none,none,none,none,some ((bl 448 134),(bl 21479575417666174971013579263329479443423 134)),none,some ((bl 448 134),(bl 21479575417666174971013579263329479443423 134)),none,none,none,none,none,none,none,some ((bl 448 134),(bl 21479575417666174971013579263329479443423 134)),none],[],[],false,false,[]⟩
def zza:Hint:=⟨[(1,4),(1,5)],[],[none,none,none,none,none,none,none,none],[],[],false,false,[]⟩
def zGE:Hint:=⟨[(0,0),(0,1),(1,5)],[],[none,none,none,none,none,none,none],[],[],false,false,[]⟩
def zFN:Hint:=⟨[(0,0),(3,3)],[],[none,none,none,none,none,none,none,some ((bl 805306638 45),(bl 34634616271679 45)),none,some ((bl 256 45),(bl 34634616271671 45)),none,none,some ((bl 192 45),(bl 34634616271863 45)),none],[],[],false,false,[]⟩
def zCv:Hint:=⟨[(0,0),(1,4),(1,9)],[],[none],[],[],false,false,[]⟩
def zDB:Hint:=⟨[(0,0),(0,1),(1,0),(5,3),(6,0),(6,12),(8,0),(8,1)],[],[none,some ((bl 28774 33),(bl 6845103743 33)),none,some ((bl 32 33),(bl 6845103675 33)),none,none],[],[],false,false,[]⟩
def zHf:Hint:=⟨[(0,0),(0,1),(1,0),(6,0),(6,7),(8,0),(8,5),(8,10)],[],[none,some ((bl 809 39),(bl 549553962943 39)),none,some ((bl 41 39),(bl 549553962943 39)),none,none,none],[],[],false,false,[]⟩
def zJR:Hint:=⟨[(0,0),(0,1),(3,2),(5,0),(9,2),(10,3),(12,0),(12,1)],[],[none,some ((bl 114709 39),(bl 549747422527 39)),none,some ((bl 21 39),(bl 549747422527 39)),none,none,some ((bl 192 39),(bl 549747422703 39)),none,some ((bl 1879048193 39),(bl 481036334575 39)),none,some ((bl 1 39),(bl 481036334575 39)),none,none],[],[],false,false,[]⟩
def zFY:Hint:=⟨[(4,2)],[],[none,some ((bl 456 19),(bl 524255 19)),none,some ((bl 8 19),(bl 524255 19)),none,none],[],[],false,false,[]⟩
def zCC:Hint:=⟨[(0,0),(0,1),(0,2),(0,3),(0,4),(8,3),(10,7),(10,8),(13,5),(18,2),(21,4),(22,6),(22,7)],[],[none,none,none,some ((bl 492581209251048 153),(bl 11417981541574946208765741796140502961711488751 153)),none,some ((bl 7392 153),(bl 11417981541574946208765741796140502961711488743 153)),none,none,none,some ((bl 448 153),(bl 11417981541574946208765741796140502961711481799 153)),none,some ((bl 448 153),(bl 11417981541574946208765741796140502961711481799 153)),none,some ((bl 67699845898911814992977128 153),(bl 11417981541647678929624043984199454700745523183 153)),none,some ((bl 492581209431272 153),(bl 11417981541647678929624043984199454700745523183 153)),none,none,some ((bl 448 153),(bl 11417981541574946208765741796140502961711481799 153)),none,none,none,none,none,none,none,none],[],[],false,false,[]⟩
def zG3:Hint:=⟨[(0,0),(0,1)],[],[none],[],[],false,false,[]⟩
def zCx:Hint:=⟨[(0,0),(0,1),(0,3)],[],[none,none,none,none,none,none,none],[],[],false,false,[]⟩
def zGi:Hint:=⟨[(0,0),(0,1),(1,4),(1,7),(8,3)],[],[none,none,none,none,none,none,none,none,none,none,none,none,none,none,none,none,none,none,some ((bl 132226261520350065984000 93),(bl 9903520314283042199192985231 93)),none,some ((bl 0 93),(bl 9903520314283042199192984719 93)),none,none,some ((bl 256 93),(bl 9903520314283042199192984975 93)),none],[],[],false,false,[]⟩
def zJe:Hint:=⟨[(0,1),(6,16),(6,17),(7,6),(8,5),(8,9),(8,10),(10,6),(11,1),(11,6),(12,1),(12,6)],[],[none,some ((bl 3758096404 112),(bl 4941240693938888968870671530582079 112)),none,some ((bl 20 112),(bl 4941240693938888968870671530582079 112)),none,none,none,none],[],[],false,false,[]⟩
def zHE:Hint:=⟨[(0,0)],[],[none],[],[],false,false,[]⟩
def zOh:Hint:=⟨[],[],[none],[],[],false,false,[]⟩
def zGO:Hint:=⟨[(0,0)],[],[none],[],[],false,false,[]⟩
def zLM:Hint:=⟨[(4,2)],[],[none,some ((bl 456 22),(bl 4194267 22)),none,some ((bl 0 22),(bl 4194259 22)),none,none,some ((bl 4 22),(bl 4194263 22)),none],[],[],false,false,[]⟩
def zLW:Hint:=⟨[(0,0),(10,2)],[],[none,none,none,none,none,none,none,some ((bl 234881034 47),(bl 140737488355291 47)),none,some ((bl 10 47),(bl 140737488355291 47)),none,none,some ((bl 4 47),(bl 140737488355293 47)),none,none,none],[],[],false,false,[]⟩
def zI2:Hint:=⟨[(0,0),(1,3),(1,4)],[],[none,none,none],[],[],false,false,[]⟩
def zQZ:Hint:=⟨[(0,0)],[],[none],[],[],false,false,[]⟩
def zGN:Hint:=⟨[(4,3),(6,3),(13,3),(16,2),(17,5),(25,2),(28,2)],[],[none,some ((bl 14680073 94),(bl 19807040628566084346308848139 94)),none,some ((bl 9 94),(bl 19807040628566084346308848139 94)),none,none,some ((bl 4 94),(bl 19807040628566084346308848143 94)),none,some ((bl 15393162788873 94),(bl 19807040621647429470837377435 94)),none,some ((bl 1 94),(bl 19807040621647429470837377435 94)),none,none,some ((bl 3956042836738569 94),(bl 19807040621648555370744220571 94)),none,some ((bl 15393162788873 94),(bl 19807040621648555370744220571 94)),none,none,some ((bl 4 94),(bl 19807040621647429470837377439 94)),none,some ((bl 33056565380087516528640 94),(bl 19805831702746469769210620827 94)),none,some ((bl 0 94),(bl 19805831702746469769210620827 94)),none,none,some ((bl 4264296934031289628000256 94),(bl 19807040628566084398385327003 94)),none,some ((bl 33056565380087516528640 94),(bl 19807040628566084398385327003 94)),none,none,some ((bl 4 94),(bl 19805831702746469769210620831 94)),none],[],[],false,false,[]⟩
def zNs:Hint:=⟨[(0,0)],[],[none],[],[],false,false,[]⟩
def zF2:Hint:=⟨[(1,1),(2,0),(2,3),(3,0),(3,3)],[],[none],[],[],false,false,[]⟩
def zDf:Hint:=⟨[(0,0),(1,2),(3,0),(8,0),(8,13),(9,0),(9,7),(10,0),(10,4),(12,0),(12,1)],[],[none,some ((bl 9 48),(bl 225369817865679 48)),none,some ((bl 8 48),(bl 225369817865678 48)),none,none,some ((bl 57 48),(bl 278146375999487 48)),none,some ((bl 24 48),(bl 278146375999455 48)),none,none,none],[],[],false,false,[]⟩
def zGT:Hint:=⟨[],[],[none,none,none],[],[],false,false,[]⟩
def zIb:Hint:=⟨[(1,0),(4,2),(5,0),(5,5)],[],[none,some ((bl 460 20),(bl 933855 20)),none,some ((bl 12 20),(bl 933855 20)),none,none],[],[],false,false,[]⟩
def zF7:Hint:=⟨[(0,0),(1,2),(1,3),(8,3),(14,2)],[],[none,none,none,none,none,some ((bl 117440514 63),(bl 9223372032559808155 63)),none,some ((bl 2 63),(bl 9223372032559808155 63)),none,none,some ((bl 4 63),(bl 9223372032559808157 63)),none,some ((bl 1924145348610 63),(bl 9223336852482686139 63)),none,some ((bl 2 63),(bl 9223336852482686139 63)),none,none,some ((bl 4 63),(bl 9223336852482686141 63)),none,none,none,none,none],[],[],false,false,[]⟩
def zIY:Hint:=⟨[(1,5),(2,1)],[],[none],[],[],false,false,[]⟩
abbrev zgq:=∀ (β:Type),Nat→Ob β→Ob β
def yU:zgq:=fun β L k=>chk (30000≤L) k
def zuF(yU:zgq)(L:Nat):Dk:=d0 fun β k=>yU β L (k (.sc (.bool true)) [])
def zlZ:Hint:=⟨[(5,2),(5,5),(6,2),(6,5)],[],[none,none,none,none,none],[],[],false,false,[]⟩
def zPj:CF:=cfD zlZ 8
def zPx:Nat→Sh:=xC []
def zPp(yU:zgq)(zD:zei)(zen:zlL)(xz:zcr)(L:Nat):CBC:=(xp 431 (zhP xz L) (xp 675 (zJA zen L) (xp 509 (zlP zD L) (xp 669 (zuF yU L) noC))))
def zzJ{β:Type}(yU:zgq)(zD:zei)(zen:zlL)(xz:zcr)(L:Nat)(A:Ls)(z:Bool→Ob β):Ob β:=yU β L  (ifb (decide (((XK A:Nat):Int)>(4000:Int))) (z true) (zD β L A (fun C G=>chk ((XK C)=69∧0+69≤69) (lt (yd ([(Qc (0:Int))]++We 64 (Qa (0:Int))++[(Qc (0:Int)),(Qc (0:Int)),(Qc (0:Int)),(V.gs 4 ([]:Ls))]) 0 C) fun D=>zen β L A (fun E H=>chk ((XK E)=69∧0+69≤69) (lt (yd ([(Qc (0:Int))]++We 64 (Qa (0:Int))++[(Qc (0:Int)),(Qc (0:Int)),(Qc (0:Int)),(V.gs 4 ([]:Ls))]) 0 E) fun F=>ifb ((G:Int)==H) (chk (0+69≤(XK D)) (chk (0+69≤(XK F)) (xz β L (Xv V.dem (XM 69 D)) (Xv V.dem (XM 69 F)) (fun I=>z I)))) (z false)))))))
abbrev zoR:=∀ (β:Type),Nat→Ls→(Bool→Ob β)→Ob β
def zpu:zoR:=fun β=>@zzJ β yU zD zen xz
def zQU(zpu:zoR)(L:Nat):Dk:=dA (AL 1) fun z=>d0 fun β k=>zpu β L z (fun z=>k (V.sc (.bool z)) [])
def zp4:Hint:=⟨[(0,0),(5,2),(5,3),(7,2),(7,5),(10,2),(10,5),(13,2),(13,3)],[],[none,none,none,none,none,none,none,none,none,none],[],[],false,false,[]⟩
def zrY:CF:=cfD zp4 10
def zlo:Nat→Sh:=xC [(51,(.sl 4))]
def zkJ(yU:zgq)(zaa:zkQ)(yN:zh1)(zD:zei)(xz:zcr)(yg:zbu)(L:Nat):CBC:=(xp 130 (zlc yg L) (xp 431 (zhP xz L) (xp 509 (zlP zD L) (xp 577 (zqH yN L) (xp 670 (zu1 zaa L) (xp 669 (zuF yU L) noC))))))
def zmQ{β:Type}(yU:zgq)(zaa:zkQ)(yN:zh1)(zD:zei)(xz:zcr)(yg:zbu)(L:Nat)(A:List V)(C:Ls)(z:Bool→Ob β):Ob β:=yU β L  (chk (0+69≤(XK A)) (zaa β L (Xv V.dem (XM 69 A)) (fun U=>ifb (!U) (z true) (ifb (decide (((XK C:Nat):Int)>(4000:Int))) (z true) (chk (0+69≤(XK A)) (yN β L (Xv V.dem (XM 69 A)) (fun W X=>ifb ((X:Int)==(0:Int)) (zD β L W (fun G Y=>chk ((XK G)=69∧0+69≤69) (lt (yd ([(Qc (0:Int))]++We 64 (Qa (0:Int))++[(Qc (0:Int)),(Qc (0:Int)),(Qc (0:Int)),(V.gs 4 ([]:Ls))]) 0 G) fun H=>ifb ((Y:Int) != (0:Int)) (z false) (chk (0+69≤(XK A)) (chk (0+69≤(XK H)) (xz β L (Xv V.dem (XM 69 A)) (Xv V.dem (XM 69 H)) (fun Z=>ifb (!Z) (z false) (zD β L C (fun I v8=>chk ((XK I)=69∧0+69≤69) (lt (yd ([(Qc (0:Int))]++We 64 (Qa (0:Int))++[(Qc (0:Int)),(Qc (0:Int)),(Qc (0:Int)),(V.gs 4 ([]:Ls))]) 0 I) fun F=>ifb ((v8:Int) != (0:Int)) (cLd 4 F 68 fun J=>z ((((XK J:Nat):Int):Int)==(0:Int))) (chk (0+69≤(XK F)) (yN β L (Xv V.dem (XM 69 F)) (fun M N=>ifb ((N:Int)==(0:Int)) (yg β L M C (fun O=>z O)) (z false)))))))))))))) (zD β L C (fun E P=>chk ((XK E)=69∧0+69≤69) (lt (yd ([(Qc (0:Int))]++We 64 (Qa (0:Int))++[(Qc (0:Int)),(Qc (0:Int)),(Qc (0:Int)),(V.gs 4 ([]:Ls))]) 0 E) fun D=>ifb ((P:Int) != (0:Int)) (cLd 4 D 68 fun Q=>z ((((XK Q:Nat):Int):Int)==(0:Int))) (chk (0+69≤(XK D)) (yN β L (Xv V.dem (XM 69 D)) (fun R S=>ifb ((S:Int)==(0:Int)) (yg β L R C (fun T=>z T)) (z false))))))))))))))
theorem zzk{β:Type}(yU:zgq)(zaa:zkQ)(yN:zh1)(zD:zei)(xz:zcr)(yg:zbu)(L:Nat)(z:List V)(A:Ls)(k:KK β):zj zlo (zkJ yU zaa yN zD xz yg L) L zrY [(V.agg z),(V.sl 1 A)] [] k=zmQ yU zaa yN zD xz yg L z A (fun z=>k (V.sc (.bool z)) []):=by kernel_rfl
abbrev zta:=∀ (β:Type),Nat→List V→Ls→(Bool→Ob β)→Ob β
def zbC:zta:=fun β=>@zmQ β yU zaa yN zD xz yg
def zmc(zbC:zta)(L:Nat):Dk:=dA AG fun z=>dA (AL 1) fun A=>d0 fun β k=>zbC β L z A (fun z=>k (V.sc (.bool z)) [])
theorem zzQ(L:Nat):DK (zmc zbC L) (fun _=>zj zlo (zkJ yU zaa yN zD xz yg L) L zrY):=xo zbR fun z=>xo zaV fun A=>zK fun _ k=>zzk yU zaa yN zD xz yg L z A k
end
end
section
variable {β:Type}
def Byt(l:List Int):Prop:=∀ x∈l,0≤x∧x≤255
theorem zXf{l:List Int}(h:∀ x∈l,(Lit.int .u8 x).wf=true):Byt l:=fun x hx=>zD4 (h x hx)
def ziD(j:List Int)(i:Nat):Nat:=(j.getD i 0).toNat
theorem zqL{j:List Int}(hb:Byt j)(i:Nat):ziD j i≤255∧j.getD i 0=((ziD j i:Nat):Int):=by
 have:0≤j.getD i 0∧j.getD i 0≤255:=by
  rw [Ws]
  by_cases hi:i<j.length
  ·rw [Wc hi]; exact hb _ (W2 hi)
  ·rw [List.getElem?_eq_none (by omega)]; simp
 unfold ziD
 omega
def le(j:List Int)(a:Nat):Nat→Nat
 | 0=>0
 | n+1=>le j a n+ziD j (a+n)*256 ^ n
theorem zi7{j:List Int}(hb:Byt j)(a:Nat):∀ n,le j a n<256 ^ n
 | 0=>by simp [le]
 | n+1=>by
  have h1:=zi7 hb a n
  have h2:=WI (256 ^ n) (zqL hb (a+n)).1
  rw [le,Nat.pow_succ]
  omega
theorem zyc(j:List Int)(a:Nat):∀ n,le j a (n+1)=ziD j a+256*le j (a+1) n
 | 0=>by simp [le]
 | n+1=>by
  rw [le,zyc j a n,le,Nat.pow_succ,show a+1+n=a+(n+1) by omega,Nat.mul_add]
  have:ziD j (a+(n+1))*(256 ^ n*256)=256*(ziD j (a+(n+1))*256 ^ n):=by
   rw [Nat.mul_comm (256 ^ n) 256,← Nat.mul_assoc,← Nat.mul_assoc,Nat.mul_comm 256]
  omega
theorem zOk(i:Nat):256 ^ i=2 ^ (8*i):=by rw [Nat.pow_mul]
theorem zLa(n x:Nat)(h:x<2 ^ n):(BitVec.ofInt n (x:Int)).toNat=x:=by
 rw [BitVec.toNat_ofInt,← Int.natCast_emod,XV,Nat.mod_eq_of_lt h]
theorem zSh{x n:Nat}(h:x<2 ^ n):((x:Nat):Int)<2 ^ n:=by
 have:((x:Nat):Int)<((2 ^ n:Nat):Int):=by omega
 rwa [Int.natCast_pow] at this
theorem zV8(kd:IntKind)(hk:kd.signed=false){a m y:Nat}(hy:y<2 ^ m)(hs:a*2 ^ m+y<2 ^ kd.bits):ior kd ((a*2 ^ m:Nat):Int) ((y:Nat):Int)=((a*2 ^ m+y:Nat):Int):=by
 unfold ior
 rw [BitVec.toNat_or,zLa _ _ (by omega),zLa _ _ (by omega),← Nat.shiftLeft_eq,← Nat.shiftLeft_add_eq_or_of_lt hy,Nat.shiftLeft_eq]
 exact zyf hk (by omega) (zSh hs)
theorem zSK(k:IntKind)(a b:Int):ior k a b=ior k b a:=by unfold ior; rw [BitVec.or_comm]
theorem zUv(kd:IntKind)(hk:kd.signed=false){a m:Nat}(hm:m≤kd.bits)(hs:a*2 ^ m<2 ^ kd.bits):zde kd ((a:Nat):Int) ((m:Nat):Int)=((a*2 ^ m:Nat):Int):=by
 unfold zde
 rw [XV,Nat.min_eq_left hm]
 have e:((a:Nat):Int)*2 ^ m=((a*2 ^ m:Nat):Int):=by rw [Int.natCast_mul,Int.natCast_pow]; rfl
 rw [e]
 exact zyf hk (by omega) (zSh hs)
theorem zvI(kd:IntKind)(hk:kd.signed=false){j:List Int}(hb:Byt j)(a i:Nat)(hi:8*i+8≤kd.bits):ior kd ((le j a i:Nat):Int) (zde kd (j.getD (a+i) 0) ((8*i:Nat):Int))=((le j a (i+1):Nat):Int):=by
 obtain ⟨b1,b2⟩:=zqL hb (a+i)
 have h1:=zi7 hb a i
 have hp:2 ^ (8*i+8)≤2 ^ kd.bits:=Nat.pow_le_pow_right (by decide) hi
 have hq:2 ^ (8*i+8)=2 ^ (8*i)*256:=by rw [Nat.pow_add]
 have h2:=WI (2 ^ (8*i)) b1
 have h3:0<2 ^ (8*i):=Nat.pow_pos (by decide)
 rw [zOk] at h1
 rw [b2,zUv kd hk (by omega) (by omega),zSK,zV8 kd hk h1 (by omega),le,zOk,Nat.add_comm]
theorem zDW{l:List Int}{i:Nat}(h:i<l.length):(yf .u8 l)[i]?=some [.sc (.int .u8 (l.getD i 0))]:=by rw [zUt _ h]; simp [h]
theorem cI8(n:Int)(k:Int→Option β):cI .u8 [V.sc (.int .u8 n)] 0 k=k n:=zie rfl k
theorem zyt(L:Nat)(j:List Int){a w:Nat}(ha:a≤j.length)(hj:j.length≤100000000)(hw:w≤100)(k:Int→Option β):zc β L (yf .u8 j) (a:Int) (w:Int) k=if a+w≤j.length then k 0 else k 1:=by
 unfold zc zt9
 rw [zp (by omega),xr,zp (by omega),xH (by omega) (by omega),zg,zef]
 by_cases h:a+w≤j.length
 ·rw [if_neg (by omega),if_pos h]
 ·rw [if_pos (by omega),if_neg h]
theorem zOl(L:Nat){j:List Int}(hb:Byt j)(hj:j.length≤100000000){a:Nat}(h:a+1≤j.length)(kx:Int→Int→Int→Option β):∀ (n i:Nat),i≤1→1-i<n →
  zbX L kx n (yf .u8 j) (a:Int) 1 ((le j a i:Nat):Int) 1 (i:Int)=kx a 1 ((le j a 1:Nat):Int)
 | 0,i,h1,h2=>by omega
 | n+1,i,h1,h2=>by
  rw [zbX]
  unfold zgc
  by_cases hi:i<1
  ·have w1:QG .i64 ((a:Int)+i)=((a+i:Nat):Int):=by rw [xH (by omega) (by omega)]; omega
   have w2:QG .i64 ((8:Int)*i)=((8*i:Nat):Int):=by rw [xH (by omega) (by omega)]; omega
   have hg:=zqL hb (a+i)
   rw [yv (by omega),w1,zg,zaG (zDW (by omega)),cI8,w2,zg,zb (by omega),zg,zvI .u8 rfl hb a i (by show 8*i+8≤8; omega),zg,xM (by omega),zg]
   exact zOl L hb hj h kx n (i+1) (by omega) (by omega)
  ·have hi:i=1:=by omega
   subst hi
   rw [zp (by omega)]
theorem zZj{L:Nat}(hL:20≤L){j:List Int}(hb:Byt j)(hj:j.length≤100000000){a:Nat}(ha:a≤j.length)(k:Int→Int→Int→Option β):zaN β L (yf .u8 j) (a:Int) k=if a+1≤j.length then k ((le j a 1:Nat):Int) ((a+1:Nat):Int) 0 else k 0 0 1:=by
 unfold zaN zAc xL zgY zkH
 rw [show (1:Int)=((1:Nat):Int) from rfl,zyt L j ha hj (by decide)]
 by_cases h:a+1≤j.length
 ·rw [if_pos h,if_pos h,xu,if_pos rfl]
  refine (zOl L hb hj h _ L 0 (by omega) (by omega)).trans ?_
  unfold zfg
  rw [xH (by omega) (by omega),zg]
  congr 1
 ·rw [if_neg h,if_neg h,xu,if_neg (by decide)]; rfl
theorem zLf(L:Nat){j:List Int}(hb:Byt j)(hj:j.length≤100000000){a:Nat}(h:a+2≤j.length)(kx:Int→Int→Int→Option β):∀ (n i:Nat),i≤2→2-i<n →
  zbK L kx n (yf .u8 j) (a:Int) 2 ((le j a i:Nat):Int) 2 (i:Int)=kx a 2 ((le j a 2:Nat):Int)
 | 0,i,h1,h2=>by omega
 | n+1,i,h1,h2=>by
  rw [zbK]
  unfold zft
  by_cases hi:i<2
  ·have w1:QG .i64 ((a:Int)+i)=((a+i:Nat):Int):=by rw [xH (by omega) (by omega)]; omega
   have w2:QG .i64 ((8:Int)*i)=((8*i:Nat):Int):=by rw [xH (by omega) (by omega)]; omega
   have hg:=zqL hb (a+i)
   rw [yv (by omega),w1,zg,zaG (zDW (by omega)),cI8,zN5 (by omega) (by omega),zg,w2,zg,zb (by omega),zg,zvI .u16 rfl hb a i (by show 8*i+8≤16; omega),zg,xM (by omega),zg]
   exact zLf L hb hj h kx n (i+1) (by omega) (by omega)
  ·have hi:i=2:=by omega
   subst hi
   rw [zp (by omega)]
theorem zX7{L:Nat}(hL:20≤L){j:List Int}(hb:Byt j)(hj:j.length≤100000000){a:Nat}(ha:a≤j.length)(k:Int→Int→Int→Option β):zau β L (yf .u8 j) (a:Int) k=if a+2≤j.length then k ((le j a 2:Nat):Int) ((a+2:Nat):Int) 0 else k 0 0 1:=by
 unfold zau zxa yI zgw zj5
 rw [show (2:Int)=((2:Nat):Int) from rfl,zyt L j ha hj (by decide)]
 by_cases h:a+2≤j.length
 ·rw [if_pos h,if_pos h,xu,if_pos rfl]
  refine (zLf L hb hj h _ L 0 (by omega) (by omega)).trans ?_
  unfold zeM
  rw [xH (by omega) (by omega),zg]
  congr 1
 ·rw [if_neg h,if_neg h,xu,if_neg (by decide)]
theorem zLs(L:Nat){j:List Int}(hb:Byt j)(hj:j.length≤100000000){a:Nat}(h:a+4≤j.length)(kx:Int→Int→Int→Option β):∀ (n i:Nat),i≤4→4-i<n →
  zbI L kx n (yf .u8 j) (a:Int) 4 ((le j a i:Nat):Int) 4 (i:Int)=kx a 4 ((le j a 4:Nat):Int)
 | 0,i,h1,h2=>by omega
 | n+1,i,h1,h2=>by
  rw [zbI]
  unfold zfJ
  by_cases hi:i<4
  ·have w1:QG .i64 ((a:Int)+i)=((a+i:Nat):Int):=by rw [xH (by omega) (by omega)]; omega
   have w2:QG .i64 ((8:Int)*i)=((8*i:Nat):Int):=by rw [xH (by omega) (by omega)]; omega
   have hg:=zqL hb (a+i)
   rw [yv (by omega),w1,zg,zaG (zDW (by omega)),cI8,zla (by omega) (by omega),zg,w2,zg,zb (by omega),zg,zvI .u32 rfl hb a i (by show 8*i+8≤32; omega),zg,xM (by omega),zg]
   exact zLs L hb hj h kx n (i+1) (by omega) (by omega)
  ·have hi:i=4:=by omega
   subst hi
   rw [zp (by omega)]
theorem zyY{L:Nat}(hL:20≤L){j:List Int}(hb:Byt j)(hj:j.length≤100000000){a:Nat}(ha:a≤j.length)(k:Int→Int→Int→Option β):xt β L (yf .u8 j) (a:Int) k=if a+4≤j.length then k ((le j a 4:Nat):Int) ((a+4:Nat):Int) 0 else k 0 0 1:=by
 unfold xt zwO xI zgy zjM
 rw [show (4:Int)=((4:Nat):Int) from rfl,zyt L j ha hj (by decide)]
 by_cases h:a+4≤j.length
 ·rw [if_pos h,if_pos h,xu,if_pos rfl]
  refine (zLs L hb hj h _ L 0 (by omega) (by omega)).trans ?_
  unfold zeS
  rw [xH (by omega) (by omega),zg]
  congr 1
 ·rw [if_neg h,if_neg h,xu,if_neg (by decide)]
theorem zKO(L:Nat){j:List Int}(hb:Byt j)(hj:j.length≤100000000){a:Nat}(h:a+8≤j.length)(kx:Int→Int→Int→Option β):∀ (n i:Nat),i≤8→8-i<n →
  zbJ L kx n (yf .u8 j) (a:Int) 8 ((le j a i:Nat):Int) 8 (i:Int)=kx a 8 ((le j a 8:Nat):Int)
 | 0,i,h1,h2=>by omega
 | n+1,i,h1,h2=>by
  rw [zbJ]
  unfold zfA
  by_cases hi:i<8
  ·have w1:QG .i64 ((a:Int)+i)=((a+i:Nat):Int):=by rw [xH (by omega) (by omega)]; omega
   have w2:QG .i64 ((8:Int)*i)=((8*i:Nat):Int):=by rw [xH (by omega) (by omega)]; omega
   have hg:=zqL hb (a+i)
   rw [yv (by omega),w1,zg,zaG (zDW (by omega)),cI8,xW (by omega) (by omega),zg,w2,zg,zb (by omega),zg,zvI .u64 rfl hb a i (by show 8*i+8≤64; omega),zg,xM (by omega),zg]
   exact zKO L hb hj h kx n (i+1) (by omega) (by omega)
  ·have hi:i=8:=by omega
   subst hi
   rw [zp (by omega)]
theorem zSp{L:Nat}(hL:20≤L){j:List Int}(hb:Byt j)(hj:j.length≤100000000){a:Nat}(ha:a≤j.length)(k:Int→Int→Int→Option β):yK β L (yf .u8 j) (a:Int) k=if a+8≤j.length then k ((le j a 8:Nat):Int) ((a+8:Nat):Int) 0 else k 0 0 1:=by
 unfold yK zwz zJ zgz zjW
 rw [show (8:Int)=((8:Nat):Int) from rfl,zyt L j ha hj (by decide)]
 by_cases h:a+8≤j.length
 ·rw [if_pos h,if_pos h,xu,if_pos rfl]
  refine (zKO L hb hj h _ L 0 (by omega) (by omega)).trans ?_
  unfold zeW
  rw [xH (by omega) (by omega),zg]
  congr 1
 ·rw [if_neg h,if_neg h,xu,if_neg (by decide)]
end
section
variable {β:Type}
def zly{α:Type}(r:Except Int (α × Nat))(k:α→Nat→Option β)(b:Int→Option β):Option β:=match r with
 | .ok (v,a)=>k v a
 | .error e=>b e
theorem zbf{α:Type}(v:α)(a:Nat)(k:α→Nat→Option β)(b:Int→Option β):zly (.ok (v,a)) k b=k v a:=rfl
theorem zcm{α:Type}(e:Int)(k:α→Nat→Option β)(b:Int→Option β):zly (.error e) k b=b e:=rfl
def gN(j:List Int)(w a:Nat):Except Int (Nat × Nat):=if a+w≤j.length then .ok (le j a w,a+w) else .error 1
theorem zR7(j:List Int)(w a:Nat)(k:Nat→Nat→Option β)(b:Int→Option β):zly (gN j w a) k b=if a+w≤j.length then k (le j a w) (a+w) else b 1:=by
 unfold gN; split <;> rfl
def zp5(j:List Int)(w lo most a:Nat):Except Int (Nat × Nat):=if a+w≤j.length then (if le j a w<lo then .error 3 else if le j a w>most then .error 4 else .ok (le j a w,a+w)) else .error 1
def zcv(j:List Int)(most a:Nat):Except Int (Nat × Nat):=if a+1≤j.length then
  (if le j a 1<253 then (if le j a 1>most then .error 4 else .ok (le j a 1,a+1))
  else if le j a 1=253 then zp5 j 2 253 most (a+1) else if le j a 1=254 then zp5 j 4 65536 most (a+1) else zp5 j 8 4294967296 most (a+1))
 else .error 1
theorem zFQ(j:List Int)(w lo most a:Nat)(k:Nat→Nat→Option β)(b:Int→Option β):zly (zp5 j w lo most a) k b=if a+w≤j.length then (if le j a w<lo then b 3 else if le j a w>most then b 4 else k (le j a w) (a+w)) else b 1:=by
 unfold zp5; (repeat' split) <;> rfl
theorem lt1{j:List Int}(hb:Byt j)(a:Nat):le j a 1<256:=zi7 hb a 1
theorem lt2{j:List Int}(hb:Byt j)(a:Nat):le j a 2<65536:=zi7 hb a 2
theorem lt4{j:List Int}(hb:Byt j)(a:Nat):le j a 4<4294967296:=zi7 hb a 4
theorem lt8{j:List Int}(hb:Byt j)(a:Nat):le j a 8<18446744073709551616:=zi7 hb a 8
theorem zKz{L:Nat}(hL:20≤L){j:List Int}(hb:Byt j)(hj:j.length≤100000000){a:Nat}(most:Nat)(ha:a≤j.length)(k:Int→Int→Int→Option β):zm β L (yf .u8 j) (a:Int) (most:Int) k=zly (zcv j most a) (fun v a'=>k (v:Int) (a':Int) 0) (fun e=>k 0 0 e):=by
 have h1:=lt1 hb a
 unfold zm zut
 rw [zZj hL hb hj ha]
 unfold zcv
 by_cases h:a+1≤j.length
 ·rw [if_pos h,if_pos h]
  try dsimp only
  rw [xu,if_pos rfl,xW (by omega) (by omega),zg]
  rcases (by omega:le j a 1<253∨le j a 1=253∨le j a 1=254∨le j a 1=255) with hc | hc | hc | hc
  ·rw [zfX (by omega),zfX (by omega),zfX (by omega),xu,if_pos rfl,zp (by omega),zef,if_pos hc]
   by_cases hm:le j a 1>most
   ·rw [if_pos (by omega),if_pos hm]; rfl
   ·rw [if_neg (by omega),if_neg hm]; rfl
  ·have h2:=lt2 hb (a+1)
   rw [if_neg (by omega),if_pos hc,zFQ,zhH (by omega),zX7 hL hb hj h]
   by_cases h3:a+1+2≤j.length
   ·rw [if_pos h3,if_pos h3]
    try dsimp only
    rw [xW (by omega) (by omega),zg,xu,if_pos rfl,zef,zef]
    by_cases h4:le j (a+1) 2<253
    ·rw [if_pos (by omega),if_pos h4]
    ·rw [if_neg (by omega),if_neg h4]
     by_cases h5:le j (a+1) 2>most
     ·rw [if_pos (by omega),if_pos h5]
     ·rw [if_neg (by omega),if_neg h5]
   ·rw [if_neg h3,if_neg h3]
    try dsimp only
    rw [xW (by decide) (by decide),zg,xu,if_neg (by decide)]
  ·have h2:=lt4 hb (a+1)
   rw [if_neg (by omega),if_neg (by omega),if_pos hc,zFQ,zfX (by omega),zhH (by omega),zyY hL hb hj h]
   by_cases h3:a+1+4≤j.length
   ·rw [if_pos h3,if_pos h3]
    try dsimp only
    rw [xW (by omega) (by omega),zg,xu,if_pos rfl,zef,zef]
    by_cases h4:le j (a+1) 4<65536
    ·rw [if_pos (by omega),if_pos h4]
    ·rw [if_neg (by omega),if_neg h4]
     by_cases h5:le j (a+1) 4>most
     ·rw [if_pos (by omega),if_pos h5]
     ·rw [if_neg (by omega),if_neg h5]
   ·rw [if_neg h3,if_neg h3]
    try dsimp only
    rw [xW (by decide) (by decide),zg,xu,if_neg (by decide)]
  ·have h2:=lt8 hb (a+1)
   rw [if_neg (by omega),if_neg (by omega),if_neg (by omega),zFQ,zfX (by omega),zfX (by omega),zhH (by omega),zSp hL hb hj h]
   by_cases h3:a+1+8≤j.length
   ·rw [if_pos h3,if_pos h3]
    try dsimp only
    rw [xu,if_pos rfl,zef,zef]
    by_cases h4:le j (a+1) 8<4294967296
    ·rw [if_pos (by omega),if_pos h4]
    ·rw [if_neg (by omega),if_neg h4]
     by_cases h5:le j (a+1) 8>most
     ·rw [if_pos (by omega),if_pos h5]
     ·rw [if_neg (by omega),if_neg h5]
   ·rw [if_neg h3,if_neg h3]
    try dsimp only
    rw [xu,if_neg (by decide)]
 ·rw [if_neg h,if_neg h]
  try dsimp only
  rw [xu,if_neg (by decide)]
  rfl
end
section
def zaX(w:List (List Int)):Ls:=w.map fun b=>[V.sl 1 (yf .u8 b)]
structure Inp where
 pv:List Int
 seq:Int
 wit:List (List Int)
structure Outp where
 val:Int
 scr:List Int
structure TxT where
 ver:Int
 ins:List Inp
 outs:List Outp
 lock:Int
def zaZ(x:Inp):List V:=[V.sc (.int .u8 (x.pv.getD 0 0)),V.sc (.int .u8 (x.pv.getD 1 0)),V.sc (.int .u8 (x.pv.getD 2 0)),V.sc (.int .u8 (x.pv.getD 3 0)),V.sc (.int .u8 (x.pv.getD 4 0)),V.sc (.int .u8 (x.pv.getD 5 0)),V.sc (.int .u8 (x.pv.getD 6 0)),V.sc (.int .u8 (x.pv.getD 7 0)),V.sc (.int .u8 (x.pv.getD 8 0)),V.sc (.int .u8 (x.pv.getD 9 0)),V.sc (.int .u8 (x.pv.getD 10 0)),V.sc (.int .u8 (x.pv.getD 11 0)),V.sc (.int .u8 (x.pv.getD 12 0)),V.sc (.int .u8 (x.pv.getD 13 0)),V.sc (.int .u8 (x.pv.getD 14 0)),V.sc (.int .u8 (x.pv.getD 15 0)),V.sc (.int .u8 (x.pv.getD 16 0)),V.sc (.int .u8 (x.pv.getD 17 0)),V.sc (.int .u8 (x.pv.getD 18 0)),V.sc (.int .u8 (x.pv.getD 19 0)),V.sc (.int .u8 (x.pv.getD 20 0)),V.sc (.int .u8 (x.pv.getD 21 0)),V.sc (.int .u8 (x.pv.getD 22 0)),V.sc (.int .u8 (x.pv.getD 23 0)),V.sc (.int .u8 (x.pv.getD 24 0)),V.sc (.int .u8 (x.pv.getD 25 0)),V.sc (.int .u8 (x.pv.getD 26 0)),V.sc (.int .u8 (x.pv.getD 27 0)),V.sc (.int .u8 (x.pv.getD 28 0)),V.sc (.int .u8 (x.pv.getD 29 0)),V.sc (.int .u8 (x.pv.getD 30 0)),V.sc (.int .u8 (x.pv.getD 31 0)),V.sc (.int .u32 (x.pv.getD 32 0)),V.sc (.int .u32 x.seq),V.sl 1 (zaX x.wit)]
def zbS(o:Outp):List V:=[V.sc (.int .i64 o.val),V.sl 1 (yf .u8 o.scr)]
def yV(t:TxT):List V:=[V.sc (.int .u32 t.ver),V.sl 35 (t.ins.map zaZ),V.sl 2 (t.outs.map zbS),V.sc (.int .u32 t.lock)]
section
variable {β:Type}
theorem zqX(x:Inp)(k:Int→Option β):cI .u32 (zaZ x) 33 k=k x.seq:=zie rfl k
theorem zxL(x:Outp)(k:Int→Option β):cI .i64 (zbS x) 0 k=k x.val:=zie rfl k
theorem zx2(x:TxT)(k:Int→Option β):cI .u32 (yV x) 0 k=k x.ver:=zie rfl k
theorem zrk(x:TxT)(k:Int→Option β):cI .u32 (yV x) 3 k=k x.lock:=zie rfl k
end
theorem zn3(x:Inp):(zaZ x).length=35:=by simp [zaZ]
theorem zoq(x:Inp):XM 35 (zaZ x)=zaZ x:=by simp [zaZ]
theorem zMv(x:Outp):(zbS x).length=2:=by simp [zbS]
theorem zv4(x:Outp):XM 2 (zbS x)=zbS x:=by simp [zbS]
theorem zgf(x:TxT):(yV x).length=4:=by simp [yV]
theorem zUX(x:TxT):[V.sc (.int .u32 x.ver),V.sl 35 (x.ins.map zaZ),V.sl 2 (x.outs.map zbS),V.sc (.int .u32 x.lock)]=yV x:=(by simp [yV])
def zt6(l:List Int):Prop:=∀ n∈l,0≤n∧n≤255
structure InpOk (x:Inp):Prop where
 pv:x.pv.length=33
 by_:∀ j,j<32→0≤x.pv.getD j 0∧x.pv.getD j 0≤255
 ix:0≤x.pv.getD 32 0∧x.pv.getD 32 0≤4294967295
 seq:0≤x.seq∧x.seq≤4294967295
 wit:∀ b∈x.wit,zt6 b∧b.length≤maxLen
 wl:x.wit.length≤maxLen
structure OutpOk (x:Outp):Prop where
 val:-9223372036854775808≤x.val∧x.val≤9223372036854775807
 scr:zt6 x.scr
 sl:x.scr.length≤maxLen
structure TxOk (t:TxT):Prop where
 ver:0≤t.ver∧t.ver≤4294967295
 lock:0≤t.lock∧t.lock≤4294967295
 ins:∀ x∈t.ins,InpOk x
 outs:∀ x∈t.outs,OutpOk x
 il:t.ins.length≤maxLen
 ol:t.outs.length≤maxLen
theorem HasRow.tail{ct:CT}{cts:List CT}{vs:List V}(h:HasRow (ct::cts) vs):∃ v r,vs=v::r∧HasC ct v∧HasRow cts r:=by
 cases vs with
 | nil=>have:=h.1; simp at this
 | cons v r=>exact ⟨v,r,rfl,h.2 0 v ct rfl rfl,⟨by simpa using h.1,fun i c ct hc hct=>h.2 (i+1) c ct (by simpa using hc) (by simpa using hct)⟩⟩
theorem HasRow.nil{vs:List V}(h:HasRow [] vs):vs=[]:=List.length_eq_zero_iff.1 (by simpa using h.1)
theorem zMu:∀ {es:Ls},(∀ e∈es,HasRow [.sl [.int .u8]] e)→∃ w:List (List Int),es=zaX w∧∀ b∈w,zt6 b∧b.length≤maxLen
 | [],_=>⟨[],rfl,by simp⟩
 | e::es,h=>by
  obtain ⟨v,r,rfl,h1,h2⟩:=(h e (by simp)).tail
  obtain rfl:=h2.nil
  obtain ⟨xs,rfl,hl,hx⟩:=h1.sl_inv
  obtain ⟨l,rfl,hw⟩:=zD3 hx
  obtain ⟨w,rfl,hw'⟩:=zMu (es:=es) (fun x hx=>h x (by simp [hx]))
  refine ⟨l::w,rfl,fun b hb=>?_⟩
  rcases Q9.1 hb with rfl | hb
  ·exact ⟨fun n hn=>zD4 (hw n hn),by simpa [yf] using hl⟩
  ·exact hw' b hb
theorem zP0:∀ {es:Ls},(∀ e∈es,HasRow [.int .i64,.sl [.int .u8]] e)→∃ w:List Outp,es=w.map zbS∧∀ b∈w,OutpOk b
 | [],_=>⟨[],rfl,by simp⟩
 | e::es,h=>by
  obtain ⟨v,r,rfl,h1,h2⟩:=(h e (by simp)).tail
  obtain ⟨v2,r2,rfl,h3,h4⟩:=h2.tail
  obtain rfl:=h4.nil
  obtain ⟨n,rfl,hn⟩:=h1.int_inv
  obtain ⟨xs,rfl,hl,hx⟩:=h3.sl_inv
  obtain ⟨l,rfl,hw⟩:=zD3 hx
  obtain ⟨w,rfl,hw'⟩:=zP0 (es:=es) (fun x hx=>h x (by simp [hx]))
  refine ⟨⟨n,l⟩::w,rfl,fun b hb=>?_⟩
  rcases Q9.1 hb with rfl | hb
  ·exact ⟨zYy hn,fun n hn=>zD4 (hw n hn),by simpa [yf] using hl⟩
  ·exact hw' b hb
theorem zwb{a b:List CT}{vs:List V}(h:HasRow (a++b) vs):∃ r s,vs=r++s∧HasRow a r∧HasRow b s:=by
 refine ⟨vs.take a.length,vs.drop a.length,(List.take_append_drop _ _).symm,⟨?_,fun i c ct hc hct=>?_⟩,⟨?_,fun i c ct hc hct=>?_⟩⟩
 ·have:=h.1; simp at this ⊢; omega
 ·have hi:i<a.length:=(List.getElem?_eq_some_iff.1 hct).1
  refine h.2 i c ct ?_ (by rw [Wv hi]; exact hct)
  rw [List.getElem?_take,if_pos hi] at hc; exact hc
 ·have:=h.1; simp at this ⊢; omega
 ·refine h.2 (a.length+i) c ct (by rw [List.getElem?_drop] at hc; exact hc) ?_
  rw [Wt (by omega)]; simpa using hct
theorem zOI{l:List Int}(hl:l.length=32)(i s:Int)(w:List (List Int)):row .u8 l++[V.sc (.int .u32 i),V.sc (.int .u32 s),V.sl 1 (zaX w)]=zaZ ⟨l++[i],s,w⟩:=by
 match l,hl with
 | [x0,x1,x2,x3,x4,x5,x6,x7,x8,x9,x10,x11,x12,x13,x14,x15,x16,x17,x18,x19,x20,x21,x22,x23,x24,x25,x26,x27,x28,x29,x30,x31],_=>rfl
theorem zSo:∀ {es:Ls},(∀ e∈es,HasRow (We 32 (.int .u8)++[.int .u32,.int .u32,.sl [.sl [.int .u8]]]) e)→∃ w:List Inp,es=w.map zaZ∧∀ b∈w,InpOk b
 | [],_=>⟨[],rfl,by simp⟩
 | e::es,h=>by
  obtain ⟨r,s,rfl,h1,h2⟩:=zwb (h e (by simp))
  obtain ⟨l,rfl,hl,hw⟩:=zIl h1
  obtain ⟨v1,r1,rfl,g1,h2⟩:=h2.tail
  obtain ⟨v2,r2,rfl,g2,h2⟩:=h2.tail
  obtain ⟨v3,r3,rfl,g3,h2⟩:=h2.tail
  obtain rfl:=h2.nil
  obtain ⟨i,rfl,hi⟩:=g1.int_inv
  obtain ⟨q,rfl,hq⟩:=g2.int_inv
  obtain ⟨xs,rfl,hxl,hx⟩:=g3.sl_inv
  obtain ⟨wt,rfl,hwt⟩:=zMu hx
  obtain ⟨w,rfl,hw'⟩:=zSo (es:=es) (fun x hx=>h x (by simp [hx]))
  refine ⟨⟨l++[i],q,wt⟩::w,by rw [QW,← zOI hl]; rfl,fun b hb=>?_⟩
  rcases Q9.1 hb with rfl | hb
  ·refine ⟨by simp [hl],fun j hj=>?_,?_,zsj hq,hwt,by simpa [zaX] using hxl⟩
   ·have:(l++[i]).getD j 0=l[j]'(by omega):=by
     rw [Ws,Wv (by omega),Wc (by omega)]; rfl
    show 0≤(l++[i]).getD j 0∧(l++[i]).getD j 0≤255
    rw [this]; exact zD4 (hw _ (W2 _))
   ·have:(l++[i]).getD 32 0=i:=by
     rw [Ws,Wt (by omega),hl]; rfl
    show 0≤(l++[i]).getD 32 0∧(l++[i]).getD 32 0≤4294967295
    rw [this]; exact zsj hi
  ·exact hw' b hb
theorem zZG{a:List V}(h:HasRow ([.int .u32]++[.sl (We 32 (.int .u8)++We 2 (.int .u32)++[.sl ([.sl ([.int .u8])])])]++[.sl ([.int .i64]++[.sl ([.int .u8])])]++[.int .u32]) a):∃ t,a=yV t∧TxOk t:=by
 obtain ⟨v1,r1,rfl,g1,h⟩:=h.tail
 obtain ⟨v2,r2,rfl,g2,h⟩:=h.tail
 obtain ⟨v3,r3,rfl,g3,h⟩:=h.tail
 obtain ⟨v4,r4,rfl,g4,h⟩:=h.tail
 obtain rfl:=h.nil
 obtain ⟨n,rfl,hn⟩:=g1.int_inv
 obtain ⟨m,rfl,hm⟩:=g4.int_inv
 obtain ⟨xs,rfl,hxl,hx⟩:=g2.sl_inv
 obtain ⟨ys,rfl,hyl,hy⟩:=g3.sl_inv
 obtain ⟨is,rfl,his⟩:=zSo (fun e he=>by
  have:=hx e he
  rw [Wu] at this
  exact this)
 obtain ⟨os,rfl,hos⟩:=zP0 (fun e he=>hy e he)
 exact ⟨⟨n,is,os,m⟩,rfl,⟨zsj hn,zsj hm,his,hos,by simpa using hxl,by simpa using hyl⟩⟩
end
section
variable {β:Type}
theorem zJx{j:List Int}{w lo most a n a1:Nat}(h:zp5 j w lo most a=.ok (n,a1)):a1≤j.length∧n≤most:=by
 unfold zp5 at h
 split at h
 ·split at h
  ·cases h
  ·split at h
   ·cases h
   ·cases h; omega
 ·cases h
theorem zKn{j:List Int}{w lo most a:Nat}{e:Int}(h:zp5 j w lo most a=.error e):e≠0:=by
 unfold zp5 at h
 split at h
 ·split at h
  ·cases h; decide
  ·split at h
   ·cases h; decide
   ·cases h
 ·cases h; decide
theorem zcp{j:List Int}{most a n a1:Nat}(h:zcv j most a=.ok (n,a1)):a1≤j.length∧n≤most:=by
 unfold zcv at h
 split at h
 ·split at h
  ·split at h
   ·cases h
   ·cases h; omega
  ·split at h
   ·exact zJx h
   ·split at h
    ·exact zJx h
    ·exact zJx h
 ·cases h
theorem zgl{j:List Int}{most a:Nat}{e:Int}(h:zcv j most a=.error e):e≠0:=by
 unfold zcv at h
 split at h
 ·split at h
  ·split at h
   ·cases h; decide
   ·cases h
  ·split at h
   ·exact zKn h
   ·split at h
    ·exact zKn h
    ·exact zKn h
 ·cases h; decide
theorem zny{j:List Int}{w a n a1:Nat}(h:gN j w a=.ok (n,a1)):a1≤j.length:=by
 unfold gN at h
 split at h
 ·cases h; assumption
 ·cases h
theorem zrw{j:List Int}{w a:Nat}{e:Int}(h:gN j w a=.error e):e≠0:=by
 unfold gN at h
 split at h
 ·cases h
 ·cases h; decide
def zkk(j:List Int)(a:Nat):Except Int (List Int × Nat):=if a+32≤j.length then .ok ((j.drop a).take 32,a+32) else .error 1
def zeL(j:List Int)(most a:Nat):Except Int (List Int × Nat):=match zcv j most a with
 | .error e=>.error e
 | .ok (n,a1)=>if a1+n≤j.length then .ok ((j.drop a1).take n,a1+n) else .error 1
theorem zzL{j h:List Int}{a a1:Nat}(hh:zkk j a=.ok (h,a1)):a1≤j.length∧h.length=32:=by
 unfold zkk at hh
 split at hh
 ·cases hh; rw [Ww,XU]; omega
 ·cases hh
theorem zFS{j:List Int}{a:Nat}{e:Int}(h:zkk j a=.error e):e≠0:=by
 unfold zkk at h
 split at h
 ·cases h
 ·cases h; decide
theorem zoE{j h:List Int}{most a a1:Nat}(hh:zeL j most a=.ok (h,a1)):a1≤j.length∧h.length≤most:=by
 unfold zeL at hh
 split at hh
 ·cases hh
 ·rename_i n a2 hz
  have:=zcp hz
  split at hh
  ·cases hh; rw [Ww,XU]; omega
  ·cases hh
theorem zsk{j:List Int}{most a:Nat}{e:Int}(h:zeL j most a=.error e):e≠0:=by
 unfold zeL at h
 split at h
 ·rename_i e' hz; cases h; exact zgl hz
 ·split at h
  ·cases h
  ·cases h; decide
theorem zS7(L:Nat){x:List Int}(hx:x.length≤100000000)(k:Ls→Option β):yb β L (yf .u8 x) ([]:Ls) k=k (yf .u8 x):=by
 unfold yb zlC
 have hs:(100000000:Nat)≤xf:=by decide
 rw [xr,xH (by simp <;> omega) (by simp <;> omega),zg,zb (by simp; omega),zb (by simp [xr]; omega),zg,zb (by simp [xr]; omega),zg]
 simp
theorem zUG{L:Nat}(hL:20≤L){j:List Int}(hb:Byt j)(hj:j.length≤100000000){a:Nat}(most:Nat)(hm:most≤1000000)(ha:a≤j.length)(k:Ls→Int→Int→Option β):yX β L (yf .u8 j) (a:Int) (most:Int) k=zly (zeL j most a) (fun v a'=>k (yf .u8 v) (a':Int) 0) (fun e=>k [] 0 e):=by
 unfold yX zsS
 rw [zp (by omega),xW (by omega) (by omega),zg,zKz hL hb hj most ha]
 unfold zeL
 cases hz:zcv j most a with
 | error e=>rw [zcm,xu,if_neg (zgl hz)]; rfl
 | ok p=>
  obtain ⟨n,a1⟩:=p
  obtain ⟨h1,h2⟩:=zcp hz
  rw [zbf,xu,if_pos rfl,xr,xH (by omega) (by omega),zg,xW (by omega) (by omega),zg,zef]
  by_cases h:a1+n≤j.length
  ·have e1:XL ((a1:Int)+(n:Int))=a1+n:=by omega
   have e2:((a1:Int)+(n:Int))=((a1+n:Nat):Int):=by omega
   rw [if_neg (by omega),xH (by omega) (by omega),zg,xH (by omega) (by omega),zg,zb (by omega),zb (by omega),e1,XV,show a1+n-a1=n by omega,zDv,zoi,zS7 L (by rw [Ww,XU]; omega),e2]
   simp only [if_pos h,zbf]
  ·rw [if_pos (by omega)]
   simp only [if_neg h,zcm]
def zh7:List V:=We 32 (Qa (0:Int))
theorem zSs(k:IntKind)(l:List Int):(yf k l).flatten=row k l:=by
 induction l with
 | nil=>rfl
 | cons x l ih=>simp only [yf,row,QW,WL] at ih ⊢; rw [ih]; rfl
theorem zD2{w:List Int}(hw:w.length=32):yd (We 32 (Qa (0:Int))) 0 (row .u8 w)=row .u8 w:=zaj (by rw [xk,hw,X0])
theorem zN9{w:List Int}(hw:w.length=32):XM 32 (row .u8 w)=row .u8 w:=XE (by rw [xk]; omega)
theorem zT7{j:List Int}{a:Nat}(h:a+32≤j.length):yd (We 32 (Qa (0:Int))) 0 (List.flatten (XM (min (XK (XM ((XK (yf .u8 j))-(XL (a:Int))) (List.drop (XL (a:Int)) (yf .u8 j)))) 32) (XM ((XK (yf .u8 j))-(XL (a:Int))) (List.drop (XL (a:Int)) (yf .u8 j)))))=row .u8 ((j.drop a).take 32):=by
 rw [XV,zDv,xr,zoi,xr,XE (l:=j.drop a) (by rw [XU]; omega),XU,Nat.min_eq_right (by omega),zoi,zSs]
 exact zD2 (by rw [Ww,XU]; omega)
theorem zGC(k:Option β):chk (0=0∧(XK zh7)=32∧32≠0) k=k:=zb (by simp [zh7]) k
theorem zJu{L:Nat}(hL:20≤L){j:List Int}(hj:j.length≤100000000){a:Nat}(ha:a≤j.length)(k:List V→Int→Int→Option β):yD β L (yf .u8 j) (a:Int) k=zly (zkk j a) (fun v a'=>k (row .u8 v) (a':Int) 0) (fun e=>k zh7 0 e):=by
 unfold yD zuc
 refine (zyt L j ha hj (w:=32) (by decide) _).trans ?_
 unfold zkk
 by_cases h:a+32≤j.length
 ·have hl:((j.drop a).take 32).length=32:=by rw [Ww,XU]; omega
  rw [if_pos h,if_pos h,xu,if_pos rfl,zb (by rw [xr]; omega),zT7 h,zg,zb (by rw [xk]; omega),xH (by omega) (by omega),zg,zN9 hl,zb (by rw [xk]; omega),zD2 hl,zg,zb (by rw [xk]; omega)]
  rfl
 ·rw [if_neg h,if_neg h,xu,if_neg (by decide),zg]
  exact zGC _
end
section
set_option linter.unusedSectionVars false
variable {β:Type}
section
variable (L:Nat) (J:Ls) {e:Int} (he:e≠0) (at_:Int)
include he
theorem zyh(k:Int→Ls→Int→Int→Option β):xb β L J at_ e k=k 0 J at_ e:=by
 unfold xb ziX; rw [xu,if_neg he]
theorem zXY(k:Int→Ls→Int→Int→Option β):xc β L J at_ e k=k 0 J at_ e:=by
 unfold xc zgx; rw [xu,if_neg he]
theorem zMS(m:Int)(k:Int→Ls→Int→Int→Option β):xg β L m J at_ e k=k 0 J at_ e:=by
 unfold xg zrx xO ziQ; rw [xu,if_neg he]; rfl
theorem zI1(m:Int)(k1 k2:Ls→Ls→Int→Int→Option β):ze β L m J at_ e k1 k2=k1 [] J at_ e:=by
 unfold ze zrC yR zkc; rw [xu,if_neg he]
theorem zYa(k:List V→Ls→Int→Int→Option β):xe β L J at_ e k=k zh7 J at_ e:=by
 unfold xe zg9; rw [xu,if_neg he,zg]; exact zGC _
end
section
variable {L:Nat} (hL:20≤L) {j:List Int} (hb:Byt j) (hj:j.length≤100000000) {a:Nat} (ha:a≤j.length)
include hL hb hj ha
theorem zMh(k:Int→Ls→Int→Int→Option β):xb β L (yf .u8 j) a 0 k=zly (gN j 4 a) (fun v a'=>k v (yf .u8 j) a' 0) (fun e=>k 0 (yf .u8 j) a e):=by
 unfold xb ziX
 rw [xu,if_pos rfl,zyY hL hb hj ha,zR7]
 by_cases h:a+4≤j.length
 ·rw [if_pos h,if_pos h,xu,if_pos rfl]
 ·rw [if_neg h,if_neg h,xu,if_neg (by decide)]
theorem zZw(k:Int→Ls→Int→Int→Option β):xc β L (yf .u8 j) a 0 k=zly (gN j 8 a) (fun v a'=>k v (yf .u8 j) a' 0) (fun e=>k 0 (yf .u8 j) a e):=by
 unfold xc zgx
 rw [xu,if_pos rfl,zSp hL hb hj ha,zR7]
 by_cases h:a+8≤j.length
 ·rw [if_pos h,if_pos h,xu,if_pos rfl]
 ·rw [if_neg h,if_neg h,xu,if_neg (by decide)]
theorem zVa(m:Nat)(hm:m≤1000000)(k:Int→Ls→Int→Int→Option β):xg β L (m:Int) (yf .u8 j) a 0 k=zly (zcv j m a) (fun v a'=>k v (yf .u8 j) a' 0) (fun e=>k 0 (yf .u8 j) a e):=by
 unfold xg zrx xO ziQ y4 zsy
 rw [xu,if_pos rfl,zKz hL hb hj m ha]
 cases hz:zcv j m a with
 | error e=>rw [zcm]; dsimp only; rw [xu,if_neg (zgl hz)]; rfl
 | ok p=>
  obtain ⟨n,a1⟩:=p
  have:=zcp hz
  rw [zbf]; dsimp only; rw [xu,if_pos rfl,xH (by omega) (by omega),zg]
  rfl
theorem zZg(m:Nat)(hm:m≤1000000)(k1 k2:Ls→Ls→Int→Int→Option β):ze β L (m:Int) (yf .u8 j) a 0 k1 k2=zly (zeL j m a) (fun v a'=>k2 (yf .u8 v) (yf .u8 j) a' 0) (fun e=>k1 [] (yf .u8 j) a e):=by
 unfold ze zrC yR zkc y5 zsH
 rw [xu,if_pos rfl,zUG hL hb hj m hm ha]
 cases hz:zeL j m a with
 | error e=>rw [zcm]; dsimp only; rw [xu,if_neg (zsk hz)]; rfl
 | ok p=>rw [zbf]; dsimp only; rw [xu,if_pos rfl]; rfl
theorem zZx(k:List V→Ls→Int→Int→Option β):xe β L (yf .u8 j) a 0 k=zly (zkk j a) (fun v a'=>k (row .u8 v) (yf .u8 j) a' 0) (fun e=>k zh7 (yf .u8 j) a e):=by
 unfold xe zg9
 rw [xu,if_pos rfl,zJu hL hj ha]
 have z1:yd (We 32 (Qa (0:Int))) 0 zh7=zh7:=zaj (by simp [zh7])
 cases hz:zkk j a with
 | error e=>
  rw [zcm,zb (by simp [zh7]),z1,zg,xu,if_neg (zFS hz),zg]
  exact zGC _
 | ok p=>
  obtain ⟨h,a1⟩:=p
  have hl:=(zzL hz).2
  rw [zbf,zb (by rw [xk]; omega),zD2 hl,zg,xu,if_pos rfl,zb (by rw [xk]; omega),zN9 hl,zb (by rw [xk]; omega),zD2 hl,zg,zb (by rw [xk]; omega)]
  rfl
end
def gIn(j:List Int)(a:Nat):Except Int (Inp × Nat):=match zkk j a with
 | .error e=>.error e
 | .ok (h,a1)=>match gN j 4 a1 with
  | .error e=>.error e
  | .ok (ix,a2)=>match gN j 4 a2 with
   | .error e=>.error e
   | .ok (sq,a3)=>.ok (⟨h++[(ix:Int)],sq,[]⟩,a3)
def zhZ(j:List Int):Nat→Nat→Except Int (List Inp × Nat)
 | 0,a=>.ok ([],a)
 | n+1,a=>match gIn j a with
  | .error e=>.error e
  | .ok (x,a1)=>match zhZ j n a1 with
   | .error e=>.error e
   | .ok (xs,a2)=>.ok (x::xs,a2)
def zpc(j:List Int)(a:Nat):Except Int (Outp × Nat):=match gN j 8 a with
 | .error e=>.error e
 | .ok (v,a1)=>if v≥9223372036854775808 then .error 90 else match zeL j 520 a1 with
  | .error e=>.error e
  | .ok (s,a2)=>.ok (⟨v,s⟩,a2)
def zdu(j:List Int):Nat→Nat→Except Int (List Outp × Nat)
 | 0,a=>.ok ([],a)
 | n+1,a=>match zpc j a with
  | .error e=>.error e
  | .ok (x,a1)=>match zdu j n a1 with
   | .error e=>.error e
   | .ok (xs,a2)=>.ok (x::xs,a2)
def zhp(j:List Int):Nat→Nat→Except Int (List (List Int) × Nat)
 | 0,a=>.ok ([],a)
 | n+1,a=>match zeL j 520 a with
  | .error e=>.error e
  | .ok (x,a1)=>match zhp j n a1 with
   | .error e=>.error e
   | .ok (xs,a2)=>.ok (x::xs,a2)
def zdZ(j:List Int):List Inp→Nat→Except Int (List Inp × Nat)
 | [],a=>.ok ([],a)
 | x::xs,a=>match zcv j 32 a with
  | .error e=>.error e
  | .ok (n,a1)=>match zhp j n a1 with
   | .error e=>.error e
   | .ok (w,a2)=>match zdZ j xs a2 with
    | .error e=>.error e
    | .ok (ys,a3)=>.ok ({ x with wit:=w }::ys,a3)
def gTx(j:List Int)(a:Nat):Except Int (TxT × Nat):=match gN j 4 a with
 | .error e=>.error e
 | .ok (ver,a1)=>match zcv j 64 a1 with
  | .error e=>.error e
  | .ok (n,a2)=>match zhZ j n a2 with
   | .error e=>.error e
   | .ok (xs,a3)=>match zcv j 64 a3 with
    | .error e=>.error e
    | .ok (m,a4)=>match zdu j m a4 with
     | .error e=>.error e
     | .ok (os,a5)=>match gN j 4 a5 with
      | .error e=>.error e
      | .ok (lk,a6)=>match zdZ j xs a6 with
       | .error e=>.error e
       | .ok (ys,a7)=>if a7-a>20000 then .error 4 else .ok (⟨ver,ys,os,lk⟩,a7)
end
section
set_option linter.unusedSectionVars false
variable {β:Type}
def zdR(h:List V)(ix sq:Int)(c:V):List V:=h++[V.sc (.int .u32 ix),V.sc (.int .u32 sq),c]
def zgs:V:=V.gs 1 ([]:Ls)
theorem zi4{h:List V}(hl:h.length=32)(ix sq:Int)(c:V):(zdR h ix sq c).length=35:=by simp [zdR,hl]
theorem zKQ{h:List V}(hl:h.length=32)(ix sq:Int)(c:V):XM 35 (zdR h ix sq c)=zdR h ix sq c:=XE (by rw [zi4 hl]; exact Nat.le_refl _)
theorem zXe{h:List V}(hl:h.length=32):yd (We 32 (Qa (0:Int))++[(Qc (0:Int)),(Qc (0:Int)),(V.gs 1 ([]:Ls))]) 0 h=zdR h 0 0 zgs:=by
 unfold yd zdR
 rw [hl,List.drop_append,X0]
 simp [zgs]
theorem zY9{h:List V}(hl:h.length=32)(ix sq x:Int)(c:V):yd (zdR h ix sq c) 32 [(Qc x)]=zdR h x sq c:=by
 rw [zr8 (by rw [zi4 hl]; omega)]
 unfold zdR
 rw [XW _ _ (by omega),hl]
 rfl
theorem zYr{h:List V}(hl:h.length=32)(ix sq x:Int)(c:V):yd (zdR h ix sq c) 33 [(Qc x)]=zdR h ix x c:=by
 rw [zr8 (by rw [zi4 hl]; omega)]
 unfold zdR
 rw [XW _ _ (by omega),hl]
 rfl
theorem zU0{h:List V}(hl:h.length=32)(ix sq:Int)(c:V):yd (We 32 (Qa (0:Int))++[(Qc (0:Int)),(Qc (0:Int)),(V.sl 1 ([]:Ls))]) 0 (zdR h ix sq c)=zdR h ix sq c:=zaj (by rw [zi4 hl]; rfl)
theorem zQ3{h:List V}(hl:h.length=32)(ix sq:Int)(c:V):zf 35 1 (zdR h ix sq c)=[zdR h ix sq c]:=by
 unfold zf; rw [zKQ hl]; rfl
def zcS(x:Inp):List V:=zdR (row .u8 (x.pv.take 32)) (x.pv.getD 32 0) x.seq (V.gs 1 (zaX x.wit))
theorem zWW{h:List Int}(hl:h.length=32)(ix sq:Int):zcS ⟨h++[ix],sq,[]⟩=zdR (row .u8 h) ix sq zgs:=by
 unfold zcS
 rw [List.take_left' hl]
 simp [Ws,Wt,hl,zaX,zgs]
section
variable {L:Nat} (p1 b4_0:Int) (b4_1 b4_2:Ls) (b4_3 b10_0:Int) (b10_2:Ls) (b10_3:Int)
theorem zMD{n i:Nat}(hi:i<n)(hn:n≤64)(R J:Ls)(hR:R.length≤64)(at_ f:Int)(kh:zgD β)(kx:zjo β) :
  zc1 xb xe L p1 (n:Int) (i:Int) b4_0 b4_1 b4_2 b4_3 b10_0 R b10_2 b10_3 J at_ f kh kx =
  xe β L J at_ f (fun v8 v9 v10 v11=>chk ((XK v8)=32∧0+32≤35) (xb β L v9 v10 v11 (fun v13 v14 v15 v16=>xb β L v14 v15 v16 (fun v18 v19 v20 v21=>
   kh p1 (n:Int) ((i+1:Nat):Int) b4_0 b4_1 b4_2 b4_3 b10_0 (R++[zdR v8 v13 v18 zgs]) b10_2 b10_3 v19 v20 v21)))):=by
 have hs:(100000000:Nat)≤xf:=by decide
 unfold zc1
 rw [yv (by omega)]
 congr 1
 funext v8 v9 v10 v11
 by_cases h:(XK v8)=32∧0+32≤35
 ·have hl:=h.1
  rw [zb h,zb h,zg,zXe hl]
  congr 1
  funext v13 v14 v15 v16
  rw [zb (by rw [zi4 hl]; omega),zY9 hl,zg]
  congr 1
  funext v18 v19 v20 v21
  rw [zb (by rw [zi4 hl]; omega),zYr hl,zg,zKQ hl,zU0 hl,zQ3 hl,zb (by rw [zi4 hl]; omega),zb (by rw [zi4 hl]; omega),zb (by simp only [XS,XT]; omega),zg,xM (by omega),zg]
 ·rw [zhc,zhc,if_neg h,if_neg h]
theorem zPA{n i:Nat}(hi:¬ i<n)(R J:Ls)(at_ f:Int)(kh:zgD β)(kx:zjo β) :
  zc1 xb xe L p1 (n:Int) (i:Int) b4_0 b4_1 b4_2 b4_3 b10_0 R b10_2 b10_3 J at_ f kh kx=kx p1 b4_0 b4_1 b4_2 b4_3 b10_0 R b10_2 b10_3 J at_ f:=by
 unfold zc1
 rw [zp (by omega)]
theorem zH2:(XK zh7)=32∧0+32≤35:=by simp [zh7]
theorem zKl{n:Nat}(hn:n≤64)(J:Ls)(at_:Int){e:Int}(he:e≠0)(kx:zjo β):∀ (m i:Nat) (R:Ls),R.length=i→i≤n→n-i<m →
  ∃ R':Ls,R'.length=n∧xX xb xe L kx m p1 (n:Int) (i:Int) b4_0 b4_1 b4_2 b4_3 b10_0 R b10_2 b10_3 J at_ e=kx p1 b4_0 b4_1 b4_2 b4_3 b10_0 R' b10_2 b10_3 J at_ e
 | 0,i,R,h1,h2,h3=>by omega
 | m+1,i,R,h1,h2,h3=>by
  by_cases hi:i<n
  ·obtain ⟨R',e1,e2⟩:=zKl hn J at_ he kx m (i+1) (R++[zdR zh7 0 0 zgs]) (by simp [h1]) (by omega) (by omega)
   refine ⟨R',e1,?_⟩
   rw [xX,zMD (hi:=hi) (hn:=hn) (hR:=by omega),zYa L J he,zb zH2,zyh L J he,zyh L J he]
   exact e2
  ·refine ⟨R,by omega,?_⟩
   rw [xX,zPA (hi:=hi)]
end
end
section
set_option linter.unusedSectionVars false
variable {β:Type}
section
variable {L:Nat} (hL:20≤L) {j:List Int} (hb:Byt j) (hj:j.length≤100000000) {a:Nat} (ha:a≤j.length)
include hL hb hj ha
theorem zXO(k:Int→Ls→Int→Int→Option β):xg β L (64:Int) (yf .u8 j) a 0 k=zly (zcv j 64 a) (fun v a'=>k v (yf .u8 j) a' 0) (fun e=>k 0 (yf .u8 j) a e):=zVa hL hb hj ha 64 (by decide) k
theorem zZ6(k:Int→Ls→Int→Int→Option β):xg β L (32:Int) (yf .u8 j) a 0 k=zly (zcv j 32 a) (fun v a'=>k v (yf .u8 j) a' 0) (fun e=>k 0 (yf .u8 j) a e):=zVa hL hb hj ha 32 (by decide) k
theorem zVs(k1 k2:Ls→Ls→Int→Int→Option β):ze β L (520:Int) (yf .u8 j) a 0 k1 k2=zly (zeL j 520 a) (fun v a'=>k2 (yf .u8 v) (yf .u8 j) a' 0) (fun e=>k1 [] (yf .u8 j) a e):=zZg hL hb hj ha 520 (by decide) k1 k2
end
section
variable {L:Nat} (hL:20≤L) {j:List Int} (hb:Byt j) (hj:j.length≤100000000)
variable (p1 b4_0:Int) (b4_1 b4_2:Ls) (b4_3 b10_0:Int) (b10_2:Ls) (b10_3:Int)
include hL hb hj
theorem zRT{n:Nat}(hn:n≤64)(kx:zjo β):∀ (m i a:Nat) (xs:List Inp),xs.length=i→i≤n→n-i<m→a≤j.length →
  (∃ ys a',zhZ j (n-i) a=.ok (ys,a')∧xX xb xe L kx m p1 (n:Int) (i:Int) b4_0 b4_1 b4_2 b4_3 b10_0 (xs.map zcS) b10_2 b10_3 (yf .u8 j) (a:Int) 0=kx p1 b4_0 b4_1 b4_2 b4_3 b10_0 ((xs++ys).map zcS) b10_2 b10_3 (yf .u8 j) (a':Int) 0) ∨
  (∃ e R at_,zhZ j (n-i) a=.error e∧e≠0∧R.length=n∧xX xb xe L kx m p1 (n:Int) (i:Int) b4_0 b4_1 b4_2 b4_3 b10_0 (xs.map zcS) b10_2 b10_3 (yf .u8 j) (a:Int) 0=kx p1 b4_0 b4_1 b4_2 b4_3 b10_0 R b10_2 b10_3 (yf .u8 j) at_ e)
 | 0,i,a,xs,h1,h2,h3,ha=>by omega
 | m+1,i,a,xs,h1,h2,h3,ha=>by
  by_cases hi:i<n
  ·have hn1:n-i=(n-(i+1))+1:=by omega
   rw [hn1,xX,zMD (hi:=hi) (hn:=hn) (hR:=by rw [QB]; omega),zZx hL hb hj ha]
   have bad:∀ (e:Int) (he:e≠0) (at_:Int) (r:List V),∃ R':Ls,R'.length=n∧xX xb xe L kx m p1 (n:Int) ((i+1:Nat):Int) b4_0 b4_1 b4_2 b4_3 b10_0 (xs.map zcS++[r]) b10_2 b10_3 (yf .u8 j) at_ e=kx p1 b4_0 b4_1 b4_2 b4_3 b10_0 R' b10_2 b10_3 (yf .u8 j) at_ e:=fun e he at_ r=>
    zKl p1 b4_0 b4_1 b4_2 b4_3 b10_0 b10_2 b10_3 hn (yf .u8 j) at_ he kx m (i+1) _ (by simp [h1]) (by omega) (by omega)
   cases e1:zkk j a with
   | error e=>
    have he:=zFS e1
    obtain ⟨R',q1,q2⟩:=bad e he (a:Int) (zdR zh7 0 0 zgs)
    refine .inr ⟨e,R',(a:Int),by simp only [zhZ,gIn,e1],he,q1,?_⟩
    rw [zcm,zb zH2,zyh L _ he,zyh L _ he]
    exact q2
   | ok p=>
    obtain ⟨h,a1⟩:=p
    obtain ⟨k1,k2⟩:=zzL e1
    rw [zbf,zb (by rw [xk]; omega),zMh hL hb hj k1]
    cases e2:gN j 4 a1 with
    | error e=>
     have he:=zrw e2
     obtain ⟨R',q1,q2⟩:=bad e he (a1:Int) (zdR (row .u8 h) 0 0 zgs)
     refine .inr ⟨e,R',(a1:Int),by simp only [zhZ,gIn,e1,e2],he,q1,?_⟩
     rw [zcm,zyh L _ he]
     exact q2
    | ok p=>
     obtain ⟨ix,a2⟩:=p
     have k3:=zny e2
     rw [zbf,zMh hL hb hj k3]
     cases e3:gN j 4 a2 with
     | error e=>
      have he:=zrw e3
      obtain ⟨R',q1,q2⟩:=bad e he (a2:Int) (zdR (row .u8 h) ix 0 zgs)
      refine .inr ⟨e,R',(a2:Int),by simp only [zhZ,gIn,e1,e2,e3],he,q1,?_⟩
      rw [zcm]
      exact q2
     | ok p=>
      obtain ⟨sq,a3⟩:=p
      have k4:=zny e3
      have hrow:xs.map zcS++[zdR (row .u8 h) (ix:Int) (sq:Int) zgs]=(xs++[(⟨h++[(ix:Int)],sq,[]⟩:Inp)]).map zcS:=by rw [List.map_append,QW,List.map_nil,zWW k2]
      rw [zbf,hrow]
      rcases zRT hn kx m (i+1) a3 (xs++[(⟨h++[(ix:Int)],sq,[]⟩:Inp)]) (by simp [h1]) (by omega) (by omega) k4 with ⟨ys,a',q1,q2⟩ | ⟨e,R,at_,q1,q2,q3,q4⟩
      ·refine .inl ⟨(⟨h++[(ix:Int)],sq,[]⟩:Inp)::ys,a',by simp only [zhZ,gIn,e1,e2,e3,q1],?_⟩
       rw [q2,Wu]
       rfl
      ·exact .inr ⟨e,R,at_,by simp only [zhZ,gIn,e1,e2,e3,q1],q2,q3,q4⟩
  ·have hn0:n-i=0:=by omega
   refine .inl ⟨[],a,by rw [hn0]; rfl,?_⟩
   rw [xX,zPA (hi:=hi),XZ]
end
section
variable {L:Nat} (p1 b4_0:Int) (b4_1 b4_2:Ls) (b4_3 b10_0:Int) (b10_1:Ls) (b10_3:Int)
theorem zK3{n i:Nat}(hi:i<n)(hn:n≤64)(O J:Ls)(hO:O.length≤64)(at_ f:Int)(kh:zfC β)(kx:zjp β) :
  zcz xc ze L p1 (n:Int) (i:Int) b4_0 b4_1 b4_2 b4_3 b10_0 b10_1 O b10_3 J at_ f kh kx =
  xc β L J at_ f (fun v29 v30 v31 v32=>ze β L (520:Int) v30 v31 (if v29≥(9223372036854775808:Int) then 90 else v32)
   (fun v34 v35 v36 v37=>kh p1 (n:Int) ((i+1:Nat):Int) b4_0 b4_1 b4_2 b4_3 b10_0 b10_1 (O++[[(Qe (QG .i64 v29)),(V.sl 1 v34)]]) b10_3 v35 v36 v37)
   (fun v34 v35 v36 v37=>kh p1 (n:Int) ((i+1:Nat):Int) b4_0 b4_1 b4_2 b4_3 b10_0 b10_1 (O++[[(Qe (QG .i64 v29)),(V.sl 1 v34)]]) b10_3 v35 v36 v37)):=by
 have hs:(100000000:Nat)≤xf:=by decide
 have hc:∀ (x y:V),zf 2 1 [x,y]=[[x,y]]:=fun x y=>rfl
 unfold zcz
 rw [yv (by omega)]
 congr 1
 funext v29 v30 v31 v32
 rw [zef]
 by_cases h:v29≥(9223372036854775808:Int)
 ·rw [if_pos h,if_pos h,zg]
  congr 1
  ·funext v34 v35 v36 v37
   rw [hc,zb (by simp only [XS,XT]; omega),zg,xM (by omega),zg]
  ·funext v34 v35 v36 v37
   rw [hc,zb (by simp only [XS,XT]; omega),zg,xM (by omega),zg]
 ·rw [if_neg h,if_neg h,zg]
  congr 1
  ·funext v34 v35 v36 v37
   rw [hc,zb (by simp only [XS,XT]; omega),zg,xM (by omega),zg]
  ·funext v34 v35 v36 v37
   rw [hc,zb (by simp only [XS,XT]; omega),zg,xM (by omega),zg]
theorem zM0{n i:Nat}(hi:¬ i<n)(O J:Ls)(at_ f:Int)(kh:zfC β)(kx:zjp β) :
  zcz xc ze L p1 (n:Int) (i:Int) b4_0 b4_1 b4_2 b4_3 b10_0 b10_1 O b10_3 J at_ f kh kx=kx p1 b4_0 b4_1 b4_2 b4_3 b10_0 b10_1 O b10_3 J at_ f:=by
 unfold zcz
 rw [zp (by omega)]
theorem zzV{n:Nat}(hn:n≤64)(J:Ls)(at_:Int){e:Int}(he:e≠0)(kx:zjp β):∀ (m i:Nat) (O:Ls),O.length=i→i≤n→n-i<m →
  ∃ O':Ls,zZ xc ze L kx m p1 (n:Int) (i:Int) b4_0 b4_1 b4_2 b4_3 b10_0 b10_1 O b10_3 J at_ e=kx p1 b4_0 b4_1 b4_2 b4_3 b10_0 b10_1 O' b10_3 J at_ e
 | 0,i,O,h1,h2,h3=>by omega
 | m+1,i,O,h1,h2,h3=>by
  by_cases hi:i<n
  ·obtain ⟨O',e2⟩:=zzV hn J at_ he kx m (i+1) (O++[[(Qe (QG .i64 0)),(V.sl 1 [])]]) (by simp [h1]) (by omega) (by omega)
   refine ⟨O',?_⟩
   rw [zZ,zK3 (hi:=hi) (hn:=hn) (hO:=by omega),zXY L J he,if_neg (by decide),zI1 L J he]
   exact e2
  ·refine ⟨O,?_⟩
   rw [zZ,zM0 (hi:=hi)]
end
section
variable {L:Nat} (hL:20≤L) {j:List Int} (hb:Byt j) (hj:j.length≤100000000)
variable (p1 b4_0:Int) (b4_1 b4_2:Ls) (b4_3 b10_0:Int) (b10_1:Ls) (b10_3:Int)
include hL hb hj
theorem zPf{n:Nat}(hn:n≤64)(kx:zjp β):∀ (m i a:Nat) (xs:List Outp),xs.length=i→i≤n→n-i<m→a≤j.length →
  (∃ ys a',zdu j (n-i) a=.ok (ys,a')∧zZ xc ze L kx m p1 (n:Int) (i:Int) b4_0 b4_1 b4_2 b4_3 b10_0 b10_1 (xs.map zbS) b10_3 (yf .u8 j) (a:Int) 0=kx p1 b4_0 b4_1 b4_2 b4_3 b10_0 b10_1 ((xs++ys).map zbS) b10_3 (yf .u8 j) (a':Int) 0) ∨
  (∃ e O at_,zdu j (n-i) a=.error e∧e≠0∧zZ xc ze L kx m p1 (n:Int) (i:Int) b4_0 b4_1 b4_2 b4_3 b10_0 b10_1 (xs.map zbS) b10_3 (yf .u8 j) (a:Int) 0=kx p1 b4_0 b4_1 b4_2 b4_3 b10_0 b10_1 O b10_3 (yf .u8 j) at_ e)
 | 0,i,a,xs,h1,h2,h3,ha=>by omega
 | m+1,i,a,xs,h1,h2,h3,ha=>by
  by_cases hi:i<n
  ·have hn1:n-i=(n-(i+1))+1:=by omega
   rw [hn1,zZ,zK3 (hi:=hi) (hn:=hn) (hO:=by rw [QB]; omega),zZw hL hb hj ha]
   have bad:∀ (e:Int) (he:e≠0) (at_:Int) (r:List V),∃ O':Ls,zZ xc ze L kx m p1 (n:Int) ((i+1:Nat):Int) b4_0 b4_1 b4_2 b4_3 b10_0 b10_1 (xs.map zbS++[r]) b10_3 (yf .u8 j) at_ e=kx p1 b4_0 b4_1 b4_2 b4_3 b10_0 b10_1 O' b10_3 (yf .u8 j) at_ e:=fun e he at_ r=>
    zzV p1 b4_0 b4_1 b4_2 b4_3 b10_0 b10_1 b10_3 hn (yf .u8 j) at_ he kx m (i+1) _ (by simp [h1]) (by omega) (by omega)
   cases e1:gN j 8 a with
   | error e=>
    have he:=zrw e1
    obtain ⟨O',q2⟩:=bad e he (a:Int) [(Qe (QG .i64 0)),(V.sl 1 [])]
    refine .inr ⟨e,O',(a:Int),by simp only [zdu,zpc,e1],he,?_⟩
    rw [zcm,if_neg (by decide),zI1 L _ he]
    exact q2
   | ok p=>
    obtain ⟨v,a1⟩:=p
    have k1:=zny e1
    rw [zbf]
    by_cases hv:v≥9223372036854775808
    ·obtain ⟨O',q2⟩:=bad 90 (by decide) (a1:Int) [(Qe (QG .i64 v)),(V.sl 1 [])]
     refine .inr ⟨90,O',(a1:Int),by simp only [zdu,zpc,e1,if_pos hv],by decide,?_⟩
     rw [if_pos (by omega),zI1 L _ (by decide)]
     exact q2
    ·rw [if_neg (by omega),xH (by omega) (by omega),zVs hL hb hj k1]
     cases e2:zeL j 520 a1 with
     | error e=>
      have he:=zsk e2
      obtain ⟨O',q2⟩:=bad e he (a1:Int) [(Qe v),(V.sl 1 [])]
      refine .inr ⟨e,O',(a1:Int),by simp only [zdu,zpc,e1,if_neg hv,e2],he,?_⟩
      rw [zcm]
      exact q2
     | ok p=>
      obtain ⟨sc,a2⟩:=p
      have k2:=(zoE e2).1
      have hrow:xs.map zbS++[[(Qe (v:Int)),(V.sl 1 (yf .u8 sc))]]=(xs++[(⟨v,sc⟩:Outp)]).map zbS:=by rw [List.map_append,QW,List.map_nil]; rfl
      rw [zbf,hrow]
      rcases zPf hn kx m (i+1) a2 (xs++[(⟨v,sc⟩:Outp)]) (by simp [h1]) (by omega) (by omega) k2 with ⟨ys,a',q1,q2⟩ | ⟨e,O,at_,q1,q2,q3⟩
      ·refine .inl ⟨(⟨v,sc⟩:Outp)::ys,a',by simp only [zdu,zpc,e1,if_neg hv,e2,q1],?_⟩
       rw [q2,Wu]
       rfl
      ·exact .inr ⟨e,O,at_,by simp only [zdu,zpc,e1,if_neg hv,e2,q1],q2,q3⟩
  ·have hn0:n-i=0:=by omega
   refine .inl ⟨[],a,by rw [hn0]; rfl,?_⟩
   rw [zZ,zM0 (hi:=hi),XZ]
end
end
section
set_option linter.unusedSectionVars false
variable {β:Type}
section
variable {L:Nat} (p1 b4_0:Int) (b4_1 b4_2:Ls) (b4_3 b8_0:Int) (b8_2:Ls) (b8_3:Int)
variable (hL:20≤L) {j:List Int} (hb:Byt j) (hj:j.length≤100000000)
include hL hb hj
end
section
variable {L:Nat} (hL:20≤L) {j:List Int} (hb:Byt j) (hj:j.length≤100000000)
include hL hb hj
end
theorem zWg{j:List Int}{a a':Nat}{o:Outp}(h:zpc j a=.ok (o,a')):a'≤j.length:=by
 unfold zpc at h
 split at h
 ·cases h
 ·split at h
  ·cases h
  ·split at h
   ·cases h
   ·rename_i hz; cases h; exact (zoE hz).1
section
variable {L:Nat} (p1 b4_0:Int) (b4_1 b4_2:Ls) (b4_3 b8_0:Int) (b8_1:Ls) (b8_3:Int)
variable (hL:20≤L) {j:List Int} (hb:Byt j) (hj:j.length≤100000000)
include hL hb hj
end
end
section
set_option linter.unusedSectionVars false
variable {β:Type}
def zue(x:Inp)(w:Ls):List V:=zdR (row .u8 (x.pv.take 32)) (x.pv.getD 32 0) x.seq (V.gs 1 w)
theorem zTr(x:Inp):zcS x=zue x (zaX x.wit):=rfl
def rws(ds:List Inp)(x:Inp)(w:Ls)(rs:List Inp):Ls:=ds.map zcS++zue x w::rs.map zcS
def fl(ds:List Inp)(x:Inp)(w:Ls)(rs:List Inp):List V:=(rws ds x w rs).flatten
theorem zDE{x:Inp}(h:x.pv.length=33):(row .u8 (x.pv.take 32)).length=32:=by rw [xk,Ww]; omega
theorem zzx{x:Inp}(h:x.pv.length=33)(w:Ls):(zue x w).length=35:=zi4 (zDE h) _ _ _
theorem zNg{ds:List Inp}{x:Inp}{rs:List Inp}(h:∀ y∈ds++x::rs,y.pv.length=33)(w:Ls):∀ e∈rws ds x w rs,e.length=35:=by
 intro e he
 unfold rws at he
 rcases QD.1 he with h1 | h1
 ·obtain ⟨y,hy,rfl⟩:=Xy.1 h1
  exact zzx (h y (QD.2 (.inl hy))) _
 ·rcases Q9.1 h1 with rfl | h1
  ·exact zzx (h x (by simp)) _
  ·obtain ⟨y,hy,rfl⟩:=Xy.1 h1
   exact zzx (h y (by simp [hy])) _
theorem zRU(ds:List Inp)(x:Inp)(w:Ls)(rs:List Inp):(rws ds x w rs)[ds.length]?=some (zue x w):=by
 unfold rws
 rw [Wt (by simp)]
 simp
theorem zWh{x:Inp}(h:x.pv.length=33)(w:Ls):(zue x w)[34]?=some (V.gs 1 w):=by
 unfold zue zdR
 rw [Wt (by rw [zDE h]; omega),zDE h]
 rfl
theorem zX8(n:Nat):(0+((XL ((n:Nat):Int))*35))+34=n*35+34:=by rw [XV]; omega
theorem zTj{ds:List Inp}{x:Inp}{rs:List Inp}(h:∀ y∈ds++x::rs,y.pv.length=33)(w:Ls):(fl ds x w rs).length=(ds.length+1+rs.length)*35:=by
 unfold fl
 rw [zNz (zNg h w)]
 simp [rws]
 omega
theorem zYO{ds:List Inp}{x:Inp}{rs:List Inp}(h:∀ y∈ds++x::rs,y.pv.length=33)(w:Ls)(k:Ls→Option β):cG 1 (fl ds x w rs) (ds.length*35+34) k=k w:=by
 unfold cG zdp fl
 rw [zUN (by decide) (zNg h w) (by decide:34<35) (zRU ds x w rs),zWh (h x (by simp))]
 show chk (1=1) (k w)=k w
 exact zb rfl _
theorem zS0{ds:List Inp}{x:Inp}{rs:List Inp}(h:∀ y∈ds++x::rs,y.pv.length=33)(w w':Ls)(u:V):List.set (List.set (fl ds x w rs) (ds.length*35+34) u) (ds.length*35+34) (V.gs 1 w')=fl ds x w' rs:=by
 have hl:=zTj h w
 rw [List.set_set,← zr8 (by omega)]
 unfold fl
 rw [zTC (by decide) (zNg h w) (by decide:34<35) (zRU ds x w rs)]
 congr 1
 unfold rws
 rw [XW _ _ (by simp),QB,Nat.sub_self,List.set_cons_zero]
 congr 2
 unfold zue zdR
 rw [XW _ _ (by rw [zDE (h x (by simp))]; omega),zDE (h x (by simp))]
 rfl
theorem zZf(d:Nat→Bool)(x:Inp)(w:Ls):∀ c∈zue x w,zlQ d c=c:=by
 intro c hc
 unfold zue zdR at hc
 rcases QD.1 hc with h | h
 ·unfold row at h
  obtain ⟨y,_,rfl⟩:=Xy.1 h
  rfl
 ·simp only [Q9,List.not_mem_nil,or_false] at h
  rcases h with rfl | rfl | rfl <;> rfl
theorem zOd(kb:List Bool){es:Ls}(h:∀ e∈es,∃ x w,e=zue x w):zX kb es.flatten=es.flatten:=by
 unfold zX
 have:∀ c∈es.flatten,zlQ (fun id=>!(kb.getD id false)) c=c:=by
  intro c hc
  obtain ⟨e,he,hc⟩:=List.mem_flatten.1 hc
  obtain ⟨x,w,rfl⟩:=h e he
  exact zZf _ x w c hc
 rw [List.map_congr_left this,List.map_id']
theorem zyS(kb:List Bool)(ds:List Inp)(x:Inp)(w:Ls)(rs:List Inp):zX kb (fl ds x w rs)=fl ds x w rs:=by
 refine zOd kb ?_
 intro e he
 unfold rws at he
 rcases QD.1 he with h1 | h1
 ·obtain ⟨y,hy,rfl⟩:=Xy.1 h1
  exact ⟨y,_,rfl⟩
 ·rcases Q9.1 h1 with rfl | h1
  ·exact ⟨x,w,rfl⟩
  ·obtain ⟨y,hy,rfl⟩:=Xy.1 h1
   exact ⟨y,_,rfl⟩
theorem zJE(kb:List Bool)(xs:List Inp):zX kb (xs.map zcS).flatten=(xs.map zcS).flatten:=by
 refine zOd kb ?_
 intro e he
 obtain ⟨y,hy,rfl⟩:=Xy.1 he
 exact ⟨y,_,rfl⟩
section
variable {L:Nat} (p1:Int) (pl:Nat) (p72 p73 b4_0:Int) (b4_1 b4_2:Ls) (b4_3 b10_0:Int) (nl:Nat) (b10_2:Ls) (b10_3:Int)
variable {ds:List Inp} {x:Inp} {rs:List Inp} (hW:∀ y∈ds++x::rs,y.pv.length=33) (hnl:nl=ds.length+1+rs.length)
include hW hnl
theorem zNx{c i:Nat}(hi:i<c)(hc:c≤32)(w J:Ls)(hw:w.length≤64)(at_ f:Int)(kh:zbG β)(kx:zho β) :
  zY ze L p1 ((ds.length:Nat):Int) pl p72 p73 (c:Int) (i:Int) b4_0 b4_1 b4_2 b4_3 b10_0 nl b10_2 b10_3 J at_ f (fl ds x w rs) kh kx =
  ze β L (520:Int) J at_ f
   (fun v83 v84 v85 v86=>kh p1 ((ds.length:Nat):Int) pl p72 p73 (c:Int) ((i+1:Nat):Int) b4_0 b4_1 b4_2 b4_3 b10_0 nl b10_2 b10_3 v84 v85 v86 (fl ds x (w++[[(V.sl 1 v83)]]) rs))
   (fun v83 v84 v85 v86=>kh p1 ((ds.length:Nat):Int) pl p72 p73 (c:Int) ((i+1:Nat):Int) b4_0 b4_1 b4_2 b4_3 b10_0 nl b10_2 b10_3 v84 v85 v86 (fl ds x (w++[[(V.sl 1 v83)]]) rs)):=by
 have hs:(100000000:Nat)≤xf:=by decide
 have hl:=zTj hW w
 have hch:∀ v:V,zf 1 1 [v]=[[v]]:=fun v=>rfl
 unfold zY
 rw [yv (by omega),zb (by omega),zX8,zYO hW]
 congr 1
 ·funext v83 v84 v85 v86
  rw [hch,zb (by simp only [XS,XT]; omega),zg,zb (by omega),zb (by rw [List.length_set]; omega),zg,xM (by omega),zS0 hW,zyS]
 ·funext v83 v84 v85 v86
  rw [hch,zb (by simp only [XS,XT]; omega),zg,zb (by omega),zb (by rw [List.length_set]; omega),zg,xM (by omega),zS0 hW,zyS]
theorem zPN{c i:Nat}(hi:¬ i<c)(w J:Ls)(at_ f:Int)(kh:zbG β)(kx:zho β) :
  zY ze L p1 ((ds.length:Nat):Int) pl p72 p73 (c:Int) (i:Int) b4_0 b4_1 b4_2 b4_3 b10_0 nl b10_2 b10_3 J at_ f (fl ds x w rs) kh kx=kx p1 pl p72 p73 b4_0 b4_1 b4_2 b4_3 b10_0 nl b10_2 b10_3 J at_ f (fl ds x w rs):=by
 unfold zY
 rw [zp (by omega),zyS]
theorem zJl{c:Nat}(hc:c≤32)(J:Ls)(at_:Int){e:Int}(he:e≠0)(kx:zho β):∀ (m i:Nat) (w:Ls),w.length=i→i≤c→c-i<m →
  ∃ b':List V,xA ze L kx m p1 ((ds.length:Nat):Int) pl p72 p73 (c:Int) (i:Int) b4_0 b4_1 b4_2 b4_3 b10_0 nl b10_2 b10_3 J at_ e (fl ds x w rs)=kx p1 pl p72 p73 b4_0 b4_1 b4_2 b4_3 b10_0 nl b10_2 b10_3 J at_ e b'
 | 0,i,w,h1,h2,h3=>by omega
 | m+1,i,w,h1,h2,h3=>by
  by_cases hi:i<c
  ·obtain ⟨b',e2⟩:=zJl hc J at_ he kx m (i+1) (w++[[(V.sl 1 [])]]) (by simp [h1]) (by omega) (by omega)
   refine ⟨b',?_⟩
   rw [xA,zNx (hW:=hW) (hnl:=hnl) (hi:=hi) (hc:=hc) (hw:=by omega),zI1 L J he]
   exact e2
  ·refine ⟨fl ds x w rs,?_⟩
   rw [xA,zPN (hW:=hW) (hnl:=hnl) (hi:=hi)]
variable (hL:20≤L) {j:List Int} (hb:Byt j) (hj:j.length≤100000000)
include hL hb hj
theorem zSk{c:Nat}(hc:c≤32)(kx:zho β):∀ (m i a:Nat) (ws:List (List Int)),ws.length=i→i≤c→c-i<m→a≤j.length →
  (∃ ys a',zhp j (c-i) a=.ok (ys,a')∧xA ze L kx m p1 ((ds.length:Nat):Int) pl p72 p73 (c:Int) (i:Int) b4_0 b4_1 b4_2 b4_3 b10_0 nl b10_2 b10_3 (yf .u8 j) (a:Int) 0 (fl ds x (zaX ws) rs)=kx p1 pl p72 p73 b4_0 b4_1 b4_2 b4_3 b10_0 nl b10_2 b10_3 (yf .u8 j) (a':Int) 0 (fl ds x (zaX (ws++ys)) rs)) ∨
  (∃ e at_ b',zhp j (c-i) a=.error e∧e≠0∧xA ze L kx m p1 ((ds.length:Nat):Int) pl p72 p73 (c:Int) (i:Int) b4_0 b4_1 b4_2 b4_3 b10_0 nl b10_2 b10_3 (yf .u8 j) (a:Int) 0 (fl ds x (zaX ws) rs)=kx p1 pl p72 p73 b4_0 b4_1 b4_2 b4_3 b10_0 nl b10_2 b10_3 (yf .u8 j) at_ e b')
 | 0,i,a,ws,h1,h2,h3,ha=>by omega
 | m+1,i,a,ws,h1,h2,h3,ha=>by
  by_cases hi:i<c
  ·have hn1:c-i=(c-(i+1))+1:=by omega
   have hwl:(zaX ws).length=i:=by simp [zaX,h1]
   rw [hn1,xA,zNx (hW:=hW) (hnl:=hnl) (hi:=hi) (hc:=hc) (hw:=by omega),zVs hL hb hj ha]
   cases e1:zeL j 520 a with
   | error e=>
    have he:=zsk e1
    obtain ⟨b',q2⟩:=zJl p1 pl p72 p73 b4_0 b4_1 b4_2 b4_3 b10_0 nl b10_2 b10_3 hW hnl hc (yf .u8 j) (a:Int) he kx m (i+1) (zaX ws++[[(V.sl 1 [])]]) (by simp [hwl]) (by omega) (by omega)
    refine .inr ⟨e,(a:Int),b',by simp only [zhp,e1],he,?_⟩
    rw [zcm]
    exact q2
   | ok p=>
    obtain ⟨s,a1⟩:=p
    have k1:=(zoE e1).1
    have hrow:zaX ws++[[(V.sl 1 (yf .u8 s))]]=zaX (ws++[s]):=by simp [zaX]
    rw [zbf,hrow]
    rcases zSk hc kx m (i+1) a1 (ws++[s]) (by simp [h1]) (by omega) (by omega) k1 with ⟨ys,a',q1,q2⟩ | ⟨e,at_,b',q1,q2,q3⟩
    ·refine .inl ⟨s::ys,a',by simp only [zhp,e1,q1],?_⟩
     rw [q2,Wu]
     rfl
    ·exact .inr ⟨e,at_,b',by simp only [zhp,e1,q1],q2,q3⟩
  ·have hn0:c-i=0:=by omega
   refine .inl ⟨[],a,by rw [hn0]; rfl,?_⟩
   rw [xA,zPN (hW:=hW) (hnl:=hnl) (hi:=hi),XZ]
end
end
section
set_option linter.unusedSectionVars false
variable {β:Type}
theorem zRr(ds:List Inp)(x:Inp)(w:List (List Int))(rs:List Inp):fl ds x (zaX w) rs=((ds++{ x with wit:=w }::rs).map zcS).flatten:=by
 simp [fl,rws,zTr,zue]
theorem zYk(ds:List Inp)(x:Inp)(hx:x.wit=[])(rs:List Inp):((ds++x::rs).map zcS).flatten=fl ds x (zaX []) rs:=by
 rw [zRr,← hx]
theorem zKr{j:List Int}:∀ (n a:Nat) {a':Nat} {ys:List (List Int)},a≤j.length→zhp j n a=.ok (ys,a')→a'≤j.length
 | 0,a,a',ys,ha,h=>by simp only [zhp] at h; cases h; exact ha
 | n+1,a,a',ys,ha,h=>by
  rw [zhp] at h
  split at h
  ·cases h
  ·rename_i x a1 hz
   split at h
   ·cases h
   ·rename_i xs a2 hz2
    cases h
    exact zKr n a1 (zoE hz).1 hz2
section
variable {L:Nat} (p1:Int) (pl:Nat) (b4_0:Int) (b4_1 b4_2:Ls) (b4_3 b10_0:Int) (nl:Nat) (b10_2:Ls) (b10_3:Int)
theorem zNh{n:Nat}(hL:20≤L)(hn:n≤64)(J:Ls)(at_:Int){e:Int}(he:e≠0)(kx:zm2 β):∀ (m i:Nat) (F:List V),i≤n→n-i<m →
  ∃ b':List V,xF xg ze L kx m p1 pl (n:Int) (i:Int) b4_0 b4_1 b4_2 b4_3 b10_0 nl b10_2 b10_3 J at_ e F=kx p1 pl b4_0 b4_1 b4_2 b4_3 b10_0 nl b10_2 b10_3 J at_ e b'
 | 0,i,F,h2,h3=>by omega
 | m+1,i,F,h2,h3=>by
  rw [xF]
  unfold zbB zc4
  by_cases hi:i<n
  ·obtain ⟨l,hl⟩:∃ l,L=l+1:=⟨L-1,by omega⟩
   rw [yv (by omega),zMS L J he]
   have key:∀ (kx6:zho β) (F:List V),∃ b',xA ze L kx6 L p1 (i:Int) pl (n:Int) (i:Int) 0 0 b4_0 b4_1 b4_2 b4_3 b10_0 nl b10_2 b10_3 J at_ e F=kx6 p1 pl (n:Int) (i:Int) b4_0 b4_1 b4_2 b4_3 b10_0 nl b10_2 b10_3 J at_ e b':=by
    intro kx6 F
    generalize hg:L=L'
    rw [hl] at hg
    subst hg
    rw [xA]
    unfold zY
    rw [zp (by omega)]
    exact ⟨_,rfl⟩
   obtain ⟨b1,q1⟩:=key (fun p1 p71l p72 p73 b4_0 b4_1 b4_2 b4_3 b10_0 b10_1l b10_2 b10_3 b17_0 b17_1 b17_2 b71=>yC L p1 p71l p72 p73 b4_0 b4_1 b4_2 b4_3 b10_0 b10_1l b10_2 b10_3 b17_0 b17_1 b17_2 b71 (fun p1 p71l p72 p73 b4_0 b4_1 b4_2 b4_3 b10_0 b10_1l b10_2 b10_3 b17_0 b17_1 b17_2 b71=>xF xg ze L kx m p1 p71l p72 p73 b4_0 b4_1 b4_2 b4_3 b10_0 b10_1l b10_2 b10_3 b17_0 b17_1 b17_2 b71)) (zX (bl 680564733833211346651751552939242551295 129) F)
   have r:∀ F:List V,∃ b',yC L p1 pl (n:Int) (i:Int) b4_0 b4_1 b4_2 b4_3 b10_0 nl b10_2 b10_3 J at_ e F (fun p1 p71l p72 p73 b4_0 b4_1 b4_2 b4_3 b10_0 b10_1l b10_2 b10_3 b17_0 b17_1 b17_2 b71=>xF xg ze L kx m p1 p71l p72 p73 b4_0 b4_1 b4_2 b4_3 b10_0 b10_1l b10_2 b10_3 b17_0 b17_1 b17_2 b71)=kx p1 pl b4_0 b4_1 b4_2 b4_3 b10_0 nl b10_2 b10_3 J at_ e b':=by
    intro F
    unfold yC
    rw [xM (by omega),zg]
    exact zNh hL hn J at_ he kx m (i+1) _ (by omega) (by omega)
   obtain ⟨b2,q2⟩:=r b1
   exact ⟨b2,q1.trans q2⟩
  ·rw [zp (by omega)]
   exact ⟨_,rfl⟩
variable (hL:1000≤L) {j:List Int} (hb:Byt j) (hj:j.length≤100000000)
include hL hb hj
theorem zVw(hnl:nl≤64)(kx:zm2 β):∀ (m a:Nat) (rs ds:List Inp),(∀ y∈ds++rs,y.pv.length=33)→(∀ y∈rs,y.wit=[])→nl=ds.length+rs.length→rs.length<m→a≤j.length →
  (∃ ys a',zdZ j rs a=.ok (ys,a')∧xF xg ze L kx m p1 pl (nl:Int) ((ds.length:Nat):Int) b4_0 b4_1 b4_2 b4_3 b10_0 nl b10_2 b10_3 (yf .u8 j) (a:Int) 0 ((ds++rs).map zcS).flatten=kx p1 pl b4_0 b4_1 b4_2 b4_3 b10_0 nl b10_2 b10_3 (yf .u8 j) (a':Int) 0 ((ds++ys).map zcS).flatten) ∨
  (∃ e at_ b',zdZ j rs a=.error e∧e≠0∧xF xg ze L kx m p1 pl (nl:Int) ((ds.length:Nat):Int) b4_0 b4_1 b4_2 b4_3 b10_0 nl b10_2 b10_3 (yf .u8 j) (a:Int) 0 ((ds++rs).map zcS).flatten=kx p1 pl b4_0 b4_1 b4_2 b4_3 b10_0 nl b10_2 b10_3 (yf .u8 j) at_ e b')
 | 0,a,rs,ds,hW,hw,h1,h2,ha=>by omega
 | m+1,a,[],ds,hW,hw,h1,h2,ha=>by
  refine .inl ⟨[],a,rfl,?_⟩
  rw [xF]
  unfold zbB zc4
  rw [zp (by simp only [XT] at h1; omega),zJE]
 | m+1,a,x::rs,ds,hW,hw,h1,h2,ha=>by
  simp only [XS] at h1 h2
  have hx:=hw x (by simp)
  have hL20:20≤L:=by omega
  rw [xF]
  unfold zbB zc4
  rw [yv (by omega),zZ6 hL20 hb hj ha,zJE,zYk ds x hx rs]
  have bad:∀ {e:Int} (he:e≠0) (at_:Int) (F:List V),∃ b':List V,yC L p1 pl (nl:Int) ((ds.length:Nat):Int) b4_0 b4_1 b4_2 b4_3 b10_0 nl b10_2 b10_3 (yf .u8 j) at_ e F (fun p1 p71l p72 p73 b4_0 b4_1 b4_2 b4_3 b10_0 b10_1l b10_2 b10_3 b17_0 b17_1 b17_2 b71=>xF xg ze L kx m p1 p71l p72 p73 b4_0 b4_1 b4_2 b4_3 b10_0 b10_1l b10_2 b10_3 b17_0 b17_1 b17_2 b71)=kx p1 pl b4_0 b4_1 b4_2 b4_3 b10_0 nl b10_2 b10_3 (yf .u8 j) at_ e b':=by
   intro e he at_ F
   unfold yC
   rw [xM (by omega),zg]
   exact zNh p1 pl b4_0 b4_1 b4_2 b4_3 b10_0 nl b10_2 b10_3 hL20 hnl _ at_ he kx m _ _ (by omega) (by omega)
  cases e1:zcv j 32 a with
  | error e=>
   have he:=zgl e1
   rw [zcm]
   obtain ⟨b',q⟩:=zJl p1 pl (nl:Int) ((ds.length:Nat):Int) b4_0 b4_1 b4_2 b4_3 b10_0 nl b10_2 b10_3 hW (by omega) (c:=0) (by decide) (yf .u8 j) (a:Int) he (fun p1 p71l p72 p73 b4_0 b4_1 b4_2 b4_3 b10_0 b10_1l b10_2 b10_3 b17_0 b17_1 b17_2 b71=>yC L p1 p71l p72 p73 b4_0 b4_1 b4_2 b4_3 b10_0 b10_1l b10_2 b10_3 b17_0 b17_1 b17_2 b71 (fun p1 p71l p72 p73 b4_0 b4_1 b4_2 b4_3 b10_0 b10_1l b10_2 b10_3 b17_0 b17_1 b17_2 b71=>xF xg ze L kx m p1 p71l p72 p73 b4_0 b4_1 b4_2 b4_3 b10_0 b10_1l b10_2 b10_3 b17_0 b17_1 b17_2 b71)) L 0 (zaX []) rfl (by omega) (by omega)
   obtain ⟨b2,q2⟩:=bad he (a:Int) b'
   refine .inr ⟨e,(a:Int),b2,by simp only [zdZ,e1],he,?_⟩
   exact q.trans q2
  | ok p=>
   obtain ⟨n,a1⟩:=p
   obtain ⟨k1,k2⟩:=zcp e1
   rw [zbf]
   rcases zSk p1 pl (nl:Int) ((ds.length:Nat):Int) b4_0 b4_1 b4_2 b4_3 b10_0 nl b10_2 b10_3 hW (by omega) hL20 hb hj k2 (fun p1 p71l p72 p73 b4_0 b4_1 b4_2 b4_3 b10_0 b10_1l b10_2 b10_3 b17_0 b17_1 b17_2 b71=>yC L p1 p71l p72 p73 b4_0 b4_1 b4_2 b4_3 b10_0 b10_1l b10_2 b10_3 b17_0 b17_1 b17_2 b71 (fun p1 p71l p72 p73 b4_0 b4_1 b4_2 b4_3 b10_0 b10_1l b10_2 b10_3 b17_0 b17_1 b17_2 b71=>xF xg ze L kx m p1 p71l p72 p73 b4_0 b4_1 b4_2 b4_3 b10_0 b10_1l b10_2 b10_3 b17_0 b17_1 b17_2 b71)) L 0 a1 [] rfl (by omega) (by omega) k1 with ⟨ws,a2,q1,q2⟩ | ⟨e,at_,b',q1,q2,q3⟩
   ·have k3:a2≤j.length:=zKr _ _ k1 q1
    rw [XY] at q2
    rw [XX] at q1
    have hW':∀ y∈(ds++[{ x with wit:=ws }])++rs,y.pv.length=33:=by
     intro y hy
     rw [Wu] at hy
     rcases QD.1 hy with h | h
     ·exact hW y (by simp [h])
     ·rcases Q9.1 h with rfl | h
      ·exact hW x (by simp)
      ·exact hW y (by simp at h; simp [h])
    rcases zVw hnl kx m a2 rs (ds++[{ x with wit:=ws }]) hW' (fun y hy=>hw y (by simp [hy])) (by simp; omega) (by omega) k3 with ⟨ys,a',r1,r2⟩ | ⟨e,at_,b',r1,r2,r3⟩
    ·refine .inl ⟨{ x with wit:=ws }::ys,a',by simp only [zdZ,e1,q1,r1],?_⟩
     refine q2.trans ?_
     unfold yC
     rw [xM (by omega),zg,zyS,zRr]
     rw [Wu,Wu] at r2
     refine Eq.trans ?_ r2
     simp only [Wm,XS,XT,X1,Nat.zero_add]
    ·refine .inr ⟨e,at_,b',by simp only [zdZ,e1,q1,r1],r2,?_⟩
     refine q2.trans ?_
     unfold yC
     rw [xM (by omega),zg,zyS,zRr]
     rw [Wu] at r3
     refine Eq.trans ?_ r3
     simp only [Wm,XS,XT,X1,Nat.zero_add]
   ·obtain ⟨b2,r2⟩:=bad q2 at_ b'
    rw [XX] at q1
    exact .inr ⟨e,at_,b2,by simp only [zdZ,e1,q1],q2,q3.trans r2⟩
end
end
section
set_option linter.unusedSectionVars false
variable {β:Type}
def zwZ:List V:=[(Qc (0:Int)),(V.sl 35 ([]:Ls)),(V.sl 2 ([]:Ls)),(Qc (0:Int))]
theorem zM3(k:Option β):chk (0=0∧(XK zwZ)=4∧4≠0) k=k:=zb (by simp [zwZ]) k
theorem zFT{l:List Int}(h:32≤l.length):XM 32 l=(List.range 32).map (fun i=>l.getD i 0):=by
 apply List.ext_getElem
 ·simp; omega
 ·intro i h1 h2
  simp at h1 h2 ⊢
  rw [Wc (by omega)]
  rfl
theorem zQ9{x:Inp}(h:x.pv.length=33):(zcS x).mapM V.plain=some (zaZ x):=by
 unfold zcS
 rw [zFT (by omega)]
 rfl
theorem zSB{f:V→Option V}:∀ {l m l' m':List V},l.mapM f=some l'→m.mapM f=some m'→(l++m).mapM f=some (l'++m'):=by
 intro l m l' m' h1 h2
 rw [List.mapM_append,h1,h2]
 rfl
theorem zI0:∀ {xs:List Inp},(∀ y∈xs,y.pv.length=33)→((xs.map zcS).flatten).mapM V.plain=some (xs.map zaZ).flatten
 | [],_=>rfl
 | x::xs,h=>by
  rw [QW,WL,QW,WL]
  exact zSB (zQ9 (h x (by simp))) (zI0 (fun y hy=>h y (by simp [hy])))
theorem zOR(xs:List Inp):zf 35 xs.length (xs.map zaZ).flatten=xs.map zaZ:=by
 have:=zFb (sz:=35) (es:=xs.map zaZ) (fun e he=>by obtain ⟨y,_,rfl⟩:=Xy.1 he; exact zn3 y)
 rwa [QB] at this
theorem zUP{xs:List Inp}(h:(xs.map zcS).flatten=[])(hW:∀ y∈xs,y.pv.length=33):xs=[]:=by
 cases xs with
 | nil=>rfl
 | cons x xs=>
  rw [QW,WL] at h
  have:=zzx (hW x (by simp)) (zaX x.wit)
  rw [List.append_eq_nil_iff] at h
  rw [← zTr,h.1] at this
  cases this
theorem zxB{j:List Int}:∀ (n a:Nat) {a':Nat} {ys:List Inp},a≤j.length→zhZ j n a=.ok (ys,a')→a'≤j.length∧ys.length=n∧(∀ y∈ys,y.pv.length=33)∧∀ y∈ys,y.wit=[]
 | 0,a,a',ys,ha,h=>by simp only [zhZ] at h; cases h; exact ⟨ha,rfl,by simp,by simp⟩
 | n+1,a,a',ys,ha,h=>by
  rw [zhZ] at h
  split at h
  ·cases h
  ·rename_i x a1 hz
   split at h
   ·cases h
   ·rename_i xs a2 hz2
    cases h
    unfold gIn at hz
    split at hz
    ·cases hz
    ·rename_i hh b1 z1
     split at hz
     ·cases hz
     ·rename_i ix b2 z2
      split at hz
      ·cases hz
      ·rename_i sq b3 z3
       cases hz
       obtain ⟨r1,r2,r3,r4⟩:=zxB n _ (zny z3) hz2
       have hl:=(zzL z1).2
       refine ⟨r1,by simp [r2],?_,?_⟩
       ·intro y hy
        rcases Q9.1 hy with rfl | hy
        ·simp [hl]
        ·exact r3 y hy
       ·intro y hy
        rcases Q9.1 hy with rfl | hy
        ·rfl
        ·exact r4 y hy
theorem zOn{j:List Int}:∀ (n a:Nat) {a':Nat} {ys:List Outp},a≤j.length→zdu j n a=.ok (ys,a')→a'≤j.length
 | 0,a,a',ys,ha,h=>by simp only [zdu] at h; cases h; exact ha
 | n+1,a,a',ys,ha,h=>by
  rw [zdu] at h
  split at h
  ·cases h
  ·rename_i x a1 hz
   split at h
   ·cases h
   ·rename_i xs a2 hz2
    cases h
    exact zOn n a1 (zWg hz) hz2
theorem zGz{j:List Int}:∀ (xs:List Inp) (a:Nat) {a':Nat} {ys:List Inp},a≤j.length→(∀ y∈xs,y.pv.length=33)→zdZ j xs a=.ok (ys,a')→a'≤j.length∧ys.length=xs.length∧∀ y∈ys,y.pv.length=33
 | [],a,a',ys,ha,hW,h=>by simp only [zdZ] at h; cases h; exact ⟨ha,rfl,by simp⟩
 | x::xs,a,a',ys,ha,hW,h=>by
  rw [zdZ] at h
  split at h
  ·cases h
  ·rename_i n a1 hz
   split at h
   ·cases h
   ·rename_i w a2 hz2
    split at h
    ·cases h
    ·rename_i zs a3 hz3
     cases h
     obtain ⟨r1,r2,r3⟩:=zGz xs a2 (zKr _ _ (zcp hz).1 hz2) (fun y hy=>hW y (by simp [hy])) hz3
     refine ⟨r1,by simp [r2],?_⟩
     intro y hy
     rcases Q9.1 hy with rfl | hy
     ·exact hW x (by simp)
     ·exact r3 y hy
section
variable {L:Nat} (p1:Int) (pl:Nat) (b4_0:Int) (b4_1 b4_2:Ls) (b4_3 b10_0:Int) (nl:Nat) (b10_2:Ls) (b10_3:Int)
theorem zOe(J:Ls)(at_:Int){e:Int}(he:e≠0)(F:List V)(k:List V→Int→Int→Option β) :
  yY L p1 pl b4_0 b4_1 b4_2 b4_3 b10_0 nl b10_2 b10_3 J at_ e F k=k zwZ 0 e:=by
 unfold yY
 rw [zfX he,xu,if_neg he,zg]
 exact zM3 _
theorem zVZ(a0 a:Nat)(h0:a0≤100000000)(h1:a≤100000000)(J:Ls)(xs:List Inp)(os:List Outp)(hn:nl=xs.length)(hW:∀ y∈xs,y.pv.length=33)(k:List V→Int→Int→Option β) :
  yY L (a0:Int) pl b4_0 b4_1 b4_2 b4_3 b10_0 nl (os.map zbS) b10_3 J (a:Int) 0 (xs.map zcS).flatten k=if a-a0>20000 then k zwZ 0 4 else k (yV ⟨b10_0,xs,os,b10_3⟩) (a:Int) 0:=by
 unfold yY
 rw [zhH rfl,xH (by omega) (by omega),zg,zef]
 by_cases h:a-a0>20000
 ·rw [if_pos (by omega),if_pos h,zg]
  exact zM3 _
 ·rw [if_neg (by omega),if_neg h,xu,if_pos rfl]
  have hp:=zI0 hW
  cases hF:(xs.map zcS).flatten with
  | nil=>
   have hx:=zUP hF hW
   subst hx
   have:nl=0:=hn
   show chk (nl=0) _=_
   rw [zb this,zg,zb (by simp)]
   rfl
  | cons c cs=>
   rw [hF] at hp
   show zcy (c::cs) _=_
   unfold zcy
   rw [hp]
   show lt _ _=_
   rw [zg,zb (by simp),hn,zOR,zUX ⟨b10_0,xs,os,b10_3⟩]
end
section
variable {L:Nat} (hL:1000≤L) {j:List Int} (hb:Byt j) (hj:j.length≤100000000)
include hL hb hj
theorem zTD{a:Nat}(ha:a≤j.length)(k:List V→Int→Int→Option β):yO β L (yf .u8 j) (a:Int) k=zly (gTx j a) (fun t a'=>k (yV t) (a':Int) 0) (fun e=>k zwZ 0 e):=by
 have hL20:20≤L:=by omega
 have t4:∀ {e:Int} (he:e≠0) (pl:Nat) (b4_0:Int) (b4_1 b4_2:Ls) (b4_3 b10_0:Int) (nl:Nat) (b10_2:Ls) (b10_3 at_:Int) (F:List V),nl≤64→xF xg ze L (fun p1 p71l b4_0 b4_1 b4_2 b4_3 b10_0 b10_1l b10_2 b10_3 b17_0 b17_1 b17_2 b71=>yY L p1 p71l b4_0 b4_1 b4_2 b4_3 b10_0 b10_1l b10_2 b10_3 b17_0 b17_1 b17_2 b71 k) L (a:Int) pl (nl:Int) ((0:Nat):Int) b4_0 b4_1 b4_2 b4_3 b10_0 nl b10_2 b10_3 (yf .u8 j) at_ e F=k zwZ 0 e:=by
  intro e he pl b4_0 b4_1 b4_2 b4_3 b10_0 nl b10_2 b10_3 at_ F hn
  obtain ⟨b',q⟩:=zNh (β:=β) (a:Int) pl b4_0 b4_1 b4_2 b4_3 b10_0 nl b10_2 b10_3 hL20 hn (yf .u8 j) at_ he (fun p1 p71l b4_0 b4_1 b4_2 b4_3 b10_0 b10_1l b10_2 b10_3 b17_0 b17_1 b17_2 b71=>yY L p1 p71l b4_0 b4_1 b4_2 b4_3 b10_0 b10_1l b10_2 b10_3 b17_0 b17_1 b17_2 b71 k) L 0 F (by omega) (by omega)
  exact q.trans (zOe _ _ _ _ _ _ _ _ _ _ _ _ he _ k)
 have t2:∀ {e:Int} (he:e≠0) (b4_0:Int) (b4_1 b4_2:Ls) (b4_3 b10_0:Int) (R b10_2:Ls) (b10_3 at_:Int),R.length≤64→y6 xb xg ze L (a:Int) b4_0 b4_1 b4_2 b4_3 b10_0 R b10_2 b10_3 (yf .u8 j) at_ e k=k zwZ 0 e:=by
  intro e he b4_0 b4_1 b4_2 b4_3 b10_0 R b10_2 b10_3 at_ hR
  unfold y6 ze8
  rw [zyh L _ he,zg]
  exact t4 he _ _ _ _ _ _ _ _ _ _ _ hR
 have t0:∀ {e:Int} (he:e≠0) (b4_0:Int) (b4_1 b4_2:Ls) (b4_3 b10_0:Int) (R:Ls) (b10_3 at_:Int),R.length≤64→zah xb xg xc ze L (a:Int) b4_0 b4_1 b4_2 b4_3 b10_0 R [] b10_3 (yf .u8 j) at_ e k=k zwZ 0 e:=by
  intro e he b4_0 b4_1 b4_2 b4_3 b10_0 R b10_3 at_ hR
  unfold zah zfK
  rw [zMS L _ he]
  obtain ⟨O',q⟩:=zzV (β:=β) (L:=L) (a:Int) b4_0 b4_1 b4_2 b4_3 b10_0 R b10_3 (n:=0) (by decide) (yf .u8 j) at_ he (fun p1 b4_0 b4_1 b4_2 b4_3 b10_0 b10_1 b10_2 b10_3 b17_0 b17_1 b17_2=>y6 xb xg ze L p1 b4_0 b4_1 b4_2 b4_3 b10_0 b10_1 b10_2 b10_3 b17_0 b17_1 b17_2 k) L 0 [] rfl (by omega) (by omega)
  exact q.trans (t2 he _ _ _ _ _ _ _ _ _ hR)
 have tI:∀ {e:Int} (he:e≠0) (v at_:Int),xX xb xe L (fun p1 b4_0 b4_1 b4_2 b4_3 b10_0 b10_1 b10_2 b10_3 b17_0 b17_1 b17_2=>zah xb xg xc ze L p1 b4_0 b4_1 b4_2 b4_3 b10_0 b10_1 b10_2 b10_3 b17_0 b17_1 b17_2 k) L (a:Int) 0 0 0 [] [] 0 v [] [] 0 (yf .u8 j) at_ e=k zwZ 0 e:=by
  intro e he v at_
  obtain ⟨R',q0,q⟩:=zKl (β:=β) (L:=L) (a:Int) 0 [] [] 0 v [] 0 (n:=0) (by decide) (yf .u8 j) at_ he (fun p1 b4_0 b4_1 b4_2 b4_3 b10_0 b10_1 b10_2 b10_3 b17_0 b17_1 b17_2=>zah xb xg xc ze L p1 b4_0 b4_1 b4_2 b4_3 b10_0 b10_1 b10_2 b10_3 b17_0 b17_1 b17_2 k) L 0 [] rfl (by omega) (by omega)
  exact q.trans (t0 he _ _ _ _ _ _ _ _ (by omega))
 unfold yO zvF zDg
 rw [zMh hL20 hb hj ha]
 unfold gTx
 cases e1:gN j 4 a with
 | error e=>
  have he:=zrw e1
  rw [zcm,zMS L _ he]
  exact tI he _ _
 | ok p=>
  obtain ⟨ver,a1⟩:=p
  have h1:=zny e1
  rw [zbf,zXO hL20 hb hj h1]
  cases e2:zcv j 64 a1 with
  | error e=>
   have he:=zgl e2
   rw [zcm]
   simp only [e2]
   exact tI he _ _
  | ok p=>
   obtain ⟨n,a2⟩:=p
   obtain ⟨h2,hn⟩:=zcp e2
   rw [zbf]
   simp only [e2]
   rcases zRT hL20 hb hj (a:Int) 0 [] [] 0 (ver:Int) [] 0 hn (fun p1 b4_0 b4_1 b4_2 b4_3 b10_0 b10_1 b10_2 b10_3 b17_0 b17_1 b17_2=>zah xb xg xc ze L p1 b4_0 b4_1 b4_2 b4_3 b10_0 b10_1 b10_2 b10_3 b17_0 b17_1 b17_2 k) L 0 a2 [] rfl (by omega) (by omega) h2 with ⟨xs,a3,q1,q2⟩ | ⟨e,R,at_,q1,q2,q3,q4⟩
   ·rw [XX] at q1
    rw [XY] at q2
    obtain ⟨h3,hx1,hx2,hx3⟩:=zxB n a2 h2 q1
    refine Eq.trans q2 ?_
    simp only [q1]
    unfold zah zfK
    rw [zXO hL20 hb hj h3]
    cases e4:zcv j 64 a3 with
    | error e=>
     have he:=zgl e4
     rw [zcm]
     obtain ⟨O',q⟩:=zzV (β:=β) (L:=L) (a:Int) 0 [] [] 0 (ver:Int) (xs.map zcS) 0 (n:=0) (by decide) (yf .u8 j) (a3:Int) he (fun p1 b4_0 b4_1 b4_2 b4_3 b10_0 b10_1 b10_2 b10_3 b17_0 b17_1 b17_2=>y6 xb xg ze L p1 b4_0 b4_1 b4_2 b4_3 b10_0 b10_1 b10_2 b10_3 b17_0 b17_1 b17_2 k) L 0 [] rfl (by omega) (by omega)
     exact q.trans (t2 he _ _ _ _ _ _ _ _ _ (by rw [QB]; omega))
    | ok p=>
     obtain ⟨m,a4⟩:=p
     obtain ⟨h4,hm⟩:=zcp e4
     rw [zbf]
     simp only []
     rcases zPf hL20 hb hj (a:Int) 0 [] [] 0 (ver:Int) (xs.map zcS) 0 hm (fun p1 b4_0 b4_1 b4_2 b4_3 b10_0 b10_1 b10_2 b10_3 b17_0 b17_1 b17_2=>y6 xb xg ze L p1 b4_0 b4_1 b4_2 b4_3 b10_0 b10_1 b10_2 b10_3 b17_0 b17_1 b17_2 k) L 0 a4 [] rfl (by omega) (by omega) h4 with ⟨os,a5,r1,r2⟩ | ⟨e,O,at_,r1,r2,r3⟩
     ·rw [XX] at r1
      rw [XY] at r2
      have h5:=zOn m a4 h4 r1
      refine Eq.trans r2 ?_
      simp only [r1]
      unfold y6 ze8
      rw [zMh hL20 hb hj h5]
      cases e6:gN j 4 a5 with
      | error e=>
       have he:=zrw e6
       rw [zcm,zg]
       exact t4 he _ _ _ _ _ _ _ _ _ _ _ (by rw [QB]; omega)
      | ok p=>
       obtain ⟨lk,a6⟩:=p
       have h6:=zny e6
       rw [zbf,zg,zJE]
       simp only []
       rcases zVw (β:=β) (a:Int) (xs.map zcS).length 0 [] [] 0 (ver:Int) (xs.map zcS).length (os.map zbS) (lk:Int) hL hb hj (by rw [QB]; omega) (fun p1 p71l b4_0 b4_1 b4_2 b4_3 b10_0 b10_1l b10_2 b10_3 b17_0 b17_1 b17_2 b71=>yY L p1 p71l b4_0 b4_1 b4_2 b4_3 b10_0 b10_1l b10_2 b10_3 b17_0 b17_1 b17_2 b71 k) L a6 xs [] (by simpa using hx2) hx3 (by simp) (by omega) h6 with ⟨ys,a7,s1,s2⟩ | ⟨e,at_,b',s1,s2,s3⟩
       ·obtain ⟨h7,hy1,hy2⟩:=zGz xs a6 h6 hx2 s1
        refine Eq.trans s2 ?_
        simp only [s1]
        rw [XY,zVZ _ _ _ _ _ _ _ _ _ _ (by omega) (by omega) _ ys os (by rw [QB,hy1]) hy2]
        by_cases hh:a7-a>20000
        ·rw [if_pos hh,if_pos hh]; rfl
        ·rw [if_neg hh,if_neg hh]; rfl
       ·refine Eq.trans s3 ?_
        simp only [s1]
        exact zOe _ _ _ _ _ _ _ _ _ _ _ _ s2 _ k
     ·rw [XX] at r1
      refine Eq.trans r3 ?_
      simp only [r1]
      exact t2 r2 _ _ _ _ _ _ _ _ _ (by rw [QB]; omega)
   ·rw [XX] at q1
    refine Eq.trans q4 ?_
    simp only [q1]
    exact t0 q2 _ _ _ _ _ _ _ _ (by omega)
end
end
section
set_option linter.unusedSectionVars false
variable {β:Type}
section
variable {L:Nat} (p1:Int) (pl:Nat) (p72 p73 b4_0:Int) (b4_1 b4_2:Ls) (b4_3 b10_0:Int) (nl:Nat) (b10_2:Ls) (b10_3:Int)
variable {ds:List Inp} {x:Inp} {rs:List Inp} (hW:∀ y∈ds++x::rs,y.pv.length=33) (hnl:nl=ds.length+1+rs.length)
include hW hnl
variable (hL:20≤L) {j:List Int} (hb:Byt j) (hj:j.length≤100000000)
include hL hb hj
end
section
variable {L:Nat} (p1:Int) (pl:Nat) (b4_0:Int) (b4_1 b4_2:Ls) (b4_3 b10_0:Int) (nl:Nat) (b10_2:Ls) (b10_3:Int)
variable (hL:1000≤L) {j:List Int} (hb:Byt j) (hj:j.length≤100000000)
include hL hb hj
end
section
variable {L:Nat} (p1:Int) (pl:Nat) (b4_0:Int) (b4_1 b4_2:Ls) (b4_3 b10_0:Int) (nl:Nat) (b10_2:Ls) (b10_3:Int)
end
section
variable {L:Nat} (hL:1000≤L) {j:List Int} (hb:Byt j) (hj:j.length≤100000000)
include hL hb hj
end
end
section
set_option linter.unusedSectionVars false
variable {β:Type}
structure SmallT (t:TxT):Prop where
 i:t.ins.length≤64
 o:t.outs.length≤64
 w:∀ x∈t.ins,x.wit.length≤32
def zT:TxT:=⟨0,[],[],0⟩
theorem zYI:yV zT=zwZ:=rfl
theorem zGt{j:List Int}:∀ (n a:Nat) {a':Nat} {ys:List (List Int)},zhp j n a=.ok (ys,a')→ys.length=n
 | 0,a,a',ys,h=>by simp only [zhp] at h; cases h; rfl
 | n+1,a,a',ys,h=>by
  rw [zhp] at h
  split at h
  ·cases h
  ·split at h
   ·cases h
   ·rename_i hz2; cases h; simp [zGt n _ hz2]
theorem zCJ{j:List Int}:∀ (n a:Nat) {a':Nat} {ys:List Outp},zdu j n a=.ok (ys,a')→ys.length=n
 | 0,a,a',ys,h=>by simp only [zdu] at h; cases h; rfl
 | n+1,a,a',ys,h=>by
  rw [zdu] at h
  split at h
  ·cases h
  ·split at h
   ·cases h
   ·rename_i hz2; cases h; simp [zCJ n _ hz2]
theorem zE9{j:List Int}:∀ (xs:List Inp) (a:Nat) {a':Nat} {ys:List Inp},zdZ j xs a=.ok (ys,a')→ys.length=xs.length∧∀ y∈ys,y.wit.length≤32
 | [],a,a',ys,h=>by simp only [zdZ] at h; cases h; exact ⟨rfl,by simp⟩
 | x::xs,a,a',ys,h=>by
  rw [zdZ] at h
  split at h
  ·cases h
  ·rename_i n a1 hz
   split at h
   ·cases h
   ·rename_i w a2 hz2
    split at h
    ·cases h
    ·rename_i zs a3 hz3
     cases h
     obtain ⟨r2,r3⟩:=zE9 xs a2 hz3
     refine ⟨by simp [r2],?_⟩
     intro y hy
     rcases Q9.1 hy with rfl | hy
     ·have:=(zcp hz).2
      have:=zGt _ _ hz2
      simp only; omega
     ·exact r3 y hy
theorem zKH{j:List Int}{a a':Nat}(ha:a≤j.length){t:TxT}(h:gTx j a=.ok (t,a')):SmallT t:=by
 unfold gTx at h
 split at h
 ·cases h
 ·rename_i ver a1 e1
  split at h
  ·cases h
  ·rename_i n a2 e2
   split at h
   ·cases h
   ·rename_i xs a3 e3
    split at h
    ·cases h
    ·rename_i m a4 e4
     split at h
     ·cases h
     ·rename_i os a5 e5
      split at h
      ·cases h
      ·rename_i lk a6 e6
       split at h
       ·cases h
       ·rename_i ys a7 e7
        split at h
        ·cases h
        ·cases h
         obtain ⟨w1,w2⟩:=zE9 _ _ e7
         have hx:=(zxB n a2 (zcp e2).1 e3).2.1
         have:=(zcp e2).2
         have:=(zcp e4).2
         have ho:=zCJ m a4 e5
         exact ⟨by simp only; omega,by simp only; omega,w2⟩
section
variable {L:Nat} (hL:1000≤L) {j:List Int} (hb:Byt j) (hj:j.length≤100000000)
include hL hb hj
omit hL hb hj in
theorem z0d(J:Ls)(q:Int):∃ v:Int,(∀ k:Int→Option β,xG β L J q k=k v)∧(∀ k:Int→Option β,zcI β L J q k=k v):=by
 unfold xG zrJ zcI zFg
 by_cases h1:q<0
 ·exact ⟨5,fun k=>yv h1 _ _,fun k=>yv h1 _ _⟩
 ·by_cases h2:q>((XK J:Nat):Int)
  ·exact ⟨5,fun k=>by rw [zp h1,yv h2],fun k=>by rw [zp h1,yv h2]⟩
  ·by_cases h3:q<((XK J:Nat):Int)
   ·exact ⟨2,fun k=>by rw [zp h1,zp h2,yv h3],fun k=>by rw [zp h1,zp h2,yv h3]⟩
   ·exact ⟨0,fun k=>by rw [zp h1,zp h2,zp h3],fun k=>by rw [zp h1,zp h2,zp h3]⟩
omit hL hb hj in
theorem zzu(t:TxT):yd [(Qc (0:Int)),(V.gs 35 ([]:Ls)),(V.gs 2 ([]:Ls)),(Qc (0:Int))] 0 (yV t)=yV t:=zaj (by rw [zgf]; rfl)
omit hL hb hj in
theorem z0s(t:TxT):XM 4 (yV t)=yV t:=XE (by rw [zgf]; exact Nat.le_refl _)
end
theorem zOf:∀ (l:List Int),zf6 (yf .u8 l)=some (l.map fun n=>UInt8.ofNat n.toNat)
 | []=>rfl
 | n::l=>by
  have:=zOf l
  simp only [yf] at this
  simp [yf,zf6,this]
theorem zBD{L:Nat}(l:List Int)(k:Bool→Option β):yg β L (yf .u8 l) (yf .u8 l) k=k true:=by
 simp only [yg,zuf,zJs,zOf,BEq.rfl]
theorem zyi(x:TxT)(k:Ls→Option β):cLd 35 (yV x) 1 k=k (x.ins.map zaZ):=zhm rfl k
theorem zym(x:TxT)(k:Ls→Option β):cLd 2 (yV x) 2 k=k (x.outs.map zbS):=zhm rfl k
theorem zu6(x:Inp)(k:Ls→Option β):cLd 1 (zaZ x) 34 k=k (zaX x.wit):=zhm rfl k
theorem zPq(x:Outp)(k:Ls→Option β):cLd 1 (zbS x) 1 k=k (yf .u8 x.scr):=zhm rfl k
theorem zLi(x:TxT):Xv V.dem (XM 4 (yV x))=yV x:=Eq.trans rfl rfl
theorem zSS(x:Outp):Xv V.dem (XM 2 (zbS x))=zbS x:=Eq.trans rfl rfl
theorem zS8(x:Inp):yd (We 32 (Qa (0:Int))++[(Qc (0:Int)),(Qc (0:Int)),(V.gs 1 ([]:Ls))]) 0 (zaZ x)=zaZ x:=zaj (by rw [zn3]; rfl)
theorem zP9{l:List Inp}{i:Nat}(h:i<l.length):(l.map zaZ)[i]?=some (zaZ l[i]):=by simp [h]
theorem zNb{l:List Outp}{i:Nat}(h:i<l.length):(l.map zbS)[i]?=some (zbS l[i]):=by simp [h]
theorem zPs{w:List (List Int)}{i:Nat}(h:i<w.length):(zaX w)[i]?=some [V.sl 1 (yf .u8 w[i])]:=by simp [zaX,h]
theorem zH4:∀ (l:List V),(∀ c∈l,∃ k n,c=V.sc (.int k n))→zdI l l=some true
 | [],_=>rfl
 | c::l,h=>by
  obtain ⟨k,n,rfl⟩:=h c (by simp)
  have:=zH4 l (fun c hc=>h c (by simp [hc]))
  simp only [zdI,if_true,this,Option.map_some,BEq.rfl,Bool.and_true]
theorem zUz(x:Inp)(k:Bool→Option β):eqC 33 (XM 33 (zaZ x)) (XM 33 (zaZ x)) k=k true:=by
 have h:zdI (XM 33 (zaZ x)) (XM 33 (zaZ x))=some true:=by
  apply zH4
  intro c hc
  simp only [zaZ,List.take_succ_cons,List.take_zero,Q9,List.not_mem_nil,or_false] at hc
  rcases hc with rfl | rfl | rfl | rfl | rfl | rfl | rfl | rfl | rfl | rfl | rfl | rfl | rfl | rfl | rfl | rfl | rfl | rfl | rfl | rfl | rfl | rfl | rfl | rfl | rfl | rfl | rfl | rfl | rfl | rfl | rfl | rfl | rfl <;> exact ⟨_,_,rfl⟩
 have hl:(XM 33 (zaZ x)).length=33:=by rw [Ww,zn3]; rfl
 unfold eqC
 rw [zb ⟨hl,hl⟩,h]
theorem zWY{L:Nat}(o:Outp)(k:Bool→Option β):yi β L (zbS o) (zbS o) k=k true:=by
 unfold yi zpP
 rw [zxL,zxL,zhH rfl,zPq,zPq,zBD]
theorem zLl{L:Nat}(x:Inp)(hw:x.wit.length≤64)(b2 b3:List V)(p42 p43:Int)(kr:Bool→Option β)(kx:Int→Int→List V→List V→Option β):∀ (m i:Nat),i≤x.wit.length→x.wit.length-i<m →
  zaY yg L kr kx m p42 p43 (x.wit.length:Int) (i:Int) b2 b3 (zaZ x) (zaZ x)=kx p42 p43 b2 b3
 | 0,i,h1,h2=>by omega
 | m+1,i,h1,h2=>by
  rw [zaY]
  unfold zdP
  by_cases hi:i<x.wit.length
  ·rw [yv (by omega),zu6,zaG (zPs hi),zqB rfl,zu6,zaG (zPs hi),zqB rfl,zBD]
   simp only [Xh,zc7]
   rw [xM (by omega),zg]
   exact zLl x hw b2 b3 p42 p43 kr kx m (i+1) (by omega) (by omega)
  ·rw [zp (by omega)]
theorem zKI{L:Nat}(hL:1000≤L){t:TxT}(ht:SmallT t)(kr:Bool→Option β)(kx:List V→List V→Option β):∀ (m i:Nat),i≤t.ins.length→t.ins.length-i<m →
  zd4 yg L kr kx m (t.ins.length:Int) (i:Int) (yV t) (yV t)=kx (yV t) (yV t)
 | 0,i,h1,h2=>by omega
 | m+1,i,h1,h2=>by
  have hti:=ht.i
  rw [zd4]
  unfold zfS zjI
  by_cases hi:i<t.ins.length
  ·have hw:=ht.w t.ins[i] (W2 hi)
   have l35:=zn3 t.ins[i]
   rw [yv (by omega),zyi,zaG (zP9 hi),zyi,zaG (zP9 hi),zoq,zb (by omega),zS8,zg,zb (by omega),zg,zb (by omega),zb (by omega),zUz]
   simp only [Xh,zc7]
   rw [zqX,zqX,xu,if_pos rfl,zu6,zu6,xu,if_pos rfl,zu6,show (zaX t.ins[i].wit).length=t.ins[i].wit.length by simp [zaX]]
   refine (zLl t.ins[i] (by omega) _ _ _ _ _ _ L 0 (by omega) (by omega)).trans ?_
   unfold zdh
   rw [xM (by omega),zg]
   exact zKI hL ht kr kx m (i+1) (by omega) (by omega)
  ·rw [zp (by omega)]
theorem zHX{L:Nat}{t:TxT}(ht:SmallT t)(kr:Bool→Option β)(kx:Option β):∀ (m i:Nat),i≤t.outs.length→t.outs.length-i<m →
  zdv yi L kr kx m (t.outs.length:Int) (i:Int) (yV t) (yV t)=kx
 | 0,i,h1,h2=>by omega
 | m+1,i,h1,h2=>by
  have hto:=ht.o
  rw [zdv]
  unfold zi2
  by_cases hi:i<t.outs.length
  ·rw [yv (by omega),zym,zaG (zNb hi),zym,zaG (zNb hi),zSS,zWY]
   simp only [Xh,zc7]
   rw [xM (by omega),zg]
   exact zHX ht kr kx m (i+1) (by omega) (by omega)
  ·rw [zp (by omega)]
theorem zYN{L:Nat}(hL:1000≤L){t:TxT}(ht:SmallT t)(k:Bool→Option β):xv β L (yV t) (yV t) k=k true:=by
 have h1:=ht.i
 have h2:=ht.o
 unfold xv zlO zqQ
 rw [zx2,zx2,xu,if_pos rfl,zrk,zrk,xu,if_pos rfl,zyi,zyi,xu,if_pos rfl,zym,zym,xu,if_pos rfl,zyi,QB]
 refine (zKI hL ht _ _ L 0 (by omega) (by omega)).trans ?_
 unfold zeu zia
 rw [zym,QB]
 refine (zHX ht _ _ L 0 (by omega) (by omega)).trans ?_
 rfl
end
section
set_option linter.unusedSectionVars false
variable {β:Type}
theorem zXC{j:List Int}{a:Nat}{e:Int}(h:gIn j a=.error e):e≠0:=by
 unfold gIn at h
 split at h
 ·rename_i z; cases h; exact zFS z
 ·split at h
  ·rename_i z; cases h; exact zrw z
  ·split at h
   ·rename_i z; cases h; exact zrw z
   ·cases h
theorem zP2{j:List Int}:∀ (n a:Nat) {e:Int},zhZ j n a=.error e→e≠0
 | 0,a,e,h=>by simp only [zhZ] at h; cases h
 | n+1,a,e,h=>by
  rw [zhZ] at h
  split at h
  ·rename_i z; cases h; exact zXC z
  ·split at h
   ·rename_i z; cases h; exact zP2 n _ z
   ·cases h
theorem zWs{j:List Int}{a:Nat}{e:Int}(h:zpc j a=.error e):e≠0:=by
 unfold zpc at h
 split at h
 ·rename_i z; cases h; exact zrw z
 ·split at h
  ·cases h; decide
  ·split at h
   ·rename_i z; cases h; exact zsk z
   ·cases h
theorem zNQ{j:List Int}:∀ (n a:Nat) {e:Int},zdu j n a=.error e→e≠0
 | 0,a,e,h=>by simp only [zdu] at h; cases h
 | n+1,a,e,h=>by
  rw [zdu] at h
  split at h
  ·rename_i z; cases h; exact zWs z
  ·split at h
   ·rename_i z; cases h; exact zNQ n _ z
   ·cases h
theorem zPE{j:List Int}:∀ (n a:Nat) {e:Int},zhp j n a=.error e→e≠0
 | 0,a,e,h=>by simp only [zhp] at h; cases h
 | n+1,a,e,h=>by
  rw [zhp] at h
  split at h
  ·rename_i z; cases h; exact zsk z
  ·split at h
   ·rename_i z; cases h; exact zPE n _ z
   ·cases h
theorem zNE{j:List Int}:∀ (xs:List Inp) (a:Nat) {e:Int},zdZ j xs a=.error e→e≠0
 | [],a,e,h=>by simp only [zdZ] at h; cases h
 | x::xs,a,e,h=>by
  rw [zdZ] at h
  split at h
  ·rename_i z; cases h; exact zgl z
  ·split at h
   ·rename_i z; cases h; exact zPE _ _ z
   ·split at h
    ·rename_i z; cases h; exact zNE xs _ z
    ·cases h
theorem zTi{j:List Int}{a:Nat}{e:Int}(h:gTx j a=.error e):e≠0:=by
 unfold gTx at h
 split at h
 ·rename_i z; cases h; exact zrw z
 ·split at h
  ·rename_i z; cases h; exact zgl z
  ·split at h
   ·rename_i z; cases h; exact zP2 _ _ z
   ·split at h
    ·rename_i z; cases h; exact zgl z
    ·split at h
     ·rename_i z; cases h; exact zNQ _ _ z
     ·split at h
      ·rename_i z; cases h; exact zrw z
      ·split at h
       ·rename_i z; cases h; exact zNE _ _ z
       ·split at h
        ·cases h; decide
        ·cases h
end
end Go.Proofs.YtgmhijonllockaaGreatDoor
