/- Part 11 of the proof of ScanRewinds: an abstract machine over plain values, its soundness, and the functions of the program on plain values. -/
import Derived.Test.YtipklgbboecciaaGreatRows
import Derived.Test.YtipklgbboecciaaGreatMScanRewinds10
namespace Go.Proofs.YtipklgbboecciaaGreat
set_option maxRecDepth 100000
set_option linter.unusedVariables false
set_option linter.unusedSimpArgs false
section
noncomputable section
def gls:List (Nat × List V):=[]
def fg:List (Nat × Nat):=[(3,810),(4,811),(5,812),(6,813),(7,225),(8,814),(9,411),(10,815),(11,816),(12,817),(13,448),(14,217),(15,818),(16,819),(17,820),(18,821),(19,822),(20,823),(21,824),(22,825),(23,826),(24,827),(25,231),(26,828),(27,422),(28,423),(29,829),(30,830),(31,551),(32,792),(33,831),(34,832),(35,793),(36,833),(37,546),(38,834),(39,835),(40,584),(41,438),(42,836),(43,784),(44,137),(45,837),(46,802),(47,138),(48,838),(49,839),(50,797),(51,247),(52,840),(53,522),(54,795),(55,841),(56,424),(57,442),(58,587),(59,800),(60,791),(61,842),(62,843),(63,576),(64,440),(65,844),(66,549),(67,157),(68,158),(69,130),(70,159),(71,160),(72,845),(73,449),(74,153),(75,132),(76,517),(77,556),(78,557),(79,558),(80,474),(81,801),(82,803),(83,443),(84,444),(85,445),(86,446),(87,467),(88,468),(89,469),(90,135),(91,136),(92,181),(93,191),(94,192),(95,193),(96,194),(97,148),(98,488),(99,152),(100,454),(101,149),(102,519),(103,520),(104,470),(105,471),(106,472),(107,473),(108,475),(109,476),(110,429),(111,477),(112,478),(113,479),(114,480),(115,481),(116,482),(117,483),(118,484),(119,485),(120,486),(121,487),(122,513),(123,514),(124,515),(125,154),(126,155),(127,156),(128,185),(129,455),(130,129),(131,494),(132,186),(133,187),(134,555),(135,516),(136,518),(137,521),(138,134),(139,441),(140,523),(141,524),(142,525),(143,526),(144,527),(145,528),(146,529),(147,552),(148,553),(149,189),(150,190),(151,531),(152,532),(153,533),(154,206),(155,588),(156,554),(157,453),(158,559),(159,560),(160,561),(161,562),(162,563),(163,564),(164,565),(165,566),(166,569),(167,570),(168,571),(169,589),(170,590),(171,591),(172,117),(173,592),(174,593),(175,594),(176,572),(177,599),(178,600),(179,601),(180,602),(181,603),(182,604),(183,605),(184,606),(185,607),(186,610),(187,611),(188,612),(189,613),(190,614),(191,615),(192,616),(193,618),(194,619),(195,620),(196,621),(197,622),(198,623),(199,624),(200,625),(201,626),(202,627),(203,628),(204,629),(205,630),(206,631),(207,632),(208,633),(209,634),(210,635),(211,636),(212,637),(213,638),(214,639)]
noncomputable def cfD:Hint->Nat->CF:=cfG Tryz.prog (kO fg gls)
def Le:Hint:=⟨[(0,0),(1,1),(3,0),(3,3),(7,0),(7,9),(8,0),(8,1)],[],[none,some ((bl 9 31),(bl 2147385087 31)),none,some ((bl 9 31),(bl 2147385087 31)),none,none,some ((bl 25 31),(bl 1342177279 31)),none,some ((bl 8 31),(bl 1342177263 31)),none,none],[],[],false,false,[]⟩
def V5:Hint:=⟨[],[],[none],[],[],false,false,[]⟩
def Nc:Hint:=⟨[],[],[none],[],[],false,false,[]⟩
def Xy:Hint:=⟨[],[],[none],[],[],false,false,[]⟩
def Xb:Hint:=⟨[],[],[none,none,none,none,none,some ((bl 118 34),(bl 17171480575 34)),none,some ((bl 48 34),(bl 17171480507 34)),none,none,none],[],[],false,false,[]⟩
def Xl:Hint:=⟨[],[],[none,some ((bl 10 13),(bl 7163 13)),none,some ((bl 0 13),(bl 7153 13)),none,none,some ((bl 4 13),(bl 7157 13)),none],[],[],false,false,[]⟩
def Wv:Hint:=⟨[(6,9)],[],[none,some ((bl 732 29),(bl 522190591 29)),none,some ((bl 208 29),(bl 522190579 29)),none,none],[],[],false,false,[]⟩
def Xt:Hint:=⟨[(5,3)],[],[none,none,none,some ((bl 22 19),(bl 294911 19)),none,some ((bl 20 19),(bl 294909 19)),none,none],[],[],false,false,[]⟩
def Qj:Hint:=⟨[],[],[none,none,none,none,none,none,none,none],[],[],false,false,[]⟩
def WC:Hint:=⟨[],[],[none,some ((bl 44 24),(bl 16777199 24)),none,some ((bl 0 24),(bl 16777155 24)),none,none,some ((bl 16 24),(bl 16777171 24)),none,some ((bl 16 24),(bl 16777171 24)),none],[],[],false,false,[]⟩
def Tm:Hint:=⟨[(0,0),(11,4)],[],[none,none,none,none,none,some ((bl 4035225266123964418 107),(bl 162259276829213363391578010288067 107)),none,some ((bl 2 107),(bl 162259276829213363391578010288067 107)),none,none,some ((bl 4 107),(bl 162259276829213363391578010288069 107)),none],[],[],false,false,[]⟩
def EP:Hint:=⟨[],[],[none,some ((bl 76 40),(bl 1099511627727 40)),none,some ((bl 12 40),(bl 1099511627727 40)),none,none,some ((bl 16 40),(bl 1099511627731 40)),none,some ((bl 16 40),(bl 1099511627731 40)),none,none,none,none,none,none],[],[],false,false,[]⟩
def SI:Hint:=⟨[(0,0),(6,3)],[],[none,none,none,some ((bl 14680074 80),(bl 1208335523803170957426635 80)),none,some ((bl 0 80),(bl 1208335523803170957426625 80)),none,none,some ((bl 4 80),(bl 1208335523803170957426629 80)),none,some ((bl 4 80),(bl 1208335523803170957426629 80)),none,some ((bl 4 80),(bl 1208335523803170957426629 80)),none],[],[],false,false,[]⟩
def FQ:Hint:=⟨[(0,0),(1,2),(7,0),(7,1)],[(1,1)],[none,some ((bl 3105 24),(bl 16777151 24)),none,some ((bl 32 24),(bl 16777151 24)),none,none],[],[],false,false,[]⟩
def FP:Hint:=⟨[(0,0),(1,6),(2,0),(2,5)],[],[none],[],[],false,false,[]⟩
def B8:Hint:=⟨[(0,0),(1,5)],[],[none],[],[],false,false,[]⟩
def K7:Hint:=⟨[(0,0),(2,4),(4,6),(6,6),(7,6)],[],[none,none,none,none,none,none,none,none],[],[],false,false,[]⟩
def Ag:Hint:=⟨[(0,1),(1,3)],[],[none],[],[],false,false,[]⟩
def Ia:Hint:=⟨[(0,1),(1,6)],[],[none],[],[],false,false,[]⟩
def Mk:Hint:=⟨[(0,0),(1,4)],[],[none],[],[],false,false,[]⟩
def Ka:Hint:=⟨[(0,0),(1,7)],[],[none],[],[],false,false,[]⟩
def W2:Hint:=⟨[(0,0),(0,1),(1,7)],[],[none],[],[],false,false,[]⟩
def P4:Hint:=⟨[(0,0),(0,1),(1,3),(2,6),(5,2),(6,0),(6,8),(8,6),(11,2),(12,0),(12,4),(14,4),(17,2),(19,6),(23,3),(26,0),(26,1)],[],[none,some ((bl 117440550 89),(bl 618970019642689974240802175 89)),none,some ((bl 38 89),(bl 618970019642689974240802175 89)),none,none,some ((bl 492581209243686 89),(bl 618970019588646941921113471 89)),none,some ((bl 38 89),(bl 618970019588646941921113471 89)),none,none,some ((bl 32281802128991715362 89),(bl 579934938295289650113140091 89)),none,some ((bl 32 89),(bl 579934938295289650113140091 89)),none,none,some ((bl 32 89),(bl 579934938295289650113140091 89)),none,some ((bl 1057842373964929519583266 89),(bl 580284393415022003858953595 89)),none,some ((bl 32281802128991715362 89),(bl 580284393415022003858953595 89)),none,none],[],[],false,false,[]⟩
def TO:Hint:=⟨[(0,0),(5,2),(11,2)],[],[none,none,none,some ((bl 7340034 63),(bl 9223372032559808427 63)),none,some ((bl 2 63),(bl 9223372032559808427 63)),none,none,some ((bl 4 63),(bl 9223372032559808429 63)),none,some ((bl 962072674306 63),(bl 9186745105510301355 63)),none,some ((bl 2 63),(bl 9186745105510301355 63)),none,none,some ((bl 4 63),(bl 9186745105510301357 63)),none,some ((bl 1971286909648898 63),(bl 9187343239835811499 63)),none,some ((bl 962072674306 63),(bl 9187343239835811499 63)),none,none,some ((bl 4 63),(bl 9186745105510301357 63)),none],[],[],false,false,[]⟩
def Ip:Hint:=⟨[(0,1),(1,3),(2,7),(6,3),(8,0),(8,1)],[],[none,some ((bl 29360136 33),(bl 7516192733 33)),none,some ((bl 8 33),(bl 7516192733 33)),none,none],[],[],false,false,[]⟩
def Qf:Hint:=⟨[(0,0),(0,1),(2,0),(3,3)],[],[none,none,none],[],[],false,false,[]⟩
def QQ:Hint:=⟨[(0,0),(0,1),(1,8),(4,2),(5,2),(5,3),(6,0),(6,3),(8,0),(8,1)],[],[none,some ((bl 917512 33),(bl 7281311517 33)),none,some ((bl 8 33),(bl 7281311517 33)),none,none],[],[],false,false,[]⟩
def U8:Hint:=⟨[(0,0),(5,2)],[],[none,none,none,some ((bl 7170 24),(bl 16646123 24)),none,some ((bl 2 24),(bl 16646123 24)),none,none,some ((bl 4 24),(bl 16646125 24)),none],[],[],false,false,[]⟩
def Vp:Hint:=⟨[],[],[none],[],[],false,false,[]⟩
def Nb:Hint:=⟨[(0,0)],[],[none],[],[],false,false,[]⟩
def Se:Hint:=⟨[(0,0),(8,2),(26,2)],[],[none,none,none,none,none,some ((bl 117440522 81),(bl 2417851639229258349411803 81)),none,some ((bl 10 81),(bl 2417851639229258349411803 81)),none,none,some ((bl 4 81),(bl 2417851639229258349411797 81)),none,none,none,some ((bl 13194139533314 81),(bl 2417851639229258349411611 81)),none,some ((bl 2 81),(bl 2417851639229258349411611 81)),none,none,some ((bl 13194139533506 81),(bl 2417851639229258349411803 81)),none,some ((bl 13194139533314 81),(bl 2417851639229258349411675 81)),none,none,some ((bl 4 81),(bl 2417851639229258349411613 81)),none,some ((bl 516508834063867445250 81),(bl 2247846445845951121718747 81)),none,some ((bl 0 81),(bl 2247846445845951121718745 81)),none,none,some ((bl 4 81),(bl 2247846445845951121718749 81)),none],[],[],false,false,[]⟩
def OU:Hint:=⟨[],[],[none],[],[],false,false,[]⟩
def El:Hint:=⟨[],[],[none],[],[],false,false,[]⟩
def Vl:Hint:=⟨[],[],[none],[],[],false,false,[]⟩
def M7:Hint:=⟨[],[],[none,some ((bl 30 97),(bl 158456325028528675187087900671 97)),none,some ((bl 12 97),(bl 158456325028528675187087900653 97)),none,none,some ((bl 44 97),(bl 158456315288573494874593034045 97)),none,some ((bl 12 97),(bl 158456315288573494874593034013 97)),none,none],[],[],false,false,[]⟩
def LD:Hint:=⟨[],[],[none],[],[],false,false,[]⟩
def Nd:Hint:=⟨[],[],[none,some ((bl 65524 133),(bl 10889035741470030808987042129089031634935 133)),none,some ((bl 32660 133),(bl 10889035741470030808987042129089031602071 133)),none,none],[],[],false,false,[]⟩
def WD:Hint:=⟨[(1,7)],[],[none,some ((bl 60 66),(bl 73786976290004270911 66)),none,some ((bl 20 66),(bl 73786976290004270879 66)),none,none,some ((bl 25769803908 66),(bl 73786976294838205615 66)),none,some ((bl 132 66),(bl 73786976294838205615 66)),none,none],[],[],false,false,[]⟩
def QH:Hint:=⟨[],[],[none],[],[],false,false,[]⟩
def YV:Hint:=⟨[(0,0)],[],[none,none,none],[],[],false,false,[]⟩
def R8:Hint:=⟨[],[],[none,some ((bl 393 19),(bl 524239 19)),none,some ((bl 0 19),(bl 524231 19)),none,none,some ((bl 16 19),(bl 524247 19)),none],[],[],false,false,[]⟩
def Pd:Hint:=⟨[(0,0),(3,3),(6,2)],[],[none,some ((bl 7170 33),(bl 8320974475 33)),none,some ((bl 0 33),(bl 8320974475 33)),none,none,some ((bl 1842210 33),(bl 8321498795 33)),none,some ((bl 7170 33),(bl 8321498795 33)),none,none,some ((bl 16 33),(bl 8320974491 33)),none],[],[],false,false,[]⟩
def SP:Hint:=⟨[(0,0),(1,0),(4,2),(7,2),(14,0),(14,5)],[],[none,some ((bl 14344 42),(bl 3573378710873 42)),none,some ((bl 0 42),(bl 3573378710865 42)),none,none,some ((bl 1849352 42),(bl 3573379235161 42)),none,some ((bl 14344 42),(bl 3573379235161 42)),none,none,some ((bl 119289992 42),(bl 4398046510553 42)),none,some ((bl 1849480 42),(bl 4398046510553 42)),none,none,some ((bl 4 42),(bl 3573378710869 42)),none],[],[],false,false,[]⟩
def UT:Hint:=⟨[(0,0)],[],[none,none,none],[],[],false,false,[]⟩
def I2:Hint:=⟨[(0,0),(1,0),(5,3),(7,0),(7,1)],[],[none,some ((bl 456 17),(bl 114655 17)),none,some ((bl 8 17),(bl 114655 17)),none,none],[],[],false,false,[]⟩
def Wf:Hint:=⟨[],[],[none],[(1,[2,3])],[],false,false,[]⟩
def Qx:Hint:=⟨[(0,0),(1,2),(3,0),(8,0),(8,13),(9,0),(9,7),(10,0),(10,5),(11,0),(11,1)],[],[none,some ((bl 9 48),(bl 225369817865679 48)),none,some ((bl 8 48),(bl 225369817865678 48)),none,none,some ((bl 57 48),(bl 278146375999487 48)),none,some ((bl 24 48),(bl 278146375999455 48)),none,none,none],[],[],false,false,[]⟩
def Ue:Hint:=⟨[],[],[none,none,none],[],[],false,false,[]⟩
def Ts:Hint:=⟨[(1,0),(4,2),(5,0),(5,5)],[],[none,some ((bl 460 20),(bl 933855 20)),none,some ((bl 12 20),(bl 933855 20)),none,none],[],[],false,false,[]⟩
def RD:Hint:=⟨[(0,0),(7,3),(11,0),(14,2),(21,2),(25,0),(25,4)],[],[none,none,none,none,none,some ((bl 7340034 79),(bl 604462909807314318914403 79)),none,some ((bl 2 79),(bl 604462909807314318914403 79)),none,none,some ((bl 4 79),(bl 604462909807314318914405 79)),none,some ((bl 120259084322 79),(bl 604462909805115564094059 79)),none,some ((bl 34 79),(bl 604462909805115564094059 79)),none,none,some ((bl 4 79),(bl 604462909805115564094061 79)),none,some ((bl 985162418487330 79),(bl 604455830148700360930155 79)),none,some ((bl 34 79),(bl 604455830148700360930155 79)),none,none,some ((bl 4 79),(bl 604455830148700360930125 79)),none,none,none,none,none,none,none,none],[],[],false,false,[]⟩
def RN:Hint:=⟨[(0,0),(5,2)],[],[none,none,none,some ((bl 57344 23),(bl 8388523 23)),none,some ((bl 0 23),(bl 8388523 23)),none,none,some ((bl 16 23),(bl 8388539 23)),none],[],[],false,false,[]⟩
def RH:Hint:=⟨[(0,0),(0,1),(0,2)],[],[none,none,none,none,none,none,none,none,none,none,none,none,none,none],[],[],false,false,[]⟩
def T7:Hint:=⟨[],[],[none],[],[],false,false,[]⟩
def Pn:Hint:=⟨[(0,0)],[],[none,none,none,some ((bl 96 31),(bl 2147483643 31)),none,some ((bl 32 31),(bl 2147483579 31)),none,none],[],[],false,false,[]⟩
def I4:Hint:=⟨[],[],[none,some ((bl 393 20),(bl 1048527 20)),none,some ((bl 0 20),(bl 1048519 20)),none,none,some ((bl 16 20),(bl 1048535 20)),none],[],[],false,false,[]⟩
def CU:Hint:=⟨[(0,1)],[],[none],[],[],false,false,[]⟩
def HT:Hint:=⟨[(0,0),(0,1),(0,2),(1,0),(4,2),(7,0),(8,0),(8,8),(12,2),(14,0),(16,0),(16,1)],[],[none,some ((bl 918554 57),(bl 144115067749616831 57)),none,some ((bl 1048 57),(bl 144115067749616831 57)),none,none,some ((bl 768 57),(bl 144115067749616559 57)),none,some ((bl 1924145349656 57),(bl 144115188075818175 57)),none,some ((bl 1024 57),(bl 144115188075818159 57)),none,none,some ((bl 768 57),(bl 144115188075818927 57)),none],[],[],false,false,[]⟩
def XL:Hint:=⟨[(0,0),(15,2),(24,2)],[],[none,none,none,none,none,some ((bl 100663302 81),(bl 2417851639229258349407055 81)),none,some ((bl 6 81),(bl 2417851639229258349407055 81)),none,none,some ((bl 48 81),(bl 2417851639229258349407099 81)),none,some ((bl 30786325577988 81),(bl 2417851639229258349407183 81)),none,some ((bl 260 81),(bl 2417851639229258349407183 81)),none,none,some ((bl 48 81),(bl 2417851639229258349406971 81)),none,none,none,some ((bl 1033017668127734890752 81),(bl 2417851639229258349407227 81)),none,some ((bl 256 81),(bl 2417851639229258349407227 81)),none,none,none,none],[],[],false,false,[]⟩
def P7:Hint:=⟨[],[],[none],[],[],false,false,[]⟩
def O5:Hint:=⟨[(0,0),(0,1),(5,0),(5,1),(5,2),(8,2),(9,0),(9,5),(14,2),(15,0),(15,4),(17,3),(18,4),(19,4),(20,4),(21,4),(22,4),(23,0)],[],[none,none,none,none,none,some ((bl 30786325579626 98),(bl 316912650056978537380696797183 98)),none,some ((bl 1898 98),(bl 316912650056978537380696797183 98)),none,none,some ((bl 4035225266123966314 98),(bl 316912649614335492605146542079 98)),none,some ((bl 1898 98),(bl 316912649614335492605146542079 98)),none,none],[],[],false,false,[]⟩
def S6:Hint:=⟨[(0,0)],[],[none,none,none,none,none,none,none,none,none,none,none],[],[],false,false,[]⟩
def WO:Hint:=⟨[(0,0),(0,1),(3,2),(4,0),(4,2),(8,2),(10,5),(10,10),(13,2),(14,8),(14,14),(15,1),(15,5)],[],[none,none,none,none,none,none,none,none,none,none],[],[],false,false,[]⟩
def S9:Hint:=⟨[(0,0),(2,0),(3,0),(5,2),(5,4),(5,6),(7,1),(8,0),(8,5),(9,0),(9,1)],[],[none,none,none,some ((bl 17 29),(bl 435220243 29)),none,some ((bl 16 29),(bl 435220242 29)),none,none,some ((bl 12 29),(bl 435220238 29)),none],[],[],false,false,[]⟩
def P9:Hint:=⟨[(1,0),(4,2),(7,0),(7,3),(15,5)],[(7,2)],[none,some ((bl 456 51),(bl 2232953357844443 51)),none,some ((bl 8 51),(bl 2232953357844443 51)),none,none,none,none,none,some ((bl 4 51),(bl 2232953357844439 51)),none,none,some ((bl 4 51),(bl 2232953357844439 51)),none],[],[],false,false,[]⟩
def Uk:Hint:=⟨[],[],[none,none,none,some ((bl 1792 18),(bl 229355 18)),none,some ((bl 0 18),(bl 229355 18)),none,none,some ((bl 4 18),(bl 229359 18)),none],[],[],false,false,[]⟩
def QD:Hint:=⟨[(0,0),(1,3),(5,0),(5,6),(7,0),(7,1)],[],[none,some ((bl 3592 23),(bl 6422495 23)),none,some ((bl 8 23),(bl 6422495 23)),none,none],[],[],false,false,[]⟩
def QU:Hint:=⟨[],[],[none],[],[],false,false,[]⟩
def SL:Hint:=⟨[(0,0)],[],[none,none,none,none,none,none,none,none],[],[],false,false,[]⟩
def Sq:Hint:=⟨[(0,0)],[],[none,none,none,none,none,none,none,none,none,none,none,none,none,none,none,none,none,none],[],[],false,false,[]⟩
def Ux:Hint:=⟨[],[],[none,some ((bl 224 14),(bl 16363 14)),none,some ((bl 0 14),(bl 16363 14)),none,none,some ((bl 4 14),(bl 16367 14)),none],[],[],false,false,[]⟩
def Qy:Hint:=⟨[(0,0),(2,0),(3,9)],[],[none,none,none],[],[],false,false,[]⟩
def IC:Hint:=⟨[],[],[none],[],[],false,false,[]⟩
def Vw:Hint:=⟨[(0,0),(1,0),(4,0),(4,5),(5,0),(5,1)],[],[none,some ((bl 9 14),(bl 10239 14)),none,some ((bl 8 14),(bl 10238 14)),none,none],[],[],false,false,[]⟩
def Tq:Hint:=⟨[(0,0),(2,1),(3,1)],[],[none,none,none],[],[],false,false,[]⟩
def Mu:Hint:=⟨[],[],[none,some ((bl 78 27),(bl 134217679 27)),none,some ((bl 12 27),(bl 134217677 27)),none,none],[],[],false,false,[]⟩
def Wu:Hint:=⟨[(6,9)],[],[none,some ((bl 732 29),(bl 522190591 29)),none,some ((bl 208 29),(bl 522190579 29)),none,none],[],[],false,false,[]⟩
def Pb:Hint:=⟨[(1,3)],[],[none],[],[],false,false,[]⟩
def SM:Hint:=⟨[],[],[none],[],[],false,false,[]⟩
def Xu:Hint:=⟨[(8,3),(12,3)],[],[none,none,none,some ((bl 752 61),(bl 2304855642529070071 61)),none,some ((bl 192 61),(bl 2304855642529069511 61)),none,none,none,none],[],[],false,false,[]⟩
def QN:Hint:=⟨[(1,4)],[],[none],[],[],false,false,[]⟩
def Lo:Hint:=⟨[],[],[none],[],[],false,false,[]⟩
def Wn:Hint:=⟨[(9,7),(10,7),(11,3)],[],[none,some ((bl 32892 71),(bl 2361183116363495866495 71)),none,some ((bl 112 71),(bl 2361183116363495866483 71)),none,none,some ((bl 295420 71),(bl 2361183116363495866879 71)),none,some ((bl 33276 71),(bl 2361183116363495866879 71)),none,none],[],[],false,false,[]⟩
def QK:Hint:=⟨[(3,7),(4,4)],[],[none,none,none],[],[],false,false,[]⟩
def QJ:Hint:=⟨[],[],[none,none,none,some ((bl 504 34),(bl 12582911999 34)),none,some ((bl 192 34),(bl 12582911687 34)),none,none,none],[],[],false,false,[]⟩
def Xp:Hint:=⟨[],[],[none],[],[],false,false,[]⟩
def Xi:Hint:=⟨[],[],[none],[],[],false,false,[]⟩
def Qm:Hint:=⟨[],[],[none],[],[],false,false,[]⟩
def Te:Hint:=⟨[],[],[none],[],[],false,false,[]⟩
def Td:Hint:=⟨[],[],[none],[],[],false,false,[]⟩
def QR:Hint:=⟨[(5,1)],[],[none,none,none,none,none],[],[],false,false,[]⟩
def Si:Hint:=⟨[],[],[none],[],[],false,false,[]⟩
def Xg:Hint:=⟨[],[],[none],[],[],false,false,[]⟩
def SO:Hint:=⟨[],[],[none,some ((bl 78 24),(bl 16777167 24)),none,some ((bl 12 24),(bl 16777165 24)),none,none],[],[],false,false,[]⟩
def Ql:Hint:=⟨[(0,1),(2,1)],[],[none],[],[],false,false,[]⟩
def QP:Hint:=⟨[(4,3),(6,3)],[],[none,none,none,none],[],[],false,false,[]⟩
def LF:Hint:=⟨[],[],[none],[],[],false,false,[]⟩
def QS:Hint:=⟨[],[],[none],[],[],false,false,[]⟩
def Mq:Hint:=⟨[],[],[none],[(1,[5])],[],false,false,[]⟩
def Qt:Hint:=⟨[(3,4)],[],[none,none,none],[],[],false,false,[]⟩
def QM:Hint:=⟨[(10,2)],[],[none,none,none,none,none,none,none,none,none],[],[],false,false,[]⟩
def Ru:Hint:=⟨[(0,0),(5,13)],[],[none,some ((bl 810 44),(bl 17577153655615 44)),none,some ((bl 264 44),(bl 17577153655071 44)),none,none,some ((bl 192 44),(bl 17577153654999 44)),none,none],[],[],false,false,[]⟩
def Qn:Hint:=⟨[],[],[none,none,none,some ((bl 50331665 40),(bl 1099511627743 40)),none,some ((bl 16 40),(bl 1099511627743 40)),none,none],[],[],false,false,[]⟩
def P2:Hint:=⟨[(1,2)],[],[none,none,none,none,none],[],[],false,false,[]⟩
def VQ:Hint:=⟨[(0,0),(0,2),(4,6),(4,8),(6,7),(6,9),(8,0),(8,4),(10,18),(12,20),(14,16),(17,0),(18,0),(18,4),(21,0),(21,9),(23,10),(23,12),(25,13),(26,0),(26,11),(29,7),(30,0),(30,9),(32,9),(34,9),(35,0)],[],[none,none,none,none,none,none,none,none,none,none,none,none,none,none,none,none,none,none,none,none,none,none,none,none,none,none,none,none,none,none],[(21,[9])],[],false,false,[]⟩
def XC:Hint:=⟨[(0,1),(1,2),(1,3),(3,1),(5,0),(7,0),(8,2),(10,0),(13,2),(20,0),(22,0),(27,5),(28,0),(28,4),(32,5),(34,4),(34,5),(34,7),(36,1),(38,0),(38,2)],[(28,3)],[none,none,none,none,none,none,none,some ((bl 60129556512 134),(bl 21479575417666174971013579263329479457343 134)),none,some ((bl 6144 134),(bl 21479575417666174971013579263329479449119 134)),none,none,none,none,some ((bl 448 134),(bl 21479575417666174971013579263329479443423 134)),none,some ((bl 448 134),(bl 21479575417666174971013579263329479443423 134)),none,none,none,none,none,none,none,some ((bl 448 134),(bl 21479575417666174971013579263329479443423 134)),none],[],[],false,false,[]⟩
def Md:Hint:=⟨[(1,4),(1,5)],[],[none,none,none,none,none,none,none,none],[],[],false,false,[]⟩
def RL:Hint:=⟨[(0,0),(0,1),(1,5)],[],[none,none,none,none,none,none,none],[],[],false,false,[]⟩
def RW:Hint:=⟨[(0,0),(3,3)],[],[none,none,none,none,none,none,none,some ((bl 805306638 45),(bl 34634616271679 45)),none,some ((bl 256 45),(bl 34634616271671 45)),none,none,some ((bl 192 45),(bl 34634616271863 45)),none],[],[],false,false,[]⟩
def NM:Hint:=⟨[(0,0),(0,1),(1,0),(5,3),(6,0),(6,12),(8,0),(8,1)],[],[none,some ((bl 28774 33),(bl 6845103743 33)),none,some ((bl 32 33),(bl 6845103675 33)),none,none],[],[],false,false,[]⟩
def UQ:Hint:=⟨[(0,0),(0,1),(1,0),(6,0),(6,7),(8,0),(8,5),(8,10)],[],[none,some ((bl 809 39),(bl 549553962943 39)),none,some ((bl 41 39),(bl 549553962943 39)),none,none,none],[],[],false,false,[]⟩
def XE:Hint:=⟨[(0,0),(0,1),(3,2),(5,0),(9,2),(10,3),(12,0),(12,1)],[],[none,some ((bl 114709 39),(bl 549747422527 39)),none,some ((bl 21 39),(bl 549747422527 39)),none,none,some ((bl 192 39),(bl 549747422703 39)),none,some ((bl 1879048193 39),(bl 481036334575 39)),none,some ((bl 1 39),(bl 481036334575 39)),none,none],[],[],false,false,[]⟩
def SK:Hint:=⟨[(4,2)],[],[none,some ((bl 456 19),(bl 524255 19)),none,some ((bl 8 19),(bl 524255 19)),none,none],[],[],false,false,[]⟩
def Eg:Hint:=⟨[(0,0),(1,4),(1,9)],[],[none],[],[],false,false,[]⟩
def EG:Hint:=⟨[(0,0),(0,1),(0,2),(0,3),(0,4),(4,9),(4,10),(8,3),(10,7),(10,8),(13,5),(18,2),(21,4),(22,6),(22,7)],[],[none,none,none,some ((bl 492581209251048 153),(bl 11417981541574946208765741796140502961711488751 153)),none,some ((bl 7392 153),(bl 11417981541574946208765741796140502961711488743 153)),none,none,none,some ((bl 448 153),(bl 11417981541574946208765741796140502961711481799 153)),none,some ((bl 448 153),(bl 11417981541574946208765741796140502961711481799 153)),none,some ((bl 67699845898911814992977128 153),(bl 11417981541647678929624043984199454700745523183 153)),none,some ((bl 492581209431272 153),(bl 11417981541647678929624043984199454700745523183 153)),none,none,some ((bl 448 153),(bl 11417981541574946208765741796140502961711481799 153)),none,none,none,none,none,none,none,none],[],[],false,false,[]⟩
def Sm:Hint:=⟨[],[],[none],[],[],false,false,[]⟩
def Vg:Hint:=⟨[(0,0)],[],[none],[],[],false,false,[]⟩
def GS:Hint:=⟨[(6,3),(7,5)],[],[none,none,none,some ((bl 57360 70),(bl 1180589363960735596051 70)),none,some ((bl 16 70),(bl 1180589363960735596051 70)),none,none,none,some ((bl 12 70),(bl 1180589363960735596063 70)),none,some ((bl 12 70),(bl 1180589363960735596063 70)),none,some ((bl 12 70),(bl 1180589363960735596063 70)),none],[],[],false,false,[]⟩
def Ez:Hint:=⟨[],[],[none],[],[],false,false,[]⟩
def Ab:Hint:=⟨[],[],[none],[],[],false,false,[]⟩
def xt:Hint:=⟨[],[],[none,none,none,none,none,none,none,none,none,none,none],[],[],false,false,[]⟩
def IB:Hint:=⟨[],[],[none,some ((bl 456 18),(bl 262107 18)),none,some ((bl 8 18),(bl 262107 18)),none,none,some ((bl 4 18),(bl 262111 18)),none],[],[],false,false,[]⟩
def IE:Hint:=⟨[],[],[none],[(1,[2,3])],[],false,false,[]⟩
def Er:Hint:=⟨[(0,0),(0,1)],[],[none,none,none],[],[],false,false,[]⟩
def HE:Hint:=⟨[(0,0),(5,3),(6,2)],[],[none,none,none,some ((bl 14680066 91),(bl 2321062015507953603003285443 91)),none,some ((bl 0 91),(bl 2321062015507953603003285441 91)),none,none,none,some ((bl 4 91),(bl 2321062015507953603003285445 91)),none,some ((bl 4 91),(bl 2321062015507953603003285445 91)),none,some ((bl 4 91),(bl 2321062015507953603003285445 91)),none,some ((bl 4 91),(bl 2321062015507953603003285445 91)),none,some ((bl 4 91),(bl 2321062015507953603003285445 91)),none],[],[],false,false,[]⟩
def IZ:Hint:=⟨[(0,0),(1,3),(6,2),(7,7),(10,5)],[],[none,none,none,some ((bl 469762058 71),(bl 2361183238136287722555 71)),none,some ((bl 0 71),(bl 2361183238136287722553 71)),none,none,some ((bl 4 71),(bl 2361183238136287722557 71)),none,some ((bl 4 71),(bl 2361183238136287722557 71)),none],[],[(1,2,[11])],false,false,[]⟩
def ud:Hint:=⟨[],[],[none,some ((bl 387 19),(bl 458703 19)),none,some ((bl 0 19),(bl 458703 19)),none,none,some ((bl 16 19),(bl 458719 19)),none],[],[],false,false,[]⟩
def rZ:Hint:=⟨[(1,2)],[],[none],[],[],false,false,[]⟩
def oR:Hint:=⟨[(0,0),(2,0),(3,3)],[(3,0),(3,2)],[none,some ((bl 4 8),(bl 128 8)),some ((bl 4 8),(bl 128 8))],[],[(2,0,[7])],false,false,[]⟩
def nY:Hint:=⟨[(0,0),(2,0),(3,3)],[(3,0),(3,2)],[none,some ((bl 4 8),(bl 128 8)),some ((bl 4 8),(bl 128 8))],[],[(2,0,[7])],false,false,[]⟩
def HI:Hint:=⟨[(0,0),(2,0),(3,3)],[(3,0),(3,2)],[none,some ((bl 4 8),(bl 128 8)),some ((bl 4 8),(bl 128 8))],[],[(2,0,[7])],false,false,[]⟩
def I8:Hint:=⟨[(12,0)],[(1,2),(1,5)],[none,some ((bl 458758 54),(bl 18014398241046439 54)),none,some ((bl 6 54),(bl 18014398241046439 54)),none,none,some ((bl 60129542150 54),(bl 17873661021126543 54)),none,some ((bl 6 54),(bl 17873661021126543 54)),none,none],[],[],false,true,[]⟩
def Y8:Hint:=⟨[(0,1),(10,3),(13,1),(14,0)],[],[none,none,none,none,none,none,none,none,none,none,none,none],[],[(12,1,[13,16])],true,true,[]⟩
def QT:Hint:=⟨[(0,0),(6,2)],[],[none,none,none,some ((bl 458760 28),(bl 234880989 28)),none,some ((bl 8 28),(bl 234880989 28)),none,none],[],[],false,false,[]⟩
def Ve:Hint:=⟨[],[],[none],[],[],false,false,[]⟩
def Zi:Hint:=⟨[(0,0),(5,2)],[],[none,some ((bl 14360 27),(bl 134217661 27)),none,some ((bl 16 27),(bl 134217661 27)),none,none,none],[],[],false,false,[]⟩
def MC:Hint:=⟨[(0,1)],[],[none],[],[],false,false,[]⟩
def NP:Hint:=⟨[(0,0),(1,0),(4,2),(6,0),(6,6),(8,0),(8,1)],[],[none,some ((bl 456 23),(bl 6553567 23)),none,some ((bl 8 23),(bl 6553567 23)),none,none,none],[],[],false,false,[]⟩
def QC:Hint:=⟨[(0,0),(1,6),(2,0),(2,3),(3,0),(3,3)],[],[none],[],[],false,false,[]⟩
def KO:Hint:=⟨[(0,1),(1,3)],[],[none],[],[],false,false,[]⟩
def QA:Hint:=⟨[(0,0),(1,2),(7,0),(7,1)],[(1,1)],[none,some ((bl 1569 23),(bl 8388543 23)),none,some ((bl 32 23),(bl 8388543 23)),none,none],[],[],false,false,[]⟩
def Mm:Hint:=⟨[(0,0),(1,5)],[],[none],[],[],false,false,[]⟩
def Y1:Hint:=⟨[(0,1),(1,6)],[],[none],[],[],false,false,[]⟩
def Wz:Hint:=⟨[(0,0),(0,2),(3,1),(4,0),(7,2),(9,0),(9,6),(14,2),(16,0),(16,6),(18,2),(18,4)],[],[none,none,none,some ((bl 469762436 68),(bl 295147901331062119423 68)),none,some ((bl 388 68),(bl 295147901331062119423 68)),none,none,none,some ((bl 985162418489728 68),(bl 278862888926781103099 68)),none,some ((bl 384 68),(bl 278862888926781103099 68)),none,none,none],[],[(11,1,[16,19])],false,false,[]⟩
def TY:Hint:=⟨[(1,4),(2,3),(2,6),(3,2),(3,4)],[],[none],[],[],false,false,[]⟩
def M2:Hint:=⟨[],[],[none],[],[],false,false,[]⟩
def CQ:Hint:=⟨[],[],[none],[],[],false,false,[]⟩
def MU:Hint:=⟨[],[],[none,none],[],[],false,false,[]⟩
def CR:Hint:=⟨[],[],[none,none,none],[],[],false,false,[]⟩
def Bp:Hint:=⟨[(0,0),(1,0),(5,0),(5,6),(6,0),(6,1)],[],[none,some ((bl 97 22),(bl 2490367 22)),none,some ((bl 32 22),(bl 2490303 22)),none,none],[],[],false,false,[]⟩
def WI:Hint:=⟨[],[],[none],[],[],false,false,[]⟩
def RG:Hint:=⟨[(0,0)],[],[none],[],[],false,false,[]⟩
def Ry:Hint:=⟨[(0,0),(0,1)],[],[none,none,none],[],[],false,false,[]⟩
def R6:Hint:=⟨[(0,0),(0,1)],[],[none,none,none],[],[],false,false,[]⟩
def Tx:Hint:=⟨[(0,0),(1,2),(2,2),(2,5),(3,2),(3,5)],[],[none],[],[],false,false,[]⟩
def Y9:Hint:=⟨[(0,0),(2,0),(3,5)],[],[none,none,none],[],[],false,false,[]⟩
def H6:Hint:=⟨[(0,0),(1,4)],[],[none],[],[],false,false,[]⟩
def UI:Hint:=⟨[(0,0),(0,1),(3,10),(7,1),(8,1)],[],[none,none],[],[],false,false,[]⟩
def JX:Hint:=⟨[(0,0),(0,1),(0,2),(1,0),(3,3),(12,4),(14,5),(14,8),(15,0),(15,7),(16,4),(16,9),(20,3),(21,0),(21,12),(23,0),(23,2)],[],[none,some ((bl 3868 113),(bl 9411032330560892913360804356558847 113)),none,some ((bl 768 113),(bl 9411032330560892913360804356555751 113)),none,none,some ((bl 16156 113),(bl 9411032330560892913360806504054783 113)),none,some ((bl 3868 113),(bl 9411032330560892913360806504046591 113)),none,none,none,none,some ((bl 17331160549995323848588005148 113),(bl 9411038056094375076711524595040255 113)),none,some ((bl 3868 113),(bl 9411038056094375076711524594778111 113)),none,some ((bl 3868 113),(bl 9411032330560892913360806504046591 113)),none],[],[],false,false,[]⟩
def WZ:Hint:=⟨[],[],[none],[],[],false,false,[]⟩
def N7:Hint:=⟨[(0,0)],[],[none],[],[],false,false,[]⟩
def Qk:Hint:=⟨[],[],[none],[],[],false,false,[]⟩
def OY:Hint:=⟨[],[],[none,none,none,some ((bl 10 40),(bl 1096816721899 40)),none,none,none,none,none,some ((bl 4 40),(bl 1096816721893 40))],[],[],false,false,[]⟩
def Qw:Hint:=⟨[(0,0),(3,2),(10,4),(11,5)],[],[none,none,none,none,none,none,none,none],[],[],false,false,[]⟩
def VI:Hint:=⟨[(0,0),(0,1)],[],[none,none,none,none,none],[],[],false,false,[]⟩
def Qs:Hint:=⟨[(1,0),(8,6),(8,11)],[],[none,some ((bl 904 48),(bl 281264523280287 48)),none,some ((bl 8 48),(bl 281264523280287 48)),none,none,some ((bl 1000 48),(bl 281474976677887 48)),none,some ((bl 1000 48),(bl 281474976677887 48)),none,none,none,none],[],[],false,false,[]⟩
def SH:Hint:=⟨[(1,2)],[],[none],[],[],false,false,[]⟩
def WW:Hint:=⟨[(0,0),(0,1),(1,3)],[],[none,some ((bl 2816 45),(bl 29686813949839 45)),none,some ((bl 2304 45),(bl 29686813949839 45)),none,none,some ((bl 256 45),(bl 29686813947791 45)),none],[],[],false,false,[]⟩
def UO:Hint:=⟨[(0,0),(0,1),(0,2),(0,3),(1,4),(1,5),(2,18)],[],[none],[],[],false,false,[]⟩
def VC:Hint:=⟨[(0,0),(0,1)],[],[none],[],[],false,false,[]⟩
def Ph:Hint:=⟨[(0,0),(0,1),(0,3)],[],[none,none,none,none,none,none,none],[],[],false,false,[]⟩
def Sp:Hint:=⟨[(0,0),(0,1),(1,4),(1,7),(8,3)],[],[none,none,none,none,none,none,none,none,none,none,none,none,none,none,none,none,none,none,some ((bl 132226261520350065984000 93),(bl 9903520314283042199192985231 93)),none,some ((bl 0 93),(bl 9903520314283042199192984719 93)),none,none,some ((bl 256 93),(bl 9903520314283042199192984975 93)),none],[],[],false,false,[]⟩
def WQ:Hint:=⟨[(0,1),(6,16),(6,17),(7,6),(8,5),(8,9),(8,10),(10,6),(11,1),(11,6),(12,1),(12,6)],[],[none,some ((bl 3758096404 112),(bl 4941240693938888968870671530582079 112)),none,some ((bl 20 112),(bl 4941240693938888968870671530582079 112)),none,none,none,none],[],[],false,false,[]⟩
def Wa:Hint:=⟨[(0,0)],[],[none],[],[],false,false,[]⟩
def IW:Hint:=⟨[(0,0)],[],[none],[],[],false,false,[]⟩
def FT:Hint:=⟨[(0,0),(0,1)],[],[none],[],[],false,false,[]⟩
def Hw:Hint:=⟨[(4,9),(4,10)],[],[none,some ((bl 9 47),(bl 140737479966411 47)),none,some ((bl 0 47),(bl 140737479966403 47)),none,none,some ((bl 4 47),(bl 140737479966407 47)),none],[],[],false,false,[]⟩
def M0:Hint:=⟨[],[],[none],[],[],false,false,[]⟩
def I1:Hint:=⟨[(0,0)],[],[none,some ((bl 38 24),(bl 16776687 24)),none,some ((bl 0 24),(bl 16776651 24)),none,none,some ((bl 16 24),(bl 16776667 24)),none],[],[],false,false,[]⟩
def MY:Hint:=⟨[],[],[none],[],[],false,false,[]⟩
def FX:Hint:=⟨[(0,0),(1,2)],[],[none],[],[],false,false,[]⟩
def H3:Hint:=⟨[(0,0),(6,5)],[],[none,none,none,some ((bl 10 118),(bl 332306998946228949634806492755394539 118)),none,some ((bl 2 118),(bl 332306998946228949634806492755394531 118)),none,none,some ((bl 4 118),(bl 332306998946228949634806492755394533 118)),none,some ((bl 34 118),(bl 290768624058605172900632292818419627 118)),none,some ((bl 0 118),(bl 290768624058605172900632292818419593 118)),none,none,some ((bl 4 118),(bl 290768624058605172900632292818419597 118)),none],[],[],false,false,[]⟩
def FU:Hint:=⟨[(1,8)],[(1,0),(1,3),(1,4),(1,7)],[none],[],[],false,true,[]⟩
def Kz:Hint:=⟨[(0,0),(12,1),(13,0)],[],[none,none,none,none,none,none,none,none,none,none,none,none],[],[(11,1,[12,15])],true,true,[]⟩
def ID:Hint:=⟨[(0,0),(1,0),(5,4),(9,0),(9,4),(10,0),(10,1)],[],[none,some ((bl 99 33),(bl 5368707967 33)),none,some ((bl 32 33),(bl 5368707903 33)),none,none,none,none,none],[],[],false,false,[]⟩
def FZ:Hint:=⟨[(0,0),(11,0)],[],[none,none,none,none,none,some ((bl 214 52),(bl 4494769172512767 52)),none,some ((bl 86 52),(bl 4494769172512639 52)),none,none],[],[(5,1,[10,14])],true,true,[]⟩
def Eu:Hint:=⟨[(0,0)],[],[none,some ((bl 26 31),(bl 2147483391 31)),none,some ((bl 8 31),(bl 2147483373 31)),none,none,none],[],[],false,false,[]⟩
def Lc:Hint:=⟨[(0,0),(0,1),(1,0),(6,0),(6,9),(7,0),(7,1)],[],[none,some ((bl 26 31),(bl 1341652735 31)),none,some ((bl 8 31),(bl 1341652717 31)),none,none,none],[],[],false,false,[]⟩
def Kr:Hint:=⟨[],[],[none,some ((bl 35 18),(bl 130799 18)),none,some ((bl 0 18),(bl 130767 18)),none,none,some ((bl 16 18),(bl 130783 18)),none],[],[],false,false,[]⟩
def Iy:Hint:=⟨[(0,0),(0,2),(2,1),(3,2),(9,0),(9,11),(10,3),(10,5)],[],[none,none,none,some ((bl 900 67),(bl 139502376157387423743 67)),none,some ((bl 132 67),(bl 139502376157387423231 67)),none,none,none],[],[],false,false,[]⟩
def Iv:Hint:=⟨[(0,0)],[],[none,none,none,none,none],[],[],false,false,[]⟩
def Hk:Hint:=⟨[(0,1),(1,3),(7,0),(7,1)],[(1,0),(1,2)],[none,some ((bl 1580 58),(bl 287667151320317951 58)),none,some ((bl 512 58),(bl 287667151320316895 58)),none,none,none],[],[],false,false,[]⟩
def K6:Hint:=⟨[(0,0),(0,1),(8,0),(9,8),(9,12)],[],[none,some ((bl 73 58),(bl 288230376151448575 58)),none,some ((bl 73 58),(bl 288230376151448575 58)),none,none,some ((bl 201 58),(bl 288230376134934479 58)),none,some ((bl 73 58),(bl 288230376134934351 58)),none,none,some ((bl 48 58),(bl 288230376134934391 58)),none],[],[],false,false,[]⟩
def Ja:Hint:=⟨[(0,0),(0,1),(4,5),(13,14),(14,4),(14,5),(16,1),(19,0),(20,3)],[],[none,some ((bl 4375 99),(bl 633283700682806279610522145791 99)),none,some ((bl 1 99),(bl 633283700682806279610522141439 99)),none,none,some ((bl 28951 99),(bl 633825300114112448931357982719 99)),none,some ((bl 12567 99),(bl 633825300114112448931357966335 99)),none,none,some ((bl 45335 99),(bl 633283700682808531427519951871 99)),none,some ((bl 4375 99),(bl 633283700682808531427519910911 99)),none,none,none,none,some ((bl 3072 99),(bl 633283700682806279610522144510 99)),none,none,none],[],[],false,false,[(13,13)]⟩
def Eo:Hint:=⟨[(0,0),(7,0)],[],[none,some ((bl 114 32),(bl 4294963195 32)),none,some ((bl 48 32),(bl 4294963131 32)),none,none,none],[],[(1,1,[10,13])],true,true,[]⟩
def HW:Hint:=⟨[(0,0),(0,1),(0,2),(7,9)],[],[none,none,none,none,none,none,none],[],[],false,false,[]⟩
def Iz:Hint:=⟨[(0,0),(0,1),(1,0),(10,9),(10,12),(14,8),(14,11),(6,5),(6,7),(8,9)],[],[none,some ((bl 121 83),(bl 9351168509897910781984895 83)),none,some ((bl 48 83),(bl 9351168509897910781984823 83)),none,none,none,none,none,none,none,none],[],[],false,false,[]⟩
def VS:Hint:=⟨[],[],[none,none,none,some ((bl 12291 28),(bl 268435407 28)),none,some ((bl 0 28),(bl 268435407 28)),none,none,some ((bl 16 28),(bl 268435423 28)),none],[],[],false,false,[]⟩
def Nq:Hint:=⟨[(4,4),(8,3),(8,5),(9,3),(9,5)],[],[none,none,none,some ((bl 469762112 66),(bl 73642794620668575983 66)),none,some ((bl 64 66),(bl 73642794620668575983 66)),none,none,some ((bl 16 66),(bl 73642794620668575935 66)),none],[],[],false,false,[]⟩
def GT:Hint:=⟨[(12,1),(16,1),(23,0)],[],[none,some ((bl 78 102),(bl 5070602400912917605986812821503 102)),none,none,none,none,none,some ((bl 72 102),(bl 5070602400912917605986812821503 102)),none,none,none,none],[],[(1,1,[11,14])],true,true,[]⟩
def Ek:Hint:=⟨[(0,0)],[],[none],[],[],false,false,[]⟩
def mW:Hint:=⟨[],[],[none,some ((bl 387 19),(bl 458703 19)),none,some ((bl 0 19),(bl 458703 19)),none,none,some ((bl 16 19),(bl 458719 19)),none],[],[],false,false,[]⟩
def mP:Hint:=⟨[(0,0),(1,2),(3,0),(3,1),(7,4),(12,0),(12,3)],[],[none,none,none,some ((bl 99 42),(bl 4397777813375 42)),none,some ((bl 33 42),(bl 4397777813311 42)),none,none,none],[],[],false,false,[]⟩
def Hc:Hint:=⟨[(12,3),(19,0)],[],[none,none,none,none,none,some ((bl 117440540 70),(bl 1180591616319364791615 70)),none,some ((bl 28 70),(bl 1180591616319364791615 70)),none,none,none,some ((bl 31525197391593500 70),(bl 1180591620717411302527 70)),none,some ((bl 20 70),(bl 1180591620717411302527 70)),none,none,none],[],[(5,1,[12,15])],true,true,[]⟩
def EA:Hint:=⟨[(0,0),(0,1)],[],[none],[],[],false,false,[]⟩
def CI:Hint:=⟨[(0,0),(0,1)],[],[none],[],[],false,false,[]⟩
def AN:Hint:=⟨[],[],[none,none,none,some ((bl 35 42),(bl 3848290689007 42)),none,some ((bl 0 42),(bl 3848290688975 42)),none,none,some ((bl 16 42),(bl 3848290688991 42)),none],[],[],false,false,[]⟩
def II:Hint:=⟨[(0,0),(0,1)],[],[none,none,none,some ((bl 44 73),(bl 9444732965739273650159 73)),none,some ((bl 0 73),(bl 9444732965739273650115 73)),none,none,some ((bl 16 73),(bl 9444732965739273650131 73)),none],[],[],false,false,[]⟩
def yT:Hint:=⟨[(4,4),(7,2),(11,3),(11,6),(12,3),(12,6)],[],[none,none,none,some ((bl 30064771074 71),(bl 2286371681931105938175 71)),none,some ((bl 0 71),(bl 2286371681931105938175 71)),none,none,some ((bl 30816390352898 71),(bl 2286371696224757103359 71)),none,some ((bl 30064771074 71),(bl 2286371696224757099263 71)),none,none,some ((bl 256 71),(bl 2286371681931105938431 71)),none],[],[],false,false,[]⟩
theorem j3{P:Program}{aa:Rn}{fg:List (Nat × Nat)}{l m:List (Nat × Nat × Hint)}(h1:nk P aa fg l=true)(z:nk P aa fg m=true):nk P aa fg (l++m)=true:=by
 unfold nk at *
 rw [List.all_append,h1,z]; rfl
def rh0:List (Nat × Nat × Hint):=[(151,531,Le),(148,553,V5),(161,562,Nc),(147,552,Xy),(122,513,Xb),(164,565,Xl),(174,593,Wv),(165,566,Xt),(144,527,Qj),(145,528,WC),(124,515,Tm),(91,136,EP)]
theorem zlo:nk Tryz.prog (kO fg gls) fg rh0=true:=by kernel_rfl
def rh1:List (Nat × Nat × Hint):=[(137,521,SI),(96,194,FQ),(95,193,FP),(70,159,B8),(128,185,K7),(71,160,Ag),(47,138,Ia),(154,206,Mk),(133,187,Ka),(132,186,W2),(101,149,P4),(97,148,TO)]
theorem zk7:nk Tryz.prog (kO fg gls) fg rh1=true:=by kernel_rfl
def rh2:List (Nat × Nat × Hint):=[(129,455,Ip),(130,129,Qf),(98,488,QQ),(73,449,U8),(99,152,Vp),(74,153,Nb),(75,132,Se),(152,532,OU),(176,572,El),(168,571,Vl),(166,569,M7),(167,570,LD)]
theorem zkL:nk Tryz.prog (kO fg gls) fg rh2=true:=by kernel_rfl
def rh3:List (Nat × Nat × Hint):=[(153,533,Nd),(131,494,WD),(100,454,QH),(76,517,YV),(77,556,R8),(78,557,Pd),(79,558,SP),(102,519,UT),(157,453,I2),(155,588,Wf),(134,555,Qx),(103,520,Ue)]
theorem zlc:nk Tryz.prog (kO fg gls) fg rh3=true:=by kernel_rfl
def rh4:List (Nat × Nat × Hint):=[(80,474,Ts),(53,522,RD),(138,134,RN),(109,476,RH),(110,429,T7),(106,472,Pn),(114,480,I4),(139,441,CU),(111,477,HT),(140,523,XL),(169,589,P7),(158,559,O5)]
theorem zkU:nk Tryz.prog (kO fg gls) fg rh4=true:=by kernel_rfl
def rh5:List (Nat × Nat × Hint):=[(193,618,S6),(186,610,WO),(177,599,S9),(178,600,P9),(179,601,Uk),(180,602,QD),(181,603,QU),(182,604,SL),(183,605,Sq),(171,591,Ux),(187,611,Qy),(69,130,IC)]
theorem zkf:nk Tryz.prog (kO fg gls) fg rh5=true:=by kernel_rfl
def rh6:List (Nat × Nat × Hint):=[(189,613,Vw),(188,612,Tq),(146,529,Mu),(175,594,Wu),(205,630,Pb),(200,625,SM),(162,563,Xu),(211,636,QN),(172,117,Lo),(160,561,Wn),(207,632,QK),(208,633,QJ)]
theorem zkR:nk Tryz.prog (kO fg gls) fg rh6=true:=by kernel_rfl
def rh7:List (Nat × Nat × Hint):=[(203,628,Xp),(206,631,Xi),(198,623,Qm),(194,619,Te),(199,624,Td),(195,620,QR),(202,627,Si),(201,626,Xg),(213,638,SO),(210,635,Ql),(214,639,QP),(212,637,LF)]
theorem zk9:nk Tryz.prog (kO fg gls) fg rh7=true:=by kernel_rfl
def rh8:List (Nat × Nat × Hint):=[(209,634,QS),(204,629,Mq),(196,621,Qt),(190,614,QM),(191,615,Ru),(197,622,Qn),(192,616,P2),(184,606,VQ),(170,590,XC),(159,560,Md),(141,524,RL),(112,478,RW)]
theorem zkM:nk Tryz.prog (kO fg gls) fg rh8=true:=by kernel_rfl
def rh9:List (Nat × Nat × Hint):=[(117,483,NM),(142,525,UQ),(115,481,XE),(116,482,SK),(113,479,Eg),(84,444,EG),(37,546,Sm),(36,833,Vg),(30,830,GS),(126,155,Ez),(150,190,Ab),(127,156,xt)]
theorem zkg:nk Tryz.prog (kO fg gls) fg rh9=true:=by kernel_rfl
def zlH:List (Nat × Nat × Hint):=[(125,154,IB),(90,135,IE),(58,587,Er),(31,551,HE),(11,816,IZ),(61,842,ud),(38,834,rZ),(62,843,oR),(63,576,nY),(40,584,HI),(39,835,I8),(15,818,Y8)]
theorem ziQ:nk Tryz.prog (kO fg gls) fg zlH=true:=by kernel_rfl
def zlG:List (Nat × Nat × Hint):=[(21,824,QT),(65,844,Ve),(42,836,Zi),(66,549,MC),(43,784,NP),(93,191,QC),(68,158,KO),(94,192,QA),(67,157,Mm),(44,137,Y1),(18,821,Wz),(6,813,TY)]
theorem zjL:nk Tryz.prog (kO fg gls) fg zlG=true:=by kernel_rfl
def zkA:List (Nat × Nat × Hint):=[(7,225,M2),(51,247,CQ),(14,217,MU),(25,231,CR),(28,423,Bp),(123,514,WI),(87,467,RG),(88,468,Ry),(89,469,R6),(57,442,Tx),(156,554,Y9),(13,448,H6)]
theorem zj1:nk Tryz.prog (kO fg gls) fg zkA=true:=by kernel_rfl
def zll:List (Nat × Nat × Hint):=[(135,516,UI),(104,470,JX),(136,518,WZ),(105,471,N7),(108,475,Qk),(163,564,OY),(143,526,Qw),(118,484,VI),(120,486,Qs),(119,485,SH),(107,473,WW),(83,443,UO)]
theorem zjM:nk Tryz.prog (kO fg gls) fg zll=true:=by kernel_rfl
def zlC:List (Nat × Nat × Hint):=[(121,487,VC),(86,446,Ph),(85,445,Sp),(56,424,WQ),(27,422,Wa),(9,411,IW),(59,800,FT),(32,792,Hw),(33,831,M0),(34,832,I1),(60,791,MY),(35,793,FX)]
theorem zi9:nk Tryz.prog (kO fg gls) fg zlC=true:=by kernel_rfl
def zlb:List (Nat × Nat × Hint):=[(12,817,H3),(29,829,FU),(16,819,Kz),(50,797,ID),(24,827,FZ),(22,825,Eu),(45,837,Lc),(46,802,Kr),(19,822,Iy),(52,840,Iv),(81,801,Hk),(82,803,K6)]
theorem zj3:nk Tryz.prog (kO fg gls) fg zlb=true:=by kernel_rfl
def zke:List (Nat × Nat × Hint):=[(54,795,Ja),(55,841,Eo),(26,828,HW),(8,814,Iz),(20,823,VS),(4,811,Nq),(10,815,GT),(49,839,Ek),(72,845,mW),(48,838,mP),(23,826,Hc),(92,181,EA)]
theorem zjp:nk Tryz.prog (kO fg gls) fg zke=true:=by kernel_rfl
def zkY:List (Nat × Nat × Hint):=[(64,440,CI),(41,438,AN),(17,820,II),(5,812,yT)]
theorem zjT:nk Tryz.prog (kO fg gls) fg zkY=true:=by kernel_rfl
noncomputable def rows:List Row:=ziE Tryz.prog (kO fg gls) (rh0++(rh1++(rh2++(rh3++(rh4++(rh5++(rh6++(rh7++(rh8++(rh9++(zlH++(zlG++(zkA++(zll++(zlC++(zlb++(zke++(zkY))))))))))))))))))
theorem zjH:∀ r∈rows,(r.f,r.g)∈fg/\n8 Tryz.prog r.f=true/\Jr Tryz.prog (kO fg gls) r.h r.f=some r.c:=zhY (j3 zlo (j3 zk7 (j3 zkL (j3 zlc (j3 zkU (j3 zkf (j3 zkR (j3 zk9 (j3 zkM (j3 zkg (j3 ziQ (j3 zjL (j3 zj1 (j3 zjM (j3 zi9 (j3 zj3 (j3 zjp (zjT))))))))))))))))))
theorem zmb:Tryz.prog.follows .mixedOrders=true:=by kernel_rfl
theorem zl8:zgX fg=true:=by kernel_rfl
theorem zl3:rD Tryz.prog (kO fg gls) C4:=zi5 (zjn (by kernel_rfl)) (zlS (by kernel_rfl))
theorem zme(L d:Nat):rD Tryz.prog (kO fg gls) (wR (evF (dl rows) C4 L d)):=zjr zmb zl8 zl3 zjH L d
end
end
end Go.Proofs.YtipklgbboecciaaGreat
