/- The law, and its closed call awake. -/
import Derived.Test.YtnjdjocokegphaaGreatDoorA0
import Derived.Test.YtnjdjocokegphaaGreatDoorT0
import Derived.Test.YtnjdjocokegphaaGreatDoorChecked
set_option linter.unusedVariables false
set_option linter.unusedSimpArgs false
namespace Go.Proofs.YtnjdjocokegphaaGreatDoor.K
open Go.Ex Go.RowKit Go.W
noncomputable section
def Nr:Option ap:=gb0
def Nq:Option ap:=BB
def Np:Option ap:=gb2
def No:Option ap:=gb3
def Nn:Option ap:=gb5
def Nm:Option ap:=gb6
def fx:=B 1 81 [s [102],z,z,A 404 2]
def D7:=B 1 115 [p 8]
def aF5:=B 1 200 [y 2,s [102,108,101,101,116],i 0]
def Te:=B 1 200 [y 1,s [102],i 6]
def aF4:=B 1 200 [y 4,s [123],i 8]
def Mn:=B 1 200 [y 2,s [99,111,109,112,111,110,101,110,116],i 10]
def Td:=B 1 200 [y 1,s [97],i 20]
def aF3:=B 1 200 [y 4,s [123],i 22]
def aF2:=B 1 200 [y 2,s [118,97,114],i 24]
def Tc:=B 1 200 [y 1,s [120],i 28]
def aF1:=B 1 200 [y 4,s [58],i 29]
def aF0:=B 1 200 [y 2,s [105,110,116],i 31]
def aE9:=B 1 200 [y 4,s [61],i 35]
def Mm:=B 1 200 [y 3,s [48],i 37]
def aE8:=B 1 200 [y 4,s [59],i 38]
def Tb:=B 1 200 [y 2,s [111,110],i 40]
def Ta:=B 1 200 [y 1,s [104],i 43]
def aE7:=B 1 200 [y 4,s [40],i 44]
def Ml:=B 1 200 [y 1,s [105],i 45]
def S':=B 1 200 [y 4,s [41],i 46]
def aE6:=B 1 200 [y 4,s [123],i 48]
def qI:=B 1 200 [y 1,s [120],i 50]
def S9:=B 1 200 [y 4,s [61],i 52]
def qH:=B 1 200 [y 1,s [105],i 54]
def nz:=B 1 200 [y 4,s [59],i 55]
def AQ:=B 1 200 [y 2,s [115,101,110,100],i 57]
def S8:=B 1 200 [y 1,s [98],i 62]
def aE5:=B 1 200 [y 4,s [46],i 63]
def S7:=B 1 200 [y 1,s [103],i 64]
def aE4:=B 1 200 [y 4,s [40],i 65]
def pH:=B 1 200 [y 1,s [120],i 66]
def mC:=B 1 200 [y 4,s [41],i 67]
def aE3:=B 1 200 [y 4,s [59],i 68]
def S6:=B 1 200 [y 4,s [125],i 70]
def Mj:=B 1 200 [y 4,s [125],i 72]
def aE2:=B 1 200 [y 2,s [99,111,109,112,111,110,101,110,116],i 74]
def S5:=B 1 200 [y 1,s [98],i 84]
def aE1:=B 1 200 [y 4,s [123],i 86]
def S4:=B 1 200 [y 2,s [111,110],i 88]
def S3:=B 1 200 [y 1,s [103],i 91]
def aE0:=B 1 200 [y 4,s [40],i 92]
def Mi:=B 1 200 [y 1,s [106],i 93]
def S2:=B 1 200 [y 4,s [41],i 94]
def aD9:=B 1 200 [y 4,s [123],i 96]
def S1:=B 1 200 [y 4,s [125],i 98]
def Mh:=B 1 200 [y 4,s [125],i 100]
def S0:=B 1 200 [y 4,s [125],i 102]
def eV:=B 1 177 [s [97],A 173 1,A 366 1]
def gb:=B 1 180 [s [120],y 1,i 0]
def ai3:=C 3 180 [s [120],y 1,i 0]
def gX:=B 1 183 [A 364 1]
def eQ:=B 1 190 [s [104],A 187 1,A 360 2]
def RN:=B 1 9 [s [105]]
def ai2:=C 1 9 [s [105]]
def vu:=B 1 301 [y 1,s [120],e,A 271 1,z,z]
def ai1:=B 4 306 [y 0,e,i 0,z]
def ga:=B 1 306 [y 5,s [105],i 0,z]
def ai0:=B 2 577 [s [111,114],y 23]
def ah9:=B 2 577 [s [97,110,100],y 22]
def ah8:=B 2 577 [s [43],y 14,s [45],y 15]
def ah7:=B 2 577 [s [42],y 11,s [47],y 12,s [37],y 13]
def ah6:=B 2 577 [s [45],y 9,s [110,111,116],y 10]
def ah5:=B 1 577 [s [45],y 9]
def ah4:=B 1 577 [s [110,111,116],y 10]
def ah3:=B 1 577 [s [42],y 11]
def ah2:=B 1 577 [s [47],y 12]
def ah1:=B 1 577 [s [37],y 13]
def ah0:=B 1 577 [s [43],y 14]
def ag9:=B 1 577 [s [45],y 15]
def ag8:=B 2 577 [s [61,61],y 16,s [33,61],y 17,s [60],y 18,s [60,61],y 19,s [62],y 20,s [62,61],y 21]
def ag7:=B 1 577 [s [61,61],y 16]
def ag6:=B 1 577 [s [33,61],y 17]
def ag5:=B 1 577 [s [60],y 18]
def ag4:=B 1 577 [s [60,61],y 19]
def ag3:=B 1 577 [s [62],y 20]
def ag2:=B 1 577 [s [62,61],y 21]
def ag1:=B 1 577 [s [97,110,100],y 22]
def ag0:=B 1 577 [s [111,114],y 23]
def nq:=B 1 301 [y 6,s [98],s [103],A 355 1,z,z]
def eU:=B 1 306 [y 5,s [120],i 0,z]
def af9:=B 1 9 [s [50],s [51]]
def dP:=B 1 177 [s [98],z,A 399 1]
def eg:=B 1 183 [A 397 1]
def cK:=B 1 190 [s [103],A 390 1,z]
def af8:=B 1 9 [s [106]]
def vr:=C 1 9 [s [106]]
def Lu:Option ap:=some ⟨.map [⟨s [104],t,0⟩] 1,1,true,false,0⟩
def Lt:Option ap:=some ⟨.map [⟨s [103],t,0⟩] 1,1,true,false,0⟩
def lZ:=B 1 426 [t,f,i 1,i 1,f,f]
def eG:=B 1 496 [i 0,t,i 7,e]
def lY:=B 1 426 [t,t,i 0,i 4,f,f]
def af7:=B 1 208 [e,e,i 0]
def Ls:=B 1 177 [e,z,z]
def CY:=B 1 180 [e,y 0,i 0]
def RM:=B 1 9 [s [120]]
def af6:=B 1 183 [R 364 0 0 1]
def yD:=B 1 190 [e,z,z]
def vq:=B 1 504 [z,A 173 1,A 187 1]
def af5:=B 1 183 [R 397 0 0 1]
def vp:=C 1 9 [s [104]]
def GB:=C 1 9 [s [103]]
def CX:=B 1 223 [A 693 1,A 774 1,A 778 1]
def af4:=B 1 4 [t]
def bG:=B 1 466 [y 29,i 0,i 0,i 0]
def af3:=B 4 466 [y 29,i 0,i 0,i 0]
def eP:=B 1 466 [y 3,i 0,i 0,i 0]
def eO:=B 1 466 [y 24,i 0,i 0,i 0]
def eN:=B 1 466 [y 2,i 0,i 0,i 0]
def ee:=B 1 466 [y 30,i 1,i 0,i 1]
def GA:=C 4 466 [y 29,i 0,i 0,i 0,y 3,i 0,i 0,i 0,y 24,i 0,i 0,i 0,y 29,i 0,i 0,i 0,y 2,i 0,i 0,i 0,y 30,i 1,i 0,i 1]
def Gz:=B 1 3 [i 0,i 0,i 1,i 0,i 0,i 1,i 0]
def dY:=B 1 510 [s [99,111,115,116],e,i 0,i 0]
def jJ:=B 1 510 [s [112,97,114,97,109],s [65],i 0,i 1]
def jI:=B 1 510 [s [115,101,116,118,97,114],s [65],i 1,i 0]
def jH:=B 1 510 [s [118,97,114],s [65],i 0,i 1]
def mw:=B 1 510 [s [115,101,110,100],s [65,66,78],i 0,i 0]
def Gy:=B 1 510 [s [115,101,110,100],s [65,66,78],i 1,i 0]
def af2:=B 3 330 []
def cJ:=B 1 4 []
def af1:=C 1 4 [t]
def CW:=B 1 223 [A 701 1,A 795 1,A 799 1]
def iG:=B 1 330 [i 1,i 0,z]
def Gx:=B 1 3 [.int .i64 (-1)]
def pu:=B 1 5 [y 10]
def Gw:=B 1 9 [s [125]]
def vo:Option ap:=some ⟨.cells [y 102,y 108,y 101,y 101,y 116,y 32,y 102,y 32,y 123,y 10,y 32,y 32,y 99,y 111,y 109,y 112,y 111,y 110,y 101,y 110,y 116,y 32,y 97,y 32,y 123,y 10,y 32,y 32,y 32,y 32,y 118,y 97,y 114,y 32,y 120,y 58,y 32,y 105,y 110,y 116,y 32,y 61,y 32,y 48,y 59,y 10,y 32,y 32,y 32,y 32,y 111,y 110,y 32,y 104,y 40,y 105,y 41,y 32,y 123,y 10,y 32,y 32,y 32,y 32,y 32,y 32,y 120,y 32,y 61,y 32,y 105,y 59,y 10,y 32,y 32,y 32,y 32,y 32,y 32,y 115,y 101,y 110,y 100,y 32,y 98,y 46,y 103,y 40,y 120,y 41,y 59,y 10,y 32,y 32,y 32,y 32,y 125,y 10,y 32,y 32,y 125,y 10,y 32,y 32,y 99,y 111,y 109,y 112,y 111,y 110,y 101,y 110,y 116,y 32,y 98,y 32,y 123,y 10,y 32,y 32,y 32,y 32,y 111,y 110,y 32,y 103,y 40,y 106,y 41,y 32,y 123,y 10,y 32,y 32,y 32,y 32,y 125,y 10,y 32,y 32,y 125,y 10,y 125,y 10],1,false,true,5⟩
def af0:=B 1 81 [s [102],A 996 0,A 997 0,A 998 2]
def ij:=B 1 177 [s [97],A 1003 1,A 1004 1]
def vm:=B 3 180 []
def CV:=B 1 183 [A 1008 1]
def Gv:=B 1 190 [s [104],A 1013 1,A 1014 2]
def jg:=B 1 9 []
def ae9:=B 1 301 [y 1,s [120],e,A 1018 1,A 1023 0,A 1024 0]
def ae8:=B 1 306 [y 5,s [105],i 0,A 1022 0]
def vl:=B 4 306 []
def fP:=B 6 301 []
def nn:=B 1 301 [y 6,s [98],s [103],A 1028 1,A 1033 0,A 1034 0]
def yC:=B 4 306 [y 5,s [120],i 0,A 1032 0]
def nj:=B 1 306 [y 5,s [120],i 0,A 1032 0]
def fq:=B 1 177 [s [98],A 1038 0,A 1039 1]
def kz:=B 1 183 [A 1043 1]
def yB:=B 3 190 [s [103],A 1048 1,A 1049 0]
def qz:=B 1 190 [s [103],A 1048 1,A 1049 0]
def yA:=B 1 110 (rp 32 (y 0) [])
def An:=B 1 446 [w 1718379877,w 1948280352,w 2064261152,w 1668246896,w 1869505902,w 1948279072,w 2064261152,w 538998369,w 1914730554,w 543780468,w 540876848,w 990519328,w 538996590,w 543697001,w 689994506,w 538976288,w 296238723,w 1880682738,w 111209693,w 846452941,w 1374645124,w 4233350705,w 3484229496,w 895049139,w 3328898456,w 3635993578,w 1176451272,w 3344394844,w 1949861608,w 1478376539,w 4269432771,w 3421661698,w 627502283,w 2962884545,w 3825719057,w 3261091952,w 1264588963,w 3431586198,w 3802395311,w 3333595875,w 4137451574,w 408597265,w 1418919487,w 578402663,w 2486498006,w 907893504,w 850047918,w 4082195948,w 1643261529,w 1429259746,w 1196845818,w 448758098,w 3156135457,w 4009046084,w 215285647,w 3119070661,w 3120709113,w 3839483568,w 1829893919,w 912995002,w 2568019650,w 953528699,w 4062905058,w 1365009388]
def Am:=B 1 344 [w 1442852491,w 1430823645,w 360283213,w 88169370,w 2296980709,w 204104628,w 1930610827,w 2802744385]
def Gu:=B 1 446 [w 538998816,w 1025534267,w 169877536,w 538976371,w 1701733408,w 1647208232,w 2015968010,w 538976288,w 2097815584,w 2097815584,w 1668246896,w 1869505902,w 1948279328,w 2064261152,w 538996590,w 543631466,w 1124988684,w 1528327020,w 2841541742,w 2726096031,w 2538922747,w 3279649789,w 3521387576,w 4247973182,w 757392987,w 2305275329,w 1044553690,w 2317502051,w 458552561,w 2087534167,w 478837741,w 4088336261,w 135260052,w 1456246985,w 1390925477,w 1974789242,w 1651230082,w 994480389,w 957389431,w 710401679,w 1639649850,w 86952784,w 3875702090,w 2243020551,w 1471289443,w 3625145237,w 1820216105,w 3924645596,w 3060766097,w 4105112177,w 3560209397,w 731652990,w 2525988972,w 225251361,w 1155140288,w 3344563340,w 2903424726,w 3284558048,w 162931539,w 1658833478,w 523758522,w 117315591,w 769594185,w 918827482]
def Gs:=B 1 344 [w 1646266033,w 3600321849,w 1642576978,w 4141843081,w 3761399063,w 339320541,w 2563288327,w 363046994]
def Lr:=B 1 348 [w 573184931,w 3880312475,w 3016764433,w 2708525917,w 3123305595,w 3144248093,w 727666493,w 412283308,y 41,y 32,y 123,y 10,y 32,y 32,y 32,y 32,y 125,y 10,y 32,y 32,y 125,y 10,y 125,y 10,y 101,y 110,y 100,y 32,y 98,y 46,y 103,y 40,y 120,y 41,y 59,y 10,y 32,y 32,y 32,y 32,y 125,y 10,y 32,y 32,y 125,y 10,y 32,y 32,y 99,y 111,y 109,y 112,y 111,y 110,y 101,y 110,y 116,y 32,y 98,y 32,y 123,y 10,y 32,y 32,y 32,y 32,y 111,y 110,y 32,y 103,y 40,y 106,.int .u64 144]
def Lq:=B 1 5 (y 128::(rp 45 (y 0) [y 4,y 128]))
def Lp:=B 1 5 (rp 6 (y 0) [y 4,y 128])
def RL:=B 1 348 (w 3277339878::w 4280240045::w 3661551726::w 1170192435::w 1405714840::w 1937453378::w 2953813144::w 2516824292::y 41::y 32::y 123::y 10::y 32::y 32::y 32::y 32::y 125::y 10::y 32::y 32::y 125::y 10::y 125::y 10::y 128::(rp 45 (y 0) [y 4,y 128,.int .u64 192]))
def RK:=B 1 446 (w 689994506::w 538976288::w 2097815584::w 2097839370::w 2147483648::(rp 10 (w 0) [w 1152,w 1970063190,w 3930287911,w 4236284771,w 1750611388,w 3689062900,w 477343530,w 82973349,w 400824498,w 894078346,w 2345354091,w 2144420971,w 2782718016,w 2803553133,w 3992142868,w 1291238181,w 2475754975,w 359812790,w 154632183,w 2308619505,w 3123763472,w 2417397504,w 2939033604,w 2412201740,w 2921380692,w 2692370788,w 3899695431,w 1285096912,w 4128936555,w 3723143813,w 2261645241,w 3881798831,w 1983823900,w 1722289136,w 1794949296,w 2227910907,w 1095951265,w 2900540390,w 2640758412,w 2734178303,w 428860034,w 3727604918,w 1657866215,w 2241577949,w 12398403,w 859818570,w 4229873173,w 2742859591,w 3427339192]))
def RJ:=B 1 344 [w 2704154947,w 399927570,w 644787293,w 2756633814,w 2577376541,w 3088172581,w 2226146651,w 2104540984]
def tO:=B 1 110 [y 195,y 88,y 60,y 230,y 255,y 31,y 71,y 173,y 218,y 62,y 216,y 110,y 69,y 191,y 184,y 51,y 83,y 201,y 129,y 152,y 115,y 123,y 49,y 66,y 176,y 15,y 156,y 152,y 150,y 3,y 176,y 228]
def ae7:=B 1 130 [s [102],A 996 0,A 997 0,A 998 2,s [102,108,101,101,116,32,102,32,123,10,32,32,99,111,109,112,111,110,101,110,116,32,97,32,123,10,32,32,32,32,118,97,114,32,120,58,32,105,110,116,32,61,32,48,59,10,32,32,32,32,111,110,32,104,40,105,41,32,123,10,32,32,32,32,32,32,120,32,61,32,105,59,10,32,32,32,32,32,32,115,101,110,100,32,98,46,103,40,120,41,59,10,32,32,32,32,125,10,32,32,125,10,32,32,99,111,109,112,111,110,101,110,116,32,98,32,123,10,32,32,32,32,111,110,32,103,40,106,41,32,123,10,32,32,32,32,125,10,32,32,125,10,125,10],y 195,y 88,y 60,y 230,y 255,y 31,y 71,y 173,y 218,y 62,y 216,y 110,y 69,y 191,y 184,y 51,y 83,y 201,y 129,y 152,y 115,y 123,y 49,y 66,y 176,y 15,y 156,y 152,y 150,y 3,y 176,y 228,p 704]
def yz:=B 1 35 [p 1064,A 1074 1,z,i 6]
def iF:=B 1 2 [i 4]
def ni:=B 1 33 [A 1074 1]
def RI:=B 1 53 [y 1,i 0,i 0,i 0,i 1,i 0,A 1067 1]
def bJ:=B 1 50 [y 1,i 0,i 0,i 0]
def ae6:=B 7 53 [y 1,i 0,i 0,i 0,i 1,i 0,A 1078 1]
def tN:=B 1 53 [y 1,i 0,i 0,i 0,i 1,i 0,A 1078 1]
def df:=C 1 2 [i 4]
def yy:=B 1 35 [p 1064,A 1090 1,z,i 6]
def lX:=B 1 33 [A 1090 1]
def Gr:=B 1 53 [y 1,i 0,i 0,i 0,i 3,i 0,A 1083 1]
def Lo:=B 7 53 [y 1,i 0,i 0,i 0,i 3,i 0,A 1094 1]
def qy:=B 1 53 [y 1,i 0,i 0,i 0,i 3,i 0,A 1094 1]
def Ln:Option ap:=some ⟨.map [⟨.agg ⟨[y 1,i 0,i 0,i 0]⟩,t,0⟩] 1,1,true,false,0⟩
def Lm:=B 7 53 [y 1,i 0,i 0,i 0,i 1,i 0,A 1119 1]
def dJ:=B 1 53 [y 1,i 0,i 0,i 0,i 1,i 0,A 1119 1]
def ae5:=C 7 53 [y 1,i 0,i 0,i 0,i 1,i 0,A 1119 1]
def tM:=B 1 271 [A 1134 1,z,z]
def qx:=B 1 2 [i 0]
def Ll:=C 1 2 [i 0]
def dz:=B 1 3 [i 1]
def eF:=B 1 271 [z,z,z]
def Lj:=B 3 271 [z,z,z]
def Li:=C 1 3 [i 1,i 1]
def dI:=B 1 275 (rp 8 (i 0) [])
def nh:=B 1 255 [p 1109]
def ey:=B 1 3 [i 0]
def Al:=B 1 261 [A 1143 2,z,A 1145 2]
def Gq:=B 1 261 [A 1162 2,A 1163 0,A 1164 2]
def cR:=B 1 3 [i 1,i 1]
def Gp:=B 1 53 [y 1,i 0,i 0,i 0,i 1,i 0,A 1196 1]
def yx:=B 1 3 [i 0,i 0,i 0,i 0]
def RH:=B 1 279 (y 4::(rp 5 (i 0) [A 1119 1]))
def ae4:=B 1 279 (y 4::(rp 5 (i 0) [A 1206 1]))
def RG:=B 1 381 (i 1::y 4::(rp 5 (i 0) [A 1206 1]))
def Lh:=C 8 381 (i 0::y 0::(rp 5 (i 0) [z]))
def yw:=B 1 275 (i 1::(rp 7 (i 0) []))
def ae3:=B 7 279 (y 4::(rp 5 (i 0) [A 1219 1]))
def Lg:=B 1 279 (y 4::(rp 5 (i 0) [A 1219 1]))
def qw:=B 1 330 [i 1,i 1,A 1239 6]
def Lf:=B 4 466 []
def iT:=B 4 50 [y 1,i 0,i 0,i 0]
def ae2:=B 1 392 [A 1346 1,z,z,A 1367 1,i 2]
def Aj:=B 1 396 [A 1219 1,i 1,z,i 0,z]
def fp:=B 1 2 []
def Le:=B 1 401 [y 1,i 1,i 0,i 0,i 0,i 0,f,A 1365 1]
def Ld:=B 1 103 [i 0,i 1,i 0]
def dH:=B 1 53 (y 0::(rp 5 (i 0) [z]))
def iS:=B 1 50 [y 5,i 0,i 1,i 0]
def qv:=B 1 3 [.int .i64 (-1),i 0,.int .i64 (-1),i 0]
def iR:=B 1 50 [y 6,i 0,i 1,i 0]
def RF:=B 1 108 [i 2,i 0,A 1404 1]
def iQ:=B 1 50 [y 7,i 0,i 1,i 0]
def RE:=B 1 279 [y 5,i 1,i 0,i 0,i 0,i 0,A 1404 1]
def ae1:=B 1 279 [y 5,i 1,i 0,i 0,i 0,i 0,A 1433 1]
def Gn:=B 1 381 [i 2,y 5,i 1,i 0,i 0,i 0,i 0,A 1433 1]
def Gm:=B 1 261 [A 1443 2,A 1444 0,A 1445 2]
def CU:=B 3 271 (A 1346 1::(rp 5 z []))
def pr:=B 1 3 [i 2]
def ae0:=B 7 279 [y 5,i 1,i 0,i 0,i 0,i 0,A 1469 1]
def Lc:=B 1 279 [y 5,i 1,i 0,i 0,i 0,i 0,A 1469 1]
def yu:=B 1 392 [z,z,z,z,i 0]
def Gl:=B 1 261 [A 1505 2,A 1506 0,A 1507 2]
def vk:=B 1 3 [i 3]
def Gk:=B 1 261 [A 1527 2,A 1528 0,A 1529 2]
def vj:=B 1 3 [i 4]
def Gj:=B 1 261 [A 1549 2,A 1550 0,A 1551 2]
def vh:=B 1 3 [i 5]
def Gi:=B 1 261 [A 1571 2,A 1572 0,A 1573 2]
def yt:=B 1 3 [i 6]
def Gh:=B 1 261 [A 1593 2,A 1594 0,A 1595 2]
def RD:=B 1 147 (i 1::i 0::y 4::(rp 5 (i 0) [A 1601 1]))
def RB:=B 1 147 [i 1,i 0,y 8,i 1,i 0,i 0,i 0,i 0,A 1603 1]
def RA:=B 1 147 (i 2::i 1::y 5::(rp 5 (i 0) [A 1605 1]))
def Lb:=B 1 261 [A 1616 2,A 1617 0,A 1618 2]
def cQ:=B 1 269 []
def La:=B 1 261 [A 1632 2,A 1633 0,A 1634 2]
def CT:=B 1 271 [A 1346 1,z,z]
def K9:=B 1 261 [A 1648 2,A 1649 0,A 1650 2]
def K8:=B 1 261 [A 1664 2,A 1665 0,A 1666 2]
def K7:=B 1 261 [A 1680 2,A 1681 0,A 1682 2]
def K6:=B 1 261 [A 1696 2,A 1697 0,A 1698 2]
def K5:=B 1 261 [A 1712 2,A 1713 0,A 1714 2]
def K4:=B 7 53 [y 1,i 0,i 0,i 0,i 3,i 0,A 1739 1]
def dG:=B 1 53 [y 1,i 0,i 0,i 0,i 3,i 0,A 1739 1]
def ad9:=C 7 53 [y 1,i 0,i 0,i 0,i 3,i 0,A 1739 1]
def qu:=B 1 271 [A 1754 1,z,z]
def ng:=B 1 255 [p 1729]
def Ai:=B 1 261 [A 1763 2,z,A 1765 2]
def Gg:=B 1 261 [A 1782 2,A 1783 0,A 1784 2]
def Rz:=B 3 271 (A 1754 1::(rp 5 z []))
def Gf:=B 1 261 [A 1804 2,A 1805 0,A 1806 2]
def Ge:=B 1 261 [A 1826 2,A 1827 0,A 1828 2]
def Gd:=B 1 53 [y 1,i 0,i 0,i 0,i 3,i 0,A 1860 1]
def Ry:=B 1 279 (y 4::(rp 5 (i 0) [A 1739 1]))
def ad8:=B 1 279 (y 4::(rp 5 (i 0) [A 1870 1]))
def Rx:=B 1 381 (i 3::y 4::(rp 5 (i 0) [A 1870 1]))
def ad7:=B 7 279 (y 4::(rp 5 (i 0) [A 1883 1]))
def K3:=B 1 279 (y 4::(rp 5 (i 0) [A 1883 1]))
def qp:=B 1 330 [i 1,i 1,A 1903 6]
def ad6:=B 1 392 [A 2010 1,z,z,A 2031 1,i 2]
def Ah:=B 1 396 [A 1883 1,i 3,z,i 0,z]
def K0:=B 1 401 [y 1,i 1,i 0,i 0,i 0,i 0,f,A 2029 1]
def Rw:=B 1 108 [i 4,i 0,A 2068 1]
def Rv:=B 1 279 [y 5,i 1,i 0,i 0,i 0,i 0,A 2068 1]
def ad5:=B 1 279 [y 5,i 1,i 0,i 0,i 0,i 0,A 2097 1]
def Gc:=B 1 381 [i 4,y 5,i 1,i 0,i 0,i 0,i 0,A 2097 1]
def Gb:=B 1 261 [A 2107 2,A 2108 0,A 2109 2]
def KZ:=B 3 271 (A 2010 1::(rp 5 z []))
def ad4:=B 7 279 [y 5,i 1,i 0,i 0,i 0,i 0,A 2133 1]
def KY:=B 1 279 [y 5,i 1,i 0,i 0,i 0,i 0,A 2133 1]
def Ga:=B 1 261 [A 2169 2,A 2170 0,A 2171 2]
def F':=B 1 261 [A 2191 2,A 2192 0,A 2193 2]
def F9:=B 1 261 [A 2213 2,A 2214 0,A 2215 2]
def Ru:=B 1 147 (i 3::i 0::y 4::(rp 5 (i 0) [A 2221 1]))
def Rt:=B 1 147 [i 3,i 0,y 8,i 1,i 0,i 0,i 0,i 0,A 2223 1]
def Rs:=B 1 147 (i 4::i 1::y 5::(rp 5 (i 0) [A 2225 1]))
def KX:=B 1 261 [A 2236 2,A 2237 0,A 2238 2]
def KW:=B 1 261 [A 2252 2,A 2253 0,A 2254 2]
def KV:=B 1 261 [A 2268 2,A 2269 0,A 2270 2]
def KT:=B 1 261 [A 2284 2,A 2285 0,A 2286 2]
def KS:=B 1 271 [A 2010 1,z,z]
def KR:=B 1 261 [A 2300 2,A 2301 0,A 2302 2]
def KQ:=B 1 261 [A 2316 2,A 2317 0,A 2318 2]
def KP:=B 1 261 [A 2332 2,A 2333 0,A 2334 2]
def Rr:=B 1 9 [s [34,97,34,32,114,101,113,117,101,115,116,32,48,32,48,32,48,32,48,32,48,32,52],s [34,97,34,32,115,101,110,100,32,34,98,34,32,48,32,48,32,48,32,48,32,52],s [34,98,34,32,109,101,115,115,97,103,101,32,34,97,34,32,48,32,48,32,48,32,48,32,52]]
def cm:=B 1 5 [y 34]
def qo:=B 1 5 [y 97]
def qn:=C 1 5 [y 34,y 97,y 34]
def qm:=B 1 412 [e,s [102,108,105,112],s [100,101,112,108,111,121],s [99,114,97,115,104],s [114,101,113,117,101,115,116],s [109,101,115,115,97,103,101],s [116,105,109,101,114],s [100,105,115,99,97,114,100],s [115,101,110,100],s [115,101,116],s [100,105,115,107],s [102,97,117,108,116]]
def KO:=B 1 9 [s [34,97,34],s [114,101,113,117,101,115,116]]
def mv:=B 1 9 [s [48]]
def pq:=B 1 9 [s [48],s [48],s [48]]
def tL:=B 1 9 [s [52]]
def Rq:=C 1 9 (s [34,97,34]::s [114,101,113,117,101,115,116]::(rp 5 (s [48]) [s [52]]))
def Rp:Option ap:=some ⟨.cells [y 34,y 97,y 34,y 32,y 114,y 101,y 113,y 117,y 101,y 115,y 116,y 32,y 48,y 32,y 48,y 32,y 48,y 32,y 48,y 32,y 48,y 32,y 52],1,false,true,5⟩
def Ro:=B 1 9 [s [34,97,34,32,114,101,113,117,101,115,116,32,48,32,48,32,48,32,48,32,48,32,52]]
def KN:=B 1 9 [s [34,97,34],s [115,101,110,100]]
def yr:=B 1 5 [y 98]
def yq:=C 1 5 [y 34,y 98,y 34]
def KM:=B 1 9 [s [34,98,34]]
def Rm:=C 1 9 [s [34,97,34],s [115,101,110,100],s [34,98,34],s [48],s [48],s [48],s [48],s [52]]
def Rl:Option ap:=some ⟨.cells [y 34,y 97,y 34,y 32,y 115,y 101,y 110,y 100,y 32,y 34,y 98,y 34,y 32,y 48,y 32,y 48,y 32,y 48,y 32,y 48,y 32,y 52],1,false,true,5⟩
def Rk:=B 1 9 [s [34,97,34,32,115,101,110,100,32,34,98,34,32,48,32,48,32,48,32,48,32,52]]
def KK:=B 1 9 [s [34,98,34],s [109,101,115,115,97,103,101]]
def KJ:=B 1 9 [s [34,97,34]]
def KI:=C 1 9 [s [34,98,34],s [109,101,115,115,97,103,101],s [34,97,34],s [48],s [48],s [48],s [48],s [52]]
def KH:Option ap:=some ⟨.cells [y 34,y 98,y 34,y 32,y 109,y 101,y 115,y 115,y 97,y 103,y 101,y 32,y 34,y 97,y 34,y 32,y 48,y 32,y 48,y 32,y 48,y 32,y 48,y 32,y 52],1,false,true,5⟩
def KG:=B 1 9 [s [34,98,34,32,109,101,115,115,97,103,101,32,34,97,34,32,48,32,48,32,48,32,48,32,52]]
def ad3:=B 1 228 [p 2503,A 2504 25]
def ad2:Option ap:=some ⟨.map [⟨s [34,97,34,32,114,101,113,117,101,115,116,32,48,32,48,32,48,32,48,32,48,32,52],i 0,0⟩,⟨s [34,97,34,32,115,101,110,100,32,34,98,34,32,48,32,48,32,48,32,48,32,52],i 1,1⟩,⟨s [34,98,34,32,109,101,115,115,97,103,101,32,34,97,34,32,48,32,48,32,48,32,48,32,52],i 2,2⟩] 3,1,true,false,0⟩
def ad1:=B 1 480 [.map (some 2506)]
def F8:=B 1 3 [i 0,i 1,i 2]
def ad0:=B 2 286 [i 0,i 0]
def ac9:=B 2 286 [i 1,i 1]
def ac8:=B 2 286 [i 2,i 2]
def ac7:=B 1 409 [A 2523 1]
def CS:=B 1 346 [.int .u64 0]
def KF:=B 1 21 [.int .i32 0]
def Rj:=B 2 286 [i 3,i 3]
def ac6:=C 2 286 [i 0,i 0,i 1,i 1,i 2,i 2,i 3,i 3]
def ac5:=B 1 286 [i 0,i 0]
def ac4:=B 1 286 [i 1,i 1]
def ac3:=B 1 286 [i 2,i 2]
def Ri:=B 1 286 [i 3,i 3]
def yp:=B 1 35 [p 1064,A 2540 1,z,i 6]
def nc:=B 1 33 [A 2540 1]
def Rh:=B 1 53 [y 1,i 0,i 0,i 0,i 1,i 0,A 2533 1]
def ac2:=B 7 53 [y 1,i 0,i 0,i 0,i 1,i 0,A 2544 1]
def tK:=B 1 53 [y 1,i 0,i 0,i 0,i 1,i 0,A 2544 1]
def yo:=B 1 35 [p 1064,A 2556 1,z,i 6]
def Ag:=B 1 2 [i 5]
def lW:=B 1 33 [A 2556 1]
def Rg:=B 1 53 [y 1,i 0,i 0,i 0,i 3,i 0,A 2549 1]
def Rf:=B 7 53 [y 1,i 0,i 0,i 0,i 3,i 0,A 2560 1]
def tJ:=B 1 53 [y 1,i 0,i 0,i 0,i 3,i 0,A 2560 1]
def lV:=C 1 2 [i 5]
def KE:=B 7 53 [y 1,i 0,i 0,i 0,i 1,i 0,A 2585 1]
def dF:=B 1 53 [y 1,i 0,i 0,i 0,i 1,i 0,A 2585 1]
def ac1:=C 7 53 [y 1,i 0,i 0,i 0,i 1,i 0,A 2585 1]
def tI:=B 1 271 [A 2600 1,z,z]
def na:=B 1 255 [p 2575]
def Af:=B 1 261 [A 2609 2,z,A 2611 2]
def F7:=B 1 261 [A 2628 2,A 2629 0,A 2630 2]
def F6:=B 1 53 [y 1,i 0,i 0,i 0,i 1,i 0,A 2662 1]
def Re:=B 1 279 (y 4::(rp 5 (i 0) [A 2585 1]))
def ac0:=B 1 279 (y 4::(rp 5 (i 0) [A 2672 1]))
def Rc:=B 1 381 (i 1::y 4::(rp 5 (i 0) [A 2672 1]))
def ab9:=B 7 279 (y 4::(rp 5 (i 0) [A 2685 1]))
def KD:=B 1 279 (y 4::(rp 5 (i 0) [A 2685 1]))
def ql:=B 1 330 [i 1,i 1,A 2705 6]
def ab8:=B 1 392 [A 2812 1,z,z,A 2833 1,i 2]
def Ae:=B 1 396 [A 2685 1,i 1,z,i 0,z]
def KC:=B 1 401 [y 1,i 1,i 0,i 0,i 0,i 0,f,A 2831 1]
def Rb:=B 1 108 [i 2,i 0,A 2870 1]
def Ra:=B 1 279 [y 5,i 1,i 0,i 0,i 0,i 0,A 2870 1]
def ab7:=B 1 279 [y 5,i 1,i 0,i 0,i 0,i 0,A 2899 1]
def F5:=B 1 381 [i 2,y 5,i 1,i 0,i 0,i 0,i 0,A 2899 1]
def F4:=B 1 261 [A 2909 2,A 2910 0,A 2911 2]
def CR:=B 3 271 (A 2812 1::(rp 5 z []))
def ab6:=B 7 279 [y 5,i 1,i 0,i 0,i 0,i 0,A 2935 1]
def KB:=B 1 279 [y 5,i 1,i 0,i 0,i 0,i 0,A 2935 1]
def F3:=B 1 261 [A 2971 2,A 2972 0,A 2973 2]
def F2:=B 1 261 [A 2993 2,A 2994 0,A 2995 2]
def F1:=B 1 261 [A 3015 2,A 3016 0,A 3017 2]
def F0:=B 1 261 [A 3037 2,A 3038 0,A 3039 2]
def FY:=B 1 261 [A 3059 2,A 3060 0,A 3061 2]
def Q9:=B 1 147 (i 1::i 0::y 4::(rp 5 (i 0) [A 3067 1]))
def Q8:=B 1 147 [i 1,i 0,y 8,i 1,i 0,i 0,i 0,i 0,A 3069 1]
def Q7:=B 1 147 (i 2::i 1::y 5::(rp 5 (i 0) [A 3071 1]))
def KA:=B 1 261 [A 3082 2,A 3083 0,A 3084 2]
def Kz:=B 1 261 [A 3098 2,A 3099 0,A 3100 2]
def CP:=B 1 271 [A 2812 1,z,z]
def Kx:=B 1 261 [A 3114 2,A 3115 0,A 3116 2]
def Kw:=B 1 261 [A 3130 2,A 3131 0,A 3132 2]
def Kv:=B 1 261 [A 3146 2,A 3147 0,A 3148 2]
def Ku:=B 1 261 [A 3162 2,A 3163 0,A 3164 2]
def Kt:=B 1 261 [A 3178 2,A 3179 0,A 3180 2]
def Ks:=B 7 53 [y 1,i 0,i 0,i 0,i 3,i 0,A 3205 1]
def dE:=B 1 53 [y 1,i 0,i 0,i 0,i 3,i 0,A 3205 1]
def ab5:=C 7 53 [y 1,i 0,i 0,i 0,i 3,i 0,A 3205 1]
def qk:=B 1 271 [A 3220 1,z,z]
def mZ:=B 1 255 [p 3195]
def Ad:=B 1 261 [A 3229 2,z,A 3231 2]
def FX:=B 1 261 [A 3248 2,A 3249 0,A 3250 2]
def Q6:=B 3 271 (A 3220 1::(rp 5 z []))
def FW:=B 1 261 [A 3270 2,A 3271 0,A 3272 2]
def FV:=B 1 261 [A 3292 2,A 3293 0,A 3294 2]
def FU:=B 1 53 [y 1,i 0,i 0,i 0,i 3,i 0,A 3326 1]
def Q5:=B 1 279 (y 4::(rp 5 (i 0) [A 3205 1]))
def ab4:=B 1 279 (y 4::(rp 5 (i 0) [A 3336 1]))
def Q4:=B 1 381 (i 3::y 4::(rp 5 (i 0) [A 3336 1]))
def ab3:=B 7 279 (y 4::(rp 5 (i 0) [A 3349 1]))
def Kr:=B 1 279 (y 4::(rp 5 (i 0) [A 3349 1]))
def qj:=B 1 330 [i 1,i 1,A 3369 6]
def ab2:=B 1 392 [A 3476 1,z,z,A 3497 1,i 2]
def Ab:=B 1 396 [A 3349 1,i 3,z,i 0,z]
def Kq:=B 1 401 [y 1,i 1,i 0,i 0,i 0,i 0,f,A 3495 1]
def Q3:=B 1 108 [i 4,i 0,A 3534 1]
def Q2:=B 1 279 [y 5,i 1,i 0,i 0,i 0,i 0,A 3534 1]
def ab1:=B 1 279 [y 5,i 1,i 0,i 0,i 0,i 0,A 3563 1]
def FT:=B 1 381 [i 4,y 5,i 1,i 0,i 0,i 0,i 0,A 3563 1]
def FR:=B 1 261 [A 3573 2,A 3574 0,A 3575 2]
def Kp:=B 3 271 (A 3476 1::(rp 5 z []))
def ab0:=B 7 279 [y 5,i 1,i 0,i 0,i 0,i 0,A 3599 1]
def Ko:=B 1 279 [y 5,i 1,i 0,i 0,i 0,i 0,A 3599 1]
def FQ:=B 1 261 [A 3635 2,A 3636 0,A 3637 2]
def FP:=B 1 261 [A 3657 2,A 3658 0,A 3659 2]
def FO:=B 1 261 [A 3679 2,A 3680 0,A 3681 2]
def Q1:=B 1 147 (i 3::i 0::y 4::(rp 5 (i 0) [A 3687 1]))
def Q0:=B 1 147 [i 3,i 0,y 8,i 1,i 0,i 0,i 0,i 0,A 3689 1]
def QZ:=B 1 147 (i 4::i 1::y 5::(rp 5 (i 0) [A 3691 1]))
def Kn:=B 1 261 [A 3702 2,A 3703 0,A 3704 2]
def Km:=B 1 261 [A 3718 2,A 3719 0,A 3720 2]
def Kl:=B 1 261 [A 3734 2,A 3735 0,A 3736 2]
def Kk:=B 1 261 [A 3750 2,A 3751 0,A 3752 2]
def Kj:=B 1 271 [A 3476 1,z,z]
def Ki:=B 1 261 [A 3766 2,A 3767 0,A 3768 2]
def Kh:=B 1 261 [A 3782 2,A 3783 0,A 3784 2]
def Kg:=B 1 261 [A 3798 2,A 3799 0,A 3800 2]
def QY:=B 1 9 [s [53]]
def aa9:=B 1 21 [.int .i32 0,.int .i32 0,.int .i32 0,.int .i32 0]
def kc0:List (Option ap):=[Nr,Nq,Np,No,N,Nn,Nm]
def ri:List (Option ap):=[Nr,Nq,Np,No,N,Nn,Nm,fx,B 1 122 [A 147 45,i 45,i 103,s [102],z,z,A 404 2,i 0,i 0],D7,B 1 9 [s [102,108,101,101,116,32,102,32,123,32,99,111,109,112,111,110,101,110,116,32,97,32,123,32,118,97,114,32,120,58,32,105,110,116,32,61,32,48,59,32,111,110,32,104,40,105,41,32,123,32,120,32,61,32,105,59,32,115,101,110,100,32,98,46,103,40,120,41,59,32,125,32,125,32,99,111,109,112,111,110,101,110,116,32,98,32,123,32,111,110,32,103,40,106,41,32,123,32,125,32,125,32,125]],N,N,aF5,B 3 200 [y 2,s [102,108,101,101,116],i 0],N,Te,B 3 200 [y 1,s [102],i 6],N,aF4,B 3 200 [y 4,s [123],i 8],N,Mn,B 3 200 [y 2,s [99,111,109,112,111,110,101,110,116],i 10],N,Td,B 3 200 [y 1,s [97],i 20],N,aF3,B 3 200 [y 4,s [123],i 22],N,aF2,B 3 200 [y 2,s [118,97,114],i 24],N,Tc,B 3 200 [y 1,s [120],i 28],N,aF1,B 3 200 [y 4,s [58],i 29],N,aF0,B 3 200 [y 2,s [105,110,116],i 31],N,aE9,B 3 200 [y 4,s [61],i 35],N,Mm,B 3 200 [y 3,s [48],i 37],N,aE8,B 3 200 [y 4,s [59],i 38],N,Tb,B 3 200 [y 2,s [111,110],i 40],N,Ta,B 3 200 [y 1,s [104],i 43],N,aE7,B 3 200 [y 4,s [40],i 44],N,Ml,B 3 200 [y 1,s [105],i 45],N]
def rf:List (Option ap):=[S',B 3 200 [y 4,s [41],i 46],N,aE6,B 3 200 [y 4,s [123],i 48],N,qI,B 3 200 [y 1,s [120],i 50],N,S9,B 3 200 [y 4,s [61],i 52],N,qH,B 3 200 [y 1,s [105],i 54],N,nz,B 3 200 [y 4,s [59],i 55],N,AQ,B 3 200 [y 2,s [115,101,110,100],i 57],N,S8,B 3 200 [y 1,s [98],i 62],N,aE5,B 3 200 [y 4,s [46],i 63],N,S7,B 3 200 [y 1,s [103],i 64],N,aE4,B 3 200 [y 4,s [40],i 65],N,pH,B 3 200 [y 1,s [120],i 66],N,mC,B 3 200 [y 4,s [41],i 67],N,aE3,B 3 200 [y 4,s [59],i 68],N,S6,B 3 200 [y 4,s [125],i 70],N,Mj,B 3 200 [y 4,s [125],i 72],N,aE2,B 3 200 [y 2,s [99,111,109,112,111,110,101,110,116],i 74],N,S5,B 3 200 [y 1,s [98],i 84],N,aE1,B 3 200 [y 4,s [123],i 86],N,S4,B 3 200 [y 2,s [111,110],i 88],N,S3,B 3 200 [y 1,s [103],i 91],N,aE0]
def rc:List (Option ap):=[B 3 200 [y 4,s [40],i 92],N,Mi,B 3 200 [y 1,s [106],i 93],N,S2,B 3 200 [y 4,s [41],i 94],N,aD9,B 3 200 [y 4,s [123],i 96],N,S1,B 3 200 [y 4,s [125],i 98],N,Mh,B 3 200 [y 4,s [125],i 100],N,S0,B 3 200 [y 4,s [125],i 102],C 3 200 [y 2,s [102,108,101,101,116],i 0,y 1,s [102],i 6,y 4,s [123],i 8,y 2,s [99,111,109,112,111,110,101,110,116],i 10,y 1,s [97],i 20,y 4,s [123],i 22,y 2,s [118,97,114],i 24,y 1,s [120],i 28,y 4,s [58],i 29,y 2,s [105,110,116],i 31,y 4,s [61],i 35,y 3,s [48],i 37,y 4,s [59],i 38,y 2,s [111,110],i 40,y 1,s [104],i 43,y 4,s [40],i 44,y 1,s [105],i 45,y 4,s [41],i 46,y 4,s [123],i 48,y 1,s [120],i 50,y 4,s [61],i 52,y 1,s [105],i 54,y 4,s [59],i 55,y 2,s [115,101,110,100],i 57,y 1,s [98],i 62,y 4,s [46],i 63,y 1,s [103],i 64,y 4,s [40],i 65,y 1,s [120],i 66,y 4,s [41],i 67,y 4,s [59],i 68,y 4,s [125],i 70,y 4,s [125],i 72,y 2,s [99,111,109,112,111,110,101,110,116],i 74,y 1,s [98],i 84,y 4,s [123],i 86,y 2,s [111,110],i 88,y 1,s [103],i 91,y 4,s [40],i 92,y 1,s [106],i 93,y 4,s [41],i 94,y 4,s [123],i 96,y 4,s [125],i 98,y 4,s [125],i 100,y 4,s [125],i 102],D7,aF5,Te,Te,aF4,Mn,Mn,Mn,eV,Td,Td,aF3,aF2,gb,Tc,Tc,gb,aF1,aF0,aE9,Mm,Mm,Mm,aE8,B 3 180 [s [120],y 1,i 0],ai3,Tb,D7,gX,gX,Tb,Ta,Ta,eQ,aE7,Ml,Ml,Ml,RN,ai2,S',S',aE6,qI]
def rb:List (Option ap):=[D7,vu,vu,B 1 231 [.func (.func 334) ⟨[]⟩ ⟨[p 194,p 192]⟩],qI,qI,qI,qI,qI,qI,qI,qI,qI,qI,S9,S9,ai1,ga,ai0,ga,ga,ah9,ga,ga,ga,ah8,ga,ga,ah7,ga,ga,ah6,ah5,qH,ah4,qH,ga,qH,qH,qH,qH,qH,qH,qH,qH,qH,nz,ga,ah3,nz,ah2,nz,ah1,nz,ga,ah0,nz,ag9,nz,ga,ag8,ag7,nz,ag6]
def ra:List (Option ap):=[nz,ag5,nz,ag4,nz,ag3,nz,ag2,nz,ga,ag1,nz,ga,ag0,nz,C 4 306 [y 5,s [105],i 0,z],nz,B 6 301 [y 1,s [120],e,A 271 1,z,z],N,AQ,D7,nq,nq,B 1 231 [.func (.func 334) ⟨[]⟩ ⟨[p 278,p 276]⟩],AQ,AQ,AQ,AQ,AQ,S8,S8,aE5,S7,S7,aE4,pH,ai1,eU,ai0,eU,eU,ah9,eU,eU,eU,ah8,eU,eU,ah7,eU,eU,ah6,ah5,pH,ah4,pH,eU,pH,pH,pH,pH,pH,pH,pH]
def qZ:List (Option ap):=[pH,pH,mC,eU,ah3,mC,ah2,mC,ah1,mC,eU,ah0,mC,ag9,mC,eU,ag8,ag7,mC,ag6,mC,ag5,mC,ag4,mC,ag3,mC,ag2,mC,eU,ag1,mC,eU,ag0,mC,C 4 306 [y 5,s [120],i 0,z],mC,mC,aE3,B 6 301 [y 6,s [98],s [103],A 355 1,z,z],C 6 301 [y 1,s [120],e,A 271 1,z,z,y 6,s [98],s [103],A 355 1,z,z],S6,S6,B 3 190 [s [104],A 187 1,A 360 2],C 3 190 [s [104],A 187 1,A 360 2],Mj,gX,af9,Mj,Mj,B 3 177 [s [97],A 173 1,A 366 1],N,aE2,dP,S5,S5,aE1,S4,D7,eg,eg,S4,S3,S3]
def qY:List (Option ap):=[cK,aE0,Mi,Mi,Mi,af8,vr,S2,S2,aD9,S1,S1,B 3 190 [s [103],A 390 1,z],C 3 190 [s [103],A 390 1,z],Mh,eg,af9,Mh,Mh,B 3 177 [s [98],z,A 399 1],C 3 177 [s [97],A 173 1,A 366 1,s [98],z,A 399 1],S0,S0,fx,fx,eV,Lu,gX,eQ,dP,Lt,eg,cK,fx,eV,gX,eQ,eQ,ga,ga,eU,eU,dP,eg,cK,cK,fx,eV,gb,dP,fx,eV,gX,eQ,eQ,lZ,lZ,eG,eG,lY,lY,eG,eG,dP]
def kc8:List (Option ap):=[eg,cK,cK,fx,eV,gb,gb,dP,fx,eV,gX,eQ,eQ,lZ,lZ,eG,eG,lY,lY,eG,eG,dP,eg,cK,cK]
def sI:List (Option ap):=[eg,cK,cK,fx,eV,gb,gb,dP,fx,eV,gX,eQ,eQ,lZ,lZ,eG,eG,lY,lY,eG,eG,dP,eg,cK,cK,fx,fx,fx,fx,fx,eV,Lu,gX,eQ,dP,Lt,eg,cK,fx,eV,gX,eQ,eQ,ga,ga,eU,eU,dP,eg,cK,cK,fx,eV,gb,dP,fx,eV,gX,eQ,eQ,lZ,lZ,eG,eG]
def sk:List (Option ap):=[lY,lY,eG,eG,dP,eg,cK,cK,fx,eV,gb,gb,dP,fx,eV,gX,eQ,eQ,lZ,lZ,eG,eG,lY,lY,eG,eG,dP,eg,cK,cK,fx,af7,B 1 324 [s [102],z,z,A 404 2,s [104,97,110,100,108,101,114,32,98,46,103,32,49],e,e,i 0],fx,fx,eV,Lu,gX,eQ,dP,Lt,eg,cK,fx,eV,gX,eQ,eQ,ga,ga,eU,eU,dP,eg,cK,cK,fx,eV,gb,dP,fx,eV,gX,eQ]
def sj:List (Option ap):=[eQ,lZ,lZ,eG,eG,lY,lY,eG,eG,dP,eg,cK,cK,fx,eV,gb,gb,dP,fx,eV,gX,eQ,eQ,lZ,lZ,eG,eG,lY,lY,eG,eG,dP,eg,cK,cK,eV,Ls,Ls,B 1 9 [s [97]],gb,CY,CY,RM,gX,eQ,af6,yD,yD,af6,yD,yD,eV,eQ,CY,gb,CY,RN,B 1 506 [p 544,z,A 173 1,A 187 1,s [97],A 173 1,A 366 1,s [115,116,97,116,101,109,101,110,116,32,97,46,104,32,49,32],i 2],vu,vu,vq,gb,gb,gb]
def si:List (Option ap):=[gb,ga,vq,ga,vq,vq,vq,nq,nq,dP,dP,eV,dP,dP,cK,eg,cK,cK,eU,vq,eU,vq,vq,gb,gb,gb,vq,dP,Ls,Ls,eV,B 1 9 [s [98]],eg,cK,af5,yD,yD,af5,yD,yD,dP,cK,CY,CY,af8,B 1 506 [p 544,z,z,A 390 1,s [98],z,A 399 1,s [115,116,97,116,101,109,101,110,116,32,98,46,103,32,49,32],i 0],af7,B 1 215 [s [102],z,z,A 404 2,A 703 2,i 1,z,z,z,A 390 1,z],eV,eV,gX,eQ,B 1 9 [s [104]],vp,B 1 96 [A 693 1],N,dP,dP,eg,cK,B 1 9 [s [103]],GB,B 1 96 [A 701 1],C 1 96 [A 693 1,A 701 1]]
def sh:List (Option ap):=[B 1 219 [A 801 2],CX,eV,gb,RM,C 1 9 [s [120]],CX,B 3 330 [i 1,i 1,A 744 6],af4,gX,eQ,eQ,B 1 330 [i 1,i 1,A 744 6],vu,vu,bG,af3,N,ga,ga,eP,B 4 466 [y 3,i 0,i 0,i 0],N,eO,B 4 466 [y 24,i 0,i 0,i 0],N,nq,nq,bG,af3,N,eU,eU,eN,B 4 466 [y 2,i 0,i 0,i 0],N,eV,dP,ee,B 4 466 [y 30,i 1,i 0,i 1],GA,Gz,B 1 158 [A 745 7],bG,dY,dY,bG,eP,jJ,jJ,eP,eO,jI,jI,eO,bG,dY,dY,bG,eN,jH,jH,eN,ee]
def sf:List (Option ap):=[mw,Gy,ee,af2,C 3 330 [i 1,i 1,A 744 6],B 1 327 [A 772 1],C 1 327 [A 772 1],cJ,af1,B 1 259 [A 776 1],C 1 259 [A 776 1],B 3 223 [A 693 1,A 774 1,A 778 1],N,CW,dP,CW,B 3 330 [i 1,i 0,z],af4,eg,cK,cK,iG,Gx,B 1 158 [A 790 1],af2,C 3 330 [i 1,i 0,z],B 1 327 [A 793 1],C 1 327 [A 793 1],cJ,af1,B 1 259 [A 797 1],C 1 259 [A 797 1],B 3 223 [A 701 1,A 795 1,A 799 1],C 3 223 [A 693 1,A 774 1,A 778 1,A 701 1,A 795 1,A 799 1],fx,fx,fx,eV,Lu,gX,eQ,dP,Lt,eg,cK,fx,eV,gX,eQ,eQ,ga,ga,eU,eU,dP,eg,cK,cK,fx,eV,gb,dP,fx,eV]
def se:List (Option ap):=[gX,eQ,eQ,lZ,lZ,eG,eG,lY,lY,eG,eG,dP,eg,cK,cK,fx,eV,gb,gb,dP,fx,eV,gX,eQ,eQ,lZ,lZ,eG,eG,lY,lY,eG,eG,dP,eg,cK,cK,B 1 230 [p 869,A 993 144,i 0],B 1 9 [s [102,108,101,101,116,32],s [102],s [32,123]],N,N,N,pu,N,eV,eV,B 1 9 [s [99,111,109,112,111,110,101,110,116,32],s [97],s [32,123]],N,N,N,N,pu,N,gb,B 1 9 [s [118,97,114,32],s [120],s [58,32,105,110,116,32,61,32],s [48],s [59]],N,N,N,N,N,N,N,pu,N]
def sd:List (Option ap):=[gX,gX,eQ,B 1 9 [s [111,110,32],s [104],s [40],s [105],s [41,32,123]],N,N,N,N,N,N,N,pu,N,vu,vu,RN,ga,ga,eG,eG,B 1 9 [s [120],s [32,61,32],s [105],s [59]],N,N,N,N,N,N,N,pu,N,nq,nq,RM,eU,eU,eG,eG,B 1 9 [s [115,101,110,100,32],s [98],s [46],s [103],s [40],s [120],s [41,59]],N,N,N,N,N,N,N,N,N,N,pu,N,Gw,N,N,N,pu,N,Gw,N,N,pu,N,dP,dP,B 1 9 [s [99,111,109,112,111,110,101,110,116,32],s [98],s [32,123]]]
def r9:List (Option ap):=[N,N,N,N,pu,N,eg,eg,cK,B 1 9 [s [111,110,32],s [103],s [40],s [106],s [41,32,123]],N,N,N,N,N,N,N,pu,N,Gw,N,N,N,pu,N,Gw,N,N,pu,N,Gw,N,pu,vo,af0,af0,B 2 172 [],B 3 173 [],B 3 177 [s [97],A 1003 1,A 1004 1,s [98],A 1038 0,A 1039 1],eV,ij,ij,vm,ai3,CV,gX,gX,CV,B 3 190 [s [104],A 1013 1,A 1014 2],eQ,eQ,Gv,jg,ai2,B 6 301 [y 1,s [120],e,A 1018 1,A 1023 0,A 1024 0,y 6,s [98],s [103],A 1028 1,A 1033 0,A 1034 0],vu,ae9,ae9,B 4 306 [y 5,s [105],i 0,A 1022 0],ga,ae8,ae8,vl,fP]
def dd9:List (Option ap):=[fP,nq,nn,nn,yC,eU,nj,nj,vl,fP,fP,dP,fq,fq,vm,kz,eg,eg,kz,yB,cK,cK,qz,jg,vr,fP,vo,yA,B 1 348 [w 1779033703,w 3144134277,w 1013904242,w 2773480762,w 1359893119,w 2600822924,w 528734635,w 1541459225,y 102,y 108,y 101,y 101,y 116,y 32,y 102,y 32,y 123,y 10,y 32,y 32,y 99,y 111,y 109,y 112,y 111,y 110,y 101,y 110,y 116,y 32,y 97,y 32,y 123,y 10,y 32,y 32,y 32,y 32,y 118,y 97,y 114,y 32,y 120,y 58,y 32,y 105,y 110,y 116,y 32,y 61,y 32,y 48,y 59,y 10,y 32,y 32,y 32,y 32,y 111,y 110,y 32,y 104,y 40,y 105,y 41,y 32,y 123,y 10,y 32,y 32,y 32,y 32,.int .u64 64]]
def dd8:List (Option ap):=[fP,nq,nn,nn,yC,eU,nj,nj,vl,fP,fP,dP,fq,fq,vm,kz,eg,eg,kz,yB,cK,cK,qz,jg,vr,fP,vo,yA,B 1 348 [w 3221886194,w 279990626,w 1374187455,w 2861650132,w 3656873828,w 2804927552,w 2459345462,w 49236314,y 102,y 108,y 101,y 101,y 116,y 32,y 102,y 32,y 123,y 10,y 32,y 32,y 99,y 111,y 109,y 112,y 111,y 110,y 101,y 110,y 116,y 32,y 97,y 32,y 123,y 10,y 32,y 32,y 32,y 32,y 118,y 97,y 114,y 32,y 120,y 58,y 32,y 105,y 110,y 116,y 32,y 61,y 32,y 48,y 59,y 10,y 32,y 32,y 32,y 32,y 111,y 110,y 32,y 104,y 40,y 105,y 41,y 32,y 123,y 10,y 32,y 32,y 32,y 32,.int .u64 64],An,Am]
def dd7:List (Option ap):=[fP,nq,nn,nn,yC,eU,nj,nj,vl,fP,fP,dP,fq,fq,vm,kz,eg,eg,kz,yB,cK,cK,qz,jg,vr,fP,vo,yA,B 1 348 (w 3221886194::w 279990626::w 1374187455::w 2861650132::w 3656873828::w 2804927552::w 2459345462::w 49236314::y 32::y 32::y 120::y 32::y 61::y 32::y 105::y 59::y 10::(rp 6 (y 32) [y 115,y 101,y 110,y 100,y 32,y 98,y 46,y 103,y 40,y 120,y 41,y 59,y 10,y 32,y 32,y 32,y 32,y 125,y 10,y 32,y 32,y 125,y 10,y 32,y 32,y 99,y 111,y 109,y 112,y 111,y 110,y 101,y 110,y 116,y 32,y 98,y 32,y 123,y 10,y 32,y 32,y 32,y 32,y 111,y 110,y 32,y 103,y 40,y 106,.int .u64 128])),An,Am]
def dd6:List (Option ap):=[fP,nq,nn,nn,yC,eU,nj,nj,vl,fP,fP,dP,fq,fq,vm,kz,eg,eg,kz,yB,cK,cK,qz,jg,vr,fP,vo,yA,B 1 348 (w 573184931::w 3880312475::w 3016764433::w 2708525917::w 3123305595::w 3144248093::w 727666493::w 412283308::y 32::y 32::y 120::y 32::y 61::y 32::y 105::y 59::y 10::(rp 6 (y 32) [y 115,y 101,y 110,y 100,y 32,y 98,y 46,y 103,y 40,y 120,y 41,y 59,y 10,y 32,y 32,y 32,y 32,y 125,y 10,y 32,y 32,y 125,y 10,y 32,y 32,y 99,y 111,y 109,y 112,y 111,y 110,y 101,y 110,y 116,y 32,y 98,y 32,y 123,y 10,y 32,y 32,y 32,y 32,y 111,y 110,y 32,y 103,y 40,y 106,.int .u64 128])),An,Am,Gu,Gs]
def dd5:List (Option ap):=[fP,nq,nn,nn,yC,eU,nj,nj,vl,fP,fP,dP,fq,fq,vm,kz,eg,eg,kz,yB,cK,cK,qz,jg,vr,fP,vo,yA,Lr,An,Am,Gu,Gs,yA,B 1 348 (w 573184931::w 3880312475::w 3016764433::w 2708525917::w 3123305595::w 3144248093::w 727666493::w 412283308::y 41::y 32::y 123::y 10::y 32::y 32::y 32::y 32::y 125::y 10::y 32::y 32::y 125::y 10::y 125::y 10::y 128::(rp 45 (y 0) [y 4,y 128,.int .u64 192])),Lq,Lp]
def dd4:List (Option ap):=[fP,nq,nn,nn,yC,eU,nj,nj,vl,fP,fP,dP,fq,fq,vm,kz,eg,eg,kz,yB,cK,cK,qz,jg,vr,fP,vo,yA,Lr,An,Am,Gu,Gs,yA,RL,Lq,Lp,RK,RJ]
def dd3:List (Option ap):=[fP,nq,nn,nn,yC,eU,nj,nj,vl,fP,fP,dP,fq,fq,vm,kz,eg,eg,kz,yB,cK,cK,qz,jg,vr,fP,vo,tO,Lr,An,Am,Gu,Gs,tO,RL,Lq,Lp,RK,RJ,tO,ae7]
def Mg:List (Option ap):=[fP,nq,nn,nn,yC,eU,nj,nj,vl,fP,fP,dP,fq,fq,vm,kz,eg,eg,kz,yB,cK,cK,qz,jg,vr,fP,vo,tO,Lr,An,Am,Gu,Gs,tO,RL,Lq,Lp,RK,RJ,tO,ae7,B 1 31 [p 1064],yz,iF,B 7 53 [y 1,i 0,i 0,i 0,i 1,i 0,A 1067 1],ni,ni,RI,RI,bJ,ae6,RI,tN,tN,df,ae6,ni,ni,yy,iF,B 7 53 [y 1,i 0,i 0,i 0,i 3,i 0,A 1083 1],lX,lX,Gr]
def dd2:List (Option ap):=[Gr,bJ,Lo,Gr,qy,qy,df,Lo,lX,lX]
def SZ:List (Option ap):=[Gr,bJ,Lo,Gr,qy,qy,df,Lo,lX,lX,yz,yy,yz,yy,tO,tO,yz,yz,ni,Ln,B 1 362 (A 1074 1::z::i 0::i 1::(rp 78 (i 0) [.map (some 1107)])),B 1 368 [R 1209 0 0 1],B 1 263 [p 1064,A 1074 1,z,i 6,A 1128 1,z,p 1108,p 1109,i 7,A 1143 2,z,A 1145 2,A 1598 7,A 1483 3],yz,yz,yz,ni,Lm,tN,dJ,dJ,df,Lm,dJ,dJ,dJ,bJ,jg,vp,Lm,ae5,tM,tM,ij,gb,qx,Ll,B 3 271 [A 1134 1,z,z],N,dz,N,eF,eF,fq,Lj,C 3 271 (A 1346 1::(rp 5 z [])),dz,Li,dJ,dJ,dJ,dJ,dJ,dJ]
def SY:List (Option ap):=[dI,nh,ey,ey,dI,nh,ey,dz,Al,Gq,B 3 271 (A 1134 1::(rp 5 z [])),cJ,cR,Gq,B 3 261 [A 1162 2,A 1163 0,A 1164 2],N,dJ,dJ,dJ,dJ,dJ,dJ,bJ,Gp,bJ,Gp,ni,bJ,Gp,ni,bJ,bJ,tN,bJ,bJ,bJ,yx,tN,bJ,bJ,bJ,yx,Gp,Gp,df,Lm,ae5,dJ,RH,nh,RH,RH,ae4,ae4,df,RG,B 8 381 (i 1::y 4::(rp 5 (i 0) [A 1206 1])),Lh,yw,nh,dz,ey,RG,ae3]
def SX:List (Option ap):=[RG,Lg,Lg,df,ae3,Lg,Lg,B 1 147 (i 0::i 0::y 4::(rp 5 (i 0) [A 1219 1])),ij,jg,vp,ij,CV,Gv,B 1 147 (i 1::i 0::y 4::(rp 5 (i 0) [A 1231 1])),df,B 9 147 (i 1::i 0::y 4::(rp 5 (i 0) [A 1231 1])),N,qw,qw,CX,qw,Lf,GA,qw,ni,iT,tN,iT,bJ,ae2,qw,tM,Aj,ae2,qw,bG,qw,bG,dY,dY,dY,bG,eP,qw,eP,jJ,jJ,jJ,eP,eO,qw,eO,jI,jI,jI,eO,bG,qw,bG,dY,dY,dY,bG]
def SW:List (Option ap):=[eN,qw,eN,jH,jH,jH,eN,ee,qw,ee,mw,mw,mw,ee,Gz,B 1 158 [A 1294 7],bG,dY,dY,bG,eP,jJ,jJ,eP,eO,jI,jI,eO,bG,dY,dY,bG,eN,jH,jH,eN,ee,mw,Gy,ee,bG,bG,tM,Aj,eP,eP,tM,Aj,eO,eO,tM,Aj,bG,bG,tM,Aj,eN,eN,tM,Aj,ee,ee,tM,Aj]
def SV:List (Option ap):=[B 1 470 [A 1346 1,z,z,A 1367 1,i 2,A 1239 6,A 1219 1,i 1,z,i 0,z,R 1352 0 0 1,i 6,i 1,i 0,f],fp,df,bG,bG,eP,eP,iF,df,eO,eO,bG,bG,eN,eN,iF,ee,ee,ee,Le,fp,df,B 8 401 [y 1,i 1,i 0,i 0,i 0,i 0,f,A 1365 1],C 8 401 [y 1,i 1,i 0,i 0,i 0,i 0,f,A 1365 1],Le,Le,Le,Ld,dH,iS,dH,ni,iS,dH,ni,iS,iS,tN,iS,bJ,iS,qv,dH,dH,iR,dH,ni,iR,dH,ni,iR,iR,tN,iR,bJ,iR,qv,dH,RF,RF,df,B 3 108 [i 2,i 0,A 1404 1],C 3 108 [i 2,i 0,A 1404 1],dH]
def SU:List (Option ap):=[iQ,dH,ni,iQ,dH,ni,iQ,iQ,tN,iQ,bJ,iQ,qv,dH,B 1 147 [i 1,i 0,y 8,i 1,i 0,i 0,i 0,i 0,A 1423 1],df,B 9 147 [i 1,i 0,y 8,i 1,i 0,i 0,i 0,i 0,A 1423 1],N,RF,RE,nh,RE,RE,ae1,ae1,df,Gn,B 8 381 [i 2,y 5,i 1,i 0,i 0,i 0,i 0,A 1433 1],dI,nh,dz,dz,Gn,Al,Gm,CU,cJ,cR,Gm,B 3 261 [A 1443 2,A 1444 0,A 1445 2],N,dJ,dJ,dJ,dJ,dJ,dJ,dI,nh,pr,ey,Gn,yw,nh,pr,dz,Gn,ae0,Gn,Lc,Lc,df,ae0,Lc]
def SS:List (Option ap):=[Lc,B 1 147 (i 0::i 1::y 5::(rp 5 (i 0) [A 1469 1])),fq,jg,GB,fq,kz,qz,B 1 147 (i 2::i 1::y 5::(rp 5 (i 0) [A 1481 1])),df,B 9 147 (i 2::i 1::y 5::(rp 5 (i 0) [A 1481 1])),C 9 147 (i 1::i 0::y 4::(rp 5 (i 0) (A 1231 1::i 1::i 0::y 8::i 1::i 0::i 0::i 0::i 0::A 1423 1::i 2::i 1::y 5::(rp 5 (i 0) [A 1481 1])))),iG,iG,CW,iG,iG,ni,iT,tN,iT,bJ,yu,iG,eF,B 1 396 [A 1469 1,i 2,z,i 0,z],yu,iG,Gx,B 1 158 [A 1500 1],B 1 470 [z,z,z,z,i 0,z,A 1469 1,i 2,z,i 0,z,z,i 0,i 0,i 0,f],Al,Gl,CU,cJ,cR,Gl,B 3 261 [A 1505 2,A 1506 0,A 1507 2],N,dJ,dJ,dJ,dJ,dJ,dJ,dI,nh,vk,ey,dI,nh,vk,dz,Al,Gk,CU,cJ,cR,Gk,B 3 261 [A 1527 2,A 1528 0,A 1529 2],N,dJ,dJ,dJ]
def SR:List (Option ap):=[dJ,dJ,dJ,dI,nh,vj,ey,dI,nh,vj,dz,Al,Gj,CU,cJ,cR,Gj,B 3 261 [A 1549 2,A 1550 0,A 1551 2],N,dJ,dJ,dJ,dJ,dJ,dJ,dI,nh,vh,ey,dI,nh,vh,dz,Al,Gi,CU,cJ,cR,Gi,B 3 261 [A 1571 2,A 1572 0,A 1573 2],N,dJ,dJ,dJ,dJ,dJ,dJ,dI,nh,yt,ey,dI,nh,yt,dz,Al,Gh,CU,cJ,cR,Gh,B 3 261 [A 1593 2,A 1594 0,A 1595 2],C 3 261 [A 1162 2,A 1163 0,A 1164 2,A 1443 2,A 1444 0,A 1445 2,A 1505 2,A 1506 0,A 1507 2,A 1527 2,A 1528 0,A 1529 2,A 1549 2,A 1550 0,A 1551 2,A 1571 2,A 1572 0,A 1573 2,A 1593 2,A 1594 0,A 1595 2],B 9 147 (i 1::i 0::y 4::(rp 5 (i 0) (A 1601 1::i 1::i 0::y 8::i 1::i 0::i 0::i 0::i 0::A 1603 1::i 2::i 1::y 5::(rp 5 (i 0) [A 1605 1]))))]
def SQ:List (Option ap):=[RD,df,RB,df,RA,df,iT,some ⟨.iter (some 1107) 1 [0] 1,1,true,false,0⟩,bJ,iT,B 3 261 [A 1616 2,A 1617 0,A 1618 2,A 1632 2,A 1633 0,A 1634 2,A 1648 2,A 1649 0,A 1650 2,A 1664 2,A 1665 0,A 1666 2,A 1680 2,A 1681 0,A 1682 2,A 1696 2,A 1697 0,A 1698 2,A 1712 2,A 1713 0,A 1714 2],Gq,Gq,Lb,Gq,Lb,B 3 271 [A 1622 1,A 1623 0,z,A 1625 0,A 1626 0,z],cJ,cR,Lb,Lb,tM,qx,cQ,eF,fp,cQ,Gm,Gm,La,Gm,La,B 3 271 [A 1638 1,A 1639 0,z,A 1641 0,A 1642 0,z],cJ,cR,La,La,CT,iF,cQ,eF,fp,cQ,Gl,Gl,K9,Gl,K9,B 3 271 [A 1654 1,A 1655 0,z,A 1657 0,A 1658 0,z],cJ,cR,K9,K9,CT,iF,cQ,eF,fp,cQ,Gk,Gk,K8,Gk,K8]
def SP:List (Option ap):=[B 3 271 [A 1670 1,A 1671 0,z,A 1673 0,A 1674 0,z],cJ,cR,K8,K8,CT,iF,cQ,eF,fp,cQ,Gj,Gj,K7,Gj,K7,B 3 271 [A 1686 1,A 1687 0,z,A 1689 0,A 1690 0,z],cJ,cR,K7,K7,CT,iF,cQ,eF,fp,cQ,Gi,Gi,K6,Gi,K6,B 3 271 [A 1702 1,A 1703 0,z,A 1705 0,A 1706 0,z],cJ,cR,K6,K6,CT,iF,cQ,eF,fp,cQ,Gh,Gh,K5,Gh,K5,B 3 271 [A 1718 1,A 1719 0,z,A 1721 0,A 1722 0,z],cJ,cR,K5,K5,CT,iF,cQ,eF,fp,cQ,B 1 95 [A 1599 3,A 1606 1,A 1610 7],yy,yy,lX,Ln]
def SO:List (Option ap):=[B 1 362 (A 1090 1::z::i 0::i 1::(rp 78 (i 0) [.map (some 1727)])),B 1 368 [R 1873 0 0 1],B 1 263 [p 1064,A 1090 1,z,i 6,A 1748 1,z,p 1728,p 1729,i 7,A 1763 2,z,A 1765 2,A 2218 7,A 2147 3],yy,yy,yy,lX,K4,qy,dG,dG,df,K4,dG,dG,dG,bJ,jg,vp,K4,ad9,qu,qu,ij,gb,qx,Ll,B 3 271 [A 1754 1,z,z],N,dz,N,eF,eF,fq,Lj,C 3 271 (A 2010 1::(rp 5 z [])),dz,Li,dG,dG,dG,dG,dG,dG,dI,ng,ey,ey,dI,ng,ey,dz,Ai,Gg,Rz,cJ,cR,Gg,B 3 261 [A 1782 2,A 1783 0,A 1784 2],N,dG,dG,dG,dG]
def SN:List (Option ap):=[dG,dG,dI,ng,dz,ey,dI,ng,dz,dz,Ai,Gf,Rz,cJ,cR,Gf,B 3 261 [A 1804 2,A 1805 0,A 1806 2],N,dG,dG,dG,dG,dG,dG,dI,ng,pr,ey,dI,ng,pr,dz,Ai,Ge,Rz,cJ,cR,Ge,B 3 261 [A 1826 2,A 1827 0,A 1828 2],N,dG,dG,dG,dG,dG,dG,bJ,Gd,bJ,Gd,lX,bJ,Gd,lX,bJ,bJ,qy,bJ,bJ,bJ,yx,qy,bJ,bJ]
def SM:List (Option ap):=[bJ,yx,Gd,Gd,df,K4,ad9,dG,Ry,ng,Ry,Ry,ad8,ad8,df,Rx,B 8 381 (i 3::y 4::(rp 5 (i 0) [A 1870 1])),Lh,yw,ng,vk,ey,Rx,ad7,Rx,K3,K3,df,ad7,K3,K3,B 1 147 (i 0::i 0::y 4::(rp 5 (i 0) [A 1883 1])),ij,jg,vp,ij,CV,Gv,B 1 147 (i 3::i 0::y 4::(rp 5 (i 0) [A 1895 1])),df,B 9 147 (i 3::i 0::y 4::(rp 5 (i 0) [A 1895 1])),N,qp,qp,CX,qp,Lf,GA,qp,lX,iT,qy,iT,bJ,ad6,qp,qu,Ah,ad6,qp,bG,qp,bG,dY]
def SL:List (Option ap):=[dY,dY,bG,eP,qp,eP,jJ,jJ,jJ,eP,eO,qp,eO,jI,jI,jI,eO,bG,qp,bG,dY,dY,dY,bG,eN,qp,eN,jH,jH,jH,eN,ee,qp,ee,mw,mw,mw,ee,Gz,B 1 158 [A 1958 7],bG,dY,dY,bG,eP,jJ,jJ,eP,eO,jI,jI,eO,bG,dY,dY,bG,eN,jH,jH,eN,ee,mw,Gy,ee]
def SK:List (Option ap):=[bG,bG,qu,Ah,eP,eP,qu,Ah,eO,eO,qu,Ah,bG,bG,qu,Ah,eN,eN,qu,Ah,ee,ee,qu,Ah,B 1 470 [A 2010 1,z,z,A 2031 1,i 2,A 1903 6,A 1883 1,i 3,z,i 0,z,R 2016 0 0 1,i 6,i 1,i 0,f],fp,df,bG,bG,eP,eP,iF,df,eO,eO,bG,bG,eN,eN,iF,ee,ee,ee,K0,fp,df,B 8 401 [y 1,i 1,i 0,i 0,i 0,i 0,f,A 2029 1],C 8 401 [y 1,i 1,i 0,i 0,i 0,i 0,f,A 2029 1],K0,K0,K0,Ld,dH,iS,dH,lX,iS,dH,lX,iS,iS,qy,iS,bJ]
def SJ:List (Option ap):=[iS,qv,dH,dH,iR,dH,lX,iR,dH,lX,iR,iR,qy,iR,bJ,iR,qv,dH,Rw,Rw,df,B 3 108 [i 4,i 0,A 2068 1],C 3 108 [i 4,i 0,A 2068 1],dH,iQ,dH,lX,iQ,dH,lX,iQ,iQ,qy,iQ,bJ,iQ,qv,dH,B 1 147 [i 3,i 0,y 8,i 1,i 0,i 0,i 0,i 0,A 2087 1],df,B 9 147 [i 3,i 0,y 8,i 1,i 0,i 0,i 0,i 0,A 2087 1],N,Rw,Rv,ng,Rv,Rv,ad5,ad5,df,Gc,B 8 381 [i 4,y 5,i 1,i 0,i 0,i 0,i 0,A 2097 1],dI,ng,vk,dz,Gc,Ai,Gb,KZ,cJ,cR,Gb,B 3 261 [A 2107 2,A 2108 0,A 2109 2]]
def SI:List (Option ap):=[N,dG,dG,dG,dG,dG,dG,dI,ng,vj,ey,Gc,yw,ng,vj,dz,Gc,ad4,Gc,KY,KY,df,ad4,KY,KY,B 1 147 (i 0::i 1::y 5::(rp 5 (i 0) [A 2133 1])),fq,jg,GB,fq,kz,qz,B 1 147 (i 4::i 1::y 5::(rp 5 (i 0) [A 2145 1])),df,B 9 147 (i 4::i 1::y 5::(rp 5 (i 0) [A 2145 1])),C 9 147 (i 3::i 0::y 4::(rp 5 (i 0) (A 1895 1::i 3::i 0::y 8::i 1::i 0::i 0::i 0::i 0::A 2087 1::i 4::i 1::y 5::(rp 5 (i 0) [A 2145 1])))),iG,iG,CW,iG,iG,lX,iT,qy,iT,bJ,yu,iG,eF,B 1 396 [A 2133 1,i 4,z,i 0,z],yu,iG,Gx,B 1 158 [A 2164 1],B 1 470 [z,z,z,z,i 0,z,A 2133 1,i 4,z,i 0,z,z,i 0,i 0,i 0,f],Ai,Ga,KZ,cJ,cR,Ga,B 3 261 [A 2169 2,A 2170 0,A 2171 2],N,dG]
def SH:List (Option ap):=[dG,dG,dG,dG,dG,dI,ng,vh,ey,dI,ng,vh,dz,Ai,F',KZ,cJ,cR,F',B 3 261 [A 2191 2,A 2192 0,A 2193 2],N,dG,dG,dG,dG,dG,dG,dI,ng,yt,ey,dI,ng,yt,dz,Ai,F9,KZ,cJ,cR,F9,B 3 261 [A 2213 2,A 2214 0,A 2215 2],C 3 261 [A 1782 2,A 1783 0,A 1784 2,A 1804 2,A 1805 0,A 1806 2,A 1826 2,A 1827 0,A 1828 2,A 2107 2,A 2108 0,A 2109 2,A 2169 2,A 2170 0,A 2171 2,A 2191 2,A 2192 0,A 2193 2,A 2213 2,A 2214 0,A 2215 2],B 9 147 (i 3::i 0::y 4::(rp 5 (i 0) (A 2221 1::i 3::i 0::y 8::i 1::i 0::i 0::i 0::i 0::A 2223 1::i 4::i 1::y 5::(rp 5 (i 0) [A 2225 1])))),Ru,df,Rt,df,Rs,df,iT,some ⟨.iter (some 1727) 1 [0] 1,1,true,false,0⟩,bJ,iT,B 3 261 [A 2236 2,A 2237 0,A 2238 2,A 2252 2,A 2253 0,A 2254 2,A 2268 2,A 2269 0,A 2270 2,A 2284 2,A 2285 0,A 2286 2,A 2300 2,A 2301 0,A 2302 2,A 2316 2,A 2317 0,A 2318 2,A 2332 2,A 2333 0,A 2334 2],Gg,Gg,KX,Gg,KX,B 3 271 [A 2242 1,A 2243 0,z,A 2245 0,A 2246 0,z],cJ,cR,KX]
def SG:List (Option ap):=[KX,qu,qx,cQ,eF,fp,cQ,Gf,Gf,KW,Gf,KW,B 3 271 [A 2258 1,A 2259 0,z,A 2261 0,A 2262 0,z],cJ,cR,KW,KW,qu,qx,cQ,eF,fp,cQ,Ge,Ge,KV,Ge,KV,B 3 271 [A 2274 1,A 2275 0,z,A 2277 0,A 2278 0,z],cJ,cR,KV,KV,qu,qx,cQ,eF,fp,cQ,Gb,Gb,KT,Gb,KT,B 3 271 [A 2290 1,A 2291 0,z,A 2293 0,A 2294 0,z],cJ,cR,KT,KT,KS,iF,cQ,eF,fp,cQ,Ga,Ga,KR,Ga,KR,B 3 271 [A 2306 1,A 2307 0,z,A 2309 0,A 2310 0,z],cJ,cR,KR]
def SF:List (Option ap):=[KR,KS,iF,cQ,eF,fp,cQ,F',F',KQ,F',KQ,B 3 271 [A 2322 1,A 2323 0,z,A 2325 0,A 2326 0,z],cJ,cR,KQ,KQ,KS,iF,cQ,eF,fp,cQ,F9,F9,KP,F9,KP,B 3 271 [A 2338 1,A 2339 0,z,A 2341 0,A 2342 0,z],cJ,cR,KP,KP,KS,iF,cQ,eF,fp,cQ,B 1 95 [A 2219 3,A 2226 1,A 2230 7],Rr,RD,RD,ij,cm,cm,qo,N,cm,qn,qm,KO,mv,N,pq,N,mv,N,tL,Rq,B 1 228 [p 2364,A 2365 23],Rp,Ro,RB]
def SE:List (Option ap):=[RB,ij,cm,cm,qo,N,cm,qn,qm,KN,fq,cm,cm,yr,N,cm,yq,KM,N,pq,N,mv,N,tL,Rm,B 1 228 [p 2393,A 2394 22],Rl,Rk,RA,RA,fq,cm,cm,yr,N,cm,yq,qm,KK,ij,cm,cm,qo,N,cm,qn,KJ,N,pq,N,mv,N,tL,KI,B 1 228 [p 2422,A 2423 25],KH,KG,Rr,Ru,Ru,ij,cm,cm,qo]
def SC:List (Option ap):=[N,cm,qn,qm,KO,mv,N,pq,N,mv,N,tL,Rq,B 1 228 [p 2445,A 2446 23],Rp,Ro,Rt,Rt,ij,cm,cm,qo,N,cm,qn,qm,KN,fq,cm,cm,yr,N,cm,yq,KM,N,pq,N,mv,N,tL,Rm,B 1 228 [p 2474,A 2475 22],Rl,Rk,Rs,Rs,fq,cm,cm,yr,N,cm,yq,qm,KK,ij,cm,cm,qo,N,cm,qn,KJ]
def dd1:List (Option ap):=[N,pq,N,mv,N,tL,KI,ad3,KH,KG,ad2,ad1,F8,ey,dz,pr,F8,ey,dz,pr,ad0,N,ac9,N,ac8,N,ac7,CS,KF,KF,Rj,ac6,ac5,ac4,ac3,Ri]
def aD8:List (Option ap):=[N,pq,N,mv,N,tL,KI,ad3,KH,KG,ad2,ad1,F8,ey,dz,pr,F8,ey,dz,pr,ad0,N,ac9,N,ac8,N,ac7,CS,KF,KF,Rj,ac6,ac5,ac4,ac3,Ri,yp,iF,B 7 53 [y 1,i 0,i 0,i 0,i 1,i 0,A 2533 1],nc,nc,Rh,Rh,bJ,ac2,Rh,tK,tK,df,ac2,nc,nc,yo,Ag,B 7 53 [y 1,i 0,i 0,i 0,i 3,i 0,A 2549 1],lW,lW,Rg,Rg,bJ,Rf,Rg,tJ,tJ]
def dd0:List (Option ap):=[lV,Rf,lW,lW]
def dc9:List (Option ap):=[lV,Rf,lW,lW,yp,yo,yp,yo,tO,tO,yp,yp,nc,Ln,B 1 362 (A 2540 1::z::i 0::i 1::(rp 78 (i 0) [.map (some 2573)])),B 1 368 [R 2675 0 0 1],B 1 263 [p 1064,A 2540 1,z,i 6,A 2594 1,z,p 2574,p 2575,i 7,A 2609 2,z,A 2611 2,A 3064 7,A 2949 3],yp,yp,yp,nc,KE,tK,dF,dF,df,KE,dF,dF,dF,bJ,jg,vp,KE,ac1,tI,tI,ij,gb,qx,Ll,B 3 271 [A 2600 1,z,z],N,dz,N,eF,eF,fq,Lj,C 3 271 (A 2812 1::(rp 5 z [])),dz,Li,dF,dF,dF,dF,dF,dF,dI,na,ey,ey,dI,na]
def dc8:List (Option ap):=[ey,dz,Af,F7,B 3 271 (A 2600 1::(rp 5 z [])),cJ,cR,F7,B 3 261 [A 2628 2,A 2629 0,A 2630 2],N,dF,dF,dF,dF,dF,dF,bJ,F6,bJ,F6,nc,bJ,F6,nc,bJ,bJ,tK,bJ,bJ,bJ,yx,tK,bJ,bJ,bJ,yx,F6,F6,df,KE,ac1,dF,Re,na,Re,Re,ac0,ac0,df,Rc,B 8 381 (i 1::y 4::(rp 5 (i 0) [A 2672 1])),Lh,yw,na,dz,ey,Rc,ab9,Rc,KD,KD,df,ab9,KD]
def dc7:List (Option ap):=[KD,B 1 147 (i 0::i 0::y 4::(rp 5 (i 0) [A 2685 1])),ij,jg,vp,ij,CV,Gv,B 1 147 (i 1::i 0::y 4::(rp 5 (i 0) [A 2697 1])),df,B 9 147 (i 1::i 0::y 4::(rp 5 (i 0) [A 2697 1])),N,ql,ql,CX,ql,Lf,GA,ql,nc,iT,tK,iT,bJ,ab8,ql,tI,Ae,ab8,ql,bG,ql,bG,dY,dY,dY,bG,eP,ql,eP,jJ,jJ,jJ,eP,eO,ql,eO,jI,jI,jI,eO,bG,ql,bG,dY,dY,dY,bG,eN,ql,eN,jH,jH,jH]
def dc6:List (Option ap):=[eN,ee,ql,ee,mw,mw,mw,ee,Gz,B 1 158 [A 2760 7],bG,dY,dY,bG,eP,jJ,jJ,eP,eO,jI,jI,eO,bG,dY,dY,bG,eN,jH,jH,eN,ee,mw,Gy,ee,bG,bG,tI,Ae,eP,eP,tI,Ae,eO,eO,tI,Ae,bG,bG,tI,Ae,eN,eN,tI,Ae,ee,ee,tI,Ae,B 1 470 [A 2812 1,z,z,A 2833 1,i 2,A 2705 6,A 2685 1,i 1,z,i 0,z,R 2818 0 0 1,i 6,i 1,i 0,f],fp,df,bG,bG,eP]
def dc5:List (Option ap):=[eP,iF,df,eO,eO,bG,bG,eN,eN,iF,ee,ee,ee,KC,fp,df,B 8 401 [y 1,i 1,i 0,i 0,i 0,i 0,f,A 2831 1],C 8 401 [y 1,i 1,i 0,i 0,i 0,i 0,f,A 2831 1],KC,KC,KC,Ld,dH,iS,dH,nc,iS,dH,nc,iS,iS,tK,iS,bJ,iS,qv,dH,dH,iR,dH,nc,iR,dH,nc,iR,iR,tK,iR,bJ,iR,qv,dH,Rb,Rb,df,B 3 108 [i 2,i 0,A 2870 1],C 3 108 [i 2,i 0,A 2870 1],dH,iQ,dH,nc,iQ,dH,nc]
def dc4:List (Option ap):=[iQ,iQ,tK,iQ,bJ,iQ,qv,dH,B 1 147 [i 1,i 0,y 8,i 1,i 0,i 0,i 0,i 0,A 2889 1],df,B 9 147 [i 1,i 0,y 8,i 1,i 0,i 0,i 0,i 0,A 2889 1],N,Rb,Ra,na,Ra,Ra,ab7,ab7,df,F5,B 8 381 [i 2,y 5,i 1,i 0,i 0,i 0,i 0,A 2899 1],dI,na,dz,dz,F5,Af,F4,CR,cJ,cR,F4,B 3 261 [A 2909 2,A 2910 0,A 2911 2],N,dF,dF,dF,dF,dF,dF,dI,na,pr,ey,F5,yw,na,pr,dz,F5,ab6,F5,KB,KB,df,ab6,KB,KB,B 1 147 (i 0::i 1::y 5::(rp 5 (i 0) [A 2935 1])),fq,jg,GB,fq]
def dc3:List (Option ap):=[kz,qz,B 1 147 (i 2::i 1::y 5::(rp 5 (i 0) [A 2947 1])),df,B 9 147 (i 2::i 1::y 5::(rp 5 (i 0) [A 2947 1])),C 9 147 (i 1::i 0::y 4::(rp 5 (i 0) (A 2697 1::i 1::i 0::y 8::i 1::i 0::i 0::i 0::i 0::A 2889 1::i 2::i 1::y 5::(rp 5 (i 0) [A 2947 1])))),iG,iG,CW,iG,iG,nc,iT,tK,iT,bJ,yu,iG,eF,B 1 396 [A 2935 1,i 2,z,i 0,z],yu,iG,Gx,B 1 158 [A 2966 1],B 1 470 [z,z,z,z,i 0,z,A 2935 1,i 2,z,i 0,z,z,i 0,i 0,i 0,f],Af,F3,CR,cJ,cR,F3,B 3 261 [A 2971 2,A 2972 0,A 2973 2],N,dF,dF,dF,dF,dF,dF,dI,na,vk,ey,dI,na,vk,dz,Af,F2,CR,cJ,cR,F2,B 3 261 [A 2993 2,A 2994 0,A 2995 2],N,dF,dF,dF,dF,dF,dF,dI,na,vj]
def dc2:List (Option ap):=[ey,dI,na,vj,dz,Af,F1,CR,cJ,cR,F1,B 3 261 [A 3015 2,A 3016 0,A 3017 2],N,dF,dF,dF,dF,dF,dF,dI,na,vh,ey,dI,na,vh,dz,Af,F0,CR,cJ,cR,F0,B 3 261 [A 3037 2,A 3038 0,A 3039 2],N,dF,dF,dF,dF,dF,dF,dI,na,yt,ey,dI,na,yt,dz,Af,FY,CR,cJ,cR,FY,B 3 261 [A 3059 2,A 3060 0,A 3061 2],C 3 261 [A 2628 2,A 2629 0,A 2630 2,A 2909 2,A 2910 0,A 2911 2,A 2971 2,A 2972 0,A 2973 2,A 2993 2,A 2994 0,A 2995 2,A 3015 2,A 3016 0,A 3017 2,A 3037 2,A 3038 0,A 3039 2,A 3059 2,A 3060 0,A 3061 2],B 9 147 (i 1::i 0::y 4::(rp 5 (i 0) (A 3067 1::i 1::i 0::y 8::i 1::i 0::i 0::i 0::i 0::A 3069 1::i 2::i 1::y 5::(rp 5 (i 0) [A 3071 1])))),Q9,df,Q8,df,Q7,df]
def dc1:List (Option ap):=[iT,some ⟨.iter (some 2573) 1 [0] 1,1,true,false,0⟩,bJ,iT,B 3 261 [A 3082 2,A 3083 0,A 3084 2,A 3098 2,A 3099 0,A 3100 2,A 3114 2,A 3115 0,A 3116 2,A 3130 2,A 3131 0,A 3132 2,A 3146 2,A 3147 0,A 3148 2,A 3162 2,A 3163 0,A 3164 2,A 3178 2,A 3179 0,A 3180 2],F7,F7,KA,F7,KA,B 3 271 [A 3088 1,A 3089 0,z,A 3091 0,A 3092 0,z],cJ,cR,KA,KA,tI,qx,cQ,eF,fp,cQ,F4,F4,Kz,F4,Kz,B 3 271 [A 3104 1,A 3105 0,z,A 3107 0,A 3108 0,z],cJ,cR,Kz,Kz,CP,iF,cQ,eF,fp,cQ,F3,F3,Kx,F3,Kx,B 3 271 [A 3120 1,A 3121 0,z,A 3123 0,A 3124 0,z],cJ,cR,Kx,Kx,CP,iF,cQ,eF,fp,cQ,F2,F2,Kw,F2,Kw,B 3 271 [A 3136 1,A 3137 0,z,A 3139 0,A 3140 0,z],cJ,cR,Kw,Kw,CP]
def dc0:List (Option ap):=[iF,cQ,eF,fp,cQ,F1,F1,Kv,F1,Kv,B 3 271 [A 3152 1,A 3153 0,z,A 3155 0,A 3156 0,z],cJ,cR,Kv,Kv,CP,iF,cQ,eF,fp,cQ,F0,F0,Ku,F0,Ku,B 3 271 [A 3168 1,A 3169 0,z,A 3171 0,A 3172 0,z],cJ,cR,Ku,Ku,CP,iF,cQ,eF,fp,cQ,FY,FY,Kt,FY,Kt,B 3 271 [A 3184 1,A 3185 0,z,A 3187 0,A 3188 0,z],cJ,cR,Kt,Kt,CP,iF,cQ,eF,fp,cQ,B 1 95 [A 3065 3,A 3072 1,A 3076 7],yo,yo,lW,Ln,B 1 362 (A 2556 1::z::i 0::i 1::(rp 78 (i 0) [.map (some 3193)])),B 1 368 [R 3339 0 0 1],B 1 263 [p 1064,A 2556 1,z,i 6,A 3214 1,z,p 3194,p 3195,i 7,A 3229 2,z,A 3231 2,A 3684 7,A 3613 3],yo,yo,yo]
def db9:List (Option ap):=[lW,Ks,tJ,dE,dE,lV,Ks,dE,dE,dE,bJ,jg,vp,Ks,ab5,qk,qk,ij,gb,qx,Ll,B 3 271 [A 3220 1,z,z],N,dz,N,eF,eF,fq,Lj,C 3 271 (A 3476 1::(rp 5 z [])),dz,Li,dE,dE,dE,dE,dE,dE,dI,mZ,ey,ey,dI,mZ,ey,dz,Ad,FX,Q6,cJ,cR,FX,B 3 261 [A 3248 2,A 3249 0,A 3250 2],N,dE,dE,dE,dE,dE,dE,dI,mZ,dz,ey]
def db8:List (Option ap):=[dI,mZ,dz,dz,Ad,FW,Q6,cJ,cR,FW,B 3 261 [A 3270 2,A 3271 0,A 3272 2],N,dE,dE,dE,dE,dE,dE,dI,mZ,pr,ey,dI,mZ,pr,dz,Ad,FV,Q6,cJ,cR,FV,B 3 261 [A 3292 2,A 3293 0,A 3294 2],N,dE,dE,dE,dE,dE,dE,bJ,FU,bJ,FU,lW,bJ,FU,lW,bJ,bJ,tJ,bJ,bJ,bJ,yx,tJ,bJ,bJ,bJ,yx,FU,FU,lV,Ks]
def db7:List (Option ap):=[ab5,dE,Q5,mZ,Q5,Q5,ab4,ab4,lV,Q4,B 8 381 (i 3::y 4::(rp 5 (i 0) [A 3336 1])),Lh,yw,mZ,vk,ey,Q4,ab3,Q4,Kr,Kr,lV,ab3,Kr,Kr,B 1 147 (i 0::i 0::y 4::(rp 5 (i 0) [A 3349 1])),ij,jg,vp,ij,CV,Gv,B 1 147 (i 3::i 0::y 4::(rp 5 (i 0) [A 3361 1])),lV,B 9 147 (i 3::i 0::y 4::(rp 5 (i 0) [A 3361 1])),N,qj,qj,CX,qj,Lf,GA,qj,lW,iT,tJ,iT,bJ,ab2,qj,qk,Ab,ab2,qj,bG,qj,bG,dY,dY,dY,bG,eP,qj,eP]
def db6:List (Option ap):=[jJ,jJ,jJ,eP,eO,qj,eO,jI,jI,jI,eO,bG,qj,bG,dY,dY,dY,bG,eN,qj,eN,jH,jH,jH,eN,ee,qj,ee,mw,mw,mw,ee,Gz,B 1 158 [A 3424 7],bG,dY,dY,bG,eP,jJ,jJ,eP,eO,jI,jI,eO,bG,dY,dY,bG,eN,jH,jH,eN,ee,mw,Gy,ee,bG,bG,qk,Ab,eP,eP]
def db5:List (Option ap):=[qk,Ab,eO,eO,qk,Ab,bG,bG,qk,Ab,eN,eN,qk,Ab,ee,ee,qk,Ab,B 1 470 [A 3476 1,z,z,A 3497 1,i 2,A 3369 6,A 3349 1,i 3,z,i 0,z,R 3482 0 0 1,i 6,i 1,i 0,f],fp,lV,bG,bG,eP,eP,Ag,lV,eO,eO,bG,bG,eN,eN,Ag,ee,ee,ee,Kq,fp,lV,B 8 401 [y 1,i 1,i 0,i 0,i 0,i 0,f,A 3495 1],C 8 401 [y 1,i 1,i 0,i 0,i 0,i 0,f,A 3495 1],Kq,Kq,Kq,Ld,dH,iS,dH,lW,iS,dH,lW,iS,iS,tJ,iS,bJ,iS,qv,dH,dH,iR,dH]
def db4:List (Option ap):=[lW,iR,dH,lW,iR,iR,tJ,iR,bJ,iR,qv,dH,Q3,Q3,lV,B 3 108 [i 4,i 0,A 3534 1],C 3 108 [i 4,i 0,A 3534 1],dH,iQ,dH,lW,iQ,dH,lW,iQ,iQ,tJ,iQ,bJ,iQ,qv,dH,B 1 147 [i 3,i 0,y 8,i 1,i 0,i 0,i 0,i 0,A 3553 1],lV,B 9 147 [i 3,i 0,y 8,i 1,i 0,i 0,i 0,i 0,A 3553 1],N,Q3,Q2,mZ,Q2,Q2,ab1,ab1,lV,FT,B 8 381 [i 4,y 5,i 1,i 0,i 0,i 0,i 0,A 3563 1],dI,mZ,vk,dz,FT,Ad,FR,Kp,cJ,cR,FR,B 3 261 [A 3573 2,A 3574 0,A 3575 2],N,dE,dE,dE,dE,dE]
def db3:List (Option ap):=[dE,dI,mZ,vj,ey,FT,yw,mZ,vj,dz,FT,ab0,FT,Ko,Ko,lV,ab0,Ko,Ko,B 1 147 (i 0::i 1::y 5::(rp 5 (i 0) [A 3599 1])),fq,jg,GB,fq,kz,qz,B 1 147 (i 4::i 1::y 5::(rp 5 (i 0) [A 3611 1])),lV,B 9 147 (i 4::i 1::y 5::(rp 5 (i 0) [A 3611 1])),C 9 147 (i 3::i 0::y 4::(rp 5 (i 0) (A 3361 1::i 3::i 0::y 8::i 1::i 0::i 0::i 0::i 0::A 3553 1::i 4::i 1::y 5::(rp 5 (i 0) [A 3611 1])))),iG,iG,CW,iG,iG,lW,iT,tJ,iT,bJ,yu,iG,eF,B 1 396 [A 3599 1,i 4,z,i 0,z],yu,iG,Gx,B 1 158 [A 3630 1],B 1 470 [z,z,z,z,i 0,z,A 3599 1,i 4,z,i 0,z,z,i 0,i 0,i 0,f],Ad,FQ,Kp,cJ,cR,FQ,B 3 261 [A 3635 2,A 3636 0,A 3637 2],N,dE,dE,dE,dE,dE,dE,dI]
def db2:List (Option ap):=[mZ,vh,ey,dI,mZ,vh,dz,Ad,FP,Kp,cJ,cR,FP,B 3 261 [A 3657 2,A 3658 0,A 3659 2],N,dE,dE,dE,dE,dE,dE,dI,mZ,yt,ey,dI,mZ,yt,dz,Ad,FO,Kp,cJ,cR,FO,B 3 261 [A 3679 2,A 3680 0,A 3681 2],C 3 261 [A 3248 2,A 3249 0,A 3250 2,A 3270 2,A 3271 0,A 3272 2,A 3292 2,A 3293 0,A 3294 2,A 3573 2,A 3574 0,A 3575 2,A 3635 2,A 3636 0,A 3637 2,A 3657 2,A 3658 0,A 3659 2,A 3679 2,A 3680 0,A 3681 2],B 9 147 (i 3::i 0::y 4::(rp 5 (i 0) (A 3687 1::i 3::i 0::y 8::i 1::i 0::i 0::i 0::i 0::A 3689 1::i 4::i 1::y 5::(rp 5 (i 0) [A 3691 1])))),Q1,lV,Q0,lV,QZ,lV,iT,some ⟨.iter (some 3193) 1 [0] 1,1,true,false,0⟩,bJ,iT,B 3 261 [A 3702 2,A 3703 0,A 3704 2,A 3718 2,A 3719 0,A 3720 2,A 3734 2,A 3735 0,A 3736 2,A 3750 2,A 3751 0,A 3752 2,A 3766 2,A 3767 0,A 3768 2,A 3782 2,A 3783 0,A 3784 2,A 3798 2,A 3799 0,A 3800 2],FX,FX,Kn,FX,Kn,B 3 271 [A 3708 1,A 3709 0,z,A 3711 0,A 3712 0,z],cJ,cR,Kn,Kn,qk,qx,cQ,eF,fp]
def db1:List (Option ap):=[cQ,FW,FW,Km,FW,Km,B 3 271 [A 3724 1,A 3725 0,z,A 3727 0,A 3728 0,z],cJ,cR,Km,Km,qk,qx,cQ,eF,fp,cQ,FV,FV,Kl,FV,Kl,B 3 271 [A 3740 1,A 3741 0,z,A 3743 0,A 3744 0,z],cJ,cR,Kl,Kl,qk,qx,cQ,eF,fp,cQ,FR,FR,Kk,FR,Kk,B 3 271 [A 3756 1,A 3757 0,z,A 3759 0,A 3760 0,z],cJ,cR,Kk,Kk,Kj,Ag,cQ,eF,fp,cQ,FQ,FQ,Ki,FQ,Ki,B 3 271 [A 3772 1,A 3773 0,z,A 3775 0,A 3776 0,z],cJ,cR,Ki,Ki,Kj,Ag,cQ,eF,fp]
def db0:List (Option ap):=[cQ,FP,FP,Kh,FP,Kh,B 3 271 [A 3788 1,A 3789 0,z,A 3791 0,A 3792 0,z],cJ,cR,Kh,Kh,Kj,Ag,cQ,eF,fp,cQ,FO,FO,Kg,FO,Kg,B 3 271 [A 3804 1,A 3805 0,z,A 3807 0,A 3808 0,z],cJ,cR,Kg,Kg,Kj,Ag,cQ,eF,fp,cQ,B 1 95 [A 3685 3,A 3692 1,A 3696 7],Rr,Q9,Q9,ij,cm,cm,qo,N,cm,qn,qm,KO,mv,N,pq,N,mv,N,tL,Rq,B 1 228 [p 3830,A 3831 23],Rp,Ro,Q8,Q8,ij,cm,cm,qo,N]
def da9:List (Option ap):=[cm,qn,qm,KN,fq,cm,cm,yr,N,cm,yq,KM,N,pq,N,mv,N,tL,Rm,B 1 228 [p 3859,A 3860 22],Rl,Rk,Q7,Q7,fq,cm,cm,yr,N,cm,yq,qm,KK,ij,cm,cm,qo,N,cm,qn,KJ,N,pq,N,mv,N,tL,KI,B 1 228 [p 3888,A 3889 25],KH,KG,B 1 9 [s [34,97,34,32,114,101,113,117,101,115,116,32,48,32,48,32,48,32,48,32,48,32,53],s [34,97,34,32,115,101,110,100,32,34,98,34,32,48,32,48,32,48,32,48,32,53],s [34,98,34,32,109,101,115,115,97,103,101,32,34,97,34,32,48,32,48,32,48,32,48,32,53]],Q1,Q1,ij,cm,cm,qo,N,cm,qn,qm,KO,mv]
def da8:List (Option ap):=[N,pq,N,mv,N,QY,C 1 9 (s [34,97,34]::s [114,101,113,117,101,115,116]::(rp 5 (s [48]) [s [53]])),B 1 228 [p 3911,A 3912 23],some ⟨.cells [y 34,y 97,y 34,y 32,y 114,y 101,y 113,y 117,y 101,y 115,y 116,y 32,y 48,y 32,y 48,y 32,y 48,y 32,y 48,y 32,y 48,y 32,y 53],1,false,true,5⟩,B 1 9 [s [34,97,34,32,114,101,113,117,101,115,116,32,48,32,48,32,48,32,48,32,48,32,53]],Q0,Q0,ij,cm,cm,qo,N,cm,qn,qm,KN,fq,cm,cm,yr,N,cm,yq,KM,N,pq,N,mv,N,QY,C 1 9 [s [34,97,34],s [115,101,110,100],s [34,98,34],s [48],s [48],s [48],s [48],s [53]],B 1 228 [p 3940,A 3941 22],some ⟨.cells [y 34,y 97,y 34,y 32,y 115,y 101,y 110,y 100,y 32,y 34,y 98,y 34,y 32,y 48,y 32,y 48,y 32,y 48,y 32,y 48,y 32,y 53],1,false,true,5⟩,B 1 9 [s [34,97,34,32,115,101,110,100,32,34,98,34,32,48,32,48,32,48,32,48,32,53]],QZ,QZ,fq,cm,cm,yr,N,cm,yq,qm,KK,ij,cm,cm,qo,N,cm,qn,KJ,N,pq,N,mv,N,QY]
def da7:List (Option ap):=[C 1 9 [s [34,98,34],s [109,101,115,115,97,103,101],s [34,97,34],s [48],s [48],s [48],s [48],s [53]],B 1 228 [p 3969,A 3970 25],some ⟨.cells [y 34,y 98,y 34,y 32,y 109,y 101,y 115,y 115,y 97,y 103,y 101,y 32,y 34,y 97,y 34,y 32,y 48,y 32,y 48,y 32,y 48,y 32,y 48,y 32,y 53],1,false,true,5⟩,B 1 9 [s [34,98,34,32,109,101,115,115,97,103,101,32,34,97,34,32,48,32,48,32,48,32,48,32,53]],some ⟨.map [⟨s [34,97,34,32,114,101,113,117,101,115,116,32,48,32,48,32,48,32,48,32,48,32,52],i 0,0⟩,⟨s [34,97,34,32,115,101,110,100,32,34,98,34,32,48,32,48,32,48,32,48,32,52],i 1,1⟩,⟨s [34,98,34,32,109,101,115,115,97,103,101,32,34,97,34,32,48,32,48,32,48,32,48,32,52],i 2,2⟩,⟨s [34,97,34,32,114,101,113,117,101,115,116,32,48,32,48,32,48,32,48,32,48,32,53],i 3,3⟩,⟨s [34,97,34,32,115,101,110,100,32,34,98,34,32,48,32,48,32,48,32,48,32,53],i 4,4⟩,⟨s [34,98,34,32,109,101,115,115,97,103,101,32,34,97,34,32,48,32,48,32,48,32,48,32,53],i 5,5⟩] 6,1,true,false,0⟩,B 1 480 [.map (some 3972)],F8,ey,dz,pr,B 1 3 [i 3,i 4,i 5],vk,vj,vh,B 1 409 [A 3988 1,A 3987 1,A 3986 1,A 3983 1],CS,aa9,aa9,CS,CS,CS,Rj,C 2 286 [i 3,i 3],Ri,jg,C 1 9 [s [34,97,34,32,114,101,113,117,101,115,116,32,48,32,48,32,48,32,48,32,48,32,52],s [34,97,34,32,115,101,110,100,32,34,98,34,32,48,32,48,32,48,32,48,32,52],s [34,98,34,32,109,101,115,115,97,103,101,32,34,97,34,32,48,32,48,32,48,32,48,32,52]],jg,C 1 9 [s [34,97,34,32,114,101,113,117,101,115,116,32,48,32,48,32,48,32,48,32,48,32,53],s [34,97,34,32,115,101,110,100,32,34,98,34,32,48,32,48,32,48,32,48,32,53],s [34,98,34,32,109,101,115,115,97,103,101,32,34,97,34,32,48,32,48,32,48,32,48,32,53]],B 4 144 [i 0,i 0,A 3993 3,A 3995 3],C 4 144 [i 0,i 0,A 3993 3,A 3995 3],B 1 144 [i 0,i 0,A 3993 3,A 3995 3],B 3 65 [i 1,s [34,97,34,32,114,101,113,117,101,115,116,32,48,32,48,32,48,32,48,32,48,32,52],e],N,B 3 65 [i 1,s [34,97,34,32,115,101,110,100,32,34,98,34,32,48,32,48,32,48,32,48,32,52],e],N,B 3 65 [i 2,s [34,98,34,32,109,101,115,115,97,103,101,32,34,97,34,32,48,32,48,32,48,32,48,32,52],e],N,B 3 65 [i 3,e,s [34,97,34,32,114,101,113,117,101,115,116,32,48,32,48,32,48,32,48,32,48,32,53]],N,B 3 65 [i 3,e,s [34,97,34,32,115,101,110,100,32,34,98,34,32,48,32,48,32,48,32,48,32,53]],N,B 3 65 [i 4,e,s [34,98,34,32,109,101,115,115,97,103,101,32,34,97,34,32,48,32,48,32,48,32,48,32,53]],C 3 65 [i 1,s [34,97,34,32,114,101,113,117,101,115,116,32,48,32,48,32,48,32,48,32,48,32,52],e,i 1,s [34,97,34,32,115,101,110,100,32,34,98,34,32,48,32,48,32,48,32,48,32,52],e,i 2,s [34,98,34,32,109,101,115,115,97,103,101,32,34,97,34,32,48,32,48,32,48,32,48,32,52],e,i 3,e,s [34,97,34,32,114,101,113,117,101,115,116,32,48,32,48,32,48,32,48,32,48,32,53],i 3,e,s [34,97,34,32,115,101,110,100,32,34,98,34,32,48,32,48,32,48,32,48,32,53],i 4,e,s [34,98,34,32,109,101,115,115,97,103,101,32,34,97,34,32,48,32,48,32,48,32,48,32,53]]]
def Us:AW:=im 13 (aj kc0 [])
def kw1:AW:=im 13 (aj ri (aj rf (aj rc (aj rb (aj ra (aj qZ (aj qY (aj kc8 []))))))))
def kw2:AW:=im 13 (aj ri (aj rf (aj rc (aj rb (aj ra (aj qZ (aj qY (aj sI (aj sk (aj sj (aj si (aj sh (aj sf (aj se (aj sd (aj r9 (aj dd9 [])))))))))))))))))
def kw3:AW:=im 13 (aj ri (aj rf (aj rc (aj rb (aj ra (aj qZ (aj qY (aj sI (aj sk (aj sj (aj si (aj sh (aj sf (aj se (aj sd (aj r9 (aj dd8 [])))))))))))))))))
def kw4:AW:=im 13 (aj ri (aj rf (aj rc (aj rb (aj ra (aj qZ (aj qY (aj sI (aj sk (aj sj (aj si (aj sh (aj sf (aj se (aj sd (aj r9 (aj dd7 [])))))))))))))))))
def kw5:AW:=im 13 (aj ri (aj rf (aj rc (aj rb (aj ra (aj qZ (aj qY (aj sI (aj sk (aj sj (aj si (aj sh (aj sf (aj se (aj sd (aj r9 (aj dd6 [])))))))))))))))))
def kw6:AW:=im 13 (aj ri (aj rf (aj rc (aj rb (aj ra (aj qZ (aj qY (aj sI (aj sk (aj sj (aj si (aj sh (aj sf (aj se (aj sd (aj r9 (aj dd5 [])))))))))))))))))
def kw7:AW:=im 13 (aj ri (aj rf (aj rc (aj rb (aj ra (aj qZ (aj qY (aj sI (aj sk (aj sj (aj si (aj sh (aj sf (aj se (aj sd (aj r9 (aj dd4 [])))))))))))))))))
def kw8:AW:=im 13 (aj ri (aj rf (aj rc (aj rb (aj ra (aj qZ (aj qY (aj sI (aj sk (aj sj (aj si (aj sh (aj sf (aj se (aj sd (aj r9 (aj dd3 [])))))))))))))))))
def kw9:AW:=im 13 (aj ri (aj rf (aj rc (aj rb (aj ra (aj qZ (aj qY (aj sI (aj sk (aj sj (aj si (aj sh (aj sf (aj se (aj sd (aj r9 (aj Mg (aj dd2 []))))))))))))))))))
def da6:AW:=im 13 (aj ri (aj rf (aj rc (aj rb (aj ra (aj qZ (aj qY (aj sI (aj sk (aj sj (aj si (aj sh (aj sf (aj se (aj sd (aj r9 (aj Mg (aj SZ (aj SY (aj SX (aj SW (aj SV (aj SU (aj SS (aj SR (aj SQ (aj SP (aj SO (aj SN (aj SM (aj SL (aj SK (aj SJ (aj SI (aj SH (aj SG (aj SF (aj SE (aj SC (aj dd1 []))))))))))))))))))))))))))))))))))))))))
def da5:AW:=im 13 (aj ri (aj rf (aj rc (aj rb (aj ra (aj qZ (aj qY (aj sI (aj sk (aj sj (aj si (aj sh (aj sf (aj se (aj sd (aj r9 (aj Mg (aj SZ (aj SY (aj SX (aj SW (aj SV (aj SU (aj SS (aj SR (aj SQ (aj SP (aj SO (aj SN (aj SM (aj SL (aj SK (aj SJ (aj SI (aj SH (aj SG (aj SF (aj SE (aj SC (aj aD8 (aj dd0 [])))))))))))))))))))))))))))))))))))))))))
def da4:AW:=im 13 (aj ri (aj rf (aj rc (aj rb (aj ra (aj qZ (aj qY (aj sI (aj sk (aj sj (aj si (aj sh (aj sf (aj se (aj sd (aj r9 (aj Mg (aj SZ (aj SY (aj SX (aj SW (aj SV (aj SU (aj SS (aj SR (aj SQ (aj SP (aj SO (aj SN (aj SM (aj SL (aj SK (aj SJ (aj SI (aj SH (aj SG (aj SF (aj SE (aj SC (aj aD8 (aj dc9 (aj dc8 (aj dc7 (aj dc6 (aj dc5 (aj dc4 (aj dc3 (aj dc2 (aj dc1 (aj dc0 (aj db9 (aj db8 (aj db7 (aj db6 (aj db5 (aj db4 (aj db3 (aj db2 (aj db1 (aj db0 (aj da9 (aj da8 (aj da7 [])))))))))))))))))))))))))))))))))))))))))))))))))))))))))))))))
def Z3:jw:=⟨22,[s [102,108,101,101,116,32,102,32,123,32,99,111,109,112,111,110,101,110,116,32,97,32,123,32,118,97,114,32,120,58,32,105,110,116,32,61,32,48,59,32,111,110,32,104,40,105,41,32,123,32,120,32,61,32,105,59,32,115,101,110,100,32,98,46,103,40,120,41,59,32,125,32,125,32,99,111,109,112,111,110,101,110,116,32,98,32,123,32,111,110,32,103,40,106,41,32,123,32,125,32,125,32,125]],Us,.tuple ⟨[.agg ⟨[s [102],z,z,A 404 2]⟩,i 0,i 0]⟩,kw1⟩
def YB:jw:=⟨161,[p 1052],kw2,.tuple ⟨[]⟩,kw3⟩
def YA:jw:=⟨161,[p 1052],kw4,.tuple ⟨[]⟩,kw5⟩
def Yz:jw:=⟨161,[p 1058],kw6,.tuple ⟨[]⟩,kw7⟩
def Sj:jw:=⟨9,[s [102,108,101,101,116,32,102,32,123,32,99,111,109,112,111,110,101,110,116,32,97,32,123,32,118,97,114,32,120,58,32,105,110,116,32,61,32,48,59,32,111,110,32,104,40,105,41,32,123,32,120,32,61,32,105,59,32,115,101,110,100,32,98,46,103,40,120,41,59,32,125,32,125,32,99,111,109,112,111,110,101,110,116,32,98,32,123,32,111,110,32,103,40,106,41,32,123,32,125,32,125,32,125]],Us,.tuple ⟨[p 1064,i 0,i 0]⟩,kw8⟩
def Z5:jw:=⟨12,[.agg ⟨[p 1064,A 1074 1,z,i 6]⟩,.agg ⟨[p 1064,A 1090 1,z,i 6]⟩],kw9,.tuple ⟨[z,i 0]⟩,da6⟩
def Z4:jw:=⟨12,[.agg ⟨[p 1064,A 2540 1,z,i 6]⟩,.agg ⟨[p 1064,A 2556 1,z,i 6]⟩],da5,.tuple ⟨[A 4010 6,i 0]⟩,da4⟩
def GS:A7:=[(129,[s [102,108,101,101,116,32,102,32,123,32,99,111,109,112,111,110,101,110,116,32,97,32,123,32,118,97,114,32,120,58,32,105,110,116,32,61,32,48,59,32,111,110,32,104,40,105,41,32,123,32,120,32,61,32,105,59,32,115,101,110,100,32,98,46,103,40,120,41,59,32,125,32,125,32,99,111,109,112,111,110,101,110,116,32,98,32,123,32,111,110,32,103,40,106,41,32,123,32,125,32,125,32,125]],.tuple ⟨[y 2,i 5]⟩),
 (129,[s [102,32,123,32,99,111,109,112,111,110,101,110,116,32,97,32,123,32,118,97,114,32,120,58,32,105,110,116,32,61,32,48,59,32,111,110,32,104,40,105,41,32,123,32,120,32,61,32,105,59,32,115,101,110,100,32,98,46,103,40,120,41,59,32,125,32,125,32,99,111,109,112,111,110,101,110,116,32,98,32,123,32,111,110,32,103,40,106,41,32,123,32,125,32,125,32,125]],.tuple ⟨[y 1,i 1]⟩),
 (129,[s [123,32,99,111,109,112,111,110,101,110,116,32,97,32,123,32,118,97,114,32,120,58,32,105,110,116,32,61,32,48,59,32,111,110,32,104,40,105,41,32,123,32,120,32,61,32,105,59,32,115,101,110,100,32,98,46,103,40,120,41,59,32,125,32,125,32,99,111,109,112,111,110,101,110,116,32,98,32,123,32,111,110,32,103,40,106,41,32,123,32,125,32,125,32,125]],.tuple ⟨[y 4,i 1]⟩),
 (129,[s [99,111,109,112,111,110,101,110,116,32,97,32,123,32,118,97,114,32,120,58,32,105,110,116,32,61,32,48,59,32,111,110,32,104,40,105,41,32,123,32,120,32,61,32,105,59,32,115,101,110,100,32,98,46,103,40,120,41,59,32,125,32,125,32,99,111,109,112,111,110,101,110,116,32,98,32,123,32,111,110,32,103,40,106,41,32,123,32,125,32,125,32,125]],.tuple ⟨[y 2,i 9]⟩),
 (129,[s [97,32,123,32,118,97,114,32,120,58,32,105,110,116,32,61,32,48,59,32,111,110,32,104,40,105,41,32,123,32,120,32,61,32,105,59,32,115,101,110,100,32,98,46,103,40,120,41,59,32,125,32,125,32,99,111,109,112,111,110,101,110,116,32,98,32,123,32,111,110,32,103,40,106,41,32,123,32,125,32,125,32,125]],.tuple ⟨[y 1,i 1]⟩),
 (129,[s [123,32,118,97,114,32,120,58,32,105,110,116,32,61,32,48,59,32,111,110,32,104,40,105,41,32,123,32,120,32,61,32,105,59,32,115,101,110,100,32,98,46,103,40,120,41,59,32,125,32,125,32,99,111,109,112,111,110,101,110,116,32,98,32,123,32,111,110,32,103,40,106,41,32,123,32,125,32,125,32,125]],.tuple ⟨[y 4,i 1]⟩),
 (129,[s [118,97,114,32,120,58,32,105,110,116,32,61,32,48,59,32,111,110,32,104,40,105,41,32,123,32,120,32,61,32,105,59,32,115,101,110,100,32,98,46,103,40,120,41,59,32,125,32,125,32,99,111,109,112,111,110,101,110,116,32,98,32,123,32,111,110,32,103,40,106,41,32,123,32,125,32,125,32,125]],.tuple ⟨[y 2,i 3]⟩),
 (129,[s [120,58,32,105,110,116,32,61,32,48,59,32,111,110,32,104,40,105,41,32,123,32,120,32,61,32,105,59,32,115,101,110,100,32,98,46,103,40,120,41,59,32,125,32,125,32,99,111,109,112,111,110,101,110,116,32,98,32,123,32,111,110,32,103,40,106,41,32,123,32,125,32,125,32,125]],.tuple ⟨[y 1,i 1]⟩),
 (129,[s [58,32,105,110,116,32,61,32,48,59,32,111,110,32,104,40,105,41,32,123,32,120,32,61,32,105,59,32,115,101,110,100,32,98,46,103,40,120,41,59,32,125,32,125,32,99,111,109,112,111,110,101,110,116,32,98,32,123,32,111,110,32,103,40,106,41,32,123,32,125,32,125,32,125]],.tuple ⟨[y 4,i 1]⟩),
 (129,[s [105,110,116,32,61,32,48,59,32,111,110,32,104,40,105,41,32,123,32,120,32,61,32,105,59,32,115,101,110,100,32,98,46,103,40,120,41,59,32,125,32,125,32,99,111,109,112,111,110,101,110,116,32,98,32,123,32,111,110,32,103,40,106,41,32,123,32,125,32,125,32,125]],.tuple ⟨[y 2,i 3]⟩),
 (129,[s [61,32,48,59,32,111,110,32,104,40,105,41,32,123,32,120,32,61,32,105,59,32,115,101,110,100,32,98,46,103,40,120,41,59,32,125,32,125,32,99,111,109,112,111,110,101,110,116,32,98,32,123,32,111,110,32,103,40,106,41,32,123,32,125,32,125,32,125]],.tuple ⟨[y 4,i 1]⟩),
 (129,[s [48,59,32,111,110,32,104,40,105,41,32,123,32,120,32,61,32,105,59,32,115,101,110,100,32,98,46,103,40,120,41,59,32,125,32,125,32,99,111,109,112,111,110,101,110,116,32,98,32,123,32,111,110,32,103,40,106,41,32,123,32,125,32,125,32,125]],.tuple ⟨[y 3,i 1]⟩),
 (129,[s [59,32,111,110,32,104,40,105,41,32,123,32,120,32,61,32,105,59,32,115,101,110,100,32,98,46,103,40,120,41,59,32,125,32,125,32,99,111,109,112,111,110,101,110,116,32,98,32,123,32,111,110,32,103,40,106,41,32,123,32,125,32,125,32,125]],.tuple ⟨[y 4,i 1]⟩),
 (129,[s [111,110,32,104,40,105,41,32,123,32,120,32,61,32,105,59,32,115,101,110,100,32,98,46,103,40,120,41,59,32,125,32,125,32,99,111,109,112,111,110,101,110,116,32,98,32,123,32,111,110,32,103,40,106,41,32,123,32,125,32,125,32,125]],.tuple ⟨[y 2,i 2]⟩),
 (129,[s [104,40,105,41,32,123,32,120,32,61,32,105,59,32,115,101,110,100,32,98,46,103,40,120,41,59,32,125,32,125,32,99,111,109,112,111,110,101,110,116,32,98,32,123,32,111,110,32,103,40,106,41,32,123,32,125,32,125,32,125]],.tuple ⟨[y 1,i 1]⟩),
 (129,[s [40,105,41,32,123,32,120,32,61,32,105,59,32,115,101,110,100,32,98,46,103,40,120,41,59,32,125,32,125,32,99,111,109,112,111,110,101,110,116,32,98,32,123,32,111,110,32,103,40,106,41,32,123,32,125,32,125,32,125]],.tuple ⟨[y 4,i 1]⟩),
 (129,[s [105,41,32,123,32,120,32,61,32,105,59,32,115,101,110,100,32,98,46,103,40,120,41,59,32,125,32,125,32,99,111,109,112,111,110,101,110,116,32,98,32,123,32,111,110,32,103,40,106,41,32,123,32,125,32,125,32,125]],.tuple ⟨[y 1,i 1]⟩),
 (129,[s [41,32,123,32,120,32,61,32,105,59,32,115,101,110,100,32,98,46,103,40,120,41,59,32,125,32,125,32,99,111,109,112,111,110,101,110,116,32,98,32,123,32,111,110,32,103,40,106,41,32,123,32,125,32,125,32,125]],.tuple ⟨[y 4,i 1]⟩),
 (129,[s [123,32,120,32,61,32,105,59,32,115,101,110,100,32,98,46,103,40,120,41,59,32,125,32,125,32,99,111,109,112,111,110,101,110,116,32,98,32,123,32,111,110,32,103,40,106,41,32,123,32,125,32,125,32,125]],.tuple ⟨[y 4,i 1]⟩),
 (129,[s [120,32,61,32,105,59,32,115,101,110,100,32,98,46,103,40,120,41,59,32,125,32,125,32,99,111,109,112,111,110,101,110,116,32,98,32,123,32,111,110,32,103,40,106,41,32,123,32,125,32,125,32,125]],.tuple ⟨[y 1,i 1]⟩),
 (129,[s [61,32,105,59,32,115,101,110,100,32,98,46,103,40,120,41,59,32,125,32,125,32,99,111,109,112,111,110,101,110,116,32,98,32,123,32,111,110,32,103,40,106,41,32,123,32,125,32,125,32,125]],.tuple ⟨[y 4,i 1]⟩),
 (129,[s [105,59,32,115,101,110,100,32,98,46,103,40,120,41,59,32,125,32,125,32,99,111,109,112,111,110,101,110,116,32,98,32,123,32,111,110,32,103,40,106,41,32,123,32,125,32,125,32,125]],.tuple ⟨[y 1,i 1]⟩),
 (129,[s [59,32,115,101,110,100,32,98,46,103,40,120,41,59,32,125,32,125,32,99,111,109,112,111,110,101,110,116,32,98,32,123,32,111,110,32,103,40,106,41,32,123,32,125,32,125,32,125]],.tuple ⟨[y 4,i 1]⟩),
 (129,[s [115,101,110,100,32,98,46,103,40,120,41,59,32,125,32,125,32,99,111,109,112,111,110,101,110,116,32,98,32,123,32,111,110,32,103,40,106,41,32,123,32,125,32,125,32,125]],.tuple ⟨[y 2,i 4]⟩),
 (129,[s [98,46,103,40,120,41,59,32,125,32,125,32,99,111,109,112,111,110,101,110,116,32,98,32,123,32,111,110,32,103,40,106,41,32,123,32,125,32,125,32,125]],.tuple ⟨[y 1,i 1]⟩),
 (129,[s [46,103,40,120,41,59,32,125,32,125,32,99,111,109,112,111,110,101,110,116,32,98,32,123,32,111,110,32,103,40,106,41,32,123,32,125,32,125,32,125]],.tuple ⟨[y 4,i 1]⟩),
 (129,[s [103,40,120,41,59,32,125,32,125,32,99,111,109,112,111,110,101,110,116,32,98,32,123,32,111,110,32,103,40,106,41,32,123,32,125,32,125,32,125]],.tuple ⟨[y 1,i 1]⟩),
 (129,[s [40,120,41,59,32,125,32,125,32,99,111,109,112,111,110,101,110,116,32,98,32,123,32,111,110,32,103,40,106,41,32,123,32,125,32,125,32,125]],.tuple ⟨[y 4,i 1]⟩),
 (129,[s [120,41,59,32,125,32,125,32,99,111,109,112,111,110,101,110,116,32,98,32,123,32,111,110,32,103,40,106,41,32,123,32,125,32,125,32,125]],.tuple ⟨[y 1,i 1]⟩),
 (129,[s [41,59,32,125,32,125,32,99,111,109,112,111,110,101,110,116,32,98,32,123,32,111,110,32,103,40,106,41,32,123,32,125,32,125,32,125]],.tuple ⟨[y 4,i 1]⟩),
 (129,[s [59,32,125,32,125,32,99,111,109,112,111,110,101,110,116,32,98,32,123,32,111,110,32,103,40,106,41,32,123,32,125,32,125,32,125]],.tuple ⟨[y 4,i 1]⟩),
 (129,[s [125,32,125,32,99,111,109,112,111,110,101,110,116,32,98,32,123,32,111,110,32,103,40,106,41,32,123,32,125,32,125,32,125]],.tuple ⟨[y 4,i 1]⟩),
 (129,[s [125,32,99,111,109,112,111,110,101,110,116,32,98,32,123,32,111,110,32,103,40,106,41,32,123,32,125,32,125,32,125]],.tuple ⟨[y 4,i 1]⟩),
 (129,[s [99,111,109,112,111,110,101,110,116,32,98,32,123,32,111,110,32,103,40,106,41,32,123,32,125,32,125,32,125]],.tuple ⟨[y 2,i 9]⟩),
 (129,[s [98,32,123,32,111,110,32,103,40,106,41,32,123,32,125,32,125,32,125]],.tuple ⟨[y 1,i 1]⟩),
 (129,[s [123,32,111,110,32,103,40,106,41,32,123,32,125,32,125,32,125]],.tuple ⟨[y 4,i 1]⟩),
 (129,[s [111,110,32,103,40,106,41,32,123,32,125,32,125,32,125]],.tuple ⟨[y 2,i 2]⟩),
 (129,[s [103,40,106,41,32,123,32,125,32,125,32,125]],.tuple ⟨[y 1,i 1]⟩),
 (129,[s [40,106,41,32,123,32,125,32,125,32,125]],.tuple ⟨[y 4,i 1]⟩),
 (129,[s [106,41,32,123,32,125,32,125,32,125]],.tuple ⟨[y 1,i 1]⟩)]
def GR:A7:=[(129,[s [41,32,123,32,125,32,125,32,125]],.tuple ⟨[y 4,i 1]⟩),
 (129,[s [123,32,125,32,125,32,125]],.tuple ⟨[y 4,i 1]⟩),
 (129,[s [125,32,125,32,125]],.tuple ⟨[y 4,i 1]⟩),
 (129,[s [125,32,125]],.tuple ⟨[y 4,i 1]⟩),
 (129,[s [125]],.tuple ⟨[y 4,i 1]⟩),
 (129,[s [102]],.tuple ⟨[y 1,i 1]⟩),
 (129,[s [97]],.tuple ⟨[y 1,i 1]⟩),
 (129,[s [120]],.tuple ⟨[y 1,i 1]⟩),
 (129,[s [98]],.tuple ⟨[y 1,i 1]⟩),
 (129,[s [104]],.tuple ⟨[y 1,i 1]⟩),
 (129,[s [105]],.tuple ⟨[y 1,i 1]⟩),
 (129,[s [103]],.tuple ⟨[y 1,i 1]⟩),
 (129,[s [106]],.tuple ⟨[y 1,i 1]⟩)]
open Go.Ex Go.RowKit
abbrev zz:List (Option ap):=[Nr,Nq,Np,No,none,Nn,Nm]
def kA(w:World):Prop:=zz.length≤w.heap.size∧zZ zz w
def GG:GP:=⟨7,GQ Tryz.prog kA,kA⟩
def EE:av:=QS Tryz.prog GG [302] [(230,228,0),(228,228,0)] [435] [(333,22)]
def Qt:cL→List xM→AW→aZ xM:=qC EE sq (tQ EE sq) aa0 100000 60
def GZ:cL→List xM→AW→aZ xM:=qC EE sq (tQ EE sq) (oK (tU GS) (tU GR)) 100000 60
def ao6:cL→List xM→AW→aZ xM:=qC EE sq (tQ EE sq) (oK (oK (tU GS) (tU GR)) (oK Z3.hR (oK YB.hR (oK YA.hR Yz.hR)))) 100000 60
def R1:cL→List xM→AW→aZ xM:=qC EE sq (tQ EE sq) (oK (oK (tU GS) (tU GR)) Sj.hR) 100000 60
def ao5:cL→List xM→AW→aZ xM:=qC EE sq (tQ EE sq) (oK (oK (tU GS) (tU GR)) (oK Z5.hR (oK Z4.hR Sj.hR))) 100000 60
end
end Go.Proofs.YtnjdjocokegphaaGreatDoor.K
