/- The law, and its closed call awake. -/
import Derived.Test.YtaginlnifpbfgaaGreatDoorA0
import Derived.Test.YtaginlnifpbfgaaGreatDoorT0
import Derived.Test.YtaginlnifpbfgaaGreatDoorChecked
set_option linter.unusedVariables false
set_option linter.unusedSimpArgs false
namespace Go.Proofs.YtaginlnifpbfgaaGreatDoor.K
open Go.Ex Go.RowKit Go.W
noncomputable section
def Na:Option ao:=gb0
def M':Option ao:=CO
def M9:Option ao:=gb2
def M8:Option ao:=gb3
def M7:Option ao:=gb4
def M6:Option ao:=gb5
def M5:Option ao:=gb6
def M4:Option ao:=gb7
def M3:Option ao:=gb8
def fK:=B 1 103 [s [102],A 278 1,z,A 1025 2]
def vu:=B 1 153 [p 10]
def as0:=B 1 267 [y 2,s [102,108,101,101,116],i 0]
def Sk:=B 1 267 [y 1,s [102],i 6]
def ar9:=B 1 267 [y 4,s [123],i 8]
def ar8:=B 1 267 [y 2,s [102,108,97,103],i 10]
def Sj:=B 1 267 [y 1,s [120],i 15]
def ar7:=B 1 267 [y 4,s [61],i 17]
def Si:=B 1 267 [y 2,s [102,97,108,115,101],i 19]
def ar6:=B 1 267 [y 4,s [59],i 24]
def LZ:=B 1 267 [y 2,s [99,111,109,112,111,110,101,110,116],i 26]
def Sh:=B 1 267 [y 1,s [97],i 36]
def ar5:=B 1 267 [y 4,s [123],i 38]
def ar4:=B 1 267 [y 2,s [118,97,114],i 40]
def Sg:=B 1 267 [y 1,s [110],i 44]
def ar2:=B 1 267 [y 4,s [58],i 45]
def ar1:=B 1 267 [y 2,s [105,110,116],i 47]
def ar0:=B 1 267 [y 4,s [61],i 51]
def LY:=B 1 267 [y 3,s [48],i 53]
def aq9:=B 1 267 [y 4,s [59],i 54]
def Sf:=B 1 267 [y 2,s [111,110],i 56]
def Se:=B 1 267 [y 1,s [104],i 59]
def aq8:=B 1 267 [y 4,s [40],i 60]
def LX:=B 1 267 [y 1,s [105],i 61]
def Sd:=B 1 267 [y 4,s [41],i 62]
def aq7:=B 1 267 [y 4,s [123],i 64]
def sI:=B 1 267 [y 1,s [110],i 66]
def Sb:=B 1 267 [y 4,s [61],i 68]
def sH:=B 1 267 [y 1,s [110],i 70]
def EO:=B 1 267 [y 4,s [43],i 72]
def sG:=B 1 267 [y 1,s [105],i 74]
def oT:=B 1 267 [y 4,s [59],i 75]
def Sa:=B 1 267 [y 2,s [105,102],i 77]
def sF:=B 1 267 [y 1,s [120],i 80]
def oR:=B 1 267 [y 4,s [123],i 82]
def B6:=B 1 267 [y 2,s [115,101,110,100],i 84]
def R':=B 1 267 [y 1,s [98],i 89]
def aq6:=B 1 267 [y 4,s [46],i 90]
def R9:=B 1 267 [y 1,s [103],i 91]
def aq5:=B 1 267 [y 4,s [40],i 92]
def qX:=B 1 267 [y 1,s [110],i 93]
def nU:=B 1 267 [y 4,s [41],i 94]
def aq4:=B 1 267 [y 4,s [59],i 95]
def R8:=B 1 267 [y 4,s [125],i 97]
def aq3:=B 1 267 [y 2,s [101,108,115,101],i 99]
def aq2:=B 1 267 [y 4,s [123],i 104]
def zQ:=B 1 267 [y 2,s [97,102,116,101,114],i 106]
def su:=B 1 267 [y 3,s [50],i 112]
def pD:=B 1 267 [y 2,s [100,111],i 114]
def Re:=B 1 267 [y 1,s [104],i 117]
def ZM:=B 1 267 [y 4,s [40],i 118]
def qP:=B 1 267 [y 3,s [49],i 119]
def oL:=B 1 267 [y 4,s [41],i 120]
def ZL:=B 1 267 [y 4,s [59],i 121]
def Rc:=B 1 267 [y 4,s [125],i 123]
def Rb:=B 1 267 [y 4,s [125],i 125]
def Ln:=B 1 267 [y 4,s [125],i 127]
def ZK:=B 1 267 [y 2,s [99,111,109,112,111,110,101,110,116],i 129]
def Ra:=B 1 267 [y 1,s [98],i 139]
def ZJ:=B 1 267 [y 4,s [123],i 141]
def ZI:=B 1 267 [y 2,s [118,97,114],i 143]
def Q9:=B 1 267 [y 1,s [109],i 147]
def ZH:=B 1 267 [y 4,s [58],i 148]
def ZG:=B 1 267 [y 2,s [105,110,116],i 150]
def ZE:=B 1 267 [y 4,s [61],i 154]
def Lm:=B 1 267 [y 3,s [48],i 156]
def ZD:=B 1 267 [y 4,s [59],i 157]
def Q8:=B 1 267 [y 2,s [111,110],i 159]
def Q7:=B 1 267 [y 1,s [103],i 162]
def ZC:=B 1 267 [y 4,s [40],i 163]
def Ll:=B 1 267 [y 1,s [105],i 164]
def Q6:=B 1 267 [y 4,s [41],i 165]
def ZB:=B 1 267 [y 4,s [123],i 167]
def Ht:=B 1 267 [y 2,s [115,116,111,114,101],i 169]
def so:=B 1 267 [y 3,s [49],i 175]
def pB:=B 1 267 [y 4,s [61],i 177]
def sk:=B 1 267 [y 1,s [105],i 179]
def nO:=B 1 267 [y 4,s [59],i 180]
def sj:=B 1 267 [y 1,s [109],i 182]
def Q5:=B 1 267 [y 4,s [61],i 184]
def si:=B 1 267 [y 1,s [105],i 186]
def oK:=B 1 267 [y 4,s [59],i 187]
def Q4:=B 1 267 [y 4,s [125],i 189]
def Lj:=B 1 267 [y 4,s [125],i 191]
def Q3:=B 1 267 [y 4,s [125],i 193]
def kH:=B 1 197 [s [120],f]
def ZA:=C 2 197 [s [120],f]
def fb:=B 1 94 [s [97],A 299 1,A 748 1]
def fy:=B 1 98 [s [110],y 1,i 0]
def Zz:=C 3 98 [s [110],y 1,i 0]
def iB:=B 1 201 [A 746 1]
def eJ:=B 1 208 [s [104],A 313 1,A 742 2]
def Hs:=B 1 9 [s [105]]
def qf:=C 1 9 [s [105]]
def xT:=B 1 330 [y 1,s [110],e,A 427 1,z,z]
def zP:=B 4 335 [y 0,e,i 0,z]
def iQ:=B 1 335 [y 14,e,i 0,A 402 2]
def zO:=B 2 557 [s [111,114],y 23]
def zN:=B 2 557 [s [97,110,100],y 22]
def zM:=B 2 557 [s [43],y 14,s [45],y 15]
def dR:=B 1 335 [y 5,s [110],i 0,z]
def xS:=B 2 557 [s [42],y 11,s [47],y 12,s [37],y 13]
def xR:=B 2 557 [s [45],y 9,s [110,111,116],y 10]
def xQ:=B 1 557 [s [45],y 9]
def xP:=B 1 557 [s [110,111,116],y 10]
def wZ:=B 1 557 [s [42],y 11]
def wY:=B 1 557 [s [47],y 12]
def wX:=B 1 557 [s [37],y 13]
def wW:=B 1 557 [s [43],y 14]
def bk:=B 1 335 [y 5,s [105],i 0,z]
def zL:=B 1 557 [s [45],y 15]
def zK:=B 2 557 [s [61,61],y 16,s [33,61],y 17,s [60],y 18,s [60,61],y 19,s [62],y 20,s [62,61],y 21]
def zJ:=B 1 557 [s [61,61],y 16]
def zI:=B 1 557 [s [33,61],y 17]
def zH:=B 1 557 [s [60],y 18]
def zG:=B 1 557 [s [60,61],y 19]
def zF:=B 1 557 [s [62],y 20]
def zE:=B 1 557 [s [62,61],y 21]
def zD:=B 1 557 [s [97,110,100],y 22]
def zC:=B 1 557 [s [111,114],y 23]
def wV:=B 1 330 [y 4,e,e,A 500 1,A 587 1,A 738 1]
def gg:=B 1 335 [y 5,s [120],i 0,z]
def wU:=B 1 330 [y 6,s [98],s [103],A 582 1,z,z]
def wT:=B 1 330 [y 7,e,s [104],A 733 2,z,z]
def gf:=B 1 335 [y 1,e,i 2,z]
def bO:=B 1 335 [y 1,e,i 1,z]
def Zy:=B 1 9 [s [50],s [51]]
def dK:=B 1 94 [s [98],A 772 1,A 1020 1]
def iA:=B 1 98 [s [109],y 1,i 0]
def sh:=C 3 98 [s [109],y 1,i 0]
def dQ:=B 1 201 [A 1018 1]
def cG:=B 1 208 [s [103],A 786 1,A 1014 2]
def mg:=B 1 330 [y 8,e,e,A 926 2,z,z]
def mf:=B 1 330 [y 1,s [109],e,A 1011 1,z,z]
def Li:Option ao:=some ⟨.map [⟨s [104],t,0⟩] 1,1,true,false,0⟩
def Lh:Option ao:=some ⟨.map [⟨s [103],t,0⟩] 1,1,true,false,0⟩
def fH:=B 1 438 [t,f,i 1,i 1,f,f]
def m9:=B 1 501 [i 2,f,i 4,s [32,43,32]]
def aR:=B 1 501 [i 0,t,i 7,e]
def oJ:=B 1 438 [f,f,i 1,i 1,t,t]
def oH:=B 1 438 [t,t,i 0,i 4,f,f]
def oG:=B 1 438 [f,t,i 1,i 5,f,f]
def cZ:=B 1 501 [i 0,f,i 7,e]
def oF:=B 1 438 [f,f,i 2,i 2,f,t]
def Zx:=B 1 275 [e,e,i 0]
def Hr:=B 1 9 [s [120]]
def Lg:=B 1 94 [e,z,z]
def vk:=B 1 98 [e,y 0,i 0]
def Q2:=B 1 9 [s [110]]
def Zw:=B 1 201 [R 746 0 0 1]
def zB:=B 1 208 [e,z,z]
def jH:=B 1 509 [A 278 1,A 299 1,A 313 1]
def Zv:=B 1 9 [s [109]]
def Zu:=B 1 201 [R 1018 0 0 1]
def tZ:=B 1 509 [A 278 1,A 772 1,A 786 1]
def Eg:=B 1 289 [A 1591 1,A 1759 1,A 1763 1]
def Zs:=C 1 9 [s [120]]
def BD:=B 1 4 [t]
def aV:=B 1 349 [y 29,i 0,i 0,i 0]
def Ef:=B 4 349 [y 29,i 0,i 0,i 0]
def eh:=B 1 349 [y 2,i 0,i 0,i 0]
def Zr:=B 4 349 [y 2,i 0,i 0,i 0]
def ec:=B 1 349 [y 3,i 0,i 0,i 0]
def Q1:=B 4 349 [y 3,i 0,i 0,i 0]
def kG:=B 1 349 [y 14,i 0,i 0,i 0]
def fQ:=B 1 349 [y 24,i 0,i 0,i 0]
def Zq:=B 4 349 [y 24,i 0,i 0,i 0]
def kF:=B 1 349 [y 4,i 0,i 0,i 0]
def kY:=B 1 349 [y 30,i 1,i 0,i 1]
def kE:=B 1 349 [y 1,i 0,i 0,i 2]
def fP:=B 1 349 [y 1,i 0,i 0,i 1]
def Zp:=B 4 349 [y 1,i 0,i 0,i 1]
def jG:=B 1 349 [y 31,i 0,i 0,i 1]
def ca:=B 1 480 [s [99,111,115,116],e,i 0,i 0]
def iP:=B 1 480 [s [118,97,114],s [65],i 0,i 1]
def iO:=B 1 480 [s [112,97,114,97,109],s [65],i 0,i 1]
def sf:=B 1 480 [s [97,100,100],e,i 2,i 1]
def mc:=B 1 480 [s [115,101,116,118,97,114],s [65],i 1,i 0]
def se:=B 1 480 [s [102,108,97,103],s [65],i 0,i 1]
def kX:=B 1 349 [y 28,i 12,i 0,i 0]
def sd:=B 1 480 [s [98,114,97,110,99,104],s [65],i 1,i 0]
def m8:=B 1 349 [y 27,i 16,i 0,i 0]
def sa:=B 1 480 [s [106,117,109,112],s [65],i 0,i 0]
def gd:=B 1 480 [s [99,111,110,115,116],s [78],i 0,i 1]
def Zo:=B 3 240 []
def Zn:=B 1 4 []
def Hp:=C 1 4 [t]
def QX:=B 1 289 [A 1599 1,A 1845 1,A 1849 1]
def r9:=B 1 349 [y 32,i 0,i 4,i 0]
def BC:=B 1 480 [s [115,116,111,114,101],s [66],i 2,i 0]
def kD:=B 1 5 [y 10]
def Ee:=B 1 9 [s [125]]
def r8:Option ao:=some ⟨.cells [y 102,y 108,y 101,y 101,y 116,y 32,y 102,y 32,y 123,y 10,y 32,y 32,y 102,y 108,y 97,y 103,y 32,y 120,y 32,y 61,y 32,y 102,y 97,y 108,y 115,y 101,y 59,y 10,y 32,y 32,y 99,y 111,y 109,y 112,y 111,y 110,y 101,y 110,y 116,y 32,y 97,y 32,y 123,y 10,y 32,y 32,y 32,y 32,y 118,y 97,y 114,y 32,y 110,y 58,y 32,y 105,y 110,y 116,y 32,y 61,y 32,y 48,y 59,y 10,y 32,y 32,y 32,y 32,y 111,y 110,y 32,y 104,y 40,y 105,y 41,y 32,y 123,y 10,y 32,y 32,y 32,y 32,y 32,y 32,y 110,y 32,y 61,y 32,y 110,y 32,y 43,y 32,y 105,y 59,y 10,y 32,y 32,y 32,y 32,y 32,y 32,y 105,y 102,y 32,y 120,y 32,y 123,y 10,y 32,y 32,y 32,y 32,y 32,y 32,y 32,y 32,y 115,y 101,y 110,y 100,y 32,y 98,y 46,y 103,y 40,y 110,y 41,y 59,y 10,y 32,y 32,y 32,y 32,y 32,y 32,y 125,y 32,y 101,y 108,y 115,y 101,y 32,y 123,y 10,y 32,y 32,y 32,y 32,y 32,y 32,y 32,y 32,y 97,y 102,y 116,y 101,y 114,y 32,y 50,y 32,y 100,y 111,y 32,y 104,y 40,y 49,y 41,y 59,y 10,y 32,y 32,y 32,y 32,y 32,y 32,y 125,y 10,y 32,y 32,y 32,y 32,y 125,y 10,y 32,y 32,y 125,y 10,y 32,y 32,y 99,y 111,y 109,y 112,y 111,y 110,y 101,y 110,y 116,y 32,y 98,y 32,y 123,y 10,y 32,y 32,y 32,y 32,y 118,y 97,y 114,y 32,y 109,y 58,y 32,y 105,y 110,y 116,y 32,y 61,y 32,y 48,y 59,y 10,y 32,y 32,y 32,y 32,y 111,y 110,y 32,y 103,y 40,y 105,y 41,y 32,y 123,y 10,y 32,y 32,y 32,y 32,y 32,y 32,y 115,y 116,y 111,y 114,y 101,y 32,y 49,y 32,y 61,y 32,y 105,y 59,y 10,y 32,y 32,y 32,y 32,y 32,y 32,y 109,y 32,y 61,y 32,y 105,y 59,y 10,y 32,y 32,y 32,y 32,y 125,y 10,y 32,y 32,y 125,y 10,y 125,y 10],1,false,true,5⟩
def Zk:=B 1 103 [s [102],A 2239 1,A 2238 0,A 2240 2]
def oE:=B 1 94 [s [97],A 2245 1,A 2246 1]
def r7:=B 3 98 []
def Ed:=B 1 201 [A 2250 1]
def jF:=B 1 9 []
def Zj:=B 1 330 [y 1,s [110],e,A 2260 1,A 2273 0,A 2274 0]
def Zi:=B 1 335 [y 14,e,i 0,A 2264 2]
def Zh:=B 1 335 [y 5,s [110],i 0,A 2268 0]
def dH:=B 4 335 []
def Zg:=B 1 335 [y 5,s [105],i 0,A 2272 0]
def bU:=B 6 330 []
def Zf:=B 1 330 [y 4,e,e,A 2278 1,A 2283 1,A 2294 1]
def Ze:=B 1 335 [y 5,s [120],i 0,A 2282 0]
def Zd:=B 1 330 [y 6,s [98],s [103],A 2287 1,A 2292 0,A 2293 0]
def Zc:=B 1 335 [y 5,s [110],i 0,A 2291 0]
def Zb:=B 1 330 [y 7,e,s [104],A 2298 2,A 2307 0,A 2308 0]
def Za:=B 1 335 [y 1,e,i 2,A 2302 0]
def kf:=B 1 335 [y 1,e,i 1,A 2306 0]
def gT:=B 1 94 [s [98],A 2313 1,A 2314 1]
def jE:=B 1 201 [A 2318 1]
def tX:=B 3 208 [s [103],A 2323 1,A 2324 2]
def rZ:=B 1 208 [s [103],A 2323 1,A 2324 2]
def tW:=B 6 330 [y 8,e,e,A 2328 2,A 2337 0,A 2338 0,y 1,s [109],e,A 2342 1,A 2347 0,A 2348 0]
def ke:=B 1 330 [y 8,e,e,A 2328 2,A 2337 0,A 2338 0]
def tV:=B 4 335 [y 1,e,i 1,A 2332 0,y 5,s [105],i 0,A 2336 0]
def ka:=B 1 335 [y 1,e,i 1,A 2332 0]
def j9:=B 1 335 [y 5,s [105],i 0,A 2336 0]
def j8:=B 1 330 [y 1,s [109],e,A 2342 1,A 2347 0,A 2348 0]
def tU:=B 4 335 [y 5,s [105],i 0,A 2346 0]
def j7:=B 1 335 [y 5,s [105],i 0,A 2346 0]
def rY:=B 1 149 (rp 32 (y 0) [])
def vj:=B 1 458 [w 1718379877,w 1948280352,w 2064261152,w 1718378855,w 544743485,w 543580524,w 1936014090,w 538993519,w 1836085102,w 1701737504,w 1629518602,w 538976288,w 1986097696,w 1849303145,w 1853104189,w 540031754,w 3082924673,w 3083634624,w 1690299177,w 642010654,w 3685874382,w 2447948400,w 406672775,w 3974344006,w 4146160305,w 1938016814,w 1893999264,w 2865308521,w 4100171705,w 3146252351,w 552835314,w 2428518197,w 2702903604,w 3852324979,w 539040204,w 1697237280,w 613710239,w 3906985401,w 3624333900,w 3371616344,w 607521812,w 2534372601,w 744907639,w 2830018147,w 1126952574,w 566860169,w 3955189757,w 1948291446,w 650813031,w 1187289500,w 602798406,w 2902343967,w 595951704,w 4215949266,w 3606085434,w 180026291,w 3627796766,w 1354007716,w 4074488361,w 2927849729,w 1207734406,w 245711855,w 2532197849,w 3270719916]
def vh:=B 1 397 [w 3824762456,w 1310768258,w 2033221070,w 1613789590,w 1911360959,w 680790214,w 856385349,w 2815114953]
def zA:=B 1 458 [w 538976288,w 1869488232,w 677980448,w 2064261152,w 538976288,w 1847606560,w 1847601952,w 1765476896,w 538976288,w 543778336,w 2015394570,w 538976288,w 538976288,w 1936027236,w 543305319,w 678308155,w 3903452812,w 3361047438,w 3587595010,w 1492858060,w 3165270177,w 3543950320,w 2222400709,w 1541671385,w 2098661692,w 2167935565,w 2198794509,w 879090636,w 922202675,w 2420400761,w 2762755063,w 3695473855,w 2064105485,w 2318748661,w 2163445935,w 1969118572,w 3935199251,w 2946957126,w 413787363,w 744752622,w 1710107788,w 999428283,w 3025375761,w 4118294205,w 2612857434,w 2764282422,w 1852912959,w 3862757546,w 460142823,w 171373479,w 4075806529,w 1531018248,w 3410014501,w 1808323739,w 639317536,w 1474980400,w 1663982088,w 2016707584,w 1692241233,w 2016254927,w 503178701,w 2277263388,w 500520258,w 2046448291]
def zz:=B 1 397 [w 3288712664,w 2193186112,w 2973070711,w 1636816595,w 1328722844,w 740772539,w 2674141848,w 1731692535]
def Ec:=B 1 458 [w 169877536,w 538976381,w 543517811,w 1696627466,w 538976288,w 538976288,w 1634104421,w 1914712608,w 1685004392,w 674310459,w 169877536,w 538976381,w 169877536,w 545065504,w 545065504,w 543387501,w 1292394773,w 3185843410,w 2213392652,w 1231640511,w 4218462579,w 500079689,w 144416120,w 1899140484,w 410840684,w 233184045,w 887231536,w 869885829,w 2001286176,w 3474900149,w 1406233039,w 794707800,w 2863470820,w 1129071759,w 157003224,w 1010643565,w 2759115607,w 3346039712,w 3582413867,w 1310308332,w 2296082629,w 3897785661,w 2641714448,w 2892050966,w 118968027,w 850855918,w 352700455,w 3044671087,w 4158619708,w 4226340033,w 2001045000,w 1060000501,w 3297603615,w 1572033065,w 1575131705,w 1333517490,w 1554446010,w 1531320879,w 4136782781,w 2760720389,w 3978789996,w 3611844483,w 1298163998,w 3175132019]
def Eb:=B 1 397 [w 1242608317,w 1090087079,w 3861019288,w 1945349415,w 1050236891,w 2591158264,w 3186872635,w 116607427]
def Lf:=B 1 458 [w 1886350949,w 1853104226,w 544934432,w 538976374,w 1634869357,w 975202670,w 1948269856,w 809175584,w 538976367,w 1847617320,w 1764302971,w 169877536,w 538976371,w 1953460837,w 540090429,w 543767306,w 1403782580,w 424750754,w 2372747048,w 1371231427,w 3483329181,w 1550028992,w 1990675820,w 280353138,w 3444163336,w 118143375,w 3725781383,w 3490689229,w 3208949591,w 1336614918,w 1373990941,w 1166200656,w 2105556146,w 1161085355,w 3505506771,w 79506583,w 1815532248,w 3884189949,w 4290881430,w 2357222665,w 2853263524,w 2871192208,w 3620665269,w 4156227417,w 424541345,w 3699319755,w 1008211754,w 3383184123,w 2691213255,w 954194986,w 1973102112,w 1032995502,w 629160521,w 3901482591,w 4187566410,w 3339080606,w 809086160,w 3506881169,w 204317390,w 345845491,w 2883427612,w 1592582776,w 3158243421,w 2583807243]
def Le:=B 1 397 [w 757629643,w 67935284,w 3664349079,w 3064006145,w 1653712123,w 2208838038,w 4124127805,w 4206756047]
def QW:=B 1 400 (w 2302812191::w 3511143714::w 660662502::w 2443507915::w 3008958640::w 232447387::w 2780327680::w 1821695595::(rp 6 (y 32) (y 109::y 32::y 61::y 32::y 105::y 59::y 10::y 32::y 32::y 32::y 32::y 125::y 10::y 32::y 32::y 125::y 10::y 125::y 10::y 32::y 61::y 32::y 48::y 59::y 10::y 32::y 32::y 32::y 32::y 111::y 110::y 32::y 103::y 40::y 105::y 41::y 32::y 123::y 10::(rp 6 (y 32) [y 115,y 116,y 111,y 114,y 101,y 32,y 49,y 32,y 61,y 32,y 105,y 59,y 10,.int .u64 281]))))
def QV:=B 1 5 (y 128::(rp 36 (y 0) [y 8,y 200]))
def QU:=B 1 5 (rp 6 (y 0) [y 8,y 200])
def Y':=B 1 400 (w 4274381878::w 3048590157::w 1439926004::w 2969596135::w 356545184::w 176561499::w 1739740548::w 1244907009::(rp 6 (y 32) (y 109::y 32::y 61::y 32::y 105::y 59::y 10::y 32::y 32::y 32::y 32::y 125::y 10::y 32::y 32::y 125::y 10::y 125::y 10::y 128::(rp 36 (y 0) [y 8,y 200,.int .u64 320]))))
def Y9:=B 1 458 (w 538976288::w 538996000::w 1025534267::w 169877536::w 545065504::w 545065597::w 176160768::(rp 8 (w 0) [w 2248,w 2133616022,w 2435706847,w 1155459953,w 1528292663,w 2249513650,w 804098093,w 11444166,w 4182060805,w 759815108,w 2000354866,w 833201842,w 2799146615,w 393266357,w 982200858,w 104932724,w 1728653590,w 2204924376,w 3310749007,w 1011290710,w 2016021714,w 1740109849,w 2852208160,w 3387526558,w 817040521,w 3212075185,w 2807467781,w 2218761511,w 4274585141,w 4264247001,w 116545966,w 2582063822,w 1300135947,w 2706345176,w 1225987749,w 2612048769,w 539582007,w 3655103361,w 277297158,w 2789472790,w 3116797960,w 1196204952,w 2516118166,w 3049383245,w 2758911579,w 2811019578,w 3653409816,w 192519483,w 4175524338]))
def Y8:=B 1 397 [w 1971569687,w 3832413739,w 779263502,w 526088220,w 1642553840,w 4239081408,w 3254380164,w 3718178710]
def QT:=B 1 149 [y 254,y 197,y 228,y 54,y 181,y 181,y 203,y 77,y 85,y 211,y 134,y 244,y 177,y 0,y 112,y 231,y 21,y 64,y 114,y 160,y 10,y 134,y 29,y 91,y 103,y 178,y 85,y 132,y 74,y 51,y 198,y 1]
def kc0:List (Option ao):=[Na,M',M9,M8,M7,M6,M5,M4,M3]
def lR:List (Option ao):=[Na,M',M9,M8,M7,M6,M5,M4,M3,fK,B 1 160 [A 263 83,i 83,i 194,s [102],A 278 1,z,A 1025 2,i 0,i 0],vu,B 1 9 [s [102,108,101,101,116,32,102,32,123,32,102,108,97,103,32,120,32,61,32,102,97,108,115,101,59,32,99,111,109,112,111,110,101,110,116,32,97,32,123,32,118,97,114,32,110,58,32,105,110,116,32,61,32,48,59,32,111,110,32,104,40,105,41,32,123,32,110,32,61,32,110,32,43,32,105,59,32,105,102,32,120,32,123,32,115,101,110,100,32,98,46,103,40,110,41,59,32,125,32,101,108,115,101,32,123,32,97,102,116,101,114,32,50,32,100,111,32,104,40,49,41,59,32,125,32,125,32,125,32,99,111,109,112,111,110,101,110,116,32,98,32,123,32,118,97,114,32,109,58,32,105,110,116,32,61,32,48,59,32,111,110,32,103,40,105,41,32,123,32,115,116,111,114,101,32,49,32,61,32,105,59,32,109,32,61,32,105,59,32,125,32,125,32,125]],N,N,as0,B 3 267 [y 2,s [102,108,101,101,116],i 0],N,Sk,B 3 267 [y 1,s [102],i 6],N,ar9,B 3 267 [y 4,s [123],i 8],N,ar8,B 3 267 [y 2,s [102,108,97,103],i 10],N,Sj,B 3 267 [y 1,s [120],i 15],N,ar7,B 3 267 [y 4,s [61],i 17],N,Si,B 3 267 [y 2,s [102,97,108,115,101],i 19],N,ar6,B 3 267 [y 4,s [59],i 24],N,LZ,B 3 267 [y 2,s [99,111,109,112,111,110,101,110,116],i 26],N,Sh,B 3 267 [y 1,s [97],i 36],N,ar5,B 3 267 [y 4,s [123],i 38],N,ar4,B 3 267 [y 2,s [118,97,114],i 40],N,Sg,B 3 267 [y 1,s [110],i 44],N,ar2,B 3 267 [y 4,s [58],i 45],N,ar1,B 3 267 [y 2,s [105,110,116],i 47],N,ar0,B 3 267 [y 4,s [61],i 51],N,LY]
def lQ:List (Option ao):=[B 3 267 [y 3,s [48],i 53],N,aq9,B 3 267 [y 4,s [59],i 54],N,Sf,B 3 267 [y 2,s [111,110],i 56],N,Se,B 3 267 [y 1,s [104],i 59],N,aq8,B 3 267 [y 4,s [40],i 60],N,LX,B 3 267 [y 1,s [105],i 61],N,Sd,B 3 267 [y 4,s [41],i 62],N,aq7,B 3 267 [y 4,s [123],i 64],N,sI,B 3 267 [y 1,s [110],i 66],N,Sb,B 3 267 [y 4,s [61],i 68],N,sH,B 3 267 [y 1,s [110],i 70],N,EO,B 3 267 [y 4,s [43],i 72],N,sG,B 3 267 [y 1,s [105],i 74],N,oT,B 3 267 [y 4,s [59],i 75],N,Sa,B 3 267 [y 2,s [105,102],i 77],N,sF,B 3 267 [y 1,s [120],i 80],N,oR,B 3 267 [y 4,s [123],i 82],N,B6,B 3 267 [y 2,s [115,101,110,100],i 84],N,R',B 3 267 [y 1,s [98],i 89],N,aq6,B 3 267 [y 4,s [46],i 90],N,R9,B 3 267 [y 1,s [103],i 91],N,aq5,B 3 267 [y 4,s [40],i 92]]
def lP:List (Option ao):=[N,qX,B 3 267 [y 1,s [110],i 93],N,nU,B 3 267 [y 4,s [41],i 94],N,aq4,B 3 267 [y 4,s [59],i 95],N,R8,B 3 267 [y 4,s [125],i 97],N,aq3,B 3 267 [y 2,s [101,108,115,101],i 99],N,aq2,B 3 267 [y 4,s [123],i 104],N,zQ,B 3 267 [y 2,s [97,102,116,101,114],i 106],N,su,B 3 267 [y 3,s [50],i 112],N,pD,B 3 267 [y 2,s [100,111],i 114],N,Re,B 3 267 [y 1,s [104],i 117],N,ZM,B 3 267 [y 4,s [40],i 118],N,qP,B 3 267 [y 3,s [49],i 119],N,oL,B 3 267 [y 4,s [41],i 120],N,ZL,B 3 267 [y 4,s [59],i 121],N,Rc,B 3 267 [y 4,s [125],i 123],N,Rb,B 3 267 [y 4,s [125],i 125],N,Ln,B 3 267 [y 4,s [125],i 127],N,ZK,B 3 267 [y 2,s [99,111,109,112,111,110,101,110,116],i 129],N,Ra,B 3 267 [y 1,s [98],i 139],N,ZJ,B 3 267 [y 4,s [123],i 141],N,ZI,B 3 267 [y 2,s [118,97,114],i 143],N]
def lO:List (Option ao):=[Q9,B 3 267 [y 1,s [109],i 147],N,ZH,B 3 267 [y 4,s [58],i 148],N,ZG,B 3 267 [y 2,s [105,110,116],i 150],N,ZE,B 3 267 [y 4,s [61],i 154],N,Lm,B 3 267 [y 3,s [48],i 156],N,ZD,B 3 267 [y 4,s [59],i 157],N,Q8,B 3 267 [y 2,s [111,110],i 159],N,Q7,B 3 267 [y 1,s [103],i 162],N,ZC,B 3 267 [y 4,s [40],i 163],N,Ll,B 3 267 [y 1,s [105],i 164],N,Q6,B 3 267 [y 4,s [41],i 165],N,ZB,B 3 267 [y 4,s [123],i 167],N,Ht,B 3 267 [y 2,s [115,116,111,114,101],i 169],N,so,B 3 267 [y 3,s [49],i 175],N,pB,B 3 267 [y 4,s [61],i 177],N,sk,B 3 267 [y 1,s [105],i 179],N,nO,B 3 267 [y 4,s [59],i 180],N,sj,B 3 267 [y 1,s [109],i 182],N,Q5,B 3 267 [y 4,s [61],i 184],N,si,B 3 267 [y 1,s [105],i 186],N,oK,B 3 267 [y 4,s [59],i 187],N,Q4]
def lN:List (Option ao):=[B 3 267 [y 4,s [125],i 189],N,Lj,B 3 267 [y 4,s [125],i 191],N,Q3,B 3 267 [y 4,s [125],i 193],C 3 267 [y 2,s [102,108,101,101,116],i 0,y 1,s [102],i 6,y 4,s [123],i 8,y 2,s [102,108,97,103],i 10,y 1,s [120],i 15,y 4,s [61],i 17,y 2,s [102,97,108,115,101],i 19,y 4,s [59],i 24,y 2,s [99,111,109,112,111,110,101,110,116],i 26,y 1,s [97],i 36,y 4,s [123],i 38,y 2,s [118,97,114],i 40,y 1,s [110],i 44,y 4,s [58],i 45,y 2,s [105,110,116],i 47,y 4,s [61],i 51,y 3,s [48],i 53,y 4,s [59],i 54,y 2,s [111,110],i 56,y 1,s [104],i 59,y 4,s [40],i 60,y 1,s [105],i 61,y 4,s [41],i 62,y 4,s [123],i 64,y 1,s [110],i 66,y 4,s [61],i 68,y 1,s [110],i 70,y 4,s [43],i 72,y 1,s [105],i 74,y 4,s [59],i 75,y 2,s [105,102],i 77,y 1,s [120],i 80,y 4,s [123],i 82,y 2,s [115,101,110,100],i 84,y 1,s [98],i 89,y 4,s [46],i 90,y 1,s [103],i 91,y 4,s [40],i 92,y 1,s [110],i 93,y 4,s [41],i 94,y 4,s [59],i 95,y 4,s [125],i 97,y 2,s [101,108,115,101],i 99,y 4,s [123],i 104,y 2,s [97,102,116,101,114],i 106,y 3,s [50],i 112,y 2,s [100,111],i 114,y 1,s [104],i 117,y 4,s [40],i 118,y 3,s [49],i 119,y 4,s [41],i 120,y 4,s [59],i 121,y 4,s [125],i 123,y 4,s [125],i 125,y 4,s [125],i 127,y 2,s [99,111,109,112,111,110,101,110,116],i 129,y 1,s [98],i 139,y 4,s [123],i 141,y 2,s [118,97,114],i 143,y 1,s [109],i 147,y 4,s [58],i 148,y 2,s [105,110,116],i 150,y 4,s [61],i 154,y 3,s [48],i 156,y 4,s [59],i 157,y 2,s [111,110],i 159,y 1,s [103],i 162,y 4,s [40],i 163,y 1,s [105],i 164,y 4,s [41],i 165,y 4,s [123],i 167,y 2,s [115,116,111,114,101],i 169,y 3,s [49],i 175,y 4,s [61],i 177,y 1,s [105],i 179,y 4,s [59],i 180,y 1,s [109],i 182,y 4,s [61],i 184,y 1,s [105],i 186,y 4,s [59],i 187,y 4,s [125],i 189,y 4,s [125],i 191,y 4,s [125],i 193],vu,as0,Sk,Sk,ar9,ar8,kH,Sj,Sj,ar7,Si,Si,ar6,B 2 197 [s [120],f],ZA,LZ,LZ,LZ,fb,Sh,Sh,ar5,ar4,fy,Sg,Sg,fy,ar2,ar1,ar0,LY,LY,LY,aq9,B 3 98 [s [110],y 1,i 0],Zz,Sf,vu,iB,iB,Sf,Se,Se,eJ,aq8,LX,LX,LX,Hs,qf,Sd,Sd,aq7,sI,vu,xT]
def lM:List (Option ao):=[xT,B 1 297 [.func (.func 353) ⟨[]⟩ ⟨[p 320,p 318]⟩],sI,sI,sI,sI,sI,sI,sI,sI,sI,sI,Sb,Sb,zP,iQ,zO,iQ,iQ,zN,iQ,iQ,iQ,zM,iQ,dR,xS,dR,dR,xR,xQ,sH,xP,sH,dR,sH,sH,sH,sH,sH,sH,sH,sH,sH,EO,dR,wZ,EO,wY,EO,wX,EO,iQ,wW,EO,bk,xS,bk,bk,xR,xQ,sG,xP,sG]
def lL:List (Option ao):=[bk,sG,sG,sG,sG,sG,sG,sG,sG,sG,oT,bk,wZ,oT,wY,oT,wX,oT,B 4 335 [y 5,s [110],i 0,z,y 5,s [105],i 0,z],wW,oT,zL,oT,iQ,zK,zJ,oT,zI,oT,zH,oT,zG,oT,zF,oT,zE,oT,iQ,zD,oT,iQ,zC,oT,C 4 335 [y 14,e,i 0,A 402 2],oT,B 6 330 [y 1,s [110],e,A 427 1,z,z],N,Sa,vu,wV,wV,B 1 297 [.func (.func 353) ⟨[]⟩ ⟨[p 434,p 432]⟩],Sa,zP,gg,zO,gg,gg,zN,gg,gg,gg,zM,gg]
def lK:List (Option ao):=[gg,xS,gg,gg,xR,xQ,sF,xP,sF,gg,sF,sF,sF,sF,sF,sF,sF,sF,sF,oR,gg,wZ,oR,wY,oR,wX,oR,gg,wW,oR,zL,oR,gg,zK,zJ,oR,zI,oR,zH,oR,zG,oR,zF,oR,zE,oR,gg,zD,oR,gg,zC,oR,C 4 335 [y 5,s [120],i 0,z],oR,B6,vu,wU,wU,B 1 297 [.func (.func 353) ⟨[]⟩ ⟨[p 505,p 503]⟩],B6,B6,B6,B6,B6]
def lJ:List (Option ao):=[R',R',aq6,R9,R9,aq5,qX,zP,dR,zO,dR,dR,zN,dR,dR,dR,zM,dR,dR,xS,dR,dR,xR,xQ,qX,xP,qX,dR,qX,qX,qX,qX,qX,qX,qX,qX,qX,nU,dR,wZ,nU,wY,nU,wX,nU,dR,wW,nU,zL,nU,dR,zK,zJ,nU,zI,nU,zH,nU,zG,nU,zF,nU,zE,nU]
def lD:List (Option ao):=[dR,zD,nU,dR,zC,nU,C 4 335 [y 5,s [110],i 0,z],nU,nU,aq4,B 6 330 [y 6,s [98],s [103],A 582 1,z,z],C 6 330 [y 6,s [98],s [103],A 582 1,z,z],R8,R8,aq3,aq2,zQ,vu,wT,wT,B 1 297 [.func (.func 353) ⟨[]⟩ ⟨[p 595,p 593]⟩],zQ,zQ,zQ,zQ,zQ,zQ,zP,gf,zO,gf,gf,zN,gf,gf,gf,zM,gf,gf,xS,gf,gf,xR,xQ,su,xP,su,gf,su,su,su,su,su,su,su,su,su,gf,wZ,pD,wY,pD,wX,pD]
def lA:List (Option ao):=[gf,wW,pD,zL,pD,gf,zK,zJ,pD,zI,pD,zH,pD,zG,pD,zF,pD,zE,pD,gf,zD,pD,gf,zC,pD,N,pD,Re,Re,ZM,qP,zP,bO,zO,bO,bO,zN,bO,bO,bO,zM,bO,bO,xS,bO,bO,xR,xQ,qP,xP,qP,bO,qP,qP,qP,qP,qP,qP,qP,qP,qP,bO,wZ,oL]
def lz:List (Option ao):=[wY,oL,wX,oL,bO,wW,oL,zL,oL,bO,zK,zJ,oL,zI,oL,zH,oL,zG,oL,zF,oL,zE,oL,bO,zD,oL,bO,zC,oL,C 4 335 [y 1,e,i 2,z,y 1,e,i 1,z],oL,oL,ZL,B 6 330 [y 7,e,s [104],A 733 2,z,z],C 6 330 [y 7,e,s [104],A 733 2,z,z],Rc,Rc,B 6 330 [y 4,e,e,A 500 1,A 587 1,A 738 1],C 6 330 [y 1,s [110],e,A 427 1,z,z,y 4,e,e,A 500 1,A 587 1,A 738 1],Rb,Rb,B 3 208 [s [104],A 313 1,A 742 2],C 3 208 [s [104],A 313 1,A 742 2],Ln,iB,Zy,Ln,Ln,B 3 94 [s [97],A 299 1,A 748 1],N,ZK,dK,Ra,Ra,ZJ,ZI,iA,Q9,Q9,iA,ZH,ZG,ZE,Lm]
def ly:List (Option ao):=[Lm,Lm,ZD,B 3 98 [s [109],y 1,i 0],sh,Q8,vu,dQ,dQ,Q8,Q7,Q7,cG,ZC,Ll,Ll,Ll,Hs,qf,Q6,Q6,ZB,Ht,vu,mg,mg,B 1 297 [.func (.func 353) ⟨[]⟩ ⟨[p 793,p 791]⟩],Ht,Ht,Ht,B 1 9 [s [61]],zP,bO,zO,bO,bO,zN,bO,bO,bO,zM,bO,bO,xS,bO,bO,xR,xQ,so,xP,so,bO,so,so,so,so,so,so,so,so,so,bO,wZ,pB]
def lu:List (Option ao):=[wY,pB,wX,pB,bO,wW,pB,zL,pB,bO,zK,zJ,pB,zI,pB,zH,pB,zG,pB,zF,pB,zE,pB,bO,zD,pB,bO,zC,pB,N,pB,zP,bk,zO,bk,bk,zN,bk,bk,bk,zM,bk,bk,xS,bk,bk,xR,xQ,sk,xP,sk,bk,sk,sk,sk,sk,sk,sk,sk,sk,sk,nO,bk,wZ]
def lq:List (Option ao):=[nO,wY,nO,wX,nO,bk,wW,nO,zL,nO,bk,zK,zJ,nO,zI,nO,zH,nO,zG,nO,zF,nO,zE,nO,bk,zD,nO,bk,zC,nO,C 4 335 [y 1,e,i 1,z,y 5,s [105],i 0,z],nO,nO,B 6 330 [y 8,e,e,A 926 2,z,z],N,sj,vu,mf,mf,B 1 297 [.func (.func 353) ⟨[]⟩ ⟨[p 934,p 932]⟩],sj,sj,sj,sj,sj,sj,sj,sj,sj,sj,Q5,Q5,zP,bk,zO,bk,bk,zN,bk,bk,bk,zM,bk,bk]
def lj:List (Option ao):=[xS,bk,bk,xR,xQ,si,xP,si,bk,si,si,si,si,si,si,si,si,si,oK,bk,wZ,oK,wY,oK,wX,oK,bk,wW,oK,zL,oK,bk,zK,zJ,oK,zI,oK,zH,oK,zG,oK,zF,oK,zE,oK,bk,zD,oK,bk,zC,oK,C 4 335 [y 5,s [105],i 0,z],oK,B 6 330 [y 1,s [109],e,A 1011 1,z,z],C 6 330 [y 8,e,e,A 926 2,z,z,y 1,s [109],e,A 1011 1,z,z],Q4,Q4,B 3 208 [s [103],A 786 1,A 1014 2],C 3 208 [s [103],A 786 1,A 1014 2],Lj,dQ,Zy,Lj,Lj]
def li:List (Option ao):=[B 3 94 [s [98],A 772 1,A 1020 1],C 3 94 [s [97],A 299 1,A 748 1,s [98],A 772 1,A 1020 1],Q3,Q3,fK,fK,fb,Li,iB,eJ,dK,Lh,dQ,cG,fK,fb,iB,eJ,eJ,iQ,iQ,dR,bk,gg,gg,dR,dR,gf,gf,bO,bO,dK,dQ,cG,cG,bO,bO,bk,bk,bk,bk,fK,kH,fb,fy,dK,iA,fK,fb,iB,eJ,eJ,fH,fH,m9,m9,aR,aR,aR,aR,oJ,oJ,aR,aR]
def lh:List (Option ao):=[oH,oH,aR,aR,oG,oG,cZ,cZ,cZ,cZ,dK,dQ,cG,cG,oF,oF,cZ,cZ,aR,aR,fH,fH,aR,aR,fK,fb,fy,fy,dK,iA,iA,fK,fb,iB,eJ,eJ,fH,fH,m9,m9,aR,aR,aR,aR,oJ,oJ,aR,aR,oH,oH,aR,aR,oG,oG,cZ,cZ,cZ,cZ,dK,dQ,cG,cG,oF,oF]
def cK6:List (Option ao):=[cZ,cZ,aR,aR,fH,fH,aR,aR]
def mJ:List (Option ao):=[cZ,cZ,aR,aR,fH,fH,aR,aR,fK,fK,fK,fK,fK,fb,Li,iB,eJ,dK,Lh,dQ,cG,fK,fb,iB,eJ,eJ,iQ,iQ,dR,bk,gg,gg,dR,dR,gf,gf,bO,bO,dK,dQ,cG,cG,bO,bO,bk,bk,bk,bk,fK,kH,fb,fy,dK,iA,fK,fb,iB,eJ,eJ,fH,fH,m9,m9,aR]
def mI:List (Option ao):=[aR,aR,aR,oJ,oJ,aR,aR,oH,oH,aR,aR,oG,oG,cZ,cZ,cZ,cZ,dK,dQ,cG,cG,oF,oF,cZ,cZ,aR,aR,fH,fH,aR,aR,fK,fb,fy,fy,dK,iA,iA,fK,fb,iB,eJ,eJ,fH,fH,m9,m9,aR,aR,aR,aR,oJ,oJ,aR,aR,oH,oH,aR,aR,oG,oG,cZ,cZ,cZ]
def mH:List (Option ao):=[cZ,dK,dQ,cG,cG,oF,oF,cZ,cZ,aR,aR,fH,fH,aR,aR,fK,Zx,B 1 379 [s [102],A 278 1,z,A 1025 2,s [115,116,97,116,101,109,101,110,116,32,98,46,103,32,49,32,49],e,e,i 0],fK,fK,fb,Li,iB,eJ,dK,Lh,dQ,cG,fK,fb,iB,eJ,eJ,iQ,iQ,dR,bk,gg,gg,dR,dR,gf,gf,bO,bO,dK,dQ,cG,cG,bO,bO,bk,bk,bk,bk,fK,kH,fb,fy,dK,iA,fK,fb,iB]
def mG:List (Option ao):=[eJ,eJ,fH,fH,m9,m9,aR,aR,aR,aR,oJ,oJ,aR,aR,oH,oH,aR,aR,oG,oG,cZ,cZ,cZ,cZ,dK,dQ,cG,cG,oF,oF,cZ,cZ,aR,aR,fH,fH,aR,aR,fK,fb,fy,fy,dK,iA,iA,fK,fb,iB,eJ,eJ,fH,fH,m9,m9,aR,aR,aR,aR,oJ,oJ,aR,aR,oH,oH]
def mF:List (Option ao):=[aR,aR,oG,oG,cZ,cZ,cZ,cZ,dK,dQ,cG,cG,oF,oF,cZ,cZ,aR,aR,fH,fH,aR,aR,kH,Hr,fb,Lg,Lg,B 1 9 [s [97]],kH,fy,vk,vk,Q2,kH,iB,eJ,Zw,zB,zB,Zw,zB,zB,fb,eJ,vk,fy,vk,Hs,kH,B 1 511 [p 1297,A 278 1,A 299 1,A 313 1,s [97],A 299 1,A 748 1,s [115,116,97,116,101,109,101,110,116,32,97,46,104,32,49,32],i 4],xT,xT,jH,fy,fy,fy,fy,iQ,jH,iQ,jH,dR,jH,dR]
def mE:List (Option ao):=[jH,jH,fy,fy,fy,jH,bk,jH,bk,jH,jH,jH,wV,wV,gg,jH,gg,jH,jH,vk,fy,vk,Hr,kH,jH,wU,wU,dK,dK,fb,dK,dK,cG,dQ,cG,cG,dR,jH,dR,jH,jH,fy,fy,fy,jH,wT,wT,fb,eJ,iB,eJ,eJ,gf,jH,gf,jH,bO,jH,bO,jH,dK,Lg,Lg,fb]
def mD:List (Option ao):=[B 1 9 [s [98]],kH,iA,vk,vk,Zv,kH,dQ,cG,Zu,zB,zB,Zu,zB,zB,dK,cG,vk,iA,vk,Hs,kH,B 1 511 [p 1297,A 278 1,A 772 1,A 786 1,s [98],A 772 1,A 1020 1,s [115,116,97,116,101,109,101,110,116,32,98,46,103,32,49,32],i 2],mg,mg,bO,tZ,bO,tZ,bk,tZ,bk,tZ,tZ,tZ,mf,mf,tZ,iA,iA,iA,iA,bk,tZ,bk,tZ,tZ,tZ,Zx,B 1 281 [s [102],A 278 1,z,A 1025 2,A 1601 2,i 1,A 1773 1,z,A 1770 1,A 786 1,A 1811 7],fb,fb,iB,eJ,B 1 9 [s [104]],C 1 9 [s [104]],B 1 177 [A 1591 1],N,dK,dK,dQ,cG,B 1 9 [s [103]],C 1 9 [s [103]]]
def mC:List (Option ao):=[B 1 177 [A 1599 1],C 1 177 [A 1591 1,A 1599 1],B 1 285 [A 1851 2],Eg,fb,kH,Hr,Zs,fy,Q2,C 1 9 [s [110]],Eg,B 3 240 [i 1,i 2,A 1689 16],BD,iB,eJ,eJ,B 1 240 [i 1,i 2,A 1689 16],xT,xT,aV,Ef,N,iQ,iQ,dR,dR,eh,Zr,N,bk,bk,ec,Q1,N,kG,B 4 349 [y 14,i 0,i 0,i 0],N,fQ,Zq,N,wV,wV,aV,Ef,N,gg,gg,kF,B 4 349 [y 4,i 0,i 0,i 0],N,B 1 349 [y 28,i 0,i 0,i 0],B 4 349 [y 28,i 0,i 0,i 0],N,wU,wU,aV,Ef,N,dR,dR,eh,Zr,N]
def mB:List (Option ao):=[fb,dK,kY,B 4 349 [y 30,i 1,i 0,i 1],N,B 1 349 [y 27,i 0,i 0,i 0],B 4 349 [y 27,i 0,i 0,i 0],N,wT,wT,aV,Ef,N,gf,gf,kE,B 4 349 [y 1,i 0,i 0,i 2],N,bO,bO,fP,Zp,N,jG,B 4 349 [y 31,i 0,i 0,i 1],C 4 349 [y 29,i 0,i 0,i 0,y 2,i 0,i 0,i 0,y 3,i 0,i 0,i 0,y 14,i 0,i 0,i 0,y 24,i 0,i 0,i 0,y 29,i 0,i 0,i 0,y 4,i 0,i 0,i 0,y 28,i 12,i 0,i 0,y 29,i 0,i 0,i 0,y 2,i 0,i 0,i 0,y 30,i 1,i 0,i 1,y 27,i 16,i 0,i 0,y 29,i 0,i 0,i 0,y 1,i 0,i 0,i 2,y 1,i 0,i 0,i 1,y 31,i 0,i 0,i 1],B 1 3 [i 0,i 0,i 1,i 2,i 1,i 0,i 0,i 1,i 0,i 0,i 1,i 0,i 0,i 0,i 1,i 2,i 0],B 1 54 [A 1690 17],aV,ca,ca,aV,eh,iP,iP,eh,ec,iO,iO,ec,kG,sf,sf,kG,fQ,mc,mc,fQ,aV,ca,ca,aV,kF,se,se,kF,kX,sd,sd,kX,aV,ca,ca,aV]
def mA:List (Option ao):=[eh,iP,iP,eh,kY,B 1 480 [s [115,101,110,100],s [65,66,78],i 0,i 0],B 1 480 [s [115,101,110,100],s [65,66,78],i 1,i 0],kY,m8,sa,sa,m8,aV,ca,ca,aV,kE,gd,gd,kE,fP,gd,gd,fP,jG,B 1 480 [s [97,102,116,101,114],s [66,78],i 1,i 0],B 1 480 [s [97,102,116,101,114],s [66,78],i 2,i 0],jG,Zo,C 3 240 [i 1,i 2,A 1689 16],B 1 382 [A 1757 1],C 1 382 [A 1757 1],Zn,Hp,B 1 53 [A 1761 1],C 1 53 [A 1761 1],B 3 289 [A 1591 1,A 1759 1,A 1763 1],N,QX,dK,kH,Hr,Zs,iA,Zv,C 1 9 [s [109]],QX,B 3 240 [i 1,i 2,A 1811 7],BD,dQ,cG,cG,B 1 240 [i 1,i 2,A 1811 7],mg,mg,aV,Ef,N,bO,bO,fP,Zp,N,bk]
def my:List (Option ao):=[bk,ec,Q1,N,B 1 349 [y 32,i 0,i 0,i 0],B 4 349 [y 32,i 0,i 0,i 0],N,mf,mf,aV,Ef,N,bk,bk,ec,Q1,N,fQ,Zq,C 4 349 [y 29,i 0,i 0,i 0,y 1,i 0,i 0,i 1,y 3,i 0,i 0,i 0,y 32,i 0,i 4,i 0,y 29,i 0,i 0,i 0,y 3,i 0,i 0,i 0,y 24,i 0,i 0,i 0],B 1 3 [i 0,i 0,i 1,i 2,i 0,i 0,i 1,i 0],B 1 54 [A 1812 8],aV,ca,ca,aV,fP,gd,gd,fP,ec,iO,iO,ec,r9,BC,BC,r9,aV,ca,ca,aV,ec,iO,iO,ec,fQ,mc,mc,fQ,Zo,C 3 240 [i 1,i 2,A 1811 7],B 1 382 [A 1843 1],C 1 382 [A 1843 1],Zn,Hp,B 1 53 [A 1847 1],C 1 53 [A 1847 1],B 3 289 [A 1599 1,A 1845 1,A 1849 1],C 3 289 [A 1591 1,A 1759 1,A 1763 1,A 1599 1,A 1845 1,A 1849 1],fK,fK,fK,fb]
def mw:List (Option ao):=[Li,iB,eJ,dK,Lh,dQ,cG,fK,fb,iB,eJ,eJ,iQ,iQ,dR,bk,gg,gg,dR,dR,gf,gf,bO,bO,dK,dQ,cG,cG,bO,bO,bk,bk,bk,bk,fK,kH,fb,fy,dK,iA,fK,fb,iB,eJ,eJ,fH,fH,m9,m9,aR,aR,aR,aR,oJ,oJ,aR,aR,oH,oH,aR,aR,oG,oG,cZ]
def mv:List (Option ao):=[cZ,cZ,cZ,dK,dQ,cG,cG,oF,oF,cZ,cZ,aR,aR,fH,fH,aR,aR,fK,fb,fy,fy,dK,iA,iA,fK,fb,iB,eJ,eJ,fH,fH,m9,m9,aR,aR,aR,aR,oJ,oJ,aR,aR,oH,oH,aR,aR,oG,oG,cZ,cZ,cZ,cZ,dK,dQ,cG,cG,oF,oF,cZ,cZ,aR,aR,fH,fH,aR]
def mu:List (Option ao):=[aR,B 1 296 [p 1985,A 2234 281,i 0],B 1 9 [s [102,108,101,101,116,32],s [102],s [32,123]],N,N,N,kD,N,kH,B 1 9 [s [102,108,97,103,32],s [120],s [32,61,32],s [102,97,108,115,101],s [59]],N,N,N,N,N,N,kD,N,fb,fb,B 1 9 [s [99,111,109,112,111,110,101,110,116,32],s [97],s [32,123]],N,N,N,N,kD,N,fy,B 1 9 [s [118,97,114,32],s [110],s [58,32,105,110,116,32,61,32],s [48],s [59]],N,N,N,N,N,N,N,kD,N,iB,iB,eJ,B 1 9 [s [111,110,32],s [104],s [40],s [105],s [41,32,123]],N,N,N,N,N,N,N,kD,N,xT,xT,B 1 9 [s [110,32,43,32,105]],iQ,iQ,m9,m9,dR,aR,aR,dR,aR,aR]
def mr:List (Option ao):=[bk,aR,aR,bk,aR,aR,B 1 9 [s [110],s [32,61,32],s [110,32,43,32,105],s [59]],N,N,N,N,N,N,N,kD,N,wV,wV,Hr,gg,gg,aR,aR,B 1 9 [s [105,102,32],s [120],s [32,123]],N,N,N,N,N,N,kD,N,wU,wU,Q2,dR,dR,aR,aR,B 1 9 [s [115,101,110,100,32],s [98],s [46],s [103],s [40],s [110],s [41,59]],N,N,N,N,N,N,N,N,N,N,N,kD,N,B 1 9 [s [125,32,101,108,115,101,32,123]],N,N,N,N,kD,N,wT,wT,B 1 9 [s [50],s [49]],gf]
def mq:List (Option ao):=[gf,cZ,cZ,bO,bO,cZ,cZ,B 1 9 [s [97,102,116,101,114,32],s [50],s [32,100,111,32],s [104],s [40],s [49],s [41,59]],N,N,N,N,N,N,N,N,N,N,N,kD,N,Ee,N,N,N,N,kD,N,Ee,N,N,N,kD,N,Ee,N,N,kD,N,dK,dK,B 1 9 [s [99,111,109,112,111,110,101,110,116,32],s [98],s [32,123]],N,N,N,N,kD,N,iA,B 1 9 [s [118,97,114,32],s [109],s [58,32,105,110,116,32,61,32],s [48],s [59]],N,N,N,N,N,N,N,kD,N,dQ,dQ,cG,B 1 9 [s [111,110,32],s [103],s [40],s [105],s [41,32,123]],N]
def mo:List (Option ao):=[N,N,N,N,N,N,kD,N,mg,mg,B 1 9 [s [49],s [105]],bO,bO,cZ,cZ,bk,bk,aR,aR,B 1 9 [s [115,116,111,114,101,32,49,32,61,32,105],s [59]],N,N,N,N,N,kD,N,mf,mf,Hs,bk,bk,aR,aR,B 1 9 [s [109],s [32,61,32],s [105],s [59]],N,N,N,N,N,N,N,kD,N,Ee,N,N,N,kD,N,Ee,N,N,kD,N,Ee,N,kD,r8,Zk,Zk,B 2 197 [],B 3 198 [],ZA]
def mm:List (Option ao):=[B 3 94 [s [97],A 2245 1,A 2246 1,s [98],A 2313 1,A 2314 1],fb,oE,oE,r7,Zz,Ed,iB,iB,Ed,B 3 208 [s [104],A 2255 1,A 2256 2],eJ,eJ,B 1 208 [s [104],A 2255 1,A 2256 2],jF,qf,B 6 330 [y 1,s [110],e,A 2260 1,A 2273 0,A 2274 0,y 4,e,e,A 2278 1,A 2283 1,A 2294 1],xT,Zj,Zj,B 4 335 [y 14,e,i 0,A 2264 2],iQ,Zi,Zi,B 4 335 [y 5,s [110],i 0,A 2268 0,y 5,s [105],i 0,A 2272 0],dR,Zh,Zh,dH,bk,Zg,Zg,dH,bU,bU,wV,Zf,Zf,B 4 335 [y 5,s [120],i 0,A 2282 0],gg,Ze,Ze,dH,B 6 330 [y 6,s [98],s [103],A 2287 1,A 2292 0,A 2293 0],wU,Zd,Zd,B 4 335 [y 5,s [110],i 0,A 2291 0],dR,Zc,Zc,dH,bU,bU,B 6 330 [y 7,e,s [104],A 2298 2,A 2307 0,A 2308 0],wT,Zb,Zb,B 4 335 [y 1,e,i 2,A 2302 0,y 1,e,i 1,A 2306 0],gf,Za,Za,dH,bO]
def cK5:List (Option ao):=[kf,kf,dH,bU,bU,dK,gT,gT,r7,sh,jE,dQ,dQ,jE,tX,cG,cG,rZ,jF,qf,tW,mg,ke,ke,tV,bO,ka,ka,dH,bk,j9,j9,dH,bU,bU,mf,j8,j8,tU,bk,j7,j7,dH,bU,bU,r8,rY,B 1 400 [w 1779033703,w 3144134277,w 1013904242,w 2773480762,w 1359893119,w 2600822924,w 528734635,w 1541459225,y 102,y 108,y 101,y 101,y 116,y 32,y 102,y 32,y 123,y 10,y 32,y 32,y 102,y 108,y 97,y 103,y 32,y 120,y 32,y 61,y 32,y 102,y 97,y 108,y 115,y 101,y 59,y 10,y 32,y 32,y 99,y 111,y 109,y 112,y 111,y 110,y 101,y 110,y 116,y 32,y 97,y 32,y 123,y 10,y 32,y 32,y 32,y 32,y 118,y 97,y 114,y 32,y 110,y 58,y 32,y 105,y 110,y 116,y 32,y 61,y 32,y 48,y 59,y 10,.int .u64 64]]
def cK4:List (Option ao):=[kf,kf,dH,bU,bU,dK,gT,gT,r7,sh,jE,dQ,dQ,jE,tX,cG,cG,rZ,jF,qf,tW,mg,ke,ke,tV,bO,ka,ka,dH,bk,j9,j9,dH,bU,bU,mf,j8,j8,tU,bk,j7,j7,dH,bU,bU,r8,rY,B 1 400 [w 1308828863,w 159935239,w 3047125312,w 92303056,w 3271254078,w 3281613138,w 1385119984,w 61606882,y 102,y 108,y 101,y 101,y 116,y 32,y 102,y 32,y 123,y 10,y 32,y 32,y 102,y 108,y 97,y 103,y 32,y 120,y 32,y 61,y 32,y 102,y 97,y 108,y 115,y 101,y 59,y 10,y 32,y 32,y 99,y 111,y 109,y 112,y 111,y 110,y 101,y 110,y 116,y 32,y 97,y 32,y 123,y 10,y 32,y 32,y 32,y 32,y 118,y 97,y 114,y 32,y 110,y 58,y 32,y 105,y 110,y 116,y 32,y 61,y 32,y 48,y 59,y 10,.int .u64 64],vj,vh]
def cK3:List (Option ao):=[kf,kf,dH,bU,bU,dK,gT,gT,r7,sh,jE,dQ,dQ,jE,tX,cG,cG,rZ,jF,qf,tW,mg,ke,ke,tV,bO,ka,ka,dH,bk,j9,j9,dH,bU,bU,mf,j8,j8,tU,bk,j7,j7,dH,bU,bU,r8,rY,B 1 400 (w 1308828863::w 159935239::w 3047125312::w 92303056::w 3271254078::w 3281613138::w 1385119984::w 61606882::y 32::y 32::y 32::y 32::y 111::y 110::y 32::y 104::y 40::y 105::y 41::y 32::y 123::y 10::(rp 6 (y 32) (y 110::y 32::y 61::y 32::y 110::y 32::y 43::y 32::y 105::y 59::y 10::(rp 6 (y 32) (y 105::y 102::y 32::y 120::y 32::y 123::y 10::(rp 8 (y 32) [y 115,y 101,y 110,y 100,y 32,y 98,y 46,y 103,y 40,y 110,y 41,y 59,.int .u64 128])))))),vj,vh]
def cK2:List (Option ao):=[kf,kf,dH,bU,bU,dK,gT,gT,r7,sh,jE,dQ,dQ,jE,tX,cG,cG,rZ,jF,qf,tW,mg,ke,ke,tV,bO,ka,ka,dH,bk,j9,j9,dH,bU,bU,mf,j8,j8,tU,bk,j7,j7,dH,bU,bU,r8,rY,B 1 400 (w 302574231::w 2353121351::w 1725228727::w 1729119651::w 305009626::w 4022385677::w 4059261832::w 1793299417::y 32::y 32::y 32::y 32::y 111::y 110::y 32::y 104::y 40::y 105::y 41::y 32::y 123::y 10::(rp 6 (y 32) (y 110::y 32::y 61::y 32::y 110::y 32::y 43::y 32::y 105::y 59::y 10::(rp 6 (y 32) (y 105::y 102::y 32::y 120::y 32::y 123::y 10::(rp 8 (y 32) [y 115,y 101,y 110,y 100,y 32,y 98,y 46,y 103,y 40,y 110,y 41,y 59,.int .u64 128])))))),vj,vh,zA,zz]
def cK1:List (Option ao):=[kf,kf,dH,bU,bU,dK,gT,gT,r7,sh,jE,dQ,dQ,jE,tX,cG,cG,rZ,jF,qf,tW,mg,ke,ke,tV,bO,ka,ka,dH,bk,j9,j9,dH,bU,bU,mf,j8,j8,tU,bk,j7,j7,dH,bU,bU,r8,rY,B 1 400 (w 302574231::w 2353121351::w 1725228727::w 1729119651::w 305009626::w 4022385677::w 4059261832::w 1793299417::y 10::(rp 6 (y 32) (y 125::y 32::y 101::y 108::y 115::y 101::y 32::y 123::y 10::(rp 8 (y 32) (y 97::y 102::y 116::y 101::y 114::y 32::y 50::y 32::y 100::y 111::y 32::y 104::y 40::y 49::y 41::y 59::y 10::(rp 6 (y 32) [y 125,y 10,y 32,y 32,y 32,y 32,y 125,y 10,y 32,y 32,y 125,y 10,y 32,y 32,y 99,y 111,y 109,.int .u64 192])))))),vj,vh,zA,zz]
def cK0:List (Option ao):=[kf,kf,dH,bU,bU,dK,gT,gT,r7,sh,jE,dQ,dQ,jE,tX,cG,cG,rZ,jF,qf,tW,mg,ke,ke,tV,bO,ka,ka,dH,bk,j9,j9,dH,bU,bU,mf,j8,j8,tU,bk,j7,j7,dH,bU,bU,r8,rY,B 1 400 (w 1545182548::w 3443208430::w 1291280719::w 3674469066::w 1355246517::w 2318576645::w 2951167171::w 1909906844::y 10::(rp 6 (y 32) (y 125::y 32::y 101::y 108::y 115::y 101::y 32::y 123::y 10::(rp 8 (y 32) (y 97::y 102::y 116::y 101::y 114::y 32::y 50::y 32::y 100::y 111::y 32::y 104::y 40::y 49::y 41::y 59::y 10::(rp 6 (y 32) [y 125,y 10,y 32,y 32,y 32,y 32,y 125,y 10,y 32,y 32,y 125,y 10,y 32,y 32,y 99,y 111,y 109,.int .u64 192])))))),vj,vh,zA,zz,Ec,Eb]
def cJ9:List (Option ao):=[kf,kf,dH,bU,bU,dK,gT,gT,r7,sh,jE,dQ,dQ,jE,tX,cG,cG,rZ,jF,qf,tW,mg,ke,ke,tV,bO,ka,ka,dH,bk,j9,j9,dH,bU,bU,mf,j8,j8,tU,bk,j7,j7,dH,bU,bU,r8,rY,B 1 400 (w 1545182548::w 3443208430::w 1291280719::w 3674469066::w 1355246517::w 2318576645::w 2951167171::w 1909906844::y 112::y 111::y 110::y 101::y 110::y 116::y 32::y 98::y 32::y 123::y 10::y 32::y 32::y 32::y 32::y 118::y 97::y 114::y 32::y 109::y 58::y 32::y 105::y 110::y 116::y 32::y 61::y 32::y 48::y 59::y 10::y 32::y 32::y 32::y 32::y 111::y 110::y 32::y 103::y 40::y 105::y 41::y 32::y 123::y 10::(rp 6 (y 32) [y 115,y 116,y 111,y 114,y 101,y 32,y 49,y 32,y 61,y 32,y 105,y 59,y 10,.int .u64 256])),vj,vh,zA,zz,Ec,Eb]
def cJ8:List (Option ao):=[kf,kf,dH,bU,bU,dK,gT,gT,r7,sh,jE,dQ,dQ,jE,tX,cG,cG,rZ,jF,qf,tW,mg,ke,ke,tV,bO,ka,ka,dH,bk,j9,j9,dH,bU,bU,mf,j8,j8,tU,bk,j7,j7,dH,bU,bU,r8,rY,B 1 400 (w 2302812191::w 3511143714::w 660662502::w 2443507915::w 3008958640::w 232447387::w 2780327680::w 1821695595::y 112::y 111::y 110::y 101::y 110::y 116::y 32::y 98::y 32::y 123::y 10::y 32::y 32::y 32::y 32::y 118::y 97::y 114::y 32::y 109::y 58::y 32::y 105::y 110::y 116::y 32::y 61::y 32::y 48::y 59::y 10::y 32::y 32::y 32::y 32::y 111::y 110::y 32::y 103::y 40::y 105::y 41::y 32::y 123::y 10::(rp 6 (y 32) [y 115,y 116,y 111,y 114,y 101,y 32,y 49,y 32,y 61,y 32,y 105,y 59,y 10,.int .u64 256])),vj,vh,zA,zz,Ec,Eb,Lf,Le]
def cJ7:List (Option ao):=[kf,kf,dH,bU,bU,dK,gT,gT,r7,sh,jE,dQ,dQ,jE,tX,cG,cG,rZ,jF,qf,tW,mg,ke,ke,tV,bO,ka,ka,dH,bk,j9,j9,dH,bU,bU,mf,j8,j8,tU,bk,j7,j7,dH,bU,bU,r8,rY,QW,vj,vh,zA,zz,Ec,Eb,Lf,Le,rY,B 1 400 (w 2302812191::w 3511143714::w 660662502::w 2443507915::w 3008958640::w 232447387::w 2780327680::w 1821695595::(rp 6 (y 32) (y 109::y 32::y 61::y 32::y 105::y 59::y 10::y 32::y 32::y 32::y 32::y 125::y 10::y 32::y 32::y 125::y 10::y 125::y 10::y 128::(rp 36 (y 0) [y 8,y 200,.int .u64 320])))),QV,QU]
def cJ6:List (Option ao):=[kf,kf,dH,bU,bU,dK,gT,gT,r7,sh,jE,dQ,dQ,jE,tX,cG,cG,rZ,jF,qf,tW,mg,ke,ke,tV,bO,ka,ka,dH,bk,j9,j9,dH,bU,bU,mf,j8,j8,tU,bk,j7,j7,dH,bU,bU,r8,rY,QW,vj,vh,zA,zz,Ec,Eb,Lf,Le,rY,Y',QV,QU,Y9,Y8]
def yb:List (Option ao):=[kf,kf,dH,bU,bU,dK,gT,gT,r7,sh,jE,dQ,dQ,jE,tX,cG,cG,rZ,jF,qf,tW,mg,ke,ke,tV,bO,ka,ka,dH,bk,j9,j9,dH,bU,bU,mf,j8,j8,tU,bk,j7,j7,dH,bU,bU,r8,QT,QW,vj,vh,zA,zz,Ec,Eb,Lf,Le,QT,Y',QV,QU,Y9,Y8,QT,B 1 152 [s [102],A 2239 1,A 2238 0,A 2240 2,s [102,108,101,101,116,32,102,32,123,10,32,32,102,108,97,103,32,120,32,61,32,102,97,108,115,101,59,10,32,32,99,111,109,112,111,110,101,110,116,32,97,32,123,10,32,32,32,32,118,97,114,32,110,58,32,105,110,116,32,61,32,48,59,10,32,32,32,32,111,110,32,104,40,105,41,32,123,10,32,32,32,32,32,32,110,32,61,32,110,32,43,32,105,59,10,32,32,32,32,32,32,105,102,32,120,32,123,10,32,32,32,32,32,32,32,32,115,101,110,100,32,98,46,103,40,110,41,59,10,32,32,32,32,32,32,125,32,101,108,115,101,32,123,10,32,32,32,32,32,32,32,32,97,102,116,101,114,32,50,32,100,111,32,104,40,49,41,59,10,32,32,32,32,32,32,125,10,32,32,32,32,125,10,32,32,125,10,32,32,99,111,109,112,111,110,101,110,116,32,98,32,123,10,32,32,32,32,118,97,114,32,109,58,32,105,110,116,32,61,32,48,59,10,32,32,32,32,111,110,32,103,40,105,41,32,123,10,32,32,32,32,32,32,115,116,111,114,101,32,49,32,61,32,105,59,10,32,32,32,32,32,32,109,32,61,32,105,59,10,32,32,32,32,125,10,32,32,125,10,125,10],y 254,y 197,y 228,y 54,y 181,y 181,y 203,y 77,y 85,y 211,y 134,y 244,y 177,y 0,y 112,y 231,y 21,y 64,y 114,y 160,y 10,y 134,y 29,y 91,y 103,y 178,y 85,y 132,y 74,y 51,y 198,y 1,p 1602]]
def Tz:AW:=fA 12 (aa kc0 [])
def kw1:AW:=fA 12 (aa lR (aa lQ (aa lP (aa lO (aa lN (aa lM (aa lL (aa lK (aa lJ (aa lD (aa lA (aa lz (aa ly (aa lu (aa lq (aa lj (aa li (aa lh (aa cK6 [])))))))))))))))))))
def kw2:AW:=fA 12 (aa lR (aa lQ (aa lP (aa lO (aa lN (aa lM (aa lL (aa lK (aa lJ (aa lD (aa lA (aa lz (aa ly (aa lu (aa lq (aa lj (aa li (aa lh (aa mJ (aa mI (aa mH (aa mG (aa mF (aa mE (aa mD (aa mC (aa mB (aa mA (aa my (aa mw (aa mv (aa mu (aa mr (aa mq (aa mo (aa mm (aa cK5 [])))))))))))))))))))))))))))))))))))))
def kw3:AW:=fA 12 (aa lR (aa lQ (aa lP (aa lO (aa lN (aa lM (aa lL (aa lK (aa lJ (aa lD (aa lA (aa lz (aa ly (aa lu (aa lq (aa lj (aa li (aa lh (aa mJ (aa mI (aa mH (aa mG (aa mF (aa mE (aa mD (aa mC (aa mB (aa mA (aa my (aa mw (aa mv (aa mu (aa mr (aa mq (aa mo (aa mm (aa cK4 [])))))))))))))))))))))))))))))))))))))
def kw4:AW:=fA 12 (aa lR (aa lQ (aa lP (aa lO (aa lN (aa lM (aa lL (aa lK (aa lJ (aa lD (aa lA (aa lz (aa ly (aa lu (aa lq (aa lj (aa li (aa lh (aa mJ (aa mI (aa mH (aa mG (aa mF (aa mE (aa mD (aa mC (aa mB (aa mA (aa my (aa mw (aa mv (aa mu (aa mr (aa mq (aa mo (aa mm (aa cK3 [])))))))))))))))))))))))))))))))))))))
def kw5:AW:=fA 12 (aa lR (aa lQ (aa lP (aa lO (aa lN (aa lM (aa lL (aa lK (aa lJ (aa lD (aa lA (aa lz (aa ly (aa lu (aa lq (aa lj (aa li (aa lh (aa mJ (aa mI (aa mH (aa mG (aa mF (aa mE (aa mD (aa mC (aa mB (aa mA (aa my (aa mw (aa mv (aa mu (aa mr (aa mq (aa mo (aa mm (aa cK2 [])))))))))))))))))))))))))))))))))))))
def kw6:AW:=fA 12 (aa lR (aa lQ (aa lP (aa lO (aa lN (aa lM (aa lL (aa lK (aa lJ (aa lD (aa lA (aa lz (aa ly (aa lu (aa lq (aa lj (aa li (aa lh (aa mJ (aa mI (aa mH (aa mG (aa mF (aa mE (aa mD (aa mC (aa mB (aa mA (aa my (aa mw (aa mv (aa mu (aa mr (aa mq (aa mo (aa mm (aa cK1 [])))))))))))))))))))))))))))))))))))))
def kw7:AW:=fA 12 (aa lR (aa lQ (aa lP (aa lO (aa lN (aa lM (aa lL (aa lK (aa lJ (aa lD (aa lA (aa lz (aa ly (aa lu (aa lq (aa lj (aa li (aa lh (aa mJ (aa mI (aa mH (aa mG (aa mF (aa mE (aa mD (aa mC (aa mB (aa mA (aa my (aa mw (aa mv (aa mu (aa mr (aa mq (aa mo (aa mm (aa cK0 [])))))))))))))))))))))))))))))))))))))
def kw8:AW:=fA 12 (aa lR (aa lQ (aa lP (aa lO (aa lN (aa lM (aa lL (aa lK (aa lJ (aa lD (aa lA (aa lz (aa ly (aa lu (aa lq (aa lj (aa li (aa lh (aa mJ (aa mI (aa mH (aa mG (aa mF (aa mE (aa mD (aa mC (aa mB (aa mA (aa my (aa mw (aa mv (aa mu (aa mr (aa mq (aa mo (aa mm (aa cJ9 [])))))))))))))))))))))))))))))))))))))
def kw9:AW:=fA 12 (aa lR (aa lQ (aa lP (aa lO (aa lN (aa lM (aa lL (aa lK (aa lJ (aa lD (aa lA (aa lz (aa ly (aa lu (aa lq (aa lj (aa li (aa lh (aa mJ (aa mI (aa mH (aa mG (aa mF (aa mE (aa mD (aa mC (aa mB (aa mA (aa my (aa mw (aa mv (aa mu (aa mr (aa mq (aa mo (aa mm (aa cJ8 [])))))))))))))))))))))))))))))))))))))
def cH0:AW:=fA 12 (aa lR (aa lQ (aa lP (aa lO (aa lN (aa lM (aa lL (aa lK (aa lJ (aa lD (aa lA (aa lz (aa ly (aa lu (aa lq (aa lj (aa li (aa lh (aa mJ (aa mI (aa mH (aa mG (aa mF (aa mE (aa mD (aa mC (aa mB (aa mA (aa my (aa mw (aa mv (aa mu (aa mr (aa mq (aa mo (aa mm (aa cJ7 [])))))))))))))))))))))))))))))))))))))
def cG9:AW:=fA 12 (aa lR (aa lQ (aa lP (aa lO (aa lN (aa lM (aa lL (aa lK (aa lJ (aa lD (aa lA (aa lz (aa ly (aa lu (aa lq (aa lj (aa li (aa lh (aa mJ (aa mI (aa mH (aa mG (aa mF (aa mE (aa mD (aa mC (aa mB (aa mA (aa my (aa mw (aa mv (aa mu (aa mr (aa mq (aa mo (aa mm (aa cJ6 [])))))))))))))))))))))))))))))))))))))
def cG8:AW:=fA 12 (aa lR (aa lQ (aa lP (aa lO (aa lN (aa lM (aa lL (aa lK (aa lJ (aa lD (aa lA (aa lz (aa ly (aa lu (aa lq (aa lj (aa li (aa lh (aa mJ (aa mI (aa mH (aa mG (aa mF (aa mE (aa mD (aa mC (aa mB (aa mA (aa my (aa mw (aa mv (aa mu (aa mr (aa mq (aa mo (aa mm (aa yb [])))))))))))))))))))))))))))))))))))))
def Yy:dP:=⟨22,[s [102,108,101,101,116,32,102,32,123,32,102,108,97,103,32,120,32,61,32,102,97,108,115,101,59,32,99,111,109,112,111,110,101,110,116,32,97,32,123,32,118,97,114,32,110,58,32,105,110,116,32,61,32,48,59,32,111,110,32,104,40,105,41,32,123,32,110,32,61,32,110,32,43,32,105,59,32,105,102,32,120,32,123,32,115,101,110,100,32,98,46,103,40,110,41,59,32,125,32,101,108,115,101,32,123,32,97,102,116,101,114,32,50,32,100,111,32,104,40,49,41,59,32,125,32,125,32,125,32,99,111,109,112,111,110,101,110,116,32,98,32,123,32,118,97,114,32,109,58,32,105,110,116,32,61,32,48,59,32,111,110,32,103,40,105,41,32,123,32,115,116,111,114,101,32,49,32,61,32,105,59,32,109,32,61,32,105,59,32,125,32,125,32,125]],Tz,.tuple ⟨[.agg ⟨[s [102],A 278 1,z,A 1025 2]⟩,i 0,i 0]⟩,kw1⟩
def GF:dP:=⟨205,[p 2351],kw2,.tuple ⟨[]⟩,kw3⟩
def GD:dP:=⟨205,[p 2351],kw4,.tuple ⟨[]⟩,kw5⟩
def GC:dP:=⟨205,[p 2351],kw6,.tuple ⟨[]⟩,kw7⟩
def GB:dP:=⟨205,[p 2351],kw8,.tuple ⟨[]⟩,kw9⟩
def GA:dP:=⟨205,[p 2361],cH0,.tuple ⟨[]⟩,cG9⟩
def LH:dP:=⟨9,[s [102,108,101,101,116,32,102,32,123,32,102,108,97,103,32,120,32,61,32,102,97,108,115,101,59,32,99,111,109,112,111,110,101,110,116,32,97,32,123,32,118,97,114,32,110,58,32,105,110,116,32,61,32,48,59,32,111,110,32,104,40,105,41,32,123,32,110,32,61,32,110,32,43,32,105,59,32,105,102,32,120,32,123,32,115,101,110,100,32,98,46,103,40,110,41,59,32,125,32,101,108,115,101,32,123,32,97,102,116,101,114,32,50,32,100,111,32,104,40,49,41,59,32,125,32,125,32,125,32,99,111,109,112,111,110,101,110,116,32,98,32,123,32,118,97,114,32,109,58,32,105,110,116,32,61,32,48,59,32,111,110,32,103,40,105,41,32,123,32,115,116,111,114,101,32,49,32,61,32,105,59,32,109,32,61,32,105,59,32,125,32,125,32,125]],Tz,.tuple ⟨[p 2367,i 0,i 0]⟩,cG8⟩
def Et:Aj:=[(172,[s [102,108,101,101,116,32,102,32,123,32,102,108,97,103,32,120,32,61,32,102,97,108,115,101,59,32,99,111,109,112,111,110,101,110,116,32,97,32,123,32,118,97,114,32,110,58,32,105,110,116,32,61,32,48,59,32,111,110,32,104,40,105,41,32,123,32,110,32,61,32,110,32,43,32,105,59,32,105,102,32,120,32,123,32,115,101,110,100,32,98,46,103,40,110,41,59,32,125,32,101,108,115,101,32,123,32,97,102,116,101,114,32,50,32,100,111,32,104,40,49,41,59,32,125,32,125,32,125,32,99,111,109,112,111,110,101,110,116,32,98,32,123,32,118,97,114,32,109,58,32,105,110,116,32,61,32,48,59,32,111,110,32,103,40,105,41,32,123,32,115,116,111,114,101,32,49,32,61,32,105,59,32,109,32,61,32,105,59,32,125,32,125,32,125]],.tuple ⟨[y 2,i 5]⟩),
 (172,[s [102,32,123,32,102,108,97,103,32,120,32,61,32,102,97,108,115,101,59,32,99,111,109,112,111,110,101,110,116,32,97,32,123,32,118,97,114,32,110,58,32,105,110,116,32,61,32,48,59,32,111,110,32,104,40,105,41,32,123,32,110,32,61,32,110,32,43,32,105,59,32,105,102,32,120,32,123,32,115,101,110,100,32,98,46,103,40,110,41,59,32,125,32,101,108,115,101,32,123,32,97,102,116,101,114,32,50,32,100,111,32,104,40,49,41,59,32,125,32,125,32,125,32,99,111,109,112,111,110,101,110,116,32,98,32,123,32,118,97,114,32,109,58,32,105,110,116,32,61,32,48,59,32,111,110,32,103,40,105,41,32,123,32,115,116,111,114,101,32,49,32,61,32,105,59,32,109,32,61,32,105,59,32,125,32,125,32,125]],.tuple ⟨[y 1,i 1]⟩),
 (172,[s [123,32,102,108,97,103,32,120,32,61,32,102,97,108,115,101,59,32,99,111,109,112,111,110,101,110,116,32,97,32,123,32,118,97,114,32,110,58,32,105,110,116,32,61,32,48,59,32,111,110,32,104,40,105,41,32,123,32,110,32,61,32,110,32,43,32,105,59,32,105,102,32,120,32,123,32,115,101,110,100,32,98,46,103,40,110,41,59,32,125,32,101,108,115,101,32,123,32,97,102,116,101,114,32,50,32,100,111,32,104,40,49,41,59,32,125,32,125,32,125,32,99,111,109,112,111,110,101,110,116,32,98,32,123,32,118,97,114,32,109,58,32,105,110,116,32,61,32,48,59,32,111,110,32,103,40,105,41,32,123,32,115,116,111,114,101,32,49,32,61,32,105,59,32,109,32,61,32,105,59,32,125,32,125,32,125]],.tuple ⟨[y 4,i 1]⟩),
 (172,[s [102,108,97,103,32,120,32,61,32,102,97,108,115,101,59,32,99,111,109,112,111,110,101,110,116,32,97,32,123,32,118,97,114,32,110,58,32,105,110,116,32,61,32,48,59,32,111,110,32,104,40,105,41,32,123,32,110,32,61,32,110,32,43,32,105,59,32,105,102,32,120,32,123,32,115,101,110,100,32,98,46,103,40,110,41,59,32,125,32,101,108,115,101,32,123,32,97,102,116,101,114,32,50,32,100,111,32,104,40,49,41,59,32,125,32,125,32,125,32,99,111,109,112,111,110,101,110,116,32,98,32,123,32,118,97,114,32,109,58,32,105,110,116,32,61,32,48,59,32,111,110,32,103,40,105,41,32,123,32,115,116,111,114,101,32,49,32,61,32,105,59,32,109,32,61,32,105,59,32,125,32,125,32,125]],.tuple ⟨[y 2,i 4]⟩),
 (172,[s [120,32,61,32,102,97,108,115,101,59,32,99,111,109,112,111,110,101,110,116,32,97,32,123,32,118,97,114,32,110,58,32,105,110,116,32,61,32,48,59,32,111,110,32,104,40,105,41,32,123,32,110,32,61,32,110,32,43,32,105,59,32,105,102,32,120,32,123,32,115,101,110,100,32,98,46,103,40,110,41,59,32,125,32,101,108,115,101,32,123,32,97,102,116,101,114,32,50,32,100,111,32,104,40,49,41,59,32,125,32,125,32,125,32,99,111,109,112,111,110,101,110,116,32,98,32,123,32,118,97,114,32,109,58,32,105,110,116,32,61,32,48,59,32,111,110,32,103,40,105,41,32,123,32,115,116,111,114,101,32,49,32,61,32,105,59,32,109,32,61,32,105,59,32,125,32,125,32,125]],.tuple ⟨[y 1,i 1]⟩),
 (172,[s [61,32,102,97,108,115,101,59,32,99,111,109,112,111,110,101,110,116,32,97,32,123,32,118,97,114,32,110,58,32,105,110,116,32,61,32,48,59,32,111,110,32,104,40,105,41,32,123,32,110,32,61,32,110,32,43,32,105,59,32,105,102,32,120,32,123,32,115,101,110,100,32,98,46,103,40,110,41,59,32,125,32,101,108,115,101,32,123,32,97,102,116,101,114,32,50,32,100,111,32,104,40,49,41,59,32,125,32,125,32,125,32,99,111,109,112,111,110,101,110,116,32,98,32,123,32,118,97,114,32,109,58,32,105,110,116,32,61,32,48,59,32,111,110,32,103,40,105,41,32,123,32,115,116,111,114,101,32,49,32,61,32,105,59,32,109,32,61,32,105,59,32,125,32,125,32,125]],.tuple ⟨[y 4,i 1]⟩),
 (172,[s [102,97,108,115,101,59,32,99,111,109,112,111,110,101,110,116,32,97,32,123,32,118,97,114,32,110,58,32,105,110,116,32,61,32,48,59,32,111,110,32,104,40,105,41,32,123,32,110,32,61,32,110,32,43,32,105,59,32,105,102,32,120,32,123,32,115,101,110,100,32,98,46,103,40,110,41,59,32,125,32,101,108,115,101,32,123,32,97,102,116,101,114,32,50,32,100,111,32,104,40,49,41,59,32,125,32,125,32,125,32,99,111,109,112,111,110,101,110,116,32,98,32,123,32,118,97,114,32,109,58,32,105,110,116,32,61,32,48,59,32,111,110,32,103,40,105,41,32,123,32,115,116,111,114,101,32,49,32,61,32,105,59,32,109,32,61,32,105,59,32,125,32,125,32,125]],.tuple ⟨[y 2,i 5]⟩),
 (172,[s [59,32,99,111,109,112,111,110,101,110,116,32,97,32,123,32,118,97,114,32,110,58,32,105,110,116,32,61,32,48,59,32,111,110,32,104,40,105,41,32,123,32,110,32,61,32,110,32,43,32,105,59,32,105,102,32,120,32,123,32,115,101,110,100,32,98,46,103,40,110,41,59,32,125,32,101,108,115,101,32,123,32,97,102,116,101,114,32,50,32,100,111,32,104,40,49,41,59,32,125,32,125,32,125,32,99,111,109,112,111,110,101,110,116,32,98,32,123,32,118,97,114,32,109,58,32,105,110,116,32,61,32,48,59,32,111,110,32,103,40,105,41,32,123,32,115,116,111,114,101,32,49,32,61,32,105,59,32,109,32,61,32,105,59,32,125,32,125,32,125]],.tuple ⟨[y 4,i 1]⟩),
 (172,[s [99,111,109,112,111,110,101,110,116,32,97,32,123,32,118,97,114,32,110,58,32,105,110,116,32,61,32,48,59,32,111,110,32,104,40,105,41,32,123,32,110,32,61,32,110,32,43,32,105,59,32,105,102,32,120,32,123,32,115,101,110,100,32,98,46,103,40,110,41,59,32,125,32,101,108,115,101,32,123,32,97,102,116,101,114,32,50,32,100,111,32,104,40,49,41,59,32,125,32,125,32,125,32,99,111,109,112,111,110,101,110,116,32,98,32,123,32,118,97,114,32,109,58,32,105,110,116,32,61,32,48,59,32,111,110,32,103,40,105,41,32,123,32,115,116,111,114,101,32,49,32,61,32,105,59,32,109,32,61,32,105,59,32,125,32,125,32,125]],.tuple ⟨[y 2,i 9]⟩),
 (172,[s [97,32,123,32,118,97,114,32,110,58,32,105,110,116,32,61,32,48,59,32,111,110,32,104,40,105,41,32,123,32,110,32,61,32,110,32,43,32,105,59,32,105,102,32,120,32,123,32,115,101,110,100,32,98,46,103,40,110,41,59,32,125,32,101,108,115,101,32,123,32,97,102,116,101,114,32,50,32,100,111,32,104,40,49,41,59,32,125,32,125,32,125,32,99,111,109,112,111,110,101,110,116,32,98,32,123,32,118,97,114,32,109,58,32,105,110,116,32,61,32,48,59,32,111,110,32,103,40,105,41,32,123,32,115,116,111,114,101,32,49,32,61,32,105,59,32,109,32,61,32,105,59,32,125,32,125,32,125]],.tuple ⟨[y 1,i 1]⟩),
 (172,[s [123,32,118,97,114,32,110,58,32,105,110,116,32,61,32,48,59,32,111,110,32,104,40,105,41,32,123,32,110,32,61,32,110,32,43,32,105,59,32,105,102,32,120,32,123,32,115,101,110,100,32,98,46,103,40,110,41,59,32,125,32,101,108,115,101,32,123,32,97,102,116,101,114,32,50,32,100,111,32,104,40,49,41,59,32,125,32,125,32,125,32,99,111,109,112,111,110,101,110,116,32,98,32,123,32,118,97,114,32,109,58,32,105,110,116,32,61,32,48,59,32,111,110,32,103,40,105,41,32,123,32,115,116,111,114,101,32,49,32,61,32,105,59,32,109,32,61,32,105,59,32,125,32,125,32,125]],.tuple ⟨[y 4,i 1]⟩),
 (172,[s [118,97,114,32,110,58,32,105,110,116,32,61,32,48,59,32,111,110,32,104,40,105,41,32,123,32,110,32,61,32,110,32,43,32,105,59,32,105,102,32,120,32,123,32,115,101,110,100,32,98,46,103,40,110,41,59,32,125,32,101,108,115,101,32,123,32,97,102,116,101,114,32,50,32,100,111,32,104,40,49,41,59,32,125,32,125,32,125,32,99,111,109,112,111,110,101,110,116,32,98,32,123,32,118,97,114,32,109,58,32,105,110,116,32,61,32,48,59,32,111,110,32,103,40,105,41,32,123,32,115,116,111,114,101,32,49,32,61,32,105,59,32,109,32,61,32,105,59,32,125,32,125,32,125]],.tuple ⟨[y 2,i 3]⟩),
 (172,[s [110,58,32,105,110,116,32,61,32,48,59,32,111,110,32,104,40,105,41,32,123,32,110,32,61,32,110,32,43,32,105,59,32,105,102,32,120,32,123,32,115,101,110,100,32,98,46,103,40,110,41,59,32,125,32,101,108,115,101,32,123,32,97,102,116,101,114,32,50,32,100,111,32,104,40,49,41,59,32,125,32,125,32,125,32,99,111,109,112,111,110,101,110,116,32,98,32,123,32,118,97,114,32,109,58,32,105,110,116,32,61,32,48,59,32,111,110,32,103,40,105,41,32,123,32,115,116,111,114,101,32,49,32,61,32,105,59,32,109,32,61,32,105,59,32,125,32,125,32,125]],.tuple ⟨[y 1,i 1]⟩),
 (172,[s [58,32,105,110,116,32,61,32,48,59,32,111,110,32,104,40,105,41,32,123,32,110,32,61,32,110,32,43,32,105,59,32,105,102,32,120,32,123,32,115,101,110,100,32,98,46,103,40,110,41,59,32,125,32,101,108,115,101,32,123,32,97,102,116,101,114,32,50,32,100,111,32,104,40,49,41,59,32,125,32,125,32,125,32,99,111,109,112,111,110,101,110,116,32,98,32,123,32,118,97,114,32,109,58,32,105,110,116,32,61,32,48,59,32,111,110,32,103,40,105,41,32,123,32,115,116,111,114,101,32,49,32,61,32,105,59,32,109,32,61,32,105,59,32,125,32,125,32,125]],.tuple ⟨[y 4,i 1]⟩),
 (172,[s [105,110,116,32,61,32,48,59,32,111,110,32,104,40,105,41,32,123,32,110,32,61,32,110,32,43,32,105,59,32,105,102,32,120,32,123,32,115,101,110,100,32,98,46,103,40,110,41,59,32,125,32,101,108,115,101,32,123,32,97,102,116,101,114,32,50,32,100,111,32,104,40,49,41,59,32,125,32,125,32,125,32,99,111,109,112,111,110,101,110,116,32,98,32,123,32,118,97,114,32,109,58,32,105,110,116,32,61,32,48,59,32,111,110,32,103,40,105,41,32,123,32,115,116,111,114,101,32,49,32,61,32,105,59,32,109,32,61,32,105,59,32,125,32,125,32,125]],.tuple ⟨[y 2,i 3]⟩),
 (172,[s [61,32,48,59,32,111,110,32,104,40,105,41,32,123,32,110,32,61,32,110,32,43,32,105,59,32,105,102,32,120,32,123,32,115,101,110,100,32,98,46,103,40,110,41,59,32,125,32,101,108,115,101,32,123,32,97,102,116,101,114,32,50,32,100,111,32,104,40,49,41,59,32,125,32,125,32,125,32,99,111,109,112,111,110,101,110,116,32,98,32,123,32,118,97,114,32,109,58,32,105,110,116,32,61,32,48,59,32,111,110,32,103,40,105,41,32,123,32,115,116,111,114,101,32,49,32,61,32,105,59,32,109,32,61,32,105,59,32,125,32,125,32,125]],.tuple ⟨[y 4,i 1]⟩),
 (172,[s [48,59,32,111,110,32,104,40,105,41,32,123,32,110,32,61,32,110,32,43,32,105,59,32,105,102,32,120,32,123,32,115,101,110,100,32,98,46,103,40,110,41,59,32,125,32,101,108,115,101,32,123,32,97,102,116,101,114,32,50,32,100,111,32,104,40,49,41,59,32,125,32,125,32,125,32,99,111,109,112,111,110,101,110,116,32,98,32,123,32,118,97,114,32,109,58,32,105,110,116,32,61,32,48,59,32,111,110,32,103,40,105,41,32,123,32,115,116,111,114,101,32,49,32,61,32,105,59,32,109,32,61,32,105,59,32,125,32,125,32,125]],.tuple ⟨[y 3,i 1]⟩),
 (172,[s [59,32,111,110,32,104,40,105,41,32,123,32,110,32,61,32,110,32,43,32,105,59,32,105,102,32,120,32,123,32,115,101,110,100,32,98,46,103,40,110,41,59,32,125,32,101,108,115,101,32,123,32,97,102,116,101,114,32,50,32,100,111,32,104,40,49,41,59,32,125,32,125,32,125,32,99,111,109,112,111,110,101,110,116,32,98,32,123,32,118,97,114,32,109,58,32,105,110,116,32,61,32,48,59,32,111,110,32,103,40,105,41,32,123,32,115,116,111,114,101,32,49,32,61,32,105,59,32,109,32,61,32,105,59,32,125,32,125,32,125]],.tuple ⟨[y 4,i 1]⟩),
 (172,[s [111,110,32,104,40,105,41,32,123,32,110,32,61,32,110,32,43,32,105,59,32,105,102,32,120,32,123,32,115,101,110,100,32,98,46,103,40,110,41,59,32,125,32,101,108,115,101,32,123,32,97,102,116,101,114,32,50,32,100,111,32,104,40,49,41,59,32,125,32,125,32,125,32,99,111,109,112,111,110,101,110,116,32,98,32,123,32,118,97,114,32,109,58,32,105,110,116,32,61,32,48,59,32,111,110,32,103,40,105,41,32,123,32,115,116,111,114,101,32,49,32,61,32,105,59,32,109,32,61,32,105,59,32,125,32,125,32,125]],.tuple ⟨[y 2,i 2]⟩),
 (172,[s [104,40,105,41,32,123,32,110,32,61,32,110,32,43,32,105,59,32,105,102,32,120,32,123,32,115,101,110,100,32,98,46,103,40,110,41,59,32,125,32,101,108,115,101,32,123,32,97,102,116,101,114,32,50,32,100,111,32,104,40,49,41,59,32,125,32,125,32,125,32,99,111,109,112,111,110,101,110,116,32,98,32,123,32,118,97,114,32,109,58,32,105,110,116,32,61,32,48,59,32,111,110,32,103,40,105,41,32,123,32,115,116,111,114,101,32,49,32,61,32,105,59,32,109,32,61,32,105,59,32,125,32,125,32,125]],.tuple ⟨[y 1,i 1]⟩),
 (172,[s [40,105,41,32,123,32,110,32,61,32,110,32,43,32,105,59,32,105,102,32,120,32,123,32,115,101,110,100,32,98,46,103,40,110,41,59,32,125,32,101,108,115,101,32,123,32,97,102,116,101,114,32,50,32,100,111,32,104,40,49,41,59,32,125,32,125,32,125,32,99,111,109,112,111,110,101,110,116,32,98,32,123,32,118,97,114,32,109,58,32,105,110,116,32,61,32,48,59,32,111,110,32,103,40,105,41,32,123,32,115,116,111,114,101,32,49,32,61,32,105,59,32,109,32,61,32,105,59,32,125,32,125,32,125]],.tuple ⟨[y 4,i 1]⟩),
 (172,[s [105,41,32,123,32,110,32,61,32,110,32,43,32,105,59,32,105,102,32,120,32,123,32,115,101,110,100,32,98,46,103,40,110,41,59,32,125,32,101,108,115,101,32,123,32,97,102,116,101,114,32,50,32,100,111,32,104,40,49,41,59,32,125,32,125,32,125,32,99,111,109,112,111,110,101,110,116,32,98,32,123,32,118,97,114,32,109,58,32,105,110,116,32,61,32,48,59,32,111,110,32,103,40,105,41,32,123,32,115,116,111,114,101,32,49,32,61,32,105,59,32,109,32,61,32,105,59,32,125,32,125,32,125]],.tuple ⟨[y 1,i 1]⟩),
 (172,[s [41,32,123,32,110,32,61,32,110,32,43,32,105,59,32,105,102,32,120,32,123,32,115,101,110,100,32,98,46,103,40,110,41,59,32,125,32,101,108,115,101,32,123,32,97,102,116,101,114,32,50,32,100,111,32,104,40,49,41,59,32,125,32,125,32,125,32,99,111,109,112,111,110,101,110,116,32,98,32,123,32,118,97,114,32,109,58,32,105,110,116,32,61,32,48,59,32,111,110,32,103,40,105,41,32,123,32,115,116,111,114,101,32,49,32,61,32,105,59,32,109,32,61,32,105,59,32,125,32,125,32,125]],.tuple ⟨[y 4,i 1]⟩),
 (172,[s [123,32,110,32,61,32,110,32,43,32,105,59,32,105,102,32,120,32,123,32,115,101,110,100,32,98,46,103,40,110,41,59,32,125,32,101,108,115,101,32,123,32,97,102,116,101,114,32,50,32,100,111,32,104,40,49,41,59,32,125,32,125,32,125,32,99,111,109,112,111,110,101,110,116,32,98,32,123,32,118,97,114,32,109,58,32,105,110,116,32,61,32,48,59,32,111,110,32,103,40,105,41,32,123,32,115,116,111,114,101,32,49,32,61,32,105,59,32,109,32,61,32,105,59,32,125,32,125,32,125]],.tuple ⟨[y 4,i 1]⟩),
 (172,[s [110,32,61,32,110,32,43,32,105,59,32,105,102,32,120,32,123,32,115,101,110,100,32,98,46,103,40,110,41,59,32,125,32,101,108,115,101,32,123,32,97,102,116,101,114,32,50,32,100,111,32,104,40,49,41,59,32,125,32,125,32,125,32,99,111,109,112,111,110,101,110,116,32,98,32,123,32,118,97,114,32,109,58,32,105,110,116,32,61,32,48,59,32,111,110,32,103,40,105,41,32,123,32,115,116,111,114,101,32,49,32,61,32,105,59,32,109,32,61,32,105,59,32,125,32,125,32,125]],.tuple ⟨[y 1,i 1]⟩),
 (172,[s [61,32,110,32,43,32,105,59,32,105,102,32,120,32,123,32,115,101,110,100,32,98,46,103,40,110,41,59,32,125,32,101,108,115,101,32,123,32,97,102,116,101,114,32,50,32,100,111,32,104,40,49,41,59,32,125,32,125,32,125,32,99,111,109,112,111,110,101,110,116,32,98,32,123,32,118,97,114,32,109,58,32,105,110,116,32,61,32,48,59,32,111,110,32,103,40,105,41,32,123,32,115,116,111,114,101,32,49,32,61,32,105,59,32,109,32,61,32,105,59,32,125,32,125,32,125]],.tuple ⟨[y 4,i 1]⟩),
 (172,[s [110,32,43,32,105,59,32,105,102,32,120,32,123,32,115,101,110,100,32,98,46,103,40,110,41,59,32,125,32,101,108,115,101,32,123,32,97,102,116,101,114,32,50,32,100,111,32,104,40,49,41,59,32,125,32,125,32,125,32,99,111,109,112,111,110,101,110,116,32,98,32,123,32,118,97,114,32,109,58,32,105,110,116,32,61,32,48,59,32,111,110,32,103,40,105,41,32,123,32,115,116,111,114,101,32,49,32,61,32,105,59,32,109,32,61,32,105,59,32,125,32,125,32,125]],.tuple ⟨[y 1,i 1]⟩),
 (172,[s [43,32,105,59,32,105,102,32,120,32,123,32,115,101,110,100,32,98,46,103,40,110,41,59,32,125,32,101,108,115,101,32,123,32,97,102,116,101,114,32,50,32,100,111,32,104,40,49,41,59,32,125,32,125,32,125,32,99,111,109,112,111,110,101,110,116,32,98,32,123,32,118,97,114,32,109,58,32,105,110,116,32,61,32,48,59,32,111,110,32,103,40,105,41,32,123,32,115,116,111,114,101,32,49,32,61,32,105,59,32,109,32,61,32,105,59,32,125,32,125,32,125]],.tuple ⟨[y 4,i 1]⟩),
 (172,[s [105,59,32,105,102,32,120,32,123,32,115,101,110,100,32,98,46,103,40,110,41,59,32,125,32,101,108,115,101,32,123,32,97,102,116,101,114,32,50,32,100,111,32,104,40,49,41,59,32,125,32,125,32,125,32,99,111,109,112,111,110,101,110,116,32,98,32,123,32,118,97,114,32,109,58,32,105,110,116,32,61,32,48,59,32,111,110,32,103,40,105,41,32,123,32,115,116,111,114,101,32,49,32,61,32,105,59,32,109,32,61,32,105,59,32,125,32,125,32,125]],.tuple ⟨[y 1,i 1]⟩),
 (172,[s [59,32,105,102,32,120,32,123,32,115,101,110,100,32,98,46,103,40,110,41,59,32,125,32,101,108,115,101,32,123,32,97,102,116,101,114,32,50,32,100,111,32,104,40,49,41,59,32,125,32,125,32,125,32,99,111,109,112,111,110,101,110,116,32,98,32,123,32,118,97,114,32,109,58,32,105,110,116,32,61,32,48,59,32,111,110,32,103,40,105,41,32,123,32,115,116,111,114,101,32,49,32,61,32,105,59,32,109,32,61,32,105,59,32,125,32,125,32,125]],.tuple ⟨[y 4,i 1]⟩),
 (172,[s [105,102,32,120,32,123,32,115,101,110,100,32,98,46,103,40,110,41,59,32,125,32,101,108,115,101,32,123,32,97,102,116,101,114,32,50,32,100,111,32,104,40,49,41,59,32,125,32,125,32,125,32,99,111,109,112,111,110,101,110,116,32,98,32,123,32,118,97,114,32,109,58,32,105,110,116,32,61,32,48,59,32,111,110,32,103,40,105,41,32,123,32,115,116,111,114,101,32,49,32,61,32,105,59,32,109,32,61,32,105,59,32,125,32,125,32,125]],.tuple ⟨[y 2,i 2]⟩),
 (172,[s [120,32,123,32,115,101,110,100,32,98,46,103,40,110,41,59,32,125,32,101,108,115,101,32,123,32,97,102,116,101,114,32,50,32,100,111,32,104,40,49,41,59,32,125,32,125,32,125,32,99,111,109,112,111,110,101,110,116,32,98,32,123,32,118,97,114,32,109,58,32,105,110,116,32,61,32,48,59,32,111,110,32,103,40,105,41,32,123,32,115,116,111,114,101,32,49,32,61,32,105,59,32,109,32,61,32,105,59,32,125,32,125,32,125]],.tuple ⟨[y 1,i 1]⟩),
 (172,[s [123,32,115,101,110,100,32,98,46,103,40,110,41,59,32,125,32,101,108,115,101,32,123,32,97,102,116,101,114,32,50,32,100,111,32,104,40,49,41,59,32,125,32,125,32,125,32,99,111,109,112,111,110,101,110,116,32,98,32,123,32,118,97,114,32,109,58,32,105,110,116,32,61,32,48,59,32,111,110,32,103,40,105,41,32,123,32,115,116,111,114,101,32,49,32,61,32,105,59,32,109,32,61,32,105,59,32,125,32,125,32,125]],.tuple ⟨[y 4,i 1]⟩),
 (172,[s [115,101,110,100,32,98,46,103,40,110,41,59,32,125,32,101,108,115,101,32,123,32,97,102,116,101,114,32,50,32,100,111,32,104,40,49,41,59,32,125,32,125,32,125,32,99,111,109,112,111,110,101,110,116,32,98,32,123,32,118,97,114,32,109,58,32,105,110,116,32,61,32,48,59,32,111,110,32,103,40,105,41,32,123,32,115,116,111,114,101,32,49,32,61,32,105,59,32,109,32,61,32,105,59,32,125,32,125,32,125]],.tuple ⟨[y 2,i 4]⟩),
 (172,[s [98,46,103,40,110,41,59,32,125,32,101,108,115,101,32,123,32,97,102,116,101,114,32,50,32,100,111,32,104,40,49,41,59,32,125,32,125,32,125,32,99,111,109,112,111,110,101,110,116,32,98,32,123,32,118,97,114,32,109,58,32,105,110,116,32,61,32,48,59,32,111,110,32,103,40,105,41,32,123,32,115,116,111,114,101,32,49,32,61,32,105,59,32,109,32,61,32,105,59,32,125,32,125,32,125]],.tuple ⟨[y 1,i 1]⟩),
 (172,[s [46,103,40,110,41,59,32,125,32,101,108,115,101,32,123,32,97,102,116,101,114,32,50,32,100,111,32,104,40,49,41,59,32,125,32,125,32,125,32,99,111,109,112,111,110,101,110,116,32,98,32,123,32,118,97,114,32,109,58,32,105,110,116,32,61,32,48,59,32,111,110,32,103,40,105,41,32,123,32,115,116,111,114,101,32,49,32,61,32,105,59,32,109,32,61,32,105,59,32,125,32,125,32,125]],.tuple ⟨[y 4,i 1]⟩),
 (172,[s [103,40,110,41,59,32,125,32,101,108,115,101,32,123,32,97,102,116,101,114,32,50,32,100,111,32,104,40,49,41,59,32,125,32,125,32,125,32,99,111,109,112,111,110,101,110,116,32,98,32,123,32,118,97,114,32,109,58,32,105,110,116,32,61,32,48,59,32,111,110,32,103,40,105,41,32,123,32,115,116,111,114,101,32,49,32,61,32,105,59,32,109,32,61,32,105,59,32,125,32,125,32,125]],.tuple ⟨[y 1,i 1]⟩),
 (172,[s [40,110,41,59,32,125,32,101,108,115,101,32,123,32,97,102,116,101,114,32,50,32,100,111,32,104,40,49,41,59,32,125,32,125,32,125,32,99,111,109,112,111,110,101,110,116,32,98,32,123,32,118,97,114,32,109,58,32,105,110,116,32,61,32,48,59,32,111,110,32,103,40,105,41,32,123,32,115,116,111,114,101,32,49,32,61,32,105,59,32,109,32,61,32,105,59,32,125,32,125,32,125]],.tuple ⟨[y 4,i 1]⟩),
 (172,[s [110,41,59,32,125,32,101,108,115,101,32,123,32,97,102,116,101,114,32,50,32,100,111,32,104,40,49,41,59,32,125,32,125,32,125,32,99,111,109,112,111,110,101,110,116,32,98,32,123,32,118,97,114,32,109,58,32,105,110,116,32,61,32,48,59,32,111,110,32,103,40,105,41,32,123,32,115,116,111,114,101,32,49,32,61,32,105,59,32,109,32,61,32,105,59,32,125,32,125,32,125]],.tuple ⟨[y 1,i 1]⟩),
 (172,[s [41,59,32,125,32,101,108,115,101,32,123,32,97,102,116,101,114,32,50,32,100,111,32,104,40,49,41,59,32,125,32,125,32,125,32,99,111,109,112,111,110,101,110,116,32,98,32,123,32,118,97,114,32,109,58,32,105,110,116,32,61,32,48,59,32,111,110,32,103,40,105,41,32,123,32,115,116,111,114,101,32,49,32,61,32,105,59,32,109,32,61,32,105,59,32,125,32,125,32,125]],.tuple ⟨[y 4,i 1]⟩)]
def Es:Aj:=[(172,[s [59,32,125,32,101,108,115,101,32,123,32,97,102,116,101,114,32,50,32,100,111,32,104,40,49,41,59,32,125,32,125,32,125,32,99,111,109,112,111,110,101,110,116,32,98,32,123,32,118,97,114,32,109,58,32,105,110,116,32,61,32,48,59,32,111,110,32,103,40,105,41,32,123,32,115,116,111,114,101,32,49,32,61,32,105,59,32,109,32,61,32,105,59,32,125,32,125,32,125]],.tuple ⟨[y 4,i 1]⟩),
 (172,[s [125,32,101,108,115,101,32,123,32,97,102,116,101,114,32,50,32,100,111,32,104,40,49,41,59,32,125,32,125,32,125,32,99,111,109,112,111,110,101,110,116,32,98,32,123,32,118,97,114,32,109,58,32,105,110,116,32,61,32,48,59,32,111,110,32,103,40,105,41,32,123,32,115,116,111,114,101,32,49,32,61,32,105,59,32,109,32,61,32,105,59,32,125,32,125,32,125]],.tuple ⟨[y 4,i 1]⟩),
 (172,[s [101,108,115,101,32,123,32,97,102,116,101,114,32,50,32,100,111,32,104,40,49,41,59,32,125,32,125,32,125,32,99,111,109,112,111,110,101,110,116,32,98,32,123,32,118,97,114,32,109,58,32,105,110,116,32,61,32,48,59,32,111,110,32,103,40,105,41,32,123,32,115,116,111,114,101,32,49,32,61,32,105,59,32,109,32,61,32,105,59,32,125,32,125,32,125]],.tuple ⟨[y 2,i 4]⟩),
 (172,[s [123,32,97,102,116,101,114,32,50,32,100,111,32,104,40,49,41,59,32,125,32,125,32,125,32,99,111,109,112,111,110,101,110,116,32,98,32,123,32,118,97,114,32,109,58,32,105,110,116,32,61,32,48,59,32,111,110,32,103,40,105,41,32,123,32,115,116,111,114,101,32,49,32,61,32,105,59,32,109,32,61,32,105,59,32,125,32,125,32,125]],.tuple ⟨[y 4,i 1]⟩),
 (172,[s [97,102,116,101,114,32,50,32,100,111,32,104,40,49,41,59,32,125,32,125,32,125,32,99,111,109,112,111,110,101,110,116,32,98,32,123,32,118,97,114,32,109,58,32,105,110,116,32,61,32,48,59,32,111,110,32,103,40,105,41,32,123,32,115,116,111,114,101,32,49,32,61,32,105,59,32,109,32,61,32,105,59,32,125,32,125,32,125]],.tuple ⟨[y 2,i 5]⟩),
 (172,[s [50,32,100,111,32,104,40,49,41,59,32,125,32,125,32,125,32,99,111,109,112,111,110,101,110,116,32,98,32,123,32,118,97,114,32,109,58,32,105,110,116,32,61,32,48,59,32,111,110,32,103,40,105,41,32,123,32,115,116,111,114,101,32,49,32,61,32,105,59,32,109,32,61,32,105,59,32,125,32,125,32,125]],.tuple ⟨[y 3,i 1]⟩),
 (172,[s [100,111,32,104,40,49,41,59,32,125,32,125,32,125,32,99,111,109,112,111,110,101,110,116,32,98,32,123,32,118,97,114,32,109,58,32,105,110,116,32,61,32,48,59,32,111,110,32,103,40,105,41,32,123,32,115,116,111,114,101,32,49,32,61,32,105,59,32,109,32,61,32,105,59,32,125,32,125,32,125]],.tuple ⟨[y 2,i 2]⟩),
 (172,[s [104,40,49,41,59,32,125,32,125,32,125,32,99,111,109,112,111,110,101,110,116,32,98,32,123,32,118,97,114,32,109,58,32,105,110,116,32,61,32,48,59,32,111,110,32,103,40,105,41,32,123,32,115,116,111,114,101,32,49,32,61,32,105,59,32,109,32,61,32,105,59,32,125,32,125,32,125]],.tuple ⟨[y 1,i 1]⟩),
 (172,[s [40,49,41,59,32,125,32,125,32,125,32,99,111,109,112,111,110,101,110,116,32,98,32,123,32,118,97,114,32,109,58,32,105,110,116,32,61,32,48,59,32,111,110,32,103,40,105,41,32,123,32,115,116,111,114,101,32,49,32,61,32,105,59,32,109,32,61,32,105,59,32,125,32,125,32,125]],.tuple ⟨[y 4,i 1]⟩),
 (172,[s [49,41,59,32,125,32,125,32,125,32,99,111,109,112,111,110,101,110,116,32,98,32,123,32,118,97,114,32,109,58,32,105,110,116,32,61,32,48,59,32,111,110,32,103,40,105,41,32,123,32,115,116,111,114,101,32,49,32,61,32,105,59,32,109,32,61,32,105,59,32,125,32,125,32,125]],.tuple ⟨[y 3,i 1]⟩),
 (172,[s [41,59,32,125,32,125,32,125,32,99,111,109,112,111,110,101,110,116,32,98,32,123,32,118,97,114,32,109,58,32,105,110,116,32,61,32,48,59,32,111,110,32,103,40,105,41,32,123,32,115,116,111,114,101,32,49,32,61,32,105,59,32,109,32,61,32,105,59,32,125,32,125,32,125]],.tuple ⟨[y 4,i 1]⟩),
 (172,[s [59,32,125,32,125,32,125,32,99,111,109,112,111,110,101,110,116,32,98,32,123,32,118,97,114,32,109,58,32,105,110,116,32,61,32,48,59,32,111,110,32,103,40,105,41,32,123,32,115,116,111,114,101,32,49,32,61,32,105,59,32,109,32,61,32,105,59,32,125,32,125,32,125]],.tuple ⟨[y 4,i 1]⟩),
 (172,[s [125,32,125,32,125,32,99,111,109,112,111,110,101,110,116,32,98,32,123,32,118,97,114,32,109,58,32,105,110,116,32,61,32,48,59,32,111,110,32,103,40,105,41,32,123,32,115,116,111,114,101,32,49,32,61,32,105,59,32,109,32,61,32,105,59,32,125,32,125,32,125]],.tuple ⟨[y 4,i 1]⟩),
 (172,[s [125,32,125,32,99,111,109,112,111,110,101,110,116,32,98,32,123,32,118,97,114,32,109,58,32,105,110,116,32,61,32,48,59,32,111,110,32,103,40,105,41,32,123,32,115,116,111,114,101,32,49,32,61,32,105,59,32,109,32,61,32,105,59,32,125,32,125,32,125]],.tuple ⟨[y 4,i 1]⟩),
 (172,[s [125,32,99,111,109,112,111,110,101,110,116,32,98,32,123,32,118,97,114,32,109,58,32,105,110,116,32,61,32,48,59,32,111,110,32,103,40,105,41,32,123,32,115,116,111,114,101,32,49,32,61,32,105,59,32,109,32,61,32,105,59,32,125,32,125,32,125]],.tuple ⟨[y 4,i 1]⟩),
 (172,[s [99,111,109,112,111,110,101,110,116,32,98,32,123,32,118,97,114,32,109,58,32,105,110,116,32,61,32,48,59,32,111,110,32,103,40,105,41,32,123,32,115,116,111,114,101,32,49,32,61,32,105,59,32,109,32,61,32,105,59,32,125,32,125,32,125]],.tuple ⟨[y 2,i 9]⟩),
 (172,[s [98,32,123,32,118,97,114,32,109,58,32,105,110,116,32,61,32,48,59,32,111,110,32,103,40,105,41,32,123,32,115,116,111,114,101,32,49,32,61,32,105,59,32,109,32,61,32,105,59,32,125,32,125,32,125]],.tuple ⟨[y 1,i 1]⟩),
 (172,[s [123,32,118,97,114,32,109,58,32,105,110,116,32,61,32,48,59,32,111,110,32,103,40,105,41,32,123,32,115,116,111,114,101,32,49,32,61,32,105,59,32,109,32,61,32,105,59,32,125,32,125,32,125]],.tuple ⟨[y 4,i 1]⟩),
 (172,[s [118,97,114,32,109,58,32,105,110,116,32,61,32,48,59,32,111,110,32,103,40,105,41,32,123,32,115,116,111,114,101,32,49,32,61,32,105,59,32,109,32,61,32,105,59,32,125,32,125,32,125]],.tuple ⟨[y 2,i 3]⟩),
 (172,[s [109,58,32,105,110,116,32,61,32,48,59,32,111,110,32,103,40,105,41,32,123,32,115,116,111,114,101,32,49,32,61,32,105,59,32,109,32,61,32,105,59,32,125,32,125,32,125]],.tuple ⟨[y 1,i 1]⟩),
 (172,[s [58,32,105,110,116,32,61,32,48,59,32,111,110,32,103,40,105,41,32,123,32,115,116,111,114,101,32,49,32,61,32,105,59,32,109,32,61,32,105,59,32,125,32,125,32,125]],.tuple ⟨[y 4,i 1]⟩),
 (172,[s [105,110,116,32,61,32,48,59,32,111,110,32,103,40,105,41,32,123,32,115,116,111,114,101,32,49,32,61,32,105,59,32,109,32,61,32,105,59,32,125,32,125,32,125]],.tuple ⟨[y 2,i 3]⟩),
 (172,[s [61,32,48,59,32,111,110,32,103,40,105,41,32,123,32,115,116,111,114,101,32,49,32,61,32,105,59,32,109,32,61,32,105,59,32,125,32,125,32,125]],.tuple ⟨[y 4,i 1]⟩),
 (172,[s [48,59,32,111,110,32,103,40,105,41,32,123,32,115,116,111,114,101,32,49,32,61,32,105,59,32,109,32,61,32,105,59,32,125,32,125,32,125]],.tuple ⟨[y 3,i 1]⟩),
 (172,[s [59,32,111,110,32,103,40,105,41,32,123,32,115,116,111,114,101,32,49,32,61,32,105,59,32,109,32,61,32,105,59,32,125,32,125,32,125]],.tuple ⟨[y 4,i 1]⟩),
 (172,[s [111,110,32,103,40,105,41,32,123,32,115,116,111,114,101,32,49,32,61,32,105,59,32,109,32,61,32,105,59,32,125,32,125,32,125]],.tuple ⟨[y 2,i 2]⟩),
 (172,[s [103,40,105,41,32,123,32,115,116,111,114,101,32,49,32,61,32,105,59,32,109,32,61,32,105,59,32,125,32,125,32,125]],.tuple ⟨[y 1,i 1]⟩),
 (172,[s [40,105,41,32,123,32,115,116,111,114,101,32,49,32,61,32,105,59,32,109,32,61,32,105,59,32,125,32,125,32,125]],.tuple ⟨[y 4,i 1]⟩),
 (172,[s [105,41,32,123,32,115,116,111,114,101,32,49,32,61,32,105,59,32,109,32,61,32,105,59,32,125,32,125,32,125]],.tuple ⟨[y 1,i 1]⟩),
 (172,[s [41,32,123,32,115,116,111,114,101,32,49,32,61,32,105,59,32,109,32,61,32,105,59,32,125,32,125,32,125]],.tuple ⟨[y 4,i 1]⟩),
 (172,[s [123,32,115,116,111,114,101,32,49,32,61,32,105,59,32,109,32,61,32,105,59,32,125,32,125,32,125]],.tuple ⟨[y 4,i 1]⟩),
 (172,[s [115,116,111,114,101,32,49,32,61,32,105,59,32,109,32,61,32,105,59,32,125,32,125,32,125]],.tuple ⟨[y 2,i 5]⟩),
 (172,[s [49,32,61,32,105,59,32,109,32,61,32,105,59,32,125,32,125,32,125]],.tuple ⟨[y 3,i 1]⟩),
 (172,[s [61,32,105,59,32,109,32,61,32,105,59,32,125,32,125,32,125]],.tuple ⟨[y 4,i 1]⟩),
 (172,[s [105,59,32,109,32,61,32,105,59,32,125,32,125,32,125]],.tuple ⟨[y 1,i 1]⟩),
 (172,[s [59,32,109,32,61,32,105,59,32,125,32,125,32,125]],.tuple ⟨[y 4,i 1]⟩),
 (172,[s [109,32,61,32,105,59,32,125,32,125,32,125]],.tuple ⟨[y 1,i 1]⟩),
 (172,[s [61,32,105,59,32,125,32,125,32,125]],.tuple ⟨[y 4,i 1]⟩),
 (172,[s [105,59,32,125,32,125,32,125]],.tuple ⟨[y 1,i 1]⟩),
 (172,[s [59,32,125,32,125,32,125]],.tuple ⟨[y 4,i 1]⟩)]
def Er:Aj:=[(172,[s [125,32,125,32,125]],.tuple ⟨[y 4,i 1]⟩),
 (172,[s [125,32,125]],.tuple ⟨[y 4,i 1]⟩),
 (172,[s [125]],.tuple ⟨[y 4,i 1]⟩),
 (172,[s [102]],.tuple ⟨[y 1,i 1]⟩),
 (172,[s [120]],.tuple ⟨[y 1,i 1]⟩),
 (172,[s [97]],.tuple ⟨[y 1,i 1]⟩),
 (172,[s [110]],.tuple ⟨[y 1,i 1]⟩),
 (172,[s [98]],.tuple ⟨[y 1,i 1]⟩),
 (172,[s [109]],.tuple ⟨[y 1,i 1]⟩),
 (172,[s [104]],.tuple ⟨[y 1,i 1]⟩),
 (172,[s [105]],.tuple ⟨[y 1,i 1]⟩),
 (172,[s [103]],.tuple ⟨[y 1,i 1]⟩)]
open Go.Ex Go.RowKit
abbrev yI:List (Option ao):=[Na,M',M9,M8,M7,M6,M5,M4,M3]
def kZ(w:World):Prop:=yI.length≤w.heap.size∧Bo yI w
def GG:GP:=⟨9,GQ Tryz.prog kZ,kZ⟩
def EE:aq:=QD Tryz.prog GG [327] [(296,294,0),(294,294,0)] [392] [(390,22)]
def Kx:cT→List xM→AW→aZ xM:=qS EE sq (ua EE sq) YE 100000 60
def BT:cT→List xM→AW→aZ xM:=qS EE sq (ua EE sq) (eF (nQ Et) (eF (nQ Es) (nQ Er))) 100000 60
def ac4:cT→List xM→AW→aZ xM:=qS EE sq (ua EE sq) (eF (eF (nQ Et) (eF (nQ Es) (nQ Er))) (eF Yy.dL (eF GF.dL (eF GD.dL (eF GC.dL (eF GB.dL GA.dL)))))) 100000 60
def ac3:cT→List xM→AW→aZ xM:=qS EE sq (ua EE sq) (eF (eF (nQ Et) (eF (nQ Es) (nQ Er))) LH.dL) 100000 60
end
end Go.Proofs.YtaginlnifpbfgaaGreatDoor.K
