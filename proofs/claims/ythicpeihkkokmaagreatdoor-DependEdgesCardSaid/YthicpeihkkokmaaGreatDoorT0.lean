/- Functions as programs on data, and their checks. -/
import Derived.Test.YthicpeihkkokmaaGreatDoorChecked
import Derived.Test.YthicpeihkkokmaaGreatDoorA0
import Derived.KernelRfl
set_option linter.unusedVariables false
set_option linter.unusedSimpArgs false
set_option maxRecDepth 1000000
set_option maxHeartbeats 0
namespace Go.Proofs.YthicpeihkkokmaaGreatDoor
variable{α:Type}{l:List Char}
open Go Go.Ex Go.RowKit Go.T
noncomputable section
def BV:Option aG:=some ⟨.cells ([1116352408,1899447441,3049323471,3921009573,961987163,1508970993,2453635748,2870763221,3624381080,310598401,607225278,1426881987,1925078388,2162078206,2614888103,3248222580,3835390401,4022224774,264347078,604807628,770255983,1249150122,1555081692,1996064986,2554220882,2821834349,2952996808,3210313671,3336571891,3584528711,113926993,338241895,666307205,773529912,1294757372,1396182291,1695183700,1986661051,2177026350,2456956037,2730485921,2820302411,3259730800,3345764771,3516065817,3600352804,4094571909,275423344,430227734,506948616,659060556,883997877,958139571,1322822218,1537002063,1747873779,1955562222,2024104815,2227730452,2361852424,2428436474,2756734187,3204031479,3329325298].map fun n=> .int .u32 n),1,false,true,jN⟩
def gb1:Option aG:=some ⟨.cells [s [46,46],s [61,61],s [33,61],s [60,61],s [62,61],s [45,62],s [123],s [125],s [40],s [41],s [91],s [93],s [44],s [59],s [58],s [46],s [61],s [60],s [62],s [43],s [45],s [42],s [47],s [37],s [95]],1,false,true,jN⟩
def gb2:Option aG:=some ⟨.cells [s [97,102,116,101,114],s [97,108,119,97,121,115],s [97,110,100],s [97,114,114,105,118,101,115],s [98,111,111,108],s [99,111,109,112,111,110,101,110,116],s [99,111,117,110,116],s [100,101,108,101,116,101],s [100,111],s [101,108,115,101],s [101,120,105,115,116,115],s [102,97,108,115,101],s [102,101,116,99,104],s [102,108,97,103],s [102,108,101,101,116],s [102,111,114,97,108,108],s [104,97,115],s [105,102],s [105,109,112,108,105,101,115],s [105,110],s [105,110,116],s [108,97,116,101,110,99,121],s [108,105,110,107],s [110,111,116],s [110,111,119],s [111,110],s [111,110,99,101],s [111,114],s [112,114,101,118,105,111,117,115],s [115,101,110,100],s [115,105,110,99,101],s [115,105,122,101],s [115,116,111,112],s [115,116,111,114,101],s [116,97,98,108,101],s [116,114,117,101],s [118,97,114],s [118,101,114,115,105,111,110],s [119,104,105,108,101]],1,false,true,jN⟩
def gb3:Option aG:=some ⟨.cells [v,v,i 0,i 0,v,v,u,v,i 1,i 1,v,v,u,v,i 2,i 2,v,v,u,v,i 1,i 1,v,v,v,v,i 1,i 1,u,u,v,v,i 1,i 1,u,v,u,u,i 0,i 4,v,v,v,u,i 1,i 5,v,v,v,v,i 2,i 2,v,u,u,v,i 1,i 1,v,u,v,v,i 0,i 0,v,v],6,false,true,jN⟩
def gb4:Option aG:=some ⟨.cells [x,x,i 0,i 0,s [99,111,110,115,116],s [78],i 0,i 1,s [118,97,114],s [65],i 0,i 1,s [112,97,114,97,109],s [65],i 0,i 1,s [102,108,97,103],s [65],i 0,i 1,s [110,111,119],x,i 0,i 1,s [103,101,116],s [65],i 1,i 1,s [104,97,115],s [65],i 1,i 1,s [115,105,122,101],s [65],i 0,i 1,s [110,101,103],x,i 1,i 1,s [110,111,116],x,i 1,i 1,s [109,117,108],x,i 2,i 1,s [100,105,118],x,i 2,i 1,s [109,111,100],x,i 2,i 1,s [97,100,100],x,i 2,i 1,s [115,117,98],x,i 2,i 1,s [101,113],x,i 2,i 1,s [110,101],x,i 2,i 1,s [108,116],x,i 2,i 1,s [108,101],x,i 2,i 1,s [103,116],x,i 2,i 1,s [103,101],x,i 2,i 1,s [97,110,100],x,i 2,i 1,s [111,114],x,i 2,i 1,s [115,101,116,118,97,114],s [65],i 1,i 0,s [112,117,116],s [65],i 2,i 0,s [100,101,108,101,116,101],s [65],i 1,i 0,s [106,117,109,112],s [65],i 0,i 0,s [98,114,97,110,99,104],s [65],i 1,i 0,s [99,111,115,116],x,i 0,i 0,s [115,101,110,100],s [65,66,78],i 0,i 0,s [97,102,116,101,114],s [66,78],i 1,i 0,s [115,116,111,114,101],s [66],i 2,i 0,s [102,101,116,99,104],s [65,66],i 1,i 0,s [115,116,111,112],x,i 0,i 0],4,false,true,jN⟩
def gb5:Option aG:=some ⟨.cells [.int .u64 1,.int .u64 10,.int .u64 100,.int .u64 1000,.int .u64 10000,.int .u64 100000,.int .u64 1000000,.int .u64 10000000,.int .u64 100000000,.int .u64 1000000000,.int .u64 10000000000,.int .u64 100000000000,.int .u64 1000000000000,.int .u64 10000000000000,.int .u64 100000000000000,.int .u64 1000000000000000,.int .u64 10000000000000000,.int .u64 100000000000000000,.int .u64 1000000000000000000,.int .u64 10000000000000000000],1,false,true,jN⟩
def gb6:Option aG:=some ⟨.cells [i 0,v,i 0,x,i 0,v,i 7,x,i 0,v,i 7,s [116,114,117,101],i 0,v,i 7,s [102,97,108,115,101],i 0,v,i 7,s [110,111,119],i 0,u,i 7,x,i 1,u,i 7,x,i 1,u,i 7,s [104,97,115,32],i 0,u,i 7,s [115,105,122,101,32],i 1,v,i 6,s [45],i 1,v,i 6,s [110,111,116,32],i 2,v,i 5,s [32,42,32],i 2,v,i 5,s [32,47,32],i 2,v,i 5,s [32,37,32],i 2,v,i 4,s [32,43,32],i 2,v,i 4,s [32,45,32],i 2,v,i 3,s [32,61,61,32],i 2,v,i 3,s [32,33,61,32],i 2,v,i 3,s [32,60,32],i 2,v,i 3,s [32,60,61,32],i 2,v,i 3,s [32,62,32],i 2,v,i 3,s [32,62,61,32],i 2,v,i 2,s [32,97,110,100,32],i 2,v,i 1,s [32,111,114,32]],4,false,true,jN⟩
def gb7:Option aG:=some ⟨.cells [y 0,y 1,y 28,y 2,y 29,y 14,y 24,y 3,y 30,y 22,y 20,y 15,y 25,y 17,y 4,y 8,y 31,y 27,y 13,y 23,y 21,y 19,y 16,y 7,y 26,y 12,y 18,y 6,y 11,y 5,y 10,y 9],1,false,true,jN⟩
def gb8:Option aG:=some ⟨.cells [y 0,y 1,y 56,y 2,y 57,y 49,y 28,y 3,y 61,y 58,y 42,y 50,y 38,y 29,y 17,y 4,y 62,y 47,y 59,y 36,y 45,y 43,y 51,y 22,y 53,y 39,y 33,y 30,y 24,y 18,y 12,y 5,y 63,y 55,y 48,y 27,y 60,y 41,y 37,y 16,y 46,y 35,y 44,y 21,y 52,y 32,y 23,y 11,y 54,y 26,y 40,y 15,y 34,y 20,y 31,y 10,y 25,y 14,y 19,y 9,y 13,y 8,y 7,y 6],1,false,true,jN⟩
noncomputable def body(f:FuncId):Code:=((Tryz.prog.funcs[f]?).bind (·.body)).getD .skip
def sq:a0c:=[(45,[.i64,.i64,.i64]),(46,[.i64,.i64,.i64]),(49,[.u8,.i64,.i64]),(50,[.u8,.i64,.i64]),(59,[.u8,.u8,.u8]),(64,[.u8,.i64,.i64,.i64]),(65,[.u8,.i64,.i64,.i64]),(96,[.i64,.i64,.i64,.i64,.i64,.i64]),(97,[.i64,.i64,.i64,.i64,.i64,.i64]),(159,List.replicate 32 .u8),(160,List.replicate 32 .u8),(190,[.u8,.i64,.i64,.u8,.i64,.i64]),(294,[.u32,.u32,.u32,.u32,.u32,.u32,.u32,.u32]),(379,[.u8,.i64,.i64,.i64]),(380,[.u8,.i64,.i64,.i64]),(387,List.replicate 24 .u8),(410,[.u64,.u64,.u64,.u64,.u64,.u64,.u64,.u64,.u64,.u64,.u64,.u64,.u64,.u64,.u64,.u64,.u64,.u64,.u64,.u64])]
def iN(n:Nat):Int:= @OfNat.ofNat Int n instOfNat
def iM(n:Nat):Int:= -@OfNat.ofNat Int n instOfNat
def bN(n:Nat):UInt8:= @OfNat.ofNat UInt8 n UInt8.instOfNat
def cQ(n:Nat):xM:=cd (@OfNat.ofNat Nat n (instOfNatNat n))
def nN(n:Nat):Nat:= @OfNat.ofNat Nat n (instOfNatNat n)
def lN(t:DT):DT:=F0 (GV (Ie BV)) t
attribute[irreducible] iN iM bN cQ lN nN
attribute[local irreducible] kal Dn
structure FX where
 f:Nat
 n:Nat
 k:Nat
 rs:List ResultVar
 sg:ia
 m:Nat
 hs:List (Nat×jV×Nat)
 ds:List DT
inductive Z where
 |n (_:Nat)
 |v (_:xM)
 |l (_:a0e)
 |q (_:a0g)
 |o (_:List (Option xM))
 |t (_:DT)
 |k (_:NK)
 |b (_:aG)
 |h (_:List aG)
 |e (_:List (Nat×xM))
 |m (_:jV)
 |s (_:ia)
 |d (_:List (List (Option xM)×DT))
 |a (_:AO)
 |i (_:a0t)
 |r (_:List ResultVar)
 |g (_:List (Nat×jV×Nat))
 |f (_:List DT)
 |x (_:FX)
def zn(d:α):List α->Nat->α
 |[],_=>d
 |a::_,0=>a
 |_::t,n+1=>zn d t n
def zj(n:Nat):Nat:=bif Nat.blt n 47 then(bif Nat.blt n 39 then n+34 else bif Nat.blt n 45 then n+31 else 76) else bif Nat.blt n 91 then n - 48 else bif Nat.blt n 96 then n - 51 else bif Nat.blt n 123 then n - 52 else 77
def zi(c:Char):Nat:=zj c.toNat
def zs:List Nat->List Nat
 |a::b::t=>bif Nat.blt a 15 then zn 0 [41,0,667,513,516,527,514,520,521,522,518,524,525,517,519] a::zs (b::t) else((a - 15)*78+b)::zs t
 |[a]=>[zn 0 [41,0,667,513,516,527,514,520,521,522,518,524,525,517,519] a]
 |[]=>[]
def zc(s:String)(_:String.ofList l=s:=by exact rfl){y:a0g}(_:zs (l.map zi)=y:=by conv=>{lhs;reduce}):a0g:=y
def zp:List Nat->List (Nat×Nat)
 |a::b::t=>(a,b)::zp t
 |_=>[]
def zh(n:Nat):Nat->List α->List (List α)
 |0,_=>[]
 |f+1,l=>l.take n::zh n f (l.drop n)
def zf(e:α){x:α}(_:e=x:=by conv=>{lhs;reduce}):α:=x
def zR:List (List (List (Nat×Nat))):=zf (zh 18 14 (zh 18 235 (zp (zc "?1?1?2?4GSGS1?51?8?1?7GTAwGUGUGTAn?:GY?3AwGTAo?2?=?2?>1?936G_1?3AvGhGh?2?AGfEcGWGZ?2?C1?B<EnGc?6Ga?61?;GX?54=EpEq1GgEyEz;GoE%E&?@?6?:1Ga?3Ge?9:>GwGyGV@A?7?5EvEwG+7ErEsE+E,ExG,G&AxGc?3GTAx?3AuGiGiH8H85GuGdGdE*H3GbGnGkGt?;@B1G%?2?I?3AyH;H2H5HC1Ao?D?K1GzGlGXGWGX?D?MAnAnGV@?H?H1?2?<F0F189EuH0F9F:?<AnGV@@G_H7GTAyHSF;F3F4F5F6F=F>GUG~1?O?3Az?2?NH=E.HPF2GWGUAoAoGxHDGlH_HXF<H^F?GTAqGjGjGWGs?6GkHEHb?3At?2?Q1?PH9H9H:H:HqHqHW1GSGsHK?T?E?EGbGvHsGqHeHYGW?GHVHwGV@FGSGX?;@CCNAnHQEkD6ApGTApH>Ao?@GqF7F8GnAp11Hx@@HkF@?<ApEtHR?7GzE~H*H0H4?2?R?JAwAnHgGvI1?<Ao?W??HfI:GV@DH4H=Ge?8GmAsGxGuHo5I8Hp5ING*?9IOIMHHGjGV@JIGIQB_BG?^?L?_?aH@86EcIE??Gp2?LI0GlGs1?SHZI7G~@?;G.GgI3EnHJ?;@EILG*BgCLH,IjI@GmIgIkImIlC>D23GVEtGp2HiHIIfH.HOIDHNGW?FAnGVAqHLHAIUHT???6H6?<Aq1H~?2?bHrAyGr@E1I_Ec4I,IC5EpIyGdGr@B?3AsI?HZ?VHG@HIpGTAtGTAvGr@CJ3InD8AoFAFBI<??GV@IAtEwGTAsHjI;HtHtHuHuHvHvHy?<IB??J5J5GnAoGpGpI>GjEtEuH5?6EkGxH>ApGTAz?3B<?HAn?2?dGtH1GTAuHRH4?1?F?1?GIi?5IxBNHa@N?UAnJaIF>7ExG.GmAnHdE~?3C31I6AoIA8H%22GmAoJ<JA1?ZIr@GJ1H<1GbFCFDGZ?7H&Gb?9IXD7Aq3EcEkGpF7H<GV@MGr@KGvJvIJ?FGV@P341IAHE?6?5@@HyHT?X?X?7G%Ek2HBGjJ>Jr1?E?3A%AuGmBRK9Gr@OHAK:GWGSGbGb?2?JEcI5G*?EAoHLHn@??HAo?HArGk4"++zc "HMJjHlHn?5@?ExGw?2IBG,HdH<GdHII6HV1BtAt?3BL@?9H%KPIbIwKRKS?6GfIbJiJZ@H?2?tEc64I5HIH@JR?61HGC6KHHJ?BHa@RHzHzK<KcKg@DGgJ=HhIsIvJLJMEvK_K4KjJW?63H>AqHrAzG~J8H2EtH6B~HgHLJSHTEc>GV@TGWJYF8HjFGFHH6B<I2GxIa@G?<AsFJFKFLFMK.K~GTArKA?91?e1GV?<ArGV@UGt:HK?g?3Ar?SIwFEFFGZIdHIIhH%IoI.3JeJeL;K%?3A&?@JNH;ErH@;H3E.Hn@LI>HB?3CBD5Ar;<I*IhAwAnC0I%C1?6E,IKF2IKGe?EG*IXI%LNKtLTLPE,LQF2LULOGmApGr@QH@9IVK0I&??4GmGTA&GeGgIe<JOLD?3BM?cAr3H+HYIcJDJDJEJEJFJFJIJIJbAnL9L9LHKkHpK8Ia@DKWJ.4EcGV@XJfHP?3A*=4GoHDHU=HcAxJKKMLAFI?2?u?<At?G?F=H1GV@LGjHBGvJ=JVGpLzEtAx??4JPHa@_HcA%I<J7IWKKL0FNLiLq?2?v?3C:9EkEnG.JmLVJmLWK1J^?;@K?HAq?JM6ArGqEuHUE&I^GS?FHl;IJJXLXIHMIEv?2?wAnApEkLs;MNEqIeEwL=E*IeE.H<E~F6F0IHF1JdF2KhF3KNF4JdF5J&F8JCGYIqGdMcH7L*H<JCHNIsHdJtHhJoHhM3HkL2HlKmHmK5I=JtIDM5IIJqIPJuIPKiIqJpIqJyIuMRIuMmJ6JqJ6MsJ9MXJQMwJhMfJoMiJpMqJxMWJxM+JyKzKLM_KnM*KxMSL%MvL,ItM4F7M>ItMLN2MOMpMPItMQApMTN8MUN7MVMYMZM^MaMbMhMjMkN1MlJuMoM.MtMxMuMyMzM~M%M&M,IIN0NFN3N;N<N=N>N?N@NCNANDNENMNGNNNINBNJNKNLNQNONHNPNTNRNS1GUI~KZJsLCNULS1Kv?64GTA%GTA+IWI+L5???XCqB1E3GVJ8I9??K2NeNfD>NiNjEkHhGZGZ2GjHMK^IrKUI*G%J;9KqICNlHi?3C=?G?GC.C;=G+F<I;GeKIGuH2HUEnIcHXKy?7?3BN?3BO?3BP?3BQ?3BR?3BS?3BT?3BUE*E+GV@^GWH~HM6IW3JTAy"++zc "K6L+?3B~GV@a?3A+?:H7?@G&6J@4KCGr@SHBHBHi@bI7HjI=KJI~LuJ0KdJUI2KGLJ?2?f?3C<?3Nk?cAp42F?F@FUFVGr@WG~@@HWJQM<FOM=J*N_IRORFW?NLMAxO:=:ExEyGV@eGlNYGs@?I2;JPGqJTO^OXLZOZ??=J:Ew2HJG%IRNgOGE%AoJH64EvGVGbHAGeMEGs@IGvIoG.EkHFEBKGI3KQ?6Kr@ZLBLxLdIoO=OjOAEcO*J;1B^?3C@?UAoAsLhGb1H6CBHANwHcAzI9?eK=?7LEGmOYFXO.CcP0IF1H,?XAoGr@fGyJfHFB<HmJkJ_3JsKOK&?3L8@=E@Bb5>F;Ny2HHHDKlId:KpGqLeN&OhH6?3AqAtHLBdCIDfB2ErH+E.I^F4N*GYI^HmHmHrA%H*IcI4I4I5GqI;K6IaKUI&?VK3PRKbHNKwKdMnK>NrHlOzPMFPFQHcA&JR?3L8@>L@L@NaLcO?1OVPiPcOWAo?fAqOkEuEvEvKY2GdH~H,I1LfIKEwIVG%J4LbLFE~P3OyPsPy?6L3?;@S?JAyBxC23Gm6EkE+G.HFBrHU;J~H?K1KBK*J2P,Q0?6H??7Gg?h@=@GI=BzC=6Ew;2En5E&LwE.IIGbHiG.EqHFC9HFDVHKQ<II1IYGtJ1QIJJGqJJJ~KuPlK,??L4@YL<3LrO%M@;NtQ=OQO;PCPFP~??QTH&@hLvAoGqD:BND:BOGV@iGk=H6C4H>MHHMEcJc8KD?RK&?6LjF9LtHcM7G&NWK3OvQ51Hx?HAtAqGqBLCREkQMEnH+EwExGV@jGzNnI4GjJWE*KaQwM?JgNqQqN%KlOFF=OrQ>P6IUP?F0QrEk?HAp?SJi>GmEnQ,EwKJF2ITF:2FYFZGTA*Ge?ZHDI=HJI0HeF3HfPwIiI0I&J7J26J<P+JZQYJwKeJ+RCK?A*KT@VKXOqL3C9M0OeN^KDP9R7R5R6RG@kRLQi1Kf1MJ1Md1N5?8?F?UAp@?Nb@DE,BOMgBZGkDABTDnBrEFC0EPRX6Es=2>KC<IsEqH2EtGdExGdF1IHF2MAF3KhF4K+F5MAF6J&F7K+F8H&FAMeFARoFBMgGV@lGXQvGYNVGk1GlPKGvRYG*KiH7IHHH4HWPgHcAyHcA*HdH&HhI4"++zc "H&MJI4KmI9KvI?RyIuRdIuS0J6RnJ:JKJ:NVJBJKJ&R.K@G&KNS6KnNpKpQ6KqN:LFS2LGQhLeP4LkLkLlLlLmLmLnLnLpLpLyQmM9RWMdNsMeRQMrNZMrR&N5SHO7GzO>?3OPM8PJQDPOPOPaQxPqJLPxJ9Q3RhQFPEQQQ+QaRqQ.RkR4SYR@KsRRRrRTIFRVSVRfS?RgKLRiRjRlRmRpSKRuRzRwS=R,SIS3SQS4S9S5SkS7SiS;SdS<SnSAQsSGSlSJShSLSmSMSaSSSpSZS^ScSfSgSxSoSsSqStSuSwSvS*SySzS%S,S+S&S.S~?3CA?<Au?HAs?HAuBYQbEQT5323Og=EkEpQEEsEtFSFTGxG*HAT6IZA&JcHQK?A&LoJHNcKFOlR_ROHzSNT=T0NZT9TFT>TD?<Av?fBLAoIZApGqA%T?BcCJ624:<4EqErGTA.GTA~H4HdH?G+HFDiHcLMIRHAJBEcJOH&JS?RJUHQJX?7JgLIK=JYK@GqKEJbLL3L_3L&AnNoHoOUPnTKNh1MD7HQF22F2LjGeI_GeL^GlGUGvLJHFCMI@KsIY4J,L6LoIzTVI?TuHN1?L?3C7E,JzF1JzF6JzF7ITF?2GSL~GV@oGbL?HM>HfOdIV?5InJAJ0OsJ0O&KXT.KXT~KzH^K+T_LYTHMBRNMCU0MK?FNpR:O6SPON?6OxQXP.PuQjA.REQPTAUITIU?T^7T&UCU1U=UAUN1G_1HzAwJG:=78ExEcF^F_Gf1H7PSHFCgHfGXIRK;I*?;K?AxLRH@LyObO8I5O9OLOiTLP@HGPPC2QkA%?6Gp??Au?HAwAoIzAqJHArHLAs?NBqT@CrD1DpUq686Eq4NzEpU6GV@r2OHGbJ@GeG%Ha@nHbK8H+L<H+OdIP?9ISFxISFyISFzISF%ISF&ISF*IZAwIvRtJ_J,J,V7KORZKr@dKyOtL:@VL.??MMIdMMOtNXRDNmNmPAHmUcTRUiKoUsN+V6V>V9<?;@W?@J~@GGmAn??AnAqE8C1575UZEtOcE.I?GV@pGV@sGqGkGr@mGr@qGtG+G*GgG*RSHBHaHFB*HFP=HhI=IvL<JN3JcK*KT@cL:@cL.KuP2O@PHFAQzTdR=TORKUVSTJ*T2??TfGfUwS:VLAqVOG_1H_1PT"++zc "?3Ap?<Aw?XAz@?Jj@u3AnJHDfB36PGEcHA769OKEkLK<LvEsKxEsLcEuOcEwH4ExPYEzGyE*HiE~OEF6Q*F<PUF>QUFEP_FRS@FSRxFTSjFaVlGS?G2L1GbH6GbJBGe?5GpKMGvI3G*L^H7I^HMEkHNW8HOVwHTHGHjR~HmK>HmM2HyIEH&PTH+IdI3PYI=R<IIW7J9W0J:UFJ;PGJ?AvJlW2K5K>K5ODK;Q@K>ODKr@gKwOsKwO&K,QNL1JKL=WVLdSULwKsM1V+M2VBM2W^MnPZN:P_NtRUNu?3OEP&OKWpOM?3OnW6Ow?HOxWuPAPfPHJ>PQTwPUVtPVQCPVQKPWPZPWWbPXWoPfW,PhIRPhWXPpS_P*2QJSWQVWJR8TlRPW;S>W%SXW<T8X4TZV%U^VNV8LLV:SrVkWjVxWSVyWxV,WUW1X6W:L0W=X2W>W?WAWOWCW+WMW.WNW_WQX8WTXKWWW*WZXDWfVgWhXCWiXPWl1WmXRWnW~WrXIWsXBWwX@WzX?W&XQX1X<X5XNX7L2X9XEX:XOXAXTXFJ2XGXHXJXeXLW9XMXYXUX_XVXgXWXiXaXdXcXfXhXkXmXS131I:?3Ax?6HN?;@O?iApApHLApJHAvV5BLI9F2G.FRT<GV@YGfJ_GmArHyI&ICL4IGQ~ILIPISFcISFdISFwIcJCKo=M;I+MDKEOLXyP<XXPQQ&PmPmPpX%QGJGRFV~SOA,UdY5UkWYUpAxVZXoXZOmXzF3X*Gf?j@=ArIzAtLhBWQ9DbHG4JJ:R%>GVEn2ErEtGSJXGeKfGmAqGpOmGx4H?:HEHoHFBxHFYKHH6HKYGI9HGIIOFIWTYIYJUI+IKI.VCI~USJ49J^QHK7GzK=IdO;Y<OoAqP7O@P=BpQcVjR1GYTNJ?TvQHT%Y4UoYnVaYsXnL^Y8TnYaH^YuYk?3B4?HAv?JAz?JA%ArTmAsOOB3Yz6TXEc2EcTb;H6EqEuEzE%GTB0GnAqH>AuH@LbHBTkHHHBHM4Ha@zHn@@I2LKI9RJI<?VI%BaJUK*JlVPKVE,K,J7LfYgLg?6Lt2N%I=O<?3P1UeTUZ5Tt?7UjI4Y&??Y*??1KO1Po1S8?2?x?6HH?UAq?cAsArMGB:C_BkHGEcE&>LG>Nz87<Eq<2<Q25L>ErQ2EsL>"++zc "EuEyEuRaEwL>EyE*EyQ?EzRaE+Q?E,2E~SeF2QBF:ViGSNvGV@yGeH@Go5GpH7G*?ZH>AsHCU*HFC?HHJeHJL:HNQ8HlPDI4UMIJL~IV?BIY:JJJNJOZ_JQJ.JS?bJVNrJ_JwJkGdJw^8J+OpK6FEK7?9K7K0K7KIKBURKDWLKKTjKWGYL>ZcLSTGLYI^M7VcNsSeO9RJOS7OSR2PbKEQ4HGQ7AsQCTsQUM<QVYxQyZ.R^^4Rv4S8^HT:VVU>^UUbQ1U%VEU,VDVF^GV_ZZVq??YBAoYMZ9Yc8Y~^NZC^PZSZqZVIFZfZ3ZhZiZkZlZsUXZ~^W^7^m^;Ke^B^e^Q^f^VEr^YVG^g^E^n^t1Gs1HB1JY?3B2?5@I?GYD?HAz?HA%?RKbAqMGAsMGAxY=AxYtAzIzAzJ?A*?6BDLa3:65=>9JOEk5EtH+Ev2F52F62F92F<2GTA,GV@%GV@+GeHzGeP8GfL6G&AyHFBJHJGzHM=HQL&HROaHa@,Hx@?IJNvIT_>IYOJJ4Q1JGArJGAtJGAuJkRsJl2JsI6K@KVKBAsLBKVM08M:4NWGSNcGkO<O~OoYHP:_KPXAnPbY7PoQ_P%AtQ::Q;Q^Q;Q_TqIiTzPrW5O5YoZGZ8AuZ@MFZA?6ZD_oZNWBZx_iZ*_v^uTG^v@@^~_0_2A%_4BE_J_z_O_m_eVp?3B0?3CC?5@H?8Tc?A???HAx?I???iAr@VH6@Y<AnUfApJ?B1^yBJR3BOR3BeCKB%?6CD_c3IK:2>:728RH;GVEpEsEp2EpX&ErH6EsG.Ey2EzE&E+2E,F5E.ITE~G.E~HUE~ITF0OCF1KYF2F:F2JzF4G.F4ITF4J%F5OCF6G.F6ITF6KYF72F7G.F7J+F8HUF8T,F9G.F9J%F:P>F;G.F;ITF;MBF;UHF<ITF<J+F<amF=U8F=aVF>2F>G.F>ITF?P>F@2F@MCF@UHFAITFAayFBJrFBU8FC2FCITFCRBFD2FDL+FF2FI2FK2GWH_GZG~GZOT2Q&GfN^GoJ2GxH;GzGjGz^FG.8H6a>HU3HUaYHZRMHcA+HjHkH*bAH,Y:I8GqI9TaI;J>I?F5I@H=ITTpITawIWb8IcHjIia1I~ZbJ0I.J>U<J?A&JNGfJTAzJ^Y^KXT,K^YW"++zc "LARBLVauLWa,LwILM1aIMBaRMBa_MCaXMCakMMOTNa1NybRN*RMN+UGN+bEOCPuOIMHOIQZOIQpOITMOMLIOQ^<Oqa7P@WPPPB~QgPdQ*U;R>TpR>ZpRAaORHCDTiJJTyJ,U;YEU<acU@byU@b+UJaHUJbsUK_qUKb<UObxUOb,VIJlW3O5Y0P8Y9_+YFLLYyP9^:LL^rYT_=bI_?bi_@TT_Pc;_d^b_wc2a9Aqa;aqa<a*aDCEaJEtaNbcaPaSaTb.aUbeaWaZa^adaac4abbDaeahafagaialajaoana~apcEaratasbwavaxazb2a%cFa&bYa+bha.cVb0FJb1brb3ccb@cIbHcbbKb_bLbCbMR0bOUGbZcdb^cebbcPbdc?bfQ~bkX+btbubzc>b~cfc0cGc1b%c5cQc9P8cCc3cJcKcLcacMcOcNcRcScUcTcWcXc*cYcZc^cmc_d0cgclcnczcoc&ctc.cwc%c+d2c,c~d3d5d4d6d8d1d9d7d:d;1BE1Gd1I+1O?1Ta?<Ax?P?6?cAqArJHAtOOAwIZAyIZBFJ?BYKaCqD03Gb3Q4666U44Gb4V?>88Ek82;QlEnEpEwOaEyEvGUH~GVA02RsGbZMGgUrGvUrGzHBG*KfH5_ZH6CAHBGtHJGgHJI6HJMEHN^_Hf_MHhJMI2VrI9^6I<J^IJYQIP?ZISF+IYEnI.TyJ@dPJGAvJTA%JbPrJkd_KT@tKb^pLIJgLoUfL&AqM9ArNddJNh_1OfGfP7?BPnP:PvZFQGHGQn@?ReJMS1TgTPdwTrKZUadlUg_pVMb9VXdLVdH;WEe=XrHCXvCZY1GTY2GTY>7YAQWYwQgZRQ^^1Ao^A^d_B9_&e0a6CKaQF0b4@@cBeGcrHGcyP%dHAxdVe>ddJndedbe<Q8161Wg?3Ao?3BY?3C6?;@Q?FX0?HA+?QAy@?>@^dQ@~U3Ane^AqOiArXuAuOOAxQWAzIZA%bSA.?6BCCNBQAvBTAxBXQOBYV=B*ZUB,Y@CPBP3<6Eu>Eq757HA8Pd9IY9Ql9_Q9b>Ek9Ek<EkEqEkL7EkUt;^3EnIY52EpNxEpUtEqL>EqV&EsEqEsEwEsPtEsUuEsWFEs^XEvV&ExUuEyEcF9W4F=RIFCWyFHFIFPS@FQRxFRSj"++zc "F^T<GV@ZGVA42ObG_bgGbOEGkdjGoH;G*HzG*LEG+2G,JfG.:H5HoH6eiH7_:H>AvH@R2HHEpHHe~HIV<HMK@HSR~HU5HUYLHdI7Hf?7Hn@IHpLxH+GXI@E*IHJwIHOpIPIXIaRUIdEcIfJ6Io_9IxC_I~aBJ9X3J9XjJ:P*J?AxJ@F2JBEsJBOKJGA*JVWaJVX3JVXjJhJBJhf%JlJkJ*X^J+TQK?A%KC5KF1KMYYK^fZKoJ0L?fPLBHoLGf3LXHFL~X0M0HQM1f0M:L7M;e+MKNvNW?7NXUxNsW4NuOMO8Z7OB8OBEqOUd>OVS_OgYrOndaP4PSPafXPeMHPeQZPeQpPeTMPgUMPjAsPv2P%ewP&R<QBf_QKWHQRO>QXWHRKJ2RPfHRcEkRcEsRcEwS>WySBSBSCSCSDSDSESESFSFSRSRSUfsSXfJSrVmT:gRTYXpTtGST+?3U>WgUDeUUDe.U_@QUgg@V@>VMKFVXgqVYXlVh_3VmJLVoZrVsefVsegVuVuVzZXWGg1WcgsWcgtWkfdWkgCWtC2X;M=X;OWX>h8X^g5XbMFXlg.YC?FYXHGYdJkZ:IRZ?_nZIOaZeggZjghZmgi^5O_^Ofz^Se&^lhA^.AvbaevdAgNe5Yve6g:eMeteNQ9eZfFeneoeuBZe*R^f5gLf;f>f<g8f?6f@gMfAgQfGbNfIgOfKhefLfMfRfjfS:f^h4fggjfmSOfr_xfuhhf,gdf~g3g6Keg;hdg=T7g?hPgHJwgIhVgKhlgSgxgXhxg^YZgah?gbhLglgkgmh*gnh+goh,gph.grhfgyhtgzhMg,hcg~hGh2Orh3M8h6i3h:i1h>h0hNIPhQCShThXhggehjh~hkgfhni?hoh&hphRhvhmhyiCi0i=i2fci7i@i8fBiAiG1O@?3A~?3B5?3B6?3C4?;@m?HA&?JA&?NAz?QAz?UAr@dc=A6I+AsAsAtM;AxiRAz?6AzZOA&?6B1GTB2_,BD?6BbCHC=IzCIQ9D9BQD;BJ3=6G.4GV4PL7I27K*7b=Ek4<Z+Er2EsUPEwJzE~HPF5UXGTiaGV@dGVA22GkGbI.GeeVGpH<Gx5G&A+G*_hG.=G.E*H18H6C0H6icH7J.H;hCHAerHHNnHJYpHNI2HU9HUExHb?6Hs?6HwIAI63IFeQ"++zc "IPL^IRIRIVH@J7YUJ8@MJCFAJGAsJGAwJhGjJwL6J%EvJ%LbJ+dSK7?PK@bTKEPzL4A7LRKILr?6L.J7M:KKM:OJM?T1NbTTO6OpOfYVPIHBPq?FQLEcQRY?Q%gBR;K4R*AtS1MFST^0TJ??Th:TiQLUL_GU_iVVQivVULbVv??WR_XX>jgXxf&X,_YY;Y;YbIYYfhqYqA*Y.iLZ;P2ZLiwZTJnZY3^aiY^+Xb_^3_bjfbGUWbPjMdCjDdDgud^i>e4YPeFiseHTneRj5eej*e%k5fO6h7?Gh@j+hOk8i9_Ni<VniIjAiM_tiWjQibjxj@i^jWJgjXk4jYM8jcjdjzkCk0Kek1k7k9kFkIkAkKjk1?41Aq1JX?3C>?3Y.?QA%?VMD?cAv?k?4?m@@@HikA15At?cAvP<AxPjAyiSAzkTA%ZPA&KoA*R+A~LaB0NdB7^KB>jyBne@C;kRC>IZCUkkD2HOD9HOD@BLD@HODGHODNHODUHOD_HOEFJGEG?HEIHG3Jl3Rb6<6GoEc=46=Jz=PI=TX:JP>2>V?7^28Zz9Ov9a@EkO+EkO,Ek^DEkdu<^s<_C5O+5O,5PjEpEtEqYeErH<ErHnErTeErkOEsO+EsO,EuK;EwO+EwO,ExOuEyHUEzEwE&^^E*2E*lOE+PvF02FwU~FxV0FyV1FzV2F%V3F&V4GV@VGV@tGV@vGVA3GVA8GWJX2j,GlH~GnAsGp^cGvigGyE*GyHMG%VEG&NkG.ErG~kYH0KJH0jKH2J%H6C6H>ArH@EwHAD0HFAqHFArHFC6HFKBHGH2HHHOHK?lHM8HMGTHMM7HM^iHM^jHODgHOkoHOkpHOkrHOksHOktHOkuHOkvHU6HUE&HUlIHcA,HfK3H+_lH+lnH.F*H.lTH.lUH.lVH.lWH.lXH.lYI4diI=ExIEYhIFXwIHTQISFvIZAvI^GdIhX=Ihb*Ip@IIxBxI+^TI._EJ0L?J2WIJ9Z^JB<JBPDJTA*JWWGJ^HGJdlMJeHNJhHBJ%aLJ%dWJ*JLJ*RtJ*^qJ~HNK=JXK@dfKBkwKBkxKEL_KEP;KFT*KHA5KT@&KTVJK^VTKa8Ka<LEJlLELYLZlgL_EcLgN,LsT;L&AoM9AuM9kaM?ZJM@LKMFU7NXO6NYmaNc^TNhAsNoGq"++zc "NuO~N.N~O0O1O2O3P<eqP^KFPdOwP&HeP*GpQ7AwQ;knQAmdQRQ:QeUzQgd*QkkeQoSbQtl~QymXR?NxRemGR%TkR*ArT8YrT;l.TC1TCe9Th=Tvl&U5JPU5jZUQb;UUE%UUlQUYUlUmdFU,nDU.?ZU~N4U~N6V0N4V0N6V1N4V1N6V2N4V2N6V3N4V3N6V4N4V4N6VAGsVAnkVFVDV^?HVhepW3E*WDehWE^MXsHQXte:XvCvX.hUY3N4Y3N6Y>kLYA^LYJO_YPOuYSQuYd3YjmjYmi_YqkgZ4mc^9^9^=?E^ChK^JJl^Kki^ZnV^o=^qmg^wn9_DAt_fkBa8Y+a:kSaFldb6f6bQc:bUdyc66c<jJc@ZLcDTmcHm:d?P>dI_%dKZ2dYo6dml5e1n~e_^Remkbe,7fQRZfnlkg2lRgEUYgvPKg&Awh5oNiBYviekmin5i,Z%j0oRj2OyjUd.jb_.jmo8k=VKkDkdkNlzkPkykXlFkZn+kfA+khB1kjVGl73l8l9l=?El>l?l@ojlAoKlBiylDoilGlHlJlKlj^klplLlqn&m@N9mAN9mBN9mCN9mDN9mEN9mFPxmHdqmU^Dm_Ezmf^sm%o^m+Aym,C5n@OunLo~nTIRnobJo0Ouo5olo9omo?;oCJwoF_;oJnUoLokoQoPoXC?oek?onp6opoyormhouoxovp:p3mZ1?:1?n1Gj1IY1Tc?3A,?3C1?68?6Gd?7Po?8YQ?:Hw?GZt?UAs@@IQ@GEs@HEp@*7@.TPA9H6AqcxAublAumLAwY9AyJ?A%?6A&IZA+BFB6ZKBVPkC1WqC2CCC2JgC8CGC_C>DGC5EABc3?23HA3I43I.3J03J;6gPEc:EcGtEcJPEcJUEcL74L14e?=6=HA:3:I+:U4>I4>I87RH8PL8Te9Nq;LY;Pd;k*<n,5EsEpKYEqH+ErHMErHlEsJMEtEvEvJzEwF1EwixExEwEz2E%b7E%cuE%loE*G.E*ITE*fNE*i4E+OCE,E.E,HUE,KYE,VQE.G.E.LtE.b7E~cvF32F4itF5G.F6P>F7QjF7RAF8ciF8qcF9InF:ITFB2FaFbFcFdFeFfFgFhGUPwGVA;GWTc2H62O52OJ2QtGemwGfHHGjTWGlnlGnArGnAt"++zc "GnAuGnAvGt_5GxX~H0ExH2I=H6C<H>AtH@EqHApqHBTWHFCEHFCWHHEcHMVoHNHQHUEsHcA.HoUyH+I>H+LqI2U3I@ILI@chIxC?IxCwI+QSI+TxJ0eWJ3otJ4EcJ?AyJ@EtJ@F1J@qQJZpYJc2JcZ>JfHeJgbqJwM8JwU&JzqHJ%4J%qGJ*_kJ+q_J,UyJ~GfK3ihK7G%K<C>K?AzKD?bKT@GKV2L4pbLRK0LZ8Lc1LhcjLtqLM:q*N:??NXfpNxdvO9rDOHkGOPGvOioHOkcsOnTsOwHGOwR0P1cjP2G_P5AnP5B4P;VzP?cpPB=PNC4PNCAPbK1P+qhP.q@Q3qTQ7URQ8GYQN?<Qcp5Qe:R1H7R3qgR=a=R>rsRARNRAqORBqfREg7RMqNT1LIT3IVTBUmTJ?VTJJ7TOTwTU1TWq9TlP:TqciUEGdUQ?ZVQcpVT8VU=VirLVqreWDp^WqC>WtC1X&q7X~_<X~lSY0a0Y:q+YErWYFkHYUJ2Y_k<YbTxYfmJYij%Yla2Yla4Y+AxY,^IZ2BEZ4m9Z?dzZHcuZHcvZJC0ZQPFZurR^x?7^%iU_II5_aK3_%_g_*bva=r@aKsVaMnpaMsUb?jabFKFbWqWbWsYbjd<bjd=blslc8k_c8pdckd<ckd=cqswcqsycss:cxpcdETCdZs0dokMdpg9drt8d~gYeOrUeXrvflEcfte2hu_LidsGipToius,k2Jnl0jslPr?lit4mR1mmIpmoiOn0rQn3rrn<s?nRj<o2tEo:s.oIYJoatFp1rjpU_kpZKlpfs9pgAzpiA*pjs8q=TEq>EpqFqPqKsQqRqUqXqZqYG*q^tNqaqbqdqeqisOqjqkqlqmqnsXqrs+qtt3r3qprKE&rStTrntCr&tbr~tis1tds;s*s<tfs=tZs>QPsEchsIs~sLtesTCFsWtasitpsktnsu_*svtQsxt;szrXs&t=t0twt1t+t2u4t5u3t6tWtBtltDu6tHt&tcu7tgthtjtktmu5tqu;tsu@tttGtuu:tvu=txuBt%u0t.uAu1uGu8uFu9uHu<uDu?uCuIuLuKuEuMuN1??1Gf1KD1g01hD?3A.?3CG?3a:?3n%?5@J?5@^?66?6Ec?6Gb?6Gt?6H<?6Nn?6_V?7H@?7I0??CF?FU2?FUB?FZt?GU2?GUB?HA,"++zc "?VY7?yIS@G;@Hk.@P4@Z4@gcH@wp?A>H6AoEcApMGAqOOAqd~ArriAsIzAsM;AsQWAsa5AtY6AtiHAubBAuiHAvh9Avm;AwLaAwX,AwiFAwoUAwp4AxIZAxiFAzKVAzKuA&ArA*GdA*iQA.NdA~QOA~_.B1CXB4H.B<H.B=CgBCYIBDH.BHKaBLH.BLjnBMIzBNIZBTH.BUY@BXIzBYIZBaZ,BjCTBsBEC7bqCGLaCHIZCHJgCTBFCbHGCb_RCeedCkCxClCzCnC.CoC%D?BKDBBmD*A.E?vS3Ep3KY3O_3gZ6=6Gb6QL6TREcH7EcHJEcpw:G.:V*>Ek>Hl>e?>jp7IY7J47Jn7Ql7Xq7Z>7q18IY8JJ8Kk8Lv8O+8O,9GV929Jn9LG9Zv9i6EkEnEkH+EkM1Eki6;4;En;Q%;TE;V;<I8<L7<L><U%<i;EnJ25i55k&5r:Epi5EppJEqO+EqO,Eq^cEq_6ErGlErI.Es2EtGnEtvqEuL>Euf*EuhYEuoYEvI*Ev_6EvhYEvj;EwEcEw5EwE%EwT%EwezExHUExQJExfUEyZ^EyfUEzWIE%Z1E&EzE&E~E&OnE&dnE&ezE*^^E+foE+wvE,c7E.F0E.eOE~_UF1f*F42F;LjFBlEFDr9FX?2FiFjFkFlFmFnFoFpFqFrFsFtFuFvFwFxFyFzF%F&F*F+F,F.F~G0G1G2G3G4G5G6G7G8G9G:G;G<G=G>G?G@GAGBGCGDGEGFGGGHGIGJGKGLGMGNGS?7GTBNGTB_GV@cGVuwGXltGZxR2HB2HN2H.2L*2Oc2WB2laGbHBGbUDGgQ_GjJ9GjJVGmAtGnQpGoKGGpU+GuKsGvQ^GvvbGvveGwWdGwWeG*VfG*b;G.4G.9H0HHH6CFH6CGH6a?H6vJH7xgHBM@HELxHGwMHH=HH:HH>HH2HHwnHJVHHM:HMGbHMJ0HMh^HNQBHRKJHSLKHTWPHUEkHUw*HYeIHfH~HlWaHln=HmGtHo4H&g0H+K3I09I2ePI>K5I>y=IC??IHT7IH_7IPRSIPntIPr1IVGgIVH,IVI0IVVHIYf9IYwsI^xcI_KZIhVCIvOTIxvaIzeTIzpeI+H1I+I2I~f1J0J%J1c7J2U9J2U:"++zc "J4K%J4y9J9WaJ9iDJ:H.J:IRJ?vWJBJhJBiDJBwrJLdhJMJ%JMnnJNHNJOr5JQ1JQxjJh4JjfvJ%6J%wAJ+_7J+dTJ,GVJ.haK7V<K<C4KALEKNf+KQLgKQN,KQN.KQN~KQO0KQO1KQO2KQO3KQO4KTA?KVqMKW^5KZsNK^GqKa;KbTjKbt>KewaKkjRKowpKua3Kuv6KweWKyW@L1PDL1mML1r_L3vDL5J7L5YhL5kUL6f=L:@&L:VJLGQtLGj3LGxrLHdhLKywLZ:L_YLLasfLavALfQDLfy,LgN.LgN~LgO0LgO1LgO2LgO3LgO4LjHjLriKL,H.M3zZM4x^M7YWMDY^MFdzMK?GMKL~MKgAN^TgNbH.Nbc@NcRvNgutNuLINw7Nz^iN&K;N&j6N,N.N,N~N,O0N,O1N,O2N,O3N,O4N.O0N.O1N.O2N.O3N.O4N~O0N~O1N~O2N~O3N~O4O0O2O0O3O0O4O1O2O1O3O1O4O2O4O3O4O5WdO5WeO6vvO7H@O<T1O<kEOBEkOB<OB5OBEsOBEuOBEwOH^oONUEOPmxOSdOOTw~OUJ.Ob3Om@xOouyOuhZOuhbO~_~P3%YP5AsP5AtP5AvP5u%P5v9P6pnP7G_P7YpP:e8P<tzPB:PCpsPDifPIJeP^yPPtWdPtWePty2PvrtQ4QoQEVeQFHGQKfyQQ%mQdGfQeKpQfdNQfePQn@IQn@LQtU9QtU:QyzFR1J.R8zsR;aGRIf+R^i+R*uxR+AtR+v1SPw;T;xXTCt:TEj?TNZPTSWdTSWeTT1TUy%TqjFTsk@T*K0U2?FU2?GU5x_U7jEUB?FUB?GUFfyUPOUUT2Ubk~Uh_RUnAuUnu*Uvh^UvyuUxyzU+bXU+h1VRq;VSGdVVEuVYiEV^s2VbbXVbh1VbhrVeJ2VpvCVroDVvzBW@L~W@gAWFzYWqCEWvAxX=b*X.@cY6ToYCL~YX_TYyOYY%SbZ;QdZE%yZFyeZQviZUwHZWIWZa^jZa^kZal:Ze%HZg&xZj%KZm%MZn&vZo&wZrfTZvrq^OoW^Sw^^Xv;^ZfE^liE^zz:^+eX_<qV_Apv_EGf_HEk_Hw:_VGb__vl_a?7_jw__ty+_,o=_~?3a8oEa@h9aFU5b5pab6wZb?JJbVVvb&r;c6Q2c:*8cAR+cDzWdX&7dZmvdgLIdxfwd%w%"++zc "d,*Me8zPeA&5eC*QeKnWeTrHecIveshaf:&Pf=zMfCzxfD&Ofxyxf.yUgDdNgFYDgJrPg_xwgcKVgwvYg+zQg+*9h<^0h<_NhDoGhWzXhiLdhi&.hr&^hso3hzhzh%i.i:tUi:xaijV*iqVJizGdi~%Dj>GtjBnqjHmQjLvLjOw,jT*Ujuk6jwnHj.Jbk:wokl*gkqw.kzr2k%Txl4V;l;V;lCo1lN*2lhOJm<vTmIodmNp>mW&SmpYOmqxWmtH6m~@In1KLnBilnI+AnK%^nyt9o4eSo<stoOV;oS*WoZzAob*>ooySo.wOp=*6pEhHpFh_pHhIpIhJpKsFpm+5pu+6p._AqE%XquuOqx@JrmZ<rx&=rygZsHJcs^&IsbZ<sh&tt7j~t<&4t?UztMr.tVy?t,J4u>x1uSwyuT1uWz8uZ&6ub2udJVuf+7ugv~uhyiuu&Vv0v2v3+%v4v8v5Axv7*1v?&mv@+yvBB0vMvNvP*uvQvRv^yqvc*qvr*:vu>vx&Dvzw2v&,8w4w5w9wcw>+iw?wNwGq?wK*0wL%IwPwQwS%JwTxSwU*_wYwgwdydwi%LwjEywwZwwxwmwzy8w&,Lx2x3x4x5x6x7x8x9x:x;x<x=x>x?x@xAxBxCxDxExFxGxHxIxJxKxLGQxQBLxffvxhzRxi*xxlnFxmhIxnJ2xxVrxz+.x,+ty3*Ny:VIy;&fyCGtyG%sy_+qya,aybhZyc,cyjzGykyfyn+_yoB1ys*ryyz?z9*LzC&LzH+RzKK,zT%Wzi%qzk,Jzu*&%AO4%Bow%ChJ%QHH%R,r%VAq%ZJg%b&X%cGo%dcA%g&a%h+a%j,j%nnM%oh_%u&~%*%p%+hb%~.9&1&R&2,<&3.6&:+~&;p0&<hH&>+e&E*y&H.>&K,:&TQu&WU.&b*@&r.J&s,D*3.M*4,w*5Wv*C+&*E+Z*F,G*O.:*RrJ*T,i*V*,*Zvm*cKe*h*s*k,=*p,0*vh%*w.Q*.,2*~y5+0+*+1MF+<,K+?.E+Clb+H&Z+JfV+Owt+PEt+Sf2+Xes+n,o+p,N+w,6+x.b+,.K,1BO,3BZ,4,h,9i&,;,*,>.C,@,b,B,u,E+g,O,P,Q,R,S,T,U,V,W,X,Y,Z,l.s,s.O,zUh,%~6,.D&.3.e.;&?.A+s.D~7.N*?.R,5.T.w.U~:.V.d.Y.+.Z*d.kvX.t.~"++zc ".u~@.v*l.z~D.*~C~0~1~2~3~4,^~5&@~F~K~G~J~L~M~O~Q~Pwl"))))
abbrev ZZ:=List Z->List Z
def zo:List (List ZZ):=[[fun s=> .l []::s,
 fun| .o a::s=> .o (none::a)::s|s=>s,
 fun| .v a:: .l b::s=> .l (a::b)::s|s=>s,
 fun| .n a:: .q b::s=> .q (a::b)::s|s=>s,
 fun| .n a::s=> .v (.int .i64 (iN a))::s|s=>s,
 fun| .k a:: .l b:: .t c::s=> .t (.op a b c)::s|s=>s,
 fun s=> .q []::s,
 fun s=> .o []::s],
 [fun| .o a:: .t b:: .d c::s=> .d ((a,b)::c)::s|s=>s,
  fun s=> .d []::s,
  fun| .l a:: .n b:: .n c:: .l d:: .d e::s=> .t (kal a b c d e)::s|s=>s,
  fun| .k a:: .l b:: .t c:: .t d::s=> .t (.br a b c d)::s|s=>s,
  fun| .n a::s=> .v (cQ a)::s|s=>s,
  fun| .q a::s=> .v (.string ⟨⟨a.map bN⟩⟩)::s|s=>s,
  fun s=> .v (.slice none 0 0)::s,
  fun| .n a:: .v b:: .e c::s=> .e ((a,b)::c)::s|s=>s],
 [fun| .q a:: .l b::s=> .t (.ret a b b)::s|s=>s,
  fun s=> .v v::s,
  fun| .n a:: .q b:: .l c::s=> .t (.jump a 0 b c c)::s|s=>s,
  fun| .n a::s=> .v (.int .u8 (iN a))::s|s=>s,
  fun| .b a:: .h b::s=> .h (a::b)::s|s=>s,
  fun s=> .t .stop::s,
  fun| .o a::s=> .o (some v::a)::s|s=>s,
  fun| .o a::s=> .o (some u::a)::s|s=>s],
 [fun s=> .h []::s,
  fun s=> .v u::s,
  fun| .n a::s=> .v (.pointer (some ⟨a,0,none⟩))::s|s=>s,
  fun| .l a:: .n b:: .n c::s=> .b ⟨.cells a,b,true,false,c⟩::s|s=>s,
  fun| .t a:: .f b::s=> .f (a::b)::s|s=>s,
  fun| .a a:: .n b:: .n c:: .n d:: .n e::s=> .b ⟨a,b,Nat.beq c 1,Nat.beq d 1,e⟩::s|s=>s,
  fun| .n a:: .n b::s=> .v (.iface a (cQ b))::s|s=>s,
  fun| .k a:: .l b:: .o c:: .t d:: .t e::s=> .t (.aQ a b c d e)::s|s=>s],
 [fun| .q a:: .l b:: .l c::s=> .t (.ret a b c)::s|s=>s,
  fun| .n a:: .n b:: .n c:: .n d::s=> .v (.slice (some ⟨a,b,none⟩) c d)::s|s=>s,
  fun| .l a::s=> .v (.tuple ⟨a⟩)::s|s=>s,
  fun| .n a:: .l b:: .t c::s=> .t (.note ⟨.own a,b,J⟩ c)::s|s=>s,
  fun| .v a::s=> .a (.own a)::s|s=>s,
  fun| .n a:: .m b:: .n c:: .g d::s=> .g ((a,b,c)::d)::s|s=>s,
  fun s=> .e []::s,
  fun| .e a:: .h b::s=> .m ⟨a,b⟩::s|s=>s],
 [fun| .n a:: .n b::s=> .n (a*300+b)::s|s=>s,
  fun| .n a:: .n b:: .n c:: .r d:: .s e:: .n f:: .g g:: .f h::s=> .x ⟨a,b,c,d,e,f,g,h⟩::s|s=>s,
  fun s=> .f []::s,
  fun s=> .g []::s,
  fun s=> .r []::s,
  fun| .l a:: .h b:: .n c:: .v d:: .h e::s=> .s ⟨a,b,c,d,e⟩::s|s=>s,
  fun| .l a::s=> .v (.agg ⟨a⟩)::s|s=>s,
  fun| .n a:: .r b::s=> .r (.tmp a::b)::s|s=>s],
 [fun| .n a::s=> .v (.map (some a))::s|s=>s,
  fun| .n a:: .n b:: .l c:: .d d::s=> .t (Dn a b c d)::s|s=>s,
  fun| .n a:: .l b:: .l c::s=> .v (.func (.func a) ⟨b⟩ ⟨c⟩)::s|s=>s,
  fun| .i a:: .v b::s=> .a (.jC a b)::s|s=>s,
  fun| .i a:: .v b::s=> .a (.rk a b)::s|s=>s,
  fun| .n a:: .n b:: .r c::s=> .r (.cell a b::c)::s|s=>s,
  fun| .i a:: .v b::s=> .a (.gA a b none)::s|s=>s,
  fun| .v a:: .o b::s=> .o (some a::b)::s|s=>s],
 [fun| .n a:: .v b:: .v c:: .l d::s=> .a (.pG a b c d)::s|s=>s,
  fun| .k a:: .l b:: .v c:: .t d:: .t e::s=> .t (.sw a b c d e)::s|s=>s,
  fun| .n a:: .q b:: .l c:: .l d::s=> .t (.jump a 0 b c d)::s|s=>s,
  fun| .v a::s=> .a (.maps a)::s|s=>s,
  fun| .n a:: .n b:: .n c:: .n d:: .n e:: .q f:: .l g:: .l h:: .q i:: .l j:: .l k::s=> .t (.pick a b c d e f g h i j k)::s|s=>s,
  fun| .t a::s=> .t (lN a)::s|s=>s,
  fun s=> .t .stop::s,
  fun s=> .t .stop::s]]
def zw(f:α->Z)(l:List α):List ZZ:=l.map fun a s=>f a::s
def zq:List (List ZZ):=zo++zh 8 19 (zw .v [.pointer none,.int .u64 (iN 8),.int .u64 (iN 16),.int .u64 (iN 24),.int .i64 (iM 1),.int .u64 (iN 256),.int .u64 (iN 1),.int .i64 (iN 9223372036854775807),.int .u64 (iN 3),.int .u64 (iN 64),.int .u64 (iN 65536),.int .i64 (iM 9223372036854775808),.int .i64 (iN 4294967290),.int .u32 (iN 1013904242),.int .u32 (iN 1359893119),.int .u32 (iN 1541459225),.int .u32 (iN 1779033703),.int .u32 (iN 2600822924),.int .u32 (iN 2773480762),.int .u32 (iN 3144134277),.int .u32 (iN 528734635),.int .u64 (iN 0),.int .u64 (iN 13),.int .u64 (iN 17),.int .u64 (iN 32),.int .u64 (iN 4294967296),.int .u64 (iN 7)]++zw .i [[.u8,.i64,.i64],[.u8,.i64,.i64,.u8,.i64,.i64]]++zw .k [.bin .add (nN 0),.sj,.ld,.bin .eql (nN 0),.bin .lss (nN 0),.tY (nN 1),.iO,.kS .u8,.dB (nN 4) (nN 1),.Gm,.bin .sub (nN 0),.bin .shr (nN 0),.bin .geq (nN 0),.bin .add (nN 3),.sB (nN 0),.pD (nN 0) (nN 3) true,.bin .gtr (nN 0),.tY (nN 3),.bin .eql (nN 3),.wa (nN 3),.bin .eql (nN 2),.uu (nN 1) (nN 0) (nN 1) false,.kj (nN 0),.dB (nN 1) (nN 1),.bin .neq (nN 0),.app (nN 1) (nN 16),.Hb (nN 0),.sB (nN 3),.tY (nN 4),.wa (nN 4),.bin .quo (nN 0),.dB (nN 4) (nN 2),.dB (nN 3) (nN 1),.sB (nN 1),.pD (nN 0) (nN 1) false,.AV false,.sB (nN 2),.dB (nN 1) (nN 0),.app (nN 4) (nN 56),.kS .i64,.sB (nN 37),.app (nN 4) (nN 32),.bin .leq (nN 0),.wa (nN 2),.app (nN 3) (nN 24),.bin .rem (nN 0),.bin .neq (nN 3),.tY (nN 6),.app (nN 1) (nN 24),.app (nN 1) (nN 1),.uu (nN 6) (nN 0) (nN 6) true,.GX,.sB (nN 4),.sB (nN 5),.tY (nN 2),.wa (nN 1),.bin .mul (nN 0),.dB (nN 6) (nN 1),.u5 [.u8,.i64,.i64],.app (nN 3) (nN 64),.wa (nN 6),.pR (nN 1),.dB (nN 3) (nN 0),.DH,.tI [.u8,.i64,.i64],.mx,.app (nN 3) (nN 32),.app (nN 6) (nN 48),.pR (nN 2),.te [.u8,.i64,.i64] false,.dB (nN 1) (nN 5),.app (nN 6) (nN 112),.dB (nN 1) (nN 3),.dB (nN 2) (nN 1),.app (nN 2) (nN 24),.bin .shl (nN 0),.kS .u64,.GM,.dB (nN 1) (nN 8),.u4,.pR (nN 3),.app (nN 1) (nN 8),.app (nN 3) (nN 40),.bin .xor (nN 0),.dB (nN 1) (nN 2),.dB (nN 1) (nN 7),.dB (nN 3) (nN 2),.dB (nN 6) (nN 3),.uu (nN 4) (nN 0) (nN 4) true,.n0 (nN 1) (nN 1),.kj (nN 1),.te [.i64,.i64,.i64] false,.Cz,.zV [.u8,.i64,.i64],.Cy [.u8,.i64,.i64],.Cw [.u8,.i64,.i64],.ko [.u8,.i64,.i64],.Cv [.u8,.i64,.i64],.n0 (nN 3) (nN 64),.kj (nN 2),.C2,.app (nN 3) (nN 72),.bin .and (nN 0),.EO (nN 64),.EM,.te [.u8,.i64,.i64] true,.dB (nN 1) (nN 4),.dB (nN 1) (nN 6),.dB (nN 2) (nN 0),.dB (nN 3) (nN 3),.dB (nN 6) (nN 2),.C6,.tI [.u8,.i64,.i64,.u8,.i64,.i64],.n0 (nN 1) (nN 16),.n0 (nN 1) (nN 24),.n0 (nN 1) (nN 8),.n0 (nN 4) (nN 56),.n0 (nN 6) (nN 112),.pR (nN 4),.Dx,.strOf])
def zx:Nat->Nat->List Z->List Z
 |0,_,s=>s
 |f+1,x,s=>bif Nat.ble 659 x then(match zn (0,0) (zn [] (zn [] zR ((x - 659)/324)) ((x - 659)/18%18)) ((x - 659)%18) with|(a,b)=>zx f a (zx f b s)) else bif Nat.ble 513 x then(match s with| .l a::s=> .l (cQ (x - 513)::a)::s|s=>s) else bif Nat.ble 214 x then .n (x - 214)::s else zn id (zn [] zq (x/8)) (x%8) s
def zr:List Nat->List Z
 |[]=>[]
 |x::t=>zx 99 x (zr t)
def zF:List Z->FX
 | .x x::_=>x
 |_=>⟨0,0,0,[],⟨[],[],0,u,[]⟩,0,[],[]⟩
def zD:List Z->DT
 | .t x::_=>x
 |_=> .stop
def mkF(x:FX):FD:=bv3 body x.f x.n x.k x.rs x.sg x.m x.hs x.ds
def F1(s:String)(_:String.ofList l=s:=by exact rfl){y:a0g}(_:zs (l.map zi)=y:=by conv=>{lhs;reduce}){x:FX}(_:zF (zr y)=x:=by conv=>{lhs;reduce;delta iN iM bN cQ lN nN}):FD:=mkF x
def D1(s:String)(_:String.ofList l=s:=by exact rfl){y:a0g}(_:zs (l.map zi)=y:=by conv=>{lhs;reduce}){x:DT}(_:zD (zr y)=x:=by conv=>{lhs;reduce;delta iN iM bN cQ lN nN}):DT:=x
def dD(f:FD)(k:Nat):DT:=f.qP.getD k .stop
def oK:FD:=F1 "0CNB:P1+NL_>Yg2JhxUIHl2OvQuaE@.>GbVR<8Jh5YVEnv*"
def fd1:FD:=F1 "0D8AzArOOM;PdUYeKUYY%PzK:CFHldiI1HN3LsHQG.EsJhEtLfZy"
def fd2:FD:=F1 "0D6C=Aua5DzoSrbKFKbRInWyKI1HNJQHIyAI4IDLfGYKNGbGpEsGdOnGeXt8I4K;9JBIDLfGYKNGbGpEsGdOnGeyAL1,+L1J4aG,+~8oW~8iBXnyAL1,+L1J4aG,+~8oW~8iBXn?9?Z"
def T3:FD:=F1 "0D7A.P1+NsB^b??AtjVUYWPUoDz?HAyeJllpRGdxUI~Ec3WFOJdaL:@Gi+Qa6ExHMS:AzKoGwZIGe?PGqm&OJeYOJJn"
def fd4:FD:=F1 "0D5C6Aua5DzoSrbKFKbRInWyKI1HNH7K_w7IDLfI4Ia@?I4EsJhMJGdrtGbg2o_PvLfK;8GbK;9L1g2o_e5I4K;Zdy*o.<pJ~Nk@~Nk@I4K;Zdy*o.<pJ~Nk@~NiInZ"
def fd5:FD:=F1 "0CODhAv?iAtC2M;HQPdUYrbYVKbVdUYa3IVIXI4T&JoJOJto_GpJpPJJqo_GpEwH<PJGeIXHlK;TPWFHN2ZMIfPJIr@bJOR4H&I4n=I,N:H<Q.1I4n=F1H<Q.LSL1K;TPWFHNJoT_y<JpPJ1y<EwH<PJGeIX,t_x,t_xL1K;TPWFHNJoT_y<JpPJ1y<EwH<PJGeIX,t_x,t^uT0NUZy"
def TZ:FD:=F1 "0BtBDYI+NsB^bJ7Z1UYWPUha3eJllpRGdHN&A8K;K4K;w7IDZ1LcK_;NaH&m&M5eYM5rIH%COAsLzEu;3gv?7zNloE%lb6F2JJG&AzKoF3QBG*?PGqm&Z1pNTbH&m&Z1pNTbJn"
def EK:FD:=F1 "0BRB2rwTzTLUpAwAp??AtPbHyI<KBAwKEeJONKVGd2I~k,l+BL4H.=GVAm_5RF>LvEc7NoHbKVHQj=HcAwAp1EcJn"
def fd8:FD:=F1 "0BQAxu&yMqv3YZJn"
def TY:FD:=F1 "0BSBNdGnOYl?NAxVKArIEJ7p,r5Q7AqQoeJllpS2KFI~6HlL%J;6YN@yq0JzioVR9n*EkRFaEABeyUdG&iZQAp,J4TPRFGbGVAB37UdG&iZHQp,HU:J;67Zu:6Jz8xqVREkn*;RF<GVAB3EnUdG&iZJ2p,UdVc8p,j=TjXpJn"
def Ss:FD:=F1 "0BTBYYI+NTBYBVKjrR?RIUYK1IxC&^&L_w1llpSHQxUOHZuOpU&<1GSG~@DZbG.EpIHEq4lmfhj6EtGTBDHn@.f8EuKhEw4G.Exr_EsdiKP_^EsEvJQ2HIVfGwE%_B3F2NoG&phF3IYF4QBU.?E?PGqTjRIXpRIJn"
def sC:FD:=F1 "0B7DpAvXuB<_bt:MFJb.4IzArIZu,BCJ?_&zJH1HFB5HGeA%aH<P@dxeCUlP;.4IzArIZu,AviS^aAwgDHFB5HGeAM9AtPjAuGdg&URAteC_Tfw&oXwYHk=Ao??C:IzC;J?C<R?eAt<Gdg&URKuv_eCjGfwQo^hXwodCFIZCGJ?CHR?eA+koUQ7v_eCjGfw_SmQT4iT~ECWNdCXQOCY.hQ7~IpX~ECuNdCvQOCw.hQ7~I^hXwodCFIZCGJ?CHR?eA+koUK1AoAnAov_eCjGfw_SmQT4iT~ECWNdCXQOCY.hK1AoAnAo~IpX~ECuNdCvQOCw.hK1AoAnAo~IL_V*er4KHAkZ0=J4RbVRQ1AqQu>y*7Z=8GV@GL@H<pLAoH5HbUEGbJ1HQ*%JqEkHQ*%WD@pQ1AqQu>y*7Z=w1HEUEO_HQ*%G*I_LyIHk+xqHML1=IS:;VR<LYJ4EnJlKTA:EkHBqo85srHEg>4EqH1EpKTA:EkGjqo85srHEg>4EqH1EpI8HEK8HbONrdj1Gd&A=J;Ec8_A3pyEc9IH=EcOvVR;X+K;<GmIw@avtHlEnKxEnLXVRvtHlEpKxEpMN=EclmVREsX+QuEtVe5Z3GVAC7EvQeJPLrO>KVExVWEwUQKIp*Lr_ZEnJUm8Z6eBHbONK8LBu^GdK4Jcm8Z6eBHbONK8LBu^Gdw7JcOHO6J,M8>QlBSAwimHJV<;VSk&Z;KpHEpPK8LBKoEnEc5O_rf3qyLrLBUE63l2O_Gdrp7gGIhHl4Kx4LXVR8n*Eny05K<CFEpZ=EqlfHpY?K8O%UEJ,IYTS2NxZ>Gd_C?PI%C4VjZG+k1_pNxfx,nErGbYNA3*DZz.pVeo_I4xZGu.LEsK<CBEtZ=Euqzoby>Pt2oYErTraB,nqCxZ*Dr0.pVREkn*Eqy0Er.LEtHU7HU<j6EwmpZd,IJ4qJKW.HHrB0X.A:JlGdL3.^E%feE&&UF3zy_<zzF6+BF7.rrOF8feF9VSF4FB&_FCeLFDhwB6g<FFUTFE,fF4eLF6hwB4g<F8UTF7GeR1.HEyP6.^EyfeE%&UF2zyw+zzF5+BF6.rQBF7feF8VSF3FA&_FBeLFChwB5g<FEUTFD,fF3eLF5hwB3g<F7UTF6G*I_LukG7gGIhHl4Kx4LXVR8n*Eny05K<CFEpZ=Eqq&HpY?K8O%UEJ,IYTS2NxZ>Gd_C?PI%C4VjZG+k1_pNxfx,nErGbYNA3*Dfa.pVeo_I4xZGu.LEsK<CBEtZ=EuGnAwoby>Pt2oYErTraB,nqCxZ*DH>Aw.pVREkn*Eqy0Er.LEtHU7HU<j6EwmpZd,IJ4qJKW.HHrB0X.A:JlGdL3.^E%feE&&UF3zy_<zzF6+BF7.rrOF8feF9VSF4FB&_FCeLFDhwB6g<FFUTFE,fF4eLF6hwB4g<F8UTF7GeR1.HEyP6.^EyfeE%&UF2zyw+zzF5+BF6.rQBF7feF8VSF3FA&_FBeLFChwB5g<FEUTFD,fF3eLF5hwB3g<F7UTF6Zy"
def Sr:FD:=F1 "0C4B:AsXuD;&8TgXw^,A*IzA+IZA,M:JemMHFD;HGL7jeHFD;_SUoD;T4U7@F3fieBONN_aA=IYGdtLv+C4AzOefkL:@Gb9Qae%ffdfEsL7ErLRdDL7je1VWJn"
def Lt:FD:=F1 "0BYBNdG^IJbej*Xr.PPD3mnejAtMG*XLaB:NdB;QOB<L.?VK1PPD3HGToR*AxLKHFD3JGAxUoD;^*b&sJGfUyUxOp_L=_aG~@F:HABYA%9OlBYA%EkZ=8I8_FONy>8f8;JcGdGoKAk2fxO6_7M8EnQlC4AzLDfkL:tVQaEkEwnRH5LB_jEyToExLKLRzNv.lb3EnNoK8?65IYEpJn"
def yP:FD:=F1 "0B9CSAvXuBr&8Tg.4QWB2IzB3IZB4*<Ugnr4%_H<Q4_SnuT4P;.4QWBDIzBEIZBFrkUgnr4%_m*GdQ4_Snu_TrB&oXw^,.yM:nr4+IM9AtQ4_RnujGrB_SrAT4^hXw^,AwQWAxZO.yJ?BfLaBgNdBhZEnr>m*PjAvR+Aw^Mip;hCEkbBAzGdZ&_TnudxrBjHrAJGAzIxCz^*iTmI^,em.yJ?B%LaB&NdB*ZEnr>P5AuM9AvPjAw^MEkR+AybBAzZ&_TnudxrBjHrAJGAyIxCzJGAzKBCB^*pXmI^,emA*ZO.yJ?B%LaB&NdB*QOB~V=C0VnC1sDnr9p4R+Az^MEnbBA&m;A*Z&HGr:A+HFCBJGAxnuJGAyrBJGAzrAJGA&IxCzf.KBCBJGA+IxCEunL_6JJHEUE6RbpxGdNXso7spL:A:8HBqovwffxyKVwF;U&7pOL:A:8GjqovwffxyKVwF;^>=INUE=aC43G+GdV@8I*VfQSGVAC7<QeJPHpO>KV5VWEn^>:Z6XrZ%UE:dU4JcGdV@v,9qyH5O%Z%ONHo9Q@VWdTGdjNN_+IM9At1VWjvEnQn@FEpVe5ErEqla<Esx~lsQRiKQ:EuJcOeEt^>;lfH5U*O%O>ONHo;YOJcI2<GdsbG.EnfhqzHEpPU*O%O>ON_jJ22rNGdVeV.eLEn%xH5U*uUKVEpQf5kJErI*L:@XGdEtHABYA%EuHJVfEsH0_BEqExl*r0jb^yXsEz_8J2EyLRV<EqVSEpqB:ZzHEK8O%SOB0Q:Et_8q?Jn"
def Sq:FD:=F1 "0DaB9sgTzAqmLJ?Aw^LTi*Gr;&Q@w=fY&Q@xioHADaA*>OlDaA*9KCEk;O8<NoKoEnEc5G*Gz6Jn"
def Sp:FD:=F1 "0DbB:sgTzAqV5f&^LTiJ46PI2*GKo2EcUy&Q@w=fY&Q@xioHADbA+>OlDbA+9HnA2Q2;NoKo<EcEnG*KIvox%Jn"
def So:FD:=F1 "0DdB2Y,nOYlyWM:VWHFD;T4L_4QL2RbKFn0>EcM8v+DdA,OeHnA2eyHMTfEn_6VWjRdMHHv*"
def ak6:FD:=F1 "0D*A&ekP=C2dEO9dBI+g9=uRyMkzj72GpGjK;Q1B3j72GpGjI.GTB43HaAI3Nn2yQyQ.5+vQc%G+vq~&g?6xTzjzjJVlr%FKaxTJVdg*jKaGbxbH6BIuaxbq~zvnGBFnGBKnGBA%,BG%,BI^RBYoMB=oMBX^RBXoMBZ^RBZe_QyI4K&O<h;QyGbK&n5Ka^xGSI>6dhVZAI3Nn2yQyQ.5+vQc%G+vq~&g?6xTzjzjJVlr%FKaxTJVdg*jKaGbxbH6BIuaxbq~zvnGBFnGBKnGBA%,BG%,BI^RBYoMB=oMBX^RBXoMBZ^RBZe_QyI4K&O<h;QyGbK&n5KakQGSI>6GjGtHBsK"
def ak5:FD:=F1 "0DeA&ekP=B^dEO9dBI+YV1>uRyMkzHHVBGjK;Q1AxHHVBGjI.HW3HaXoNvZtzSODYCNvU2zSK5YCNvznzSM2YCNvUBzSHm&lZt,mOD&lU2,mK5&lzn,mM2&lUB,mHmhBpWymODhBulymK5hB?GznymM2hBumymHmhBukyDODhBuiyDK5hB?FznyDM2hBujyDHmHBsK"
def Sn:FD:=F1 "0D&B8ZKDghFDgNhtY_rPzDgB:LiOzEcxpL%JJKoaAKke;~9B0.%"
def Sm:FD:=F1 "0D&B8ZKDhhFDhNhtY_rPzDhB;LiOzEcxpL%JJKoaAKke;~9B1.%"
def Sl:FD:=F1 "0DfB4ZKDghFDgNhv:Ay_rU7J8@ZijEcfiKoRbNX~9B0.%"
def Sk:FD:=F1 "0DfB4ZKDhhFDhNhv:Ay_rU7J8@ZijEcfiKoRbNX~9B1.%"
def Sj:FD:=F1 "0D0BBYIUeDchFDcNhXx_rb&rdhuHADcB>4m>@w,7luB47m>@xl6luB4;jpEnKkmemei&"
def Si:FD:=F1 "0D0BBYIUeD1hFD1NhXx_rb&rdhuHAD1B<4m>@w,7luB57m>@xl6luB5;jpEnKkmemei&"
def Sh:FD:=F1 "0D0BBYIUeD4hFD4NhXx_rb&rdhuHAD4B=4m>@w,7luB67m>@xl6luB6;jpEnKkmemei&"
def Hh:FD:=F1 "0C+vHnNOLC,I9zqPrC,e1TN_rP;PrC,pAK,?VnEPrC,pAQOB6V=B7VnB8sCUlzV+uV@4Xqq6HorMYiHB+h>_y7Z6_j&J^?_X>kJq:C,B?V.WR8KpXs5z@l1Q:w8"
def Hg:FD:=F1 "0C+vHnNOLC~I9zqPrC~e1TN_rP;PrC~pAK,?VnEPrC~pAQOB6V=B7VnB8sCUlzV+uV@4Xqq6HorMYiHB+h>_y7Z6_j&J^?_X>kJq:C~B@V.WR8KpXs5z@l1Q:w8"
def Hf:FD:=F1 "0C+vHnNOLD3I9zqPrD3e1TN_rP;PrD3pAK,?VnEPrD3pAQOB6V=B7VnB8sCUlzV+uV@4Xqq6HorMYiHB+h>_y7Z6_j&J^?_X>kJq:D3BAV.WR8KpXs5z@l1Q:w8"
def ak4:FD:=F1 "0DgB3sg.Ivh4zEV:l6P4;r=IJJYMKV:l6P4;r=MMW@LHlcMKLHR9"
def ak3:FD:=F1 "0DhBNdG^I.Ivh4zEOz9QmOS<=Om@MMA5J4EpJlNg@gEqlmJ%Esj^Om@gEqlmJ4Esj^IRKyMKJLlcW@Oz9QmOS<=Om@dMA5VVEpYT@MEqlmJ4EsJlNg@gEtG.EujKj^Om@gEtG.EuJ4Evj^IRlcMKJLR9"
def ak2:FD:=F1 "0D1BAdG^I.IDeA~4H+pW?Gk>&dk>&Ck>&Bk>gFk>zok>&Gk>&Fi9^0Zt?Gjq&djq&Cjq&BjqgFjqzojq&Gjq&FX>VmpW?Gk;&dk;&Ck;&Bk;gFk;zok;&Gk;&Fh7uk?Gj_&dj_&Cj_&Bj_gFj_zoj_&Gj_&FPcM=Zy"
def ak1:FD:=F1 "0D4Blel^I.IDeA~4H+pW?GXZ*n&eH+ul^%@xT:HUErK;wV*nU2ecH+?G*f@wT:HUErK;wV*nzpH+um^%@wT:HUErK;wV%UEtG.MOK;Ok*nUBecH+uk^%@g^rGp*m&eH+ui^%@gc=@xp?*mU2ecH+?F*f@gc=uv*mzpH+uj^%@gc=uv%UEwG.,IK;qJ*mUB*YpW^%@d^rGph=?G&eIvulsq@xp?h=ul*Y?G*fiUuvh=?GzpIvumsquv%UEwG.,IK;qJh=um*Yuksq+zGph=?F&eIvuisq+zYT@xEvG.Ewj;K;aKh=ui*Y?F*fiU+zYT@wEvG.Ewj;K;aKh=?FzpIvujsq+zYT@wEvG.Ewj;K;aK%UEzG.E%m9K;lPh=ujecR9"
def Sg:FD:=F1 "0DcA.sgJbAvyV_rU7J8@ZijEcfi+utL4QlDdA,M0HJXt8yhHM_X9LReV"
def ak0:FD:=F1 "0C,B2Y,j.L_6K;p.TZDaA*vsXt=GTBDTZDbA+vsXt:J:TZD0B4Ecr=ds"
def Sf:FD:=F1 "0C~B8Y,+3seAxIzdIAz__iir4T3JbsdAxIzdIAz__iir4T3PzNwLiOTvp6RbJwyT6bF6RbJwe;fpfYP4>WRVo8GtIvt@8GtU%D0B5=r=e;fpfYQee27GtIRJn"
def aj9:FD:=F1 "0D3Atuzj.PzD0B6Ecr=R9"
def aj8:FD:=F1 "0D2B5Y,j.jC6JlOSEc?2?,hEJ46LYrGj^rGGbhEJ46YSrGj^jBJn"
def DV:FD:=F1 "0CLBqelnOseA+IzA,IZA.*<%rJbsdA+IzA,IZA.*<%rP;seB:IzB;IZB<rk%rP;sdB:IzB;IZB<rkQ4nEse.x*enEsd.x*eQo^hse.xJ?BZLaB^NdB_&qUl^hsd.xJ?BZLaB^NdB_&qUlPzNwLiOTvp6aApxyT6bF6aApxe;so>^xK3zwWRVof4Ivt@f4Ge?O@n>kQK3zwWRVof4Ivt@f4rf=xe_724_5NXso>^xt@9L7U&>kQt@9L7^>=GnMH_724_5g*Nqzwy@Nw8WREcPLGfwFIvft%wwFJ*ft%w;L7rf:lfGqfWGt3g*e7Ec%wf4^>:qzGqfWGt3g*NqzwH+OT8q%sMQ@L7yT8q&sMQ@L7LRG%C+B8L7M=e;RD>Xq8q&sMK4L7YiGjjvq:Nww=PKZ7GqH?5QfIvPKfaGqH?5QfjREcZzGqGf9Qfjv9e7:faGqH?EnQf^?Ecr0GqGf9QfJn"
def He:FD:=F1 "0CMBJdGnOOoAxIzdIAzrk%rP;OoB6IzB7IZB8*enEOoB6IzB7IZB8J?B=LaB>NdB?&qUlmyjaRbGf4g*I*yAGbU^9xNIRr7f4^>:bFfWGt3g*Xq8xeGk8K4L7r^C+B9L7M=TrUShqq:D2BBV.H+PKPLH?5Qfz@Ece29QfJn"
def aj7:FD:=F1 "0BsA*Y,TCS1jPCKC<KFy@CLBCKFy@CMBDKFr<2IvI>J9J*I>GYJ*I>HlR9"
def aj6:FD:=F1 "0CTAwu&PzIUGfdkEcj^IRR9"
def Se:FD:=F1 "0B_A~rwTzTLAuWY^L*IIHJ,i~LZ6YMTk>HHj%"
def Sd:FD:=F1 "0D+A~ZKDjeYS1R0_nDjeY1nz*IZuJ,U&=^xG~@A6zU7nJ8U&=kQG~@A6zU7nJ8sc"
def Sa:FD:=F1 "0DkA~ZKD=eYS1R0_nD=eY1nz*IJ+J,Ke=Qn@M6b=zU9ix6OvLZ>;nJ<TkEksc"
def aj5:FD:=F1 "0D;Avu&IV%.3KKQP6L3D+BHJwdkOPhER9"
def R':FD:=F1 "0D?B1u.Cz&uUWTatIR0JbnXjrR?GpJe2HFCzKEjj6JwUyo7g%q2HHH1HBNosMYiGpJeNnJn"
def Ls:FD:=F1 "0D@B;Ata5CE&uUWTatIR0JbnXv:tXR?i*r4mnnXv:tXLaA,NdA.QOA~jTi*r4T4jj6JwUyfqZ<=_y:s%fWYii*Gj._7g%83HHI2HBnS;^?msv*"
def R9:FD:=F1 "0D<B1u.C?&uUWTatIR0JbnXjrR?i*Z&KEjj6JwUyo7g%q2HHH1HBNosMYii*GjJn"
def aj4:FD:=F1 "0D:v>kVM;HBHQn;eK&hyKexHN29H+_WHBHhIv_WGjHhR9"
def bC6:FD:=F1 "0D:v>kVM;GjHQn;eK&hyKexr8H+_WHBHhIv_WGjHhR9"
def aj3:FD:=F1 "0CPB=k^iXHQn;eK&hjCaCOSdUJ4dUmbH?=98jIH?=98J4aCmbHNjIHNJ4aCmbHNjIHNJn"
def aj2:FD:=F1 "0D9A*P1gEOweKOwUljCaCmbKF8H1jIKF8H1Jn"
def R8:FD:=F1 "0CQBAiXn;bvWvAvTBAvyVjVWvAyL_vpUtxUNXso;^xG~@Ls5mu+=5H+b5A5irV*ihEy<m=.mrV.mVY_WnIGe?O@n;kQG~@Ls5mu+=5H+b5A5irV*ihEy<m=.mrV.mVY_WnILRI6OJJn"
def Lr:FD:=F1 "0CRBgAuM;n;bvWvAvTBA%IztYjVWvAyr%ApIz^,jwIzB>eerlB??4Ap??B@R?RIruZwHFCwHGGoHFAw?HA*myjadUHNV@;%&H6C:T+WtC9muM1EpQhM1EqEn+=PSJs?BApJ~EcGf2OnZwIv_WOnLRI6OJI~4I4I.I44Kx4GoHAD<BM7EpTe_kRIGYEpU+,,Vb,,dr_lRIGYEpU+,,Vb,,KA?5AAl23LtEpUaQPZwL3DkBIGudkirGvQ_RImWH+%vIv%vLdQ^RImWH+%vIv%vZy"
def R7:FD:=F1 "0DABtAuY6I2d@Gx15n;bvWvA*TBAqIz^.AtQWtYJ?A+R?RIruZwZ&HGEpUur4unL_<QM5<aGHNOeEnOHfqlmHAvfEnEsTe_l.BE~KLfT&YE~KLfTdrrZ:Esm=.BF0EzP?fT&YF0EzP?fTJ*G~pa4HAvZEyEsm=.B&,&Y&,rV.B&,&Y&,U.?5@L*PO<d+?3C;rPmubaBJ?6M1EsEpM1EtIp@LEuQhpKJQGY1DlBe:En6Zw_;RIEqGl_WqVR9"
def Hc:FD:=F1 "0CSD@AvgEOwbvOwUlTBZXB^IzB_IZBajVru;eyZ&^*P;h5C;IzC<IZC=jVruLK3Z&^*Sbh5AyIzAzQWC;IZC<J?ieCCLaCDNdCEZEVdruR@Z&HG4HFCBedU7us8Ke9%&H6+YKaEklhHNQsb5AAwV8HAD<BMExEkTe_lZIJBw=p=w+g_f2Ivp=w+g_f2drrZEqEkm=ZIJBw=.qIv.qrVZIJBw=.qIv.qyH_WZILRyRRDEn%&xuT+smQzz<baBJ?6M1Es5+=_:b5AAT7V*vfE+5Te_lfoJB5U+jOF:F2QiLKVbjOF:F2QiLKdrrZwfm=foJB5U+.gVb.grVfoJB5U+.gVb.gyH_WforfwEJNGoqs;3+cEn_y5Z6J~EcGfJ2qsLKK7I6OJjvEq%&lrO<h;QzO~Ka5M1EuH6BJ?6M1EvErM1EwQhHM3Q+EyLGExEzlhVdE%H+b5AAOP:LtPXICErL4@VF3L3kqF4lE_lrOJBPS~ARS~A?9tUrOJBPS~ARS~A?9?9RS_WrOKAKI3JPJNIYEqJcQ8Jn"
def R6:FD:=F1 "0BuBBAtXuDOt7bGtITgXwZXB1IzB2IEJ7GpI^HFDOHGZ1&hPzvUKFHJpVexKFYoUjI^=LiJspVCQBRVdGl?7pVCRBSPJGlOTYLeB?6Zpc7VYJspVCQBRVdGl?7pVCRBSPJGlOTYLeB?6Zpc7U.I_63ZRCSBUZ16GlId6I5VcEsLfGeGzTow8"
def aj1:FD:=F1 "0EIA,u.CzZWn2dBtIjPvZJ0r<GpJeNnIvK3vfOpTeI>H1HBmiI>H1GjZy"
def aj0:FD:=F1 "0EOB?YIZWn2dBUWjPvZJ0r<_VIvK3vfOpTe?7fbAqZ*H7HHl2mirZJ,r<LY2IvI>JeGYds"
def ai9:FD:=F1 "0EQB0P1n2N^jPEIBWKFTe?7VH:YSHHH7x+miI>GYR9"
def ai8:FD:=F1 "0EPA+AskV?cAw?cAxztL7dBRvQoyN:%lO_R%I^Jn"
def ai7:FD:=F1 "0EJC0AuLhZW?cAtztI+VWbGRvT4PzENB_Gk>O7VH9%lHQJ44JlHHJlI^P%ArHHJlI^J44LYHH^FP%AqHH^FJ44IKHAEOBXQbK=K3R_Ek=;SNZwG*Z8AvTIJlTHZ8A+^J7eSA,^J7eSAx^JLYeSB2^JLYeSB3^JLYeSAu+KA.+KA~+KB0+KB1o4cyo4_wTIJlTH_qTIJlTHGzJlI^R9"
def R5:FD:=F1 "0ENBHYIZW?cAtn2dBRvTgXwYHAua4+2V_BiT4JbXwYHAua2+2V_BiT4L_4QLJeGtizrpv+EJB^NxOeO7VH5%lQAJ4OPJ4<<n4<yOl,Gq<yOJ4eyNoVTf9l,VTf9LRGz3I^rpv+EJB^NxOeO7VH5%lQAJ4OPl,Gq<yOl,VTf9LRGzJeZxJn"
def ai6:FD:=F1 "0E?BKYIM;Eqz>WLUa^d^__8H;WvA,PzEIBWGkEqTe?7LCEsZ,miK3vZEcqApTexQ8H7qAn1IIIvn1IIJ*rZ3qApTexQ8H7qA+FIv+FJ*pTexs3qA+FIv+FnZ"
def R4:FD:=F1 "0E@BGiXTSz>.SA.sBoHR?UaRI^_M5WvB0L_Er^3Re2Z,rpEuQlEJB^NxH0OaO7PoexM5E&E%H+JsH@Ez3eI.aGe_h.aJ*JsH@Ez3eI.aGe_h.aIP?ELCM0I2HhEtJn"
def ai5:FD:=F1 "0EABGu~Re1Klz>.SB2PzkqT;TepTQ^s3_:~BVY~BIP?8GSTc_hs3_:~BVY~BnZ"
def ai4:FD:=F1 "0D,CLAuY6ReKlY_t>.SB2jCEqJl.PJlsnT%F5EwVPF6I7JC^<ZvEwLYsnT%F5EwVPF6I7JC^<GePoexjmNYYxIvNYYxG*r1LY.PYSeIoci.ocyJYS.PYSeIoci.ocyJGmAw.PJleIoci.ocyJX+snZ,LYVPwhZvEqIKsnZ,LYVPwhZvEqxdHAD<BM;lEpTQ^s3PS~;J*~;G*?8GSTc_hs3PS~;J*~;yJGmAuZQpsZ,L7T;GbOcwhZvEqGmAvsnZ,ZCwhGeLCZ,Jn"
def R3:FD:=F1 "0DlBKiXEqz>.SA,TBAtyWM:UaOJ^_HhWvA~L_Eq^3TS2Z,tAEtssQ>EkLG9E%ZRigHhE&U+EkP2KOD,BdTbF4g_y4GlPCDlBeY4K6EyGlPCDlBeL+Y<EzGlL<jOFiVlu>yHNYOJg_KALCOJHhJn"
def Lq:FD:=F1 "0BvB?dG+3ej*XPbn>mnej*XLaA+NdA,QOA.L.?Vn>T4myJJsJJ0UyfqZ<=_y:s%fWK7k2._v,py2;hsrg<nSEnJ;Gb;L?GbObdMrgEnnS5J;I4;L?I4Obpvrg5nSEpJ;MLL?Hl%THlrgEpnSEqJ;L1;L?L1%TL1rgEqnSErROV<w3vjtOEqIYL7Ery&w335tOEpIYL7Eqy&w33EntO5IYL7Epy&w3eytOf7L75^?msv*"
def R2:FD:=F1 "0E1A~ZKE2eYS1R0_nE2eY1nz*IJ+J,Ke=Qn@d6b=zU9nJEksc"
def ai3:FD:=F1 "0EKBCiXq<t~^&PzIU9;dkZdmrAq<_Uw<fhJ@EpVhA%ns5Iy>;dkYOrcLYEn_U_9HUEpJ@EqVhA%nsEpIy8;Z+VJAr5_UEkEpHUEqJ@ErVhA%nsEqds"
def ai2:FD:=F1 "0EBBWu~i+Y_HNt~?HA*IVKOD~Bjj95lemvrcg4EnRs+oq;rcg4GbRs+o;YSrcJld%+o;X+rcIKd%+o;IKUPyrEKBhN%OG<leO@phP?R<o:IyEwiquqE%_UaLHUE*J@E+i4E*_DAuIyEwiquqE%_UaLHUE*J@E+i4E*_DAvIyEwiquqE%_UaLHUE*J@E+i4E*GeL:uqd%t,R9"
def R1:FD:=F1 "0D~A+u+q<t~^&TBAtyWjVLKL&A%Y=A%YtiPL_f6LK2j9tL5gGKOEBBiOJILH2Gl_MS:AzZDI=H4O5LRLCZBJn"
def ai1:FD:=F1 "0E0vHM;q<_*^A_PL&AyY=AyYt^&L_;J4Zdy71LCEnj9mrB7d%w<fhJ@EpGbfhUPbgvgr85;GlI:E*I.E*EqGVAKE*EqE+iJi_q.H4E,^=?Z"
def ai0:FD:=F1 "0DmDFAvY6b:Y_HNt~unIVzOB9d%EkErr9rIrxrhD~Bjr8Es5lemvIyE&*zB4,Mp9F1quIyE**zB5,Mp9F1_DAqIyE**zB6,Mp9F1_DArmrB8.X+dvgbJF0EpleG_sFE0BkzfF=EqZMIhFIF2GVAKFIF2F>iJB0?6OQK6LAFJ^=?9LEIKmrB8.X+dvgbJF0EplezOB7Eu_UH^HUF?J@F@GbHUF?I.F?F2GVAKF?F2FBiJB2?6zfFC^=P8AtLtEyK?AyQPb:L3E1BgEyE~Hn@DEzF0G.F1fhIyF2IgzOB:F0F4F3RsE.F5HUF6J@F7p9F6G*P8AuIHZ4G.aQ5rJGbIyF0IgzOB;2F3F2RsE.F4HUF5J@F6p9F5_DAvmrB<.X+dE0BkbJF0EqZMIhF>F2GVATF>F2F3iJA~?6F4bNF=F?^=P8AwIyE&*zB=,M+dE0BkbJF1EqZMIhF?F3GVATF?HYiJA~?6bNH^F@^=?9P8AxmrB>.Xp9F0iJ_3I@HdR9"
def R0:FD:=F1 "0DBA+u+q<t~^&TBAtyWjVLKL&A%Y=A%YtiPL_f6LK2j9tA5*=KODmBlOJILH2JMGl_MS:v<E~I@HdLRLCZBJn"
def ah9:FD:=F1 "0CUB@Ata5EIY6GxY_j9QGrbGkKbZBQGiPIVG_?2?.1vgHN8<GdEnle%.rzP6DCBsEyKyOT<H&wqrzR:Exrz1wqEyR:OalcOT<H&wqrzR:Exrz1wqEyR:OaZy"
def ue:FD:=F1 "0BwCmAva5DbM;q<I2QGrbGkKbZBQG^&sBZXu,BGIZBHJ?BIR?q0H13H<%aM@hSGxZ&dxKBAwiPr%UmZXu,BZIZB^J?B_R?j,.7hS56EpZ&jH^@Ax^@AyKBAwedSboVyEkcyEpCM:ZBhSoqYYKsogEulwf.mkA+mlB1SboVrlkcrlpCM:ZBhSoqYYq.ogOalwf.mkA+mlB5SboV^akc^apCM:ZBhSoqYYH2OGoglilwf.mkA+mlB9^hoVyEkcyEpCJ?CDLaCENdCFZEe@hSErPjA.R+A~YYHRogExlwJGA.mkA~mlB4^hoVrlkcrlpCJ?CDLaCENdCFZEe@hSErPjA.R+A~YYy4ogGylwJGA.mkA~mlB8^hoV^akc^apCJ?CDLaCENdCFZEe@hSErPjA.R+A~YYQxogLFlwJGA.mkA~mlB<U7us;Ke<Xq6JJHEUE;Uu2JwGtGdM@wJK7I_LuZuOpU&5spV<EpLv8ErNoxyHoEtM0Es_8U&5pOV<EpLv8ErNoxyHoEtM0Es_8^>wEHEONONHbKo<f8q0H1H<OeEn%NEqI*H@EsYSRFErLvEkEul,HppPg>EwgBEvGxJ2RFErLv9Eul,HEpPK8g>Ew_^EvJOJ2K7?5@D83QE1ohAoohAoK0EppLAqH5LxY?%Oo>.7lC^9Gj1o>_8lC^9GjK7ohApohApK0EppLArH5LxY?%Oo>.7+;Hm1o>_8+;HmK7ohAqohAqK0EppLAsH5LxY?%Oo>.7+;^9HmGj1o>_8+;^9HmGjUQyRfpZ<Ev_yEwqzQRHoQtqsdnjNGqoqZB1H;ZB+cEz_yE%q%QRHoGyqsVaOajNGqoqZB1H;ZB+cE+_yE,q&QRHoqSqsVaH4E*jNGqoqZB1H;ZBjvEyNqIUErEzGWkWAnn?W5oTr0nAF:I?IcF9KsLFHBKAVfHRlZEyVSEsEzRFExlZE&VSEtE*%xzg?3B3ZDVdLDE%E+HRExjvE*NqIUErE+GWkWAnn?LFoTZ7nAF>zfF=KsHeKJHBE&IJkWAon?LFoTZ7nAF>zfF=q.HeE%HBKAL:AGy4lZE*VSEsE+KTAEGylZE.VSEtE~Qelszg?3B3KVF1VdLDE,F0JWjvE~NqIUErF0GWkWAnn?HeoTfanAFBI7jFKsF4HZH4E*HBqSIJkWAon?HeoTfanAFBI7jFq.F4HZGyO5HBE.IJkWApn?HeoTfanAFBI7jFH2OGF4HZH3HBKAL:AbQxlZE~VSEsF0KTA9LFlZF2VSEtF3QeZzzg?3B3KVF5VdLDF1F4JWHdJn"
def RZ:FD:=F1 "0DoAwekP=BrO91^6g9KDIVXtQ1B>HHGpI^2I.GTB?3HaAI3GpI^qqC1gJs@I%Bn?6xYa?_sxYC>_cZJC;_s2Gbs5_sxYC<&g?6I^WBC5Td_sK>lr%F_sK>dg*j_sxYC<Jg?3C5UjK>q~zvUjK>H6C;_~M?_uC2gwCD_uC;WqC2ZNGbKt?3C2?3C2_uCA*AC0_uC3?3C?_uC<Jg_uC:LI_uC:Jg_uC5LI_uC5JgZNGbKth;_uC=O~_uCATd?3a?_sGbqqC>_~LI_sI4qqpoQzd+_sGbqqC8*Akl_sJkj2O~O<sSea_sGbqqC1Nus@?6I^2dgJgh;ZA?3Bb?3Bn?6JkKtiNd+O~I%Bb?3Bnua2*Pn5JgI%Bb?6I42QcTdpQeaZA?3Bbua2*PsR?6I^2NWI>QJsK"
def ah8:FD:=F1 "0DpA+Y,+jKEjCQ1B7YZHB_QB8YZHB_QB<r6HB_QB=r6HBj7Jn"
def ah7:FD:=F1 "0DnB5As&uIYKKz=HFCbQ7Aq^Am&HFCbJGKuAqMFIVIhGfObGfJ;OPmSRvLCHB=K7IhGfObGfJ4=EcmSRvLCHB:K7Ih_ERvLCGj:UQ?E?Z"
def Lp:FD:=F1 "0DCCRAvOOdEO9dBUWKDTzAp?4VKdFA.IZA~M:d.HFCbX,KBAqmnAnIzApIZdFAt?fDn1KKuPB7IzB8J?B9R?L&ArHFv_KBAqT3TiO8GbGVAhEcZ0fiXrGqk%4NXI.LuL6LuZTffbTUS^>3I8JNT7Rb4OHO6J,M8:gGIhUcLyiyK4I.LyL6Ly;HADoBp>fkfbB:HMEp9YeJ;EsErj7J4R2B>YeOSEtPINnYeJ@EuqBEvos6qIp;lNpBE&E*EwnYfEE~E.nmfEE,E&p2.jl<.j+QrIqBEuosQ?Evp;dYpBGyEvnYUUE.E,nmUUE+E%p2p@l<p@oofbB;HMEp9YeJ;EsErj7J4R2B>YeOSEtPINnYeJ@EuqBEvos6qIp;lNpBE&E*EwnYfEE~E.nmfEE,E&p2.jl<.j+QrIqBEuosQ?Evp;dYpBGyEvnYUUE.E,nmUUE+E%p2p@l<p@+QJ;ErEpj7J4R2B>YeOSEsPINnYerIEpHMEuosQ?Evp;dYpBGyEvnYUUE.E,nmUUE+E%p2p@l<p@+QJ@EsEpHMEtos6EvEup;ExEupBZ4EunYweE,E+nmweE*Ezp2ExEu^ZEwZ^E%^^weEzl<ExEu^ZEwZ^E%^^weEzoo?9Hz?EK0pwO_ObO_VU>PI6HBYZGjK7?Z"
def Lo:FD:=F1 "0BUBeel+jTgOoAuMGB9IzB:IZB;gD3^ML73je2H<KMY=AtKBByT4P;AuJHAxMGBOIzBPIEJ7EcOJLKe6R*A%HFDZJGA%IxDbiPPzvUKFx.k~KYq1BuBVKFfkVH8PIKY8fi_FONN_9*%G*yRRD7NqBvBfI2HJV<;VS><ffdf5L7Enrf3pLApXrHbUEaCL73je2H<H<H<1aCL73l2H<H<H<I~63GvBwBoEcOJLK6gv?7VfH;GVAVEnE*O8JPH5K8KoE,q.H4E+WD@YEnj=Ua21f8Jn"
def RY:FD:=F1 "0DHpkDIsjDI+mUoD;tJAidOJemMu2kG=QlDIBzj1fkmOm.n4f75tP"
def RX:FD:=F1 "0CbpkCcsjCc+mPPD3tJAjdOJeL*u2UxOp_L=ssCcB%H1I2HfxMmOb:n4ErIYEstP"
def RW:FD:=F1 "0B~pkC0sjC0+mIxCEtJASdOi*u2o7NqC0B&H1O7mOI2n4;IY<tP"
def RV:FD:=F1 "0B,pkB.sjB.tMPbQ7CBtJAgdOGdu2fqZ<=1GXG%B.B*:HJmO>n4v%8tP"
def RU:FD:=F1 "0B*pkB+sjB++mrAtJASdOi*u2o7NqB+B+H1O7mOI2n4;IY<tP"
def ah6:FD:=F1 "0DIAvekD;&8jPDHBu4_HQbR9"
def ah5:FD:=F1 "0CcA+AsXuD3NcYVdpYV1QoPzDHBu4OlCbBv=OlCbBv:_HGkQfds"
def ah4:FD:=F1 "0C0A%ekCE_bdpRvm~QYk,HACbBvvs?PKoP5Ar:XpO_R9"
def ah3:FD:=F1 "0B.AuekCBNc3dp3uRPzB~Bw3_H6R9"
def ah2:FD:=F1 "0B+A%ekC?_bdpRvm~@~lak,HAB,Bxvs?PKoP5Ar:XpO_R9"
def ah1:FD:=F1 "0BWA.AsXuBr&8KEU7Aaqoq0GV@~GVAC>V*B*By4HJ?PKoM9AsPjAu8Xp:UTR9"
def ah0:FD:=F1 "0ByAsuzIWHBN^JSIVGz.5?6Jn"
def ag9:FD:=F1 "0ByAsuzIWGjN^JSIVGzQc%G?6Jn"
def ag8:FD:=F1 "0EFB3P1nN=N^T3Pzvh3zE~HIJJYMK~HMMW@~HMMMK~HZy"
def ag7:FD:=F1 "0E8BuelTCS1jPvh3zE~S?8JYMK~S?8JXW@~S?8JXMK~S?9?Z"
def KI:FD:=F1 "0BxB=iXEcd*nCMFsBeToaY~jsmnVzA,IzA.IZA~tST3eJJNKZ23NXd&4K&KaHMS:AyKVUSb?I8VcRbk,rmfYd&4YN@v>QeJP_FKV97=RFGmAxl^TQiJiZ>=Jn"
def Z5:FD:=F1 "0E9B3u+J0d*nCmm4J4Rb^Cj4GfI,N:L4AEEcH6YJGf:YmiZJcGeYpj4GfI,N:L4AEEcK&JgkEPkifGf:%eyrprJc4%fNaJ.HQHrA&nvI2Ym_3LKds"
def QP:FD:=F1 "0DwCqAvY6p+Y_^pnCY%TB^,Ar?NAyVKhWR?KKP5Ar:TXHGQf6M@HFD3s2Ar_Y?HAyL_:GVAf88GpHU:JJ_FHbXr?69:K4H?JcrpeUHJmOEqNoHp?6ErIYEsM0I2o2H@>Jl*t_fArArL4A^7PDoIn%<n.QAUb>LYhsL?GbObdMo3_fAtAtL4A_7b>Z2B*PkdK<H6n%Enn.J2_CfbAq*to;H6poQzd+Ka7b>Z2B*uX<n.QAUbR2Ar*tPXsPC7iNz<%kO_<%erhprQA9K=OTEkK;ir^CR8J.GuHrA+X.eNJRJgkEPkifGuEs%e_@1prJMEk%fTTJ.H0HrA~nvq,YmB0?6GwIPYpR8J.GuHrA+nvGuEsYmA,?6JMIP?EH@>IK*tPXsPCEeaT+Qzz<%kO_<%erhprQA9%fR8J.GuHrA+nvGuErYmA,?6T;IP?EfbAtQjAyAnxvP6DFC?3xvj8hK_fAuAuL4AFdgJgh;Ka7H6BJpRj3shuX<n.QAG*fbAuIbApL1yFG.aE@.3OrDFC?Enxvj8hK_fAuAuL4AFKtiNd+O~muPDC2Numtj35H6BEuXEpn.TSG*fbAvhsM1*Pn5Jgz<M1<PDdKL?GbObdMM1QAUPyrE9C3O_EpEkYmphTS_CfbAwM1QcTdpQeaKa7M1;PDdKhsM1GoUPyrE9C3O_5EkYmphGuUbR2Axo3PXX.a6CALIsRuX;n.GoGeO@iZO_Jn"
def QO:FD:=F1 "0DGB:u+Ecd*nCMFTBA%IztYtSsAKIvoHUEc^3EcRbJ,tA:*=KODwC4GtJcOeYjS:v<5GoLR^z=P2LCTQJn"
def QN:FD:=F1 "0CaB9AsY6EcY_^pnCMFTBAuIzXxtST3my^3J02GfV@:NqDFC?7xvj8j4GtKqAnkBH6C=OMKa>j39H6BEPkifGtEkP7fQprLK8%fLcJ.QAHrA*nvwJYjS:A+KVEsTSU.?ELCGtJn"
def KH:FD:=F1 "0B%C:AuY6p&Y_^pnCT3TB^,B1IzB2IZB3jUR*Aql0HGq2>Z&jsT4r%BWIzBXIZBYtSsAYpj4GfKqsP+YKaEc%kGf:Yj7Gbfi_FK8N_w7dSk+e;RD7I*L^Jlr2EkH7j8**o;xu+DplvVPktRGtt_QAG+WGLYJ4EkOrByB.j8**o;xu+DplC0NuNuM?PktRGtt_QAG+G*G%ByB~j8**o;xu+DplC0NuNuM?PktRGtt_QAG+WGYS^C**PXsPa?+DBVJRLIsmQz?3YJGt;n,5GoG+NzK@rY;VW^>q6_F?6rMGt+c:1GXH@Z0ZQCaC6Gt>Yjp*G&v<9UTNzEcQ+7j8j4GtKqsPCDJgO~T1T+gJmt%kGt9Yj;P2fQCaC6f2>K=G~@I5Gb^CLcJ.dWHrA*nvEnGuYjp*i,KVEtH2U.?E^z=Gb^Cj4TQJ1L4hU4G+YmiZUTR9"
def GA:FD:=F1 "0BVBvelnOYlMGB8IzB9IZB:*<^MUaje7TX_S_YY%P;YlMGBHIzBIIZBJrk^MUaje7TX_S_Y&oUnBZIzB^IZB_tST3PzvUKFx.k~Gpd&GdYoKad&:Ip@v3d&>PDCI?6RFGmAxl^HQm8JJH5O>u^Q@pxEkGbe;so8^xK3ByB.HJs7j>Jco;s5Ka9PDtRJct_L7QAG*?O@n8kQK3ByB~HJs7j>Jco;s5Ka9PDtRJct_L7QAKAK0=I8J~=dU43H1V@8NqQ>;HJs7j>Jc_fAuAuL4AFH6C:T+WtC9Ka9PDBI?3BZKaEkK&M?O<d+sSuVmuH6YJJcEnYjp*dfEqL7J2KAK0:Z6eB?6:dUJcV@:I*KOB%C7GtQfYjEcKpG&v<;M@LR^z=Gb^Cj4TQJ1L4hU4G+K=OT7I.aCGVAU79HHEk^=?Z"
def Z4:FD:=F1 "0B8B6Y,+jjPBUBtKFP7VH:PIKY:HABVC8KFOlBWB,KFb4AYYN@tGd;HABXC@<GlNmb5@Yim>EnR:T%N*=j=K?Ay21_?nZ"
def Z3:FD:=F1 "0AwB0Y,?iAqB<_bbG3I+QJI9MFPzB7AyGkm<B9A&VWm<B8C9imP7VH<PIKYVWHH;VWds"
def bo9:FD:=F1 "0C.B0sgIVeb3GpIRd^T7yvGmB~VU6GmCHHADQCA3HnA>T7EcLZKtiNd+O~OhKtM??3CEZJCGT1OhKth;OhKtO~O~gwCDJgT1PNC0NuNuM?PN+YPNpmCCbqPNpoQzd+PNC2NuPNC3kEPNC3?3CFT+s@T1r+%Gr+TdpQear+p5r+Vjr+n5O<M?M?PNC6%FPNC7iNPNC7?3klM?T+JgT1PNC7OMPNvVPNC:O<d+sSuVPNC:T+WtC9PNC<zvPNC<&gPNC=OMPNC=sSJgPNC=O~PNC>O~Jg?3CDT+WqCCT1r,Jgh;r,T+sSJgr,*jr,LIsRr,LIn5JgOhP3smQzOh.5PNa?PNCDJgO~T1T+gJPNCEeaT+QzOXVUEcJQl_3J4k+hEl_3IR_C?Z"
def Gz:FD:=F1 "0CKBqelnOOoB>IzB?IZB@*eQoP;OoAu?dM6B>IzB?IZB@J?BULaBVNdBW&qHK?o&cSbOoAu?dM6B>IzB?IZB@J?BULaBVNdBWQOB_V=BaVnBbsDQSdNHK?o?<v=^*L_4J4RbU^OjIRm8K;:yhHUEcK;>xOIRHU4QL4aCGkg*Xq9HU8K;;yhJ4K4U^EkHlIRIbAnj:I8_FHo9ZdL7Gdr^C+B7L7M=TrUSmJZ<Ek_y;Z6JNYVLK2T@^>9K;Ekyhr7;QfkJEnQnAd<5HBl*KpypEsQSEr^?l1JNH?Enm.Jn"
def bo8:FD:=F1 "0BzAsuz^IIViO2py3GTC2J;3H7HMdM,_mzn6n7n8O4smpQ?3poiN?3C5eagwC8?3C9M??3C;OMsR?3C?O~s@*ACD?3CE?3CFuV?3CHKVr6*7*7QeI4,_KQy.y~z0z1z2z3z4z5z6Lgy.Lgmzz^z_zazbzczdzeN,y~mzN,z%z&z*z+z,z.z~N.z0z^z%N.n6%0%1%2%3%4N~z1z_z&n6N~%5%6%7%8%9O0z2zaz*%0%5O0n7%:%;%<O1z3zbz+%1%6n7O1%=%>%?O2z4zcz,%2%7%:%=O2n8%@O3z5zdz.%3%8%;%>n8O3,~z6zez~%4%9%<%?%@,~?6Opx%sK"
def bo7:FD:=F1 "0C_Avu&jC6H7VU2py3GTC2J;3H7HMdM,_mzn6n7n8O4smpQ?3poiN?3C5eagwC8?3C9M??3C;OMsR?3C?O~s@*ACD?3CE?3CFuV?3CH?6JwR%*7*7Z;I4,_KQy.y~z0z1z2z3z4z5z6Lgy.Lgmzz^z_zazbzczdzeN,y~mzN,z%z&z*z+z,z.z~N.z0z^z%N.n6%0%1%2%3%4N~z1z_z&n6N~%5%6%7%8%9O0z2zaz*%0%5O0n7%:%;%<O1z3zbz+%1%6n7O1%=%>%?O2z4zcz,%2%7%:%=O2n8%@O3z5zdz.%3%8%;%>n8O3,~z6zez~%4%9%<%?%@,~?6k+x&UQ?E?Z"
def KG:FD:=F1 "0DFBkAuriTzTLAsJ?BCIz_&L5?VT3P;UmAvJHB^IZB_J?BaR?KKL&ArHFDg_R_YT3TirGPIGprGGbyFxpx%l_6K;OPl_6HUmP:GbO=?2?%>J%=7K7?5@v6HUmP9Gb_AdTHM2;*GKVGo2*GrdRbI~LyIHiifYl_>J@?2?%EcK;UTK7?5@v>Qe9srKVip;J;Z0K7I02EcHM2EcGVAJ::GmIw@hyFb=d&79l_w6@.dMHUwE_F?6k*2EkyFfYd&GdYN@vYN@.dMj:I8JN69K47OHfqfYd&=Ip@v3d&7YN@v>HMQkAzHo;9L%I.RbGVAUO_x*K7?Z"
def Z2:FD:=F1 "0BXAxekCrO91^6j9VaTVuRIVPopn?2@2?2@5?2?~?2@4?2@0?2@3?2@6?2@1jtjtjtjt?2@73qx@px0?*QuFYJ@GTBTFZVUF^2HMF^xOHMF_J:GVAJF_FaJeI.Fb2L6Fb2GmCNGVA<x0?&eEvOFeeEvKFgeEvIFieEvFFkeEvEFmY2zrFoY2ygFqY2xVFsz7FfFhFjFlFnFpFrFtl^FcFu,yC1.8Fv+bFwN9C,nxC~nwD1ozD4n_D6n^D8o%D;nbD=naD?o&DBndDDncDFo*DInfDKneDMo+DPnhDRngDTo,DWnjDYniD^m?dtN9DbdtN6DddtN4DfH.F+l%C.HOD0m1D3HOD5HOD7m2D:HOD<HOD>m3DAHODCHODEm4DHHODJHODLm5DOHODQHODSm6DVHODXHODZm7DaHODcHODem0HODhjRF^J:GVAJUVJeI.Fa2L6Fa2GmCNGVA<x0?&eDvOFdeDvKFfeDvIFheDvFFjeDvEFlY1zrFnY1ygFpY1xVFrz7FeFgFiFkFmFoFqFsl^FbFt,yC0.8Fu+bFvN9C+mKN6C.mKN4D0H.FvY3N9D3nxD5nwD7ozD:n_D<n^D>o%DAnbDCnaDEo&DHndDJncDLo*DOnfDQneDSo+DVnhDXngDZo,DanjDcniDem?l%C,HOC~HOD1m1D4HOD6HOD8m2D;HOD=HOD?m3DBHODDHODFm4DIHODKHODMm5DPHODRHODTm6DWHODYHOD^m7DbHODdHODfm0LR?9?Z"
def Ja:DT:=D1 "uYFwN9C,nxC~nwD1ozD4n_D6n^D8o%D;nbD=naD?o&DBndDDncDFo*DInfDKneDMo+DPnhDRngDTo,DWnjDYniD^m?dtN9DbdtN6DddtN4DfH.F+l%C.HOD0m1D3HOD5HOD7m2D:HOD<HOD>m3DAHODCHODEm4DHHODJHODLm5DOHODQHODSm6DVHODXHODZm7DaHODcHODem0HODh1"
def aN3:DT:=D1 "uYFdGTvOFeeEvKFgeEvIFieEvFFkeEvEFmY2zrFoY2ygFqY2xVFsz7FfFhFjFlFnFpFrFtl^FcFu,yC1.8Fv+bFwN9C,nxC~nwD1ozD4n_D6n^D8o%D;nbD=naD?o&DBndDDncDFo*DInfDKneDMo+DPnhDRngDTo,DWnjDYniD^m?dtN9DbdtN6DddtN4DfH.F+l%C.HOD0m1D3HOD5HOD7m2D:HOD<HOD>m3DAHODCHODEm4DHHODJHODLm5DOHODQHODSm6DVHODXHODZm7DaHODcHODem0HODhGe"
def I9:DT:=D1 "uYFvN9C+mKN6C.mKN4D0H.FvY3N9D3nxD5nwD7ozD:n_D<n^D>o%DAnbDCnaDEo&DHndDJncDLo*DOnfDQneDSo+DVnhDXngDZo,DanjDcniDem?l%C,HOC~HOD1m1D4HOD6HOD8m2D;HOD=HOD?m3DBHODDHODFm4DIHODKHODMm5DPHODRHODTm6DWHODYHOD^m7DbHODdHODfm01"
def aN2:DT:=D1 "uYFcGTvOFdeDvKFfeDvIFheDvFFjeDvEFlY1zrFnY1ygFpY1xVFrz7FeFgFiFkFmFoFqFsl^FbFt,yC0.8Fu+bFvN9C+mKN6C.mKN4D0H.FvY3N9D3nxD5nwD7ozD:n_D<n^D>o%DAnbDCnaDEo&DHndDJncDLo*DOnfDQneDSo+DVnhDXngDZo,DanjDcniDem?l%C,HOC~HOD1m1D4HOD6HOD8m2D;HOD=HOD?m3DBHODDHODFm4DIHODKHODMm5DPHODRHODTm6DWHODYHOD^m7DbHODdHODfm0Ge"
def bo6:FD:=F1 "0DQB0ZKDVhFDVn3IE?VR0eJKo2T*?5@vpyIYd^GfjLB~jnCHY@jLBajnBzY@.f.fjLBajnBzY@.f.fYZJn"
def QM:FD:=F1 "0C2BFiXFXPdI2&nHFE_bvI2&nHFE_?HBjTBAoHTJ7cAHFE_?HBj^1QZFXj9&n&A3K;FY2VRx0?*QuFZI.xOF^HaAXF^3M@&n1nl@.3F_GVA=F_HMFXGPHMUVJ4GRxO1?q?BQZGOWKCdWKCeWKCfWKCgWKChWKCiWKCjWKCk~RQLGO^d~RUQI6cAJn"
def JD:DT:=D1 "?BQZGOWKCdWKCeWKCfWKCgWKChWKCiWKCjWKCk~R1"
def IN:DT:=D1 "?BQZGO^d~R1"
def QL:FD:=F1 "0C9A+P1ZWUeC;pNj~zmC;1UWnzeJ?6IYT7OHG.3G.6J;%P>OC=KYJ%%PYNurYN@ZioJ+94KeEkg%;YMHBNoIMK7a0k.YN@Zioj:rTEkmxaEuraE@Z<G.EnJ+54KeEpg%wREtK7QvJn"
def QK:FD:=F1 "0C9A+P1ZWUeCipNj~zmCi1UWnzeJ?6IYT7OHG.3G.6J;%P>OC=KYJ%%PYNurYN@dioZu94U&Ekspeb;^cEnU&EkpOeb;^cEnK7a0k.YN@dioj:rTEkmxaEuraE@d<G.EnZu54U&EpspebwREsU&EppOebwREsK7QvJn"
def aW3:DT:=D1 "ebwREs1"
def QJ:FD:=F1 "0C9A+P1ZWUeChpNj~zmCh1UWnzeJ?6IYT7OHG.Ip@PLyJz,7G.6LZUTR%Z99j7Jn"
def Z1:FD:=F1 "0C8B7As&kd@V.s_^*IV?OANq3TopMQnA@dWVZANEqI+V.pMQnA@YPHBGVAe>I+v.^w1?@Q6PtsK"
def Z0:FD:=F1 "0BbB8u.BNZWM;7Kbh@?RmRKb=Ogj1SWVvQNdCKuY%yMTPZHtyGdt*2HQN+*Jto*JqwGeP.vkJ%TPZHtyGdt*2HQN+*Jto*JqwWDjE8fNl6J+;6Ke<Xq5LtEqty5t*ReN+oBEttooBEtqwLR?5jE8fN9QmJ%k&ZHtyGdt*2QAN+oBEptooBEpqwWDjEEnfN5G.EpJ+Eq6KeErXqEtLtEvtyEtt*q,N+oBEytooBEyqwLR?Z"
def ZY:FD:=F1 "0BdAyAr&ks_a3yLppr8p&,kJOH;R9"
def ZX:FD:=F1 "0BcAyAr&ks_a3yLppTWp&To,kJOH;R9"
def ZW:FD:=F1 "0Bev>M;Kbk<T4yLPQTWLYTPVkinLYTP,kHDJMZy"
def ZV:FD:=F1 "0BgB4As&kd@V.s_^*yLppTWp&ToR=ppEnHDEtGuErV.R=ppy4E%v.,kE&JfF0ds"
def QI:FD:=F1 "0BhBRu~ims_?HAyTBBHIzBIIZBJ__OgM0SWTJQN&cjC7IKP<uJH@7xdP<uJH@7GmAuP<uJH@7Gmk_uJK0Q~Q@TWtLEkgGH,BhCMTbi+dmK@rYEwQ&LRVITbJn"
def WZ:DT:=D1 "?euJ"
def KF:FD:=F1 "0BCCCAuM;7Kbk<Y%TB_1TN__OgM0SWTJQN&cr%AsZO_1YqC0LaC1NdC2ZE>OgimSW?<Ays4v=HGwJ4TSHFD3?HA.L_7QM&JTWtAEk*=H,idTb<Te.Wmi.WLRVITbYfO6TQM8EsgGH,BhCMrNI=dml1HpQ:E,H4O5EnLDLRH,eqrNEqR=eqEsI=OaErdmK@rYE~W5HdZy"
def aW2:DT:=D1 "H,tzGe"
def aW1:DT:=D1 "H,XX_+"
def aN1:DT:=D1 "mwuO1"
def aN0:DT:=D1 "?eidTb<Te.Wmi.WGe"
def AE:FD:=F1 "0AzB~elO91JSIBHGp7KDTzUnB0IZB1M:T82JeJkSWI&QNL5KuT3P;UnB=IzB>IZB?__OgM0SWTJQN&cSb&NAtMGB=IZB>J?B?IzBFLaBGzJ:O:bUT@%tV.Z&PE?<A%s4A&Ku?HA*^h&NB=IZB>J?B?IzBSLaBTNdBUZE>OgimSW?<Ays4v=^*iTIF&NB=IZB>J?B?IzBSLaBTNdBUQOBZV=B^VnB_sD9OgJOSW?<A&s4A*KuedIVP.vkK7?SAnIbAnOCvkJJHCVcJkH<Ng@M6ixEcxpL%JJHCVcaAH<NXGVA14I+X+Z0^wffrY>USOCvkI8J~GdJkT7JeJkGtNg@M:M8>QlBWB,imeP5I8J~J22T7JeJkGtLRyRRDEkXq<Z6G&AzeBu_Gff8JUGxHQK7H,BDCwTbO7?@U*LB?6V.TrLyGVA1EnI+Jlii^w_IKpHpy>EqH1Z>Ep5HU<qy_FHbHo<aGH1HQQA+hEn_y5lfQ6:J22rN^?3JPJ~durNkJEqI*P.9KYrFEup<PtpGE+npG*a0w6@kEuG.EvOCEwKYrFExp<OapGE~W5HdG*I0T7rFExp<OapGE~W5HdG*a0itp1J%3E%rFE&p<E&E*pGF3n<G*a0itE&j0J+E+Ip@ME,G.E.P>E~rFF0p<HPpGF9TqG*?5QYF0E~QjA*B>ErQ,F1otF2p<F2F3pGF;F4IcHSKAKI:lsQ6Eq_8J2Jn"
def ZU:FD:=F1 "0BmB0rwyN33.2PIZT.2GbJ;qvZTK;qvGbx+Jn"
def ZT:FD:=F1 "0BnB0rwyN33.2PIZT.2GbJ;qvZTK;qvGbx+Jn"
def ZS:FD:=F1 "0BLB2P1ztI+L7S1QoPzBmCPJ,OlBnCQvnOlBnCQp%x.>PI>^JPI7OS8PI8x+ds"
def ZR:FD:=F1 "0BEB8P1M;OLBFI9Kbp7MFWLpzI<YhI&J^zmBFNhUpAzVKjwR?pz,&J^MDQob&HEsJJ,2IY%N>I*VfToU33EkNoHEO>?6;IY<O_jNJ~ry6O_uQO_Jn"
def ZQ:FD:=F1 "0BjA~P1roS1KETzUnpegDHFBNQojj+8g*jlL7d@To1r6r7f4sc"
def QH:FD:=F1 "0BkBMk^k^Auro1Y8dBUWKETzApTmdFjrnHHFBNT4jjk%=TxI~J0y1GVA=7IS8?2?zQu9J+3EkKewBZwNx&0WIP^GfEqVWQLGkEkNxLRI0KZRD7Q%I2NxHJLEPIEcHBr6GjLRGzEcGjJn"
def QG:FD:=F1 "0BEB8P1M;OLBK1raY_p7HGdylxPEI&KuT3WLpzI<YhI&m^dylxPEL5KuTgPrBK1rauPUpA&VKjwR?pz,&m^dylxPEVgMDT4b&LrsJ+8%N7U_@*>yYpMVer>3;NoLr?3ep<duNxNoLrg>;NxjNjSPjAn6NxuQNxJn"
def Dj:FD:=F1 "0B1BWYIM;4Kbp7MFWLpzI<YhI&J^TgApZOAsZPAtiQUk?fBI1g7raTAuPA,IzA.IZA~__gP,&m^KKHFBEHGmYlxHGbBAtHFBDPET2Ku_SJ^Y%P;ApZOAsZPAtiQUk?fBI1g7raTA1J7p7HGKKHFBEHGmYlxHGbBAqHFBDPEL5KuX,J^T3SbApZOAsZPAtiQUk?fBI1g7raTAuPBJIzBKIZBL__gP,&m^KKHFBEHGmYlxHGbBAtHFBDPET2Ku_SJ^Y%IV?SAnfiHpO%K8UEGtizH<V@8U_p_rCpMff*i<JUHABkCU4QSKyG~A17rC^wVeQSU3>EpffQR?3B1KVErL7Eq5lcIdK@*i5JULR?BApgc?6JU&A4K;aAHU4J@>i%47J_4v,4J@;GbGVAl4<GV@*EcyYd?fhZ6QR?3epJ2izEn=UQHVHWNaR8d>CVQbUZVIT@e;RD8U_p_rCpM%x*i<JUHABkCU4QSKyG~A17rC^wVeQSU3>Ep%xQR?3B1KVErL7Eq5lcftKp*i5JULR?BApgc?6JUJn"
def Pe:FD:=F1 "0B0A,P1roe9&MIzXxgD_GQojj+8g*U_ALI+Tod@L71Z:r7f4YiGjJn"
def Xb:FD:=F1 "0BZB:P1ztI+L7S1QoyNJ,J;J,hEOSvnJ;vnhEJ;p%hEJn"
def JI:FD:=F1 "0B:BFYIroe9UnYBVKAta2+2_GK1IxBJT4JbUnYBVKAta4+2_GK1IxBJT4PzB0CZKFr<3yT3JJllpS_52TxTrLu^o7NqBZC^NxI2H+?7VfNxU3eyVer>QAHMQk_3EpIYEqNxIv?7Vfr>eyNoG&phf75NxLRVfNxU337j=%a18%N7I*Vfr>3;HMUi?6<duNxK7dDTjXpJn"
def C3:FD:=F1 "0B;BLdG+3ejhWPbn>mnej.cL.?Vn>T4SbejAuMGAva2.cV=B4OiB5VnB6sCn>HGQSHFC&^&SbejAuMGAva4.cV=B4OiB5VnB6sCn>HGQSHFC&^&myJJsJJ0Uyfqi~HU:s%fWj=gu._v,3Z6JNTWQ@I2^?ms7bPL?8%T8LZ<9l*lsypEnQSl*KpypEnQSy&9LveytOf7L75bPL?8%T8l*lsypEnQS^?>jZ<Jn"
def Of:FD:=F1 "0C5B;u~j1Y_Tj~=Qgz=~=UlTBB1IzB2IZB3M:d.nK:%_m*V^X,^@Ar^@AtUh_TUhY%IV?;@q>GpRF>Lv39HUw1oZpRQ@EkQJHUw1jSHQ2H?tL8gGHVOUbgC5CbJUm.U6S:A*Y?uUKVEsEnLDLR?@jSJUJn"
def JH:FD:=F1 "0B^CRAvM;:z=~=Qgz=~=QoTBAvyVM:d.nK:%_m*V^X,^@Ar^@AtUh_TUhY%r%hOyVJ?A*LaA+NdA,ZEjeP5Au8M9AwPjAxV^HGs^HFC2_S^@Au^@AwUhJGAxUhedL_:JJjSfWH?tA8_aOTwEG&A&XrZ%Ho<aGJUQSQAK7?@jSJUYfO6TQM8EqgGG_Tl1C5CbJcI2H2JMU6l1H5Y?uUiKQ:qMGxJ2LRLEGbeFEqUPHWNbe4>ErdooDP:EsI=Vpo=KVE*H4fVI4.nHl.nJ9j:.l9..NbLcP:QfEtEk~>JVy7.lEk..NaNbP:T@Et~>J:UP+f,g~<fVGYny,gkMG*G_+fdo~<Zy"
def aB4:DT:=D1 "?5@VV~kLt9G*"
def aB2:DT:=D1 "LEGbeFEqUPHWNbe4>ErdooDP:EsI=Vpo=KVE*H4fVI4.nHl.nJ9j:.l9..NbLcP:QfEtEk~>JVy7.lEk..NaNbP:T@Et~>J:UP+f,g~<fVGYny,gkMG*G_+fdo~<G*"
def Ji:FD:=F1 "0B<B>Ata5B*n21^6H?1TgnX^.hWR?H<GjH<V^HG+I>m*PjAvV^_R^@As^@AuUhdxUhUlP;nX^..cjTH<GjH<V^HGR*Au%a9p4V^_T^@Av^@AxUhJGAyUh^&myJJeBONON%OLuRbH<GjH<OHfqxqy7INK8g>4EkQ@_^j=+I>m*PjAv1_^._<g%En3dAsH7OeUw>JPH5Y?uUiK_jEve8Nz>JPLrLB_jEq7Oe^?K^Lrg><7OeJn"
def N3:FD:=F1 "0B>B1P1nN=N^T3JbUmjr^LzV?6Ly:Uyo7g%q2nJ8sc"
def N1:FD:=F1 "0B?B0P1n2zqUmjr^LPzB;CaGkZ==JJ?6L72TrLufqi~LZq2nJ>HHj%"
def FP:FD:=F1 "0B=BYk^AtnNO_N^QoJbUm&MT?J?A*LaA+zJj1P@UlP;Um&MV5bSLaA*NdA+QOB5V=B6VnB7sDm.P@^*SbUm&MV5bSLaA*NdA+QOBGV=BHVnBIsD9vw;P@^&L_:QL=GdfWKFI~LyIHk+xqJ+8Ip@dPMbFGfEkp&QA2j1YZkJEng%5V*ZYvo38KC8Of3Erp+Esm.Nz8OfHNErm.^>EkxeYVEkYO9LKbPZudSU&<spebEnV*ZY6L1dUKCq8vjp+EqQSNzq8HNEpQSU&<pOebEnV*ZY6L1dUKCq8vjp+EqQSNzq8HNEpQS^?:P^GfGt<9vw;Jn"
def aM8:DT:=D1 "G%ZY6L1dUKCq8vjp+EqQSGe"
def aw8:DT:=D1 "?BQpHNEpQS1"
def mM:FD:=F1 "0AxDLAvOO+jTg_dAs?>??B:IZB;M:VWP@T4P;cB??BDJ?BELaBFzJH1Eccr&oeQeMBMQOBNjTTo4eRV.YX^*^heQi<T2J7I24eRGxYXiPiTpDBpjhBqjoBrofHB,viTpDBpjhBqjoBrofGj,vpXpDB~jhC0joC1ofHB,vpXpDB~jhC0joC1ofGj,v?UAtpDCPjhCQjoCRofHB8EtnnB0?UAtpDCPjhCQjoCRofGj8EtnnB0?UAukDk?C&jhC*joC+kNunL_vpGdRbKFNXHAj&L1Z0KCTf7UtVWGeK0q6llKoGdrML7I~LyJ+k+Ke8XqEkZ6rY=J0ZdH1QSjNKom&uQfxHAZYdMKwKC>KpJ~f7L7VNZ>U%B;CaV.Z=EnqyQ6QA2v.Tr7>IH:7G.5HAj&ULOlB<CdGxEpK=?GGSK3vGI2LuErZ=EwlfjSEqYcQt2K*H2PtIJMKGSK3vGI2LuErZ=EwqzjSEqYcQt2K*H2PtIPKIp*bTGt5I2yZ,xzNdXUL+4Zz.or^vGGxLuEsZ=Evq%LrXsH02dnTrf1,xzNdXUL+4r0.or^vGGxLuEsZ=Evq&LrXsH02dnTrf1,xltGbmqULdX+4Z7.oWIZ7LrnsEzdnr^j&I4Z0Z+AcI4Z0ULULI4Z0fOQ?HUwWAwoZ?6EvUUJUEtaKHhEuTrf1,xltGbmqULdX+4fa.oWIfaLrnsEzdn^>wWAxLrXsEt_;HhEuyZUxdT_LEussB>CeYUEwHnusE&KeE*NqB?CfLFExOlj&mVZ+AHULmVULylmVylk:F1WIH>AwG&A.Z%?6F0F2Z1F3HhEtL2?EK0wWAyHpXsJM2b:yZUxdT_LEussB>CeYUEwHnusE&KeE*NqB?CfLFExOlj&mVZ+AHULmVULylmVylk:F1WIH>AxG&A.Z%?6F0F2Z1F3HhEtL2?EK0wWAyHpXsJM2b:yZUxdT_LErssB?CfH;EuOlj&HlZ0Z+AHULHlZ0ULT^EyHlZ0T^Eyk:E%WIH>AyG&A,HCj<aLZ1E*b:KAKI7lsQ6G+Erb:Jn"
def NY:FD:=F1 "0A+B4P1roe9&NjrnH_GT4jjGd+8OHUxOp_L7*=?;ALyYd@Nx1HAj&GxKCz;5yONzms5NxYi3Jn"
def IU:FD:=F1 "0AyB7rwTzhW^LTim8OSJ0IRm8JJKVRbOHo7Qn@PJ,Ke8Qn@F:GrAZrCd@<Jc1IRTkEnUQeV"
def Im:FD:=F1 "0ArBKdG+3AsJHAuIzB6IZB7J?B8R?=gPK,YhL.J^T4PzAvD7y@AwC:GkUZP.=KYTZAzCO=O7G%AxChj1K=OT<JJZ%?6En<f8QSyHJLTrLu^o7Qn@F8GrAQq3;M@d?GV@*q3;M@oG<HAA+Ci3I2OlAyCpGdQsIdbXf9KkG*?5ehEn<HAA+Ci3I2HJ%.m;A&EpP6AyCpJ2WRbXErNxKkG*G%A+Ci3I2OlAyCpGd<WRK^HEIMNxKkKA?;AQq3xdJVJVd?GV@*q3xdJVJVoG7Z:GVehZbj:J4K4hEZ:Jn"
def vA:FD:=F1 "0BDB.elM;KbXbJSIBHGp7T4TB^,A+P~J73oAQJ%tgYmYJTA+nQAzL.T2lyPEL.QNTJKujG*H*HJ^a3?UBNIFVz^,A+QWA.?IJ73oAQJ%tgYmYJTA+nQAzL.T2yY1;lyPEL.s4v=jGbV?<A%bV?<A%J^iP?UBNIFVz^,A+QWA.?AJ73oAQJ%tgYmYJTA+nQAzL.T2lyPEL.QNTJKujG*H*HJ^a3P;UnBD?JAxJ7R*AnoAnQA&IEI<lyzlI&bVL5J^Pl?<HgKBT3?UBOIFUnBDMGBF?IJ7R*AnoAnQA&IEI<I+JU819lyzldCbV?<AyJ^Pl?<HgKB^&?UBOIFUnBDMGBF?AJ7R*AnoAnQA&IEI<lyzlI&bVL5J^Pl?<HgKBT3SbUnBj?NAxVKBkIZBlM:TjO:bUTvzlI&bVL5J^sA?SAnIbAnJJG&A&LxeBONU*Q:Gd:G+GdT*?pAqAuA+ApAqgcQ:G+5JOHQ1TW5JOHQ1gcns1r8T*Vfr>:5JJzgLxO>Q:EpJcGoT*?:rhBiD3:KdArXrpPO%O>K8?6Ek8HQ9Ge?L?pAtApBDAsAtLr_Z<H1OeGtuQ<H1OeGt1LrLBQ:1H?T*?OAOEkI+L7I9H~VfQfU3dWGVA@<5EqHaAO;I+QfI9H~VfL7U3EtOqA@EsEuEwqyLrg>ErExUQ?LK03q%_FU*KoaAGtNXI.^:I*?OAR4yXI9xM?:rhBiD39HJ?OAR=yXI9xM?:R81BiD3<KCEcGbIbArO:GVAP8yX1EkIbArbUGVAP;yX1Enq%HpKVH;LR?9Hz?E?SArO:GVAM4IbArbUGVAM=Hs_Fj<TjG+XpG+Jn"
def Ky:FD:=F1 "0CkBQAt.id,oEAv_gP;*BAvLaAwzLsAKI6n:OHs%4Jh3T*Xtq0L?=r*%%=U48PB8Q%H1QSR;ZdJ@=Uz=U45PB5nPr*nPL6iiGuErL?EnL6EvEnqDJ@=OfEwTxExTEKImsEnYRKIms:Jn"
def QB:FD:=F1 "0DLBrAusak6KELoOiApIZAqJ?sf_g^1QZpx6T*?5@%I44_IGbJ%:6Jh3x~GbJ;>6s6L?7PB7e7p%HM;U4<PB<Q%I2wJR;Eq2x~GbHMmTEsPBEse7EcErL?EwPBEwQ%KlKJR;E%2y1QeErQeErL?E+PBE+e7mTF0PBF0ThE&L63E&qSE~L?E*L6F4E*F1F2F3QLF5IYEr&9YRKImTErPBEre7p%L?EvPBEvQ%qDdXR;qJy1s6s6L?E*PBE*e7mTE~PBE~ThE%L63E%LFL?E&L6F3E&HeQLF4^2&9YR?9KfKImT7PB7e7p%L?;PBwBI2Zw&0y1s6s6L?EsPBEse7mTEwPBEwThEqL63EqKlL?ErL6E%ErKJQLE&^2&9YR?Z"
def Kx:FD:=F1 "0ClBXAt.iLoOiAqTmXx?4VKAxrH_gP;AnOiAqTmXx?4VKAzZ@MD+EKZJ@dQO==I4QLGfTQT*MErqDLCyJ,KZflz;=^2WD@IEce2=T*MEZ0HMIYHMIYL?=r*LL*KH1dvw@I2GvDLCyZdKZt?OfEn_6YRHzj?Jn"
def QA:FD:=F1 "0CoB>At.iLoOiXxZ@MD+EVo4I~IYI.c<*KL7I.jJ9EcQfO8UzTfV.&9Jn"
def Qz:FD:=F1 "0CmBcAu.id,AvJ?AwMGAxLaAyzLHG:V_BIQoU7@IKZrTJ:GVA=4HADMD54Hn@a+^q5O87J@8I5bTTQ9=Gej?T*?5@aEcL1_Aq5O87l*GbsN9ZRDND6:K=G~@I4?2?zGVAWf2QuEnJ%5EcJ@5EcO8EpO8EpL?ErPBErnPr*nPL6iiqDL?EqL6EyEqq,srJNEzTxE%wCKI_6O85L?EqPBEqnPr*nPL6iiKsL?EpL6ExEpHRsrJNEyTxEzwC?9j?Jn"
def ZO:FD:=F1 "0DyB<k^Ax?cAyjuUaYwHG4lvR0?RUWHydqHG4lvKEIVIhc<sZjyLCKZ3;1LCIYJ,YR?Z"
def ZN:FD:=F1 "0DPBEk^AzsaUaYwHG=lvR0y6m^EclvsAKODyC*QbfkKODyC*7>48fkKODyC*;:9<fkLCH;ds"
def ZM:FD:=F1 "0DOA.AskVYb6UaYwHGEclvR0y6m^Eclv+EvoO8P2KODPC+J,vnEcO7LCH1R9"
def ZL:FD:=F1 "0CnB^AukV?cAwjueHUWHydq+EKZO=+^=GbO8:O=+^7I4O88O=+^EkHlO8;rTJ:rTxNZQDOC,3l2O7KODOC,59EpO7KODOC,Er<EsO7KODPC+EuEnEqqE%EaKJhEwGbExJ4EyJQJhEwI4ExJhOkExU.KODPC+3>9Zd%EaGJhEnGb5J4EpJQJhEnI45JhYO5GeI69Gb3Jn"
def Dh:FD:=F1 "0CpC^AvkVjuYwKDy6J^MFd,oE++zLT3P;*B++zLT3Sb*B++NdAyK,kUQo^h*B++NdAzK,kUQoIVKI6n:2I~=JBbFH?jI3OHI.V8%%4U48PB8Q%H1QSR;ZdJ4LumbmPKZJ;EnxNjImP4Uz4U4EpPBEpLL&iReL?5L6wfKlJ@k,J%EyI4J@ilwkEzJ@y^EzI4&pwkE%_IP^ExTxE%TEKIM7VTEn=YRH@LumbmPKZJ;:xNjImP4Uz4U47PB7LL&iI2L?>L6PGGxJ@k,J%EqI4J@ilEpQJErJ@y^ErI4&pEpQJEs_IP^EpTxEsTE?LMEq4:%i%%q49PB9Q%QfV.R;YOJ@:Uzq4EpPBEpji%ijiL6_5ReL?5L6wfKlJ@:PLwkEyTE^zy^5I4&pH?Ep_In:EpYR^zy^q5&pH?7_In:7I~:EcL?:%i%%q49PB9Q%QfV.R;YOJ@:Uzq4EpPBEpji%ijiL6_5ReL?5L6wfKlx~QdwkEyTEKI=n:5YRKI=n:>Jn"
def Gx:FD:=F1 "0CqBzAu?cAxsaYwKDy6J^KEd,Y+tX_gP;o<tX_gSbo<tX_gIVmN*KtrO8UzTft^?L?BTMtKo@^:kHxeKFQee2w@YR?BQptKo@V8kHJ@ilGk;K;J0JhvtX=p>GxdvEr4H;nBz;Es6JMTE?9KfXtJ0JhvtX=p>trnBz;t^?Z"
def AD:FD:=F1 "0CrD2Av?cAx?cAysaeHUWHydqKEd,Y+stP;+LSb+L^h+LiTIF+LIVmN*KtrO8UzTft^?LiObQc<sZr7w@s%YR?BTMtKbQX=sZK;o@&iGxmSEr6H;ytHBEsTE+@GxdvEr4H;+GEs6JMTE^zM7VT;YRXto@X=Ty3VWmSEk6ToytHBwC+@tr+Gt^?L?BMHtKbQc<sZQe%ww@lfGqKFYR?BAsGqtKbQX=sZK;o@&iGxmSEr6H;ytGjEsTE+@GxdvEr4H;+GEs6JMTE^z4ZzVT;YRXto@X=Ty3VWmSEk6ToytGjwC+@tr+Gt^?Z"
def sd:FD:=F1 "0C>CfAvsak6KE*Sa4Ay?Iuo*Sa2Ay?Iuo*Sa4Ay?Auo*Sa2Ay?Auo^1QZmo~?vdGk%Eq5xkv%+l:OAM@GvCpC~w0fnI6EnIvGXnt5J_QATh;J_EnwBN%JMR;_;dcf7wDpI&&P^O5U:&&OfO5U9owbnZoUv^kbpZodRpI&&PLO5U:&&QdO5U9owboZoUv^kbmZop~f7;e3QZqIrEf7wDpF,CP^PtU:,COfPtU9nMbnwbUv^ibpwbdRpF,CPLPtU:,CQdPtU9nMbowbUv^ibmwb4U.H@>H%CpC~v%fnI69IvGXntEkJ_M@jiJ_9:Q%b:R;irdc9^2V;pH&%P^GwU:&%OfGwU9nFbnZnUv^jbpZndRpH&%PLGwU:&%QdGwU9nFboZnUv^jbmZnp~9^2e3QZEtEsrE9^2V;pE&yP^TSU:&yOfTSU9p0bnZgUvl:bpZgdRpE&yPLTSU:&yQdTSU9p0boZgUvl:bmZg4yI8J_UTjiJ_7:Q%_85&0dc+9.,P^.@Of.?bn*bbpfDdR.,PL.@Qd.?bo*bbmfDp~l4e3QZErEqrE+9.&P^,qOf,pbn*^bpf:dR.&PL,qQd,pbo*^bmf:4IP?L~?CmC&Gkfl4H%vd:IYO7IXI4xke,+l7OALKK;e:5J__9ThEnJ_w<Q%N%JMR;_;dc+:+WP^.1Of.0gU&+gWZol3+WPL.1Qd.0gV&+gTZovyl;e3TMqIzD+:+UP^.=Of.<gU*agWfCV?+UPL.=Qd.<gV*agTfCyIEkJ_M@Th7J_97Q%b:R;irdc+M+VP^,eOf,dgU&*gWZnl3+VPL,eQd,dgV&*gTZnvyoOe3TMEtEszD+M+TP^.GOf.FgU&zgWZgl3+TPL.GQd.FgV&zgTZg>U.?L~?vdGk%Eq5xkv%+l:OAM@K;e:<J_8<Th;J_8wBEnHDR;Et2dcw0wDEuO+EuO,OaJ%ExEzOu,HP^GyU:,HOfGyU9GwHM,FbnwuUv,FbpwudREuO+EuO,OaJ%ExEzOu,HPLGyU:,HQdGyU9GwHM,FbowuUv,Fbmwup~w0;e3QpEvEurEw0wD<O+<O,GuJ%EpErOu,AP^T;U:,AOfT;U9TSHM,?bnwXNz,?bpwXV?<O+<O,GuJ%EpErOu,APLT;U:,AQdT;U9TSHM,?bowXNz,?bmwXyI8J_UTjiJ_7:Q%_85&0dc+9.,P^.@Of.?bn*bbpfDdR.,PL.@Qd.?bo*bbmfDp~l4e3QpErEqrE+9.&P^,qOf,pbn*^bpf:dR.&PL,qQd,pbo*^bmf:4IP?L~?CmC&Gkfl4H%vd:IYO7IXI4xke,+l7OALKK;e:5J__9ThEnJ_w<Q%N%JMR;_;dc+:+WP^.1Of.0gU&+gWZol3+WPL.1Qd.0gV&+gTZovyl;e3MHqIzD+:+UP^.=Of.<gU*agWfCV?+UPL.=Qd.<gV*agTfCyIEkJ_M@Th7J_97Q%b:R;irdc+M+VP^,eOf,dgU&*gWZnl3+VPL,eQd,dgV&*gTZnvyoOe3MHEtEszD+M+TP^.GOf.FgU&zgWZgl3+TPL.GQd.FgV&zgTZg>nZ"
def ZK:FD:=F1 "0Biv>Ybk6KDL_IpA=6HAC?D4EcdiIoT7Opdj=Zy"
def ZJ:FD:=F1 "0C?AvArOO^IIVMEpt@;ISpt@:yv?2?+IS6M>J%Ec?2upEczh4k3?6=Qu:l+BT>HH7H.Eck3N_Qu=l+BL:x*yv?2up6zhEck3N_Qu=l+BD:x*H.6k3u_Qu4l+B<=x&J%pt?+IS3M>yv?2up6zhEck3N_Qu=l+B4:x*H.6k3u_Qu4HMNb=x&J%ptup3zh6k3u_Qu4HMJ:=x&H.IpA0i>u^QuEcHM24x%Jn"
def ZI:FD:=F1 "0DMAuArOO^IU7A=puC?D46HnA<?2?zEcR%R9"
def ZH:FD:=F1 "0DNB=dGM;Kb3V_BI^A6V_BIKDU7A<pt@8GVADGfISEc?2@<GVADJ0GVA<=?2@9GVADO_Jh>>Jn"
def bo5:FD:=F1 "0AvBeAu?cAnIWN^JSPzBPD8HfxMVHaAOSaATZAzCOKYGWHxp_I+_VP2GdP>w6p_*oEki;%z;J4EpHl*+;Eki;%zEnJ4qC*+f1GVp_*owI%zEnJ4qCQ5J4Esi%Q@J_Q@jlKl+rjBp8nqEnwI%zEpJ4EtHlQ5J4Eui%Q@J_Q@jlq,+rfhJ4Eyi%f8J_f8jlW5d@g4I9s7%SReHrB4&jg4zIReE*+>E+*;dklSKWH7%SqSE~HrB8&j*;zIqSE~F1+>F2g4dk_=IRZ:xoxop8p8G*G%B8C9KFP7VHaCTZAzCO>GWHx@*9I+_VP2GdP>aE@*9*owIyBEnJ4qC*+EnwIyBEpJ4EtHl*+<aE@*9*o5i;yBEpJ4EtHlN&J4Eui%YOJ_YOjlq,+rjBp8nqEp5i;yBErJ4EvHlN&J4Ewi%YOJ_YOjlKJ+rHUEqJ4E%i%Eq2J_Eq2jlE&O5d@g4I9s7%SqDHrB4&jg4zIqDE,+>E.*;dkTpKWH7%SiuHrB8&j*;zIiuF3+>F4g4dkF82IRZ:xoxop8p8nZ"
def bo4:FD:=F1 "0BPB=AtXuBrdELhIWYoPkC4PkCIPk+YJRO<PkCIPka?PkCF?3plvVPkBYJRKQ?3BWPka?PkCG?3plvVPkBYJRKQ?3BWJRgJPkC6?3BD?3BEPkCIPkCFPkBYPkCGPkBGJRLg?3BWPkCKPkCKPkCK?6dBI+g9O_1JSIV%.QcucHrEUX.AGxsuextueGV@bIKxt?6PvJlGpGbGdGVVJA&I^6GV@&JlxsUjEcH<xPlrpSik@V=xPKtKo:L3vUQcuc>x.7PIWE27GVAGxsuextueGV@bIKxt?6PvJlGpGbGdGVVJA&I^w6@&JlxsUjEkH<xPlrpSaE@V<xPKtpREnHsI%C4ucHrEUICJk1Qcuc5JkR9"
def bD2:DT:=dD oK 0
def cs9:DT:=dD fd1 0
def cs8:DT:=dD fd2 0
def cs7:DT:=dD T3 0
def cs6:DT:=dD T3 1
def cs5:DT:=dD fd4 0
def cs4:DT:=dD fd5 0
def cs3:DT:=dD TZ 0
def cs1:DT:=dD TZ 1
def bD1:DT:=dD EK 0
def al1:DT:=dD EK 1
def cr9:DT:=dD fd8 0
def cr8:DT:=dD TY 0
def cr7:DT:=dD TY 1
def cn3:DT:=dD Ss 0
def cn2:DT:=dD Ss 1
def cn1:DT:=dD sC 0
def cn0:DT:=dD sC 1
def cm9:DT:=dD sC 2
def cm8:DT:=dD sC 3
def cm7:DT:=dD sC 4
def cm6:DT:=dD sC 5
def cm5:DT:=dD sC 6
def cm4:DT:=dD sC 7
def cm3:DT:=dD sC 8
def cm2:DT:=dD sC 9
def cm1:DT:=dD Sr 0
def cm0:DT:=dD Sr 1
def cl9:DT:=dD Lt 0
def cl8:DT:=dD Lt 1
def cl7:DT:=dD Lt 2
def cl6:DT:=dD yP 0
def cl5:DT:=dD yP 1
def cl4:DT:=dD yP 2
def cl3:DT:=dD yP 3
def cl2:DT:=dD yP 4
def cl1:DT:=dD yP 5
def cl0:DT:=dD yP 6
def ck9:DT:=dD Sq 0
def ck8:DT:=dD Sq 1
def ck7:DT:=dD Sp 0
def ck6:DT:=dD Sp 1
def ck4:DT:=dD So 0
def ck3:DT:=dD So 1
def ck1:DT:=dD ak6 0
def ck0:DT:=dD ak5 0
def cj9:DT:=dD Sn 0
def cj8:DT:=dD Sn 1
def cj7:DT:=dD Sm 0
def cj6:DT:=dD Sm 1
def cj5:DT:=dD Sl 0
def cj4:DT:=dD Sl 1
def cj3:DT:=dD Sk 0
def cj2:DT:=dD Sk 1
def cj1:DT:=dD Sj 0
def cj0:DT:=dD Sj 1
def ci9:DT:=dD Si 0
def ci8:DT:=dD Si 1
def ci7:DT:=dD Sh 0
def ci6:DT:=dD Sh 1
def ci5:DT:=dD Hh 0
def ci4:DT:=dD Hh 1
def ci3:DT:=dD Hh 2
def ci2:DT:=dD Hh 3
def ci1:DT:=dD Hg 0
def ci0:DT:=dD Hg 1
def ch9:DT:=dD Hg 2
def ch8:DT:=dD Hg 3
def ch7:DT:=dD Hf 0
def ch6:DT:=dD Hf 1
def ch5:DT:=dD Hf 2
def ch4:DT:=dD Hf 3
def ch3:DT:=dD ak4 0
def ch2:DT:=dD ak3 0
def ch1:DT:=dD ak2 0
def ch0:DT:=dD ak1 0
def cg9:DT:=dD Sg 0
def cg8:DT:=dD Sg 1
def cg7:DT:=dD ak0 0
def cg6:DT:=dD Sf 0
def cg5:DT:=dD Sf 1
def cg4:DT:=dD aj9 0
def cg3:DT:=dD aj8 0
def cg2:DT:=dD DV 0
def cg1:DT:=dD DV 1
def cg0:DT:=dD DV 3
def cf9:DT:=dD DV 5
def cf8:DT:=dD DV 7
def cf7:DT:=dD He 0
def cf6:DT:=dD He 1
def cf5:DT:=dD He 2
def cf4:DT:=dD He 3
def cf3:DT:=dD aj7 0
def cf2:DT:=dD aj6 0
def cf0:DT:=dD Se 0
def ce9:DT:=dD Se 1
def ce8:DT:=dD Sd 0
def ce7:DT:=dD Sd 1
def ce6:DT:=dD Sa 0
def ce5:DT:=dD Sa 1
def ce4:DT:=dD aj5 0
def ce3:DT:=dD R' 0
def ce2:DT:=dD R' 1
def ce1:DT:=dD Ls 0
def ce0:DT:=dD Ls 1
def cd9:DT:=dD Ls 2
def cd8:DT:=dD R9 0
def cd7:DT:=dD R9 1
def cd6:DT:=dD aj4 0
def cd5:DT:=dD aj3 0
def cd4:DT:=dD aj2 0
def cd3:DT:=dD R8 0
def cd2:DT:=dD R8 1
def cd1:DT:=dD Lr 0
def cd0:DT:=dD Lr 1
def cc9:DT:=dD Lr 2
def cc8:DT:=dD R7 0
def cc7:DT:=dD R7 1
def cc6:DT:=dD Hc 0
def cc5:DT:=dD Hc 1
def cc4:DT:=dD Hc 2
def cc3:DT:=dD Hc 3
def cc2:DT:=dD R6 0
def cc1:DT:=dD R6 1
def cc0:DT:=dD aj1 0
def cb9:DT:=dD aj0 0
def cb8:DT:=dD ai9 0
def cb7:DT:=dD ai8 0
def cb6:DT:=dD ai7 0
def cb5:DT:=dD R5 0
def cb4:DT:=dD R5 1
def cb3:DT:=dD ai6 0
def cb2:DT:=dD R4 0
def cb1:DT:=dD R4 1
def ca9:DT:=dD ai5 0
def ca8:DT:=dD ai4 0
def ca7:DT:=dD R3 0
def ca6:DT:=dD R3 1
def ca5:DT:=dD Lq 0
def ca4:DT:=dD Lq 1
def ca3:DT:=dD Lq 2
def ca2:DT:=dD R2 0
def ca1:DT:=dD R2 1
def ca0:DT:=dD ai3 0
def bZ9:DT:=dD ai2 0
def bZ8:DT:=dD R1 0
def bZ7:DT:=dD R1 1
def bZ6:DT:=dD ai1 0
def bZ5:DT:=dD ai0 0
def bZ4:DT:=dD R0 0
def bZ3:DT:=dD R0 1
def bZ2:DT:=dD ah9 0
def bZ1:DT:=dD ue 0
def bZ0:DT:=dD ue 1
def bY9:DT:=dD ue 2
def bY8:DT:=dD ue 3
def bY7:DT:=dD ue 4
def bY6:DT:=dD ue 5
def bY5:DT:=dD ue 6
def bY4:DT:=dD ue 7
def bY3:DT:=dD ue 8
def bq8:DT:=dD RZ 0
def bY2:DT:=dD ah8 0
def bY1:DT:=dD ah7 0
def bY0:DT:=dD Lp 0
def bX9:DT:=dD Lp 1
def bX8:DT:=dD Lp 2
def bX7:DT:=dD Lo 0
def bX6:DT:=dD Lo 1
def bX5:DT:=dD Lo 2
def bX4:DT:=dD RY 0
def bX3:DT:=dD RY 1
def bX2:DT:=dD RX 0
def bX1:DT:=dD RX 1
def bX0:DT:=dD RW 0
def bW9:DT:=dD RW 1
def bW8:DT:=dD RV 0
def bW7:DT:=dD RV 1
def bW6:DT:=dD RU 0
def bW5:DT:=dD RU 1
def bW4:DT:=dD ah6 0
def bW3:DT:=dD ah5 0
def bW2:DT:=dD ah4 0
def bW1:DT:=dD ah3 0
def bW0:DT:=dD ah2 0
def bV9:DT:=dD ah1 0
def bV8:DT:=dD ah0 0
def bV7:DT:=dD ag9 0
def bV6:DT:=dD ag8 0
def bV5:DT:=dD ag7 0
def bU4:DT:=dD KI 0
def bU3:DT:=dD KI 1
def bU2:DT:=dD KI 2
def bU1:DT:=dD Z5 0
def bU0:DT:=dD QP 0
def bT9:DT:=dD QP 1
def bT8:DT:=dD QO 0
def bT7:DT:=dD QO 1
def bT6:DT:=dD QN 0
def bT5:DT:=dD QN 1
def bT4:DT:=dD KH 0
def bT3:DT:=dD KH 1
def bT2:DT:=dD KH 2
def bT1:DT:=dD GA 0
def bT0:DT:=dD GA 1
def bS9:DT:=dD GA 2
def bS8:DT:=dD GA 3
def bS7:DT:=dD Z4 0
def bS6:DT:=dD Z3 0
def bS5:DT:=dD Gz 0
def bS4:DT:=dD Gz 1
def bS3:DT:=dD Gz 2
def bS2:DT:=dD Gz 3
def bS1:DT:=dD KG 0
def bS0:DT:=dD KG 1
def bR9:DT:=dD KG 2
def YN:DT:=dD Z2 0
def bR8:DT:=dD QM 0
def bR7:DT:=dD QM 1
def bR6:DT:=dD QL 0
def bR5:DT:=dD QL 1
def bR4:DT:=dD QK 0
def bR3:DT:=dD QK 1
def bR2:DT:=dD QJ 0
def bR1:DT:=dD QJ 1
def bR0:DT:=dD Z1 0
def bQ9:DT:=dD Z0 0
def bQ8:DT:=dD ZY 0
def bQ7:DT:=dD ZX 0
def bQ6:DT:=dD ZW 0
def bQ5:DT:=dD ZV 0
def bQ4:DT:=dD QI 0
def bQ3:DT:=dD QI 1
def bQ2:DT:=dD KF 0
def bQ1:DT:=dD KF 1
def bQ0:DT:=dD KF 2
def bP9:DT:=dD AE 0
def bP8:DT:=dD AE 1
def bP7:DT:=dD AE 2
def bP6:DT:=dD AE 3
def bP5:DT:=dD AE 4
def bP4:DT:=dD AE 5
def bP3:DT:=dD ZU 0
def bP2:DT:=dD ZT 0
def bP1:DT:=dD ZS 0
def bO7:DT:=dD QH 1
def bO5:DT:=dD QG 1
def bO4:DT:=dD Dj 2
def bM3:DT:=dD Pe 0
def bM2:DT:=dD Pe 1
def bM1:DT:=dD Xb 0
def bM0:DT:=dD JI 0
def bL9:DT:=dD JI 1
def bL8:DT:=dD JI 2
def bL7:DT:=dD C3 0
def bL6:DT:=dD C3 1
def bL5:DT:=dD C3 2
def bL4:DT:=dD C3 3
def bL3:DT:=dD C3 4
def bL2:DT:=dD Of 0
def bL1:DT:=dD Of 1
def bL0:DT:=dD JH 0
def bK9:DT:=dD JH 1
def bK8:DT:=dD JH 2
def bK7:DT:=dD Ji 0
def bK6:DT:=dD Ji 1
def bK5:DT:=dD Ji 2
def bK4:DT:=dD N3 0
def bK3:DT:=dD N3 1
def bK2:DT:=dD N1 0
def bK1:DT:=dD N1 1
def bK0:DT:=dD FP 0
def bJ9:DT:=dD FP 1
def bF1:DT:=dD FP 2
def bE7:DT:=dD FP 3
def bE6:DT:=dD mM 0
def bE5:DT:=dD mM 1
def bE4:DT:=dD mM 2
def bC9:DT:=dD mM 3
def bC8:DT:=dD mM 4
def bi4:DT:=dD mM 11
def bC5:DT:=dD NY 0
def bA3:DT:=dD NY 1
def aV0:DT:=dD IU 0
def bs5:DT:=dD IU 1
def bo3:DT:=dD Im 0
def bj8:DT:=dD Im 1
def bJ8:DT:=dD vA 0
def bJ7:DT:=dD vA 1
def bJ6:DT:=dD vA 2
def bJ5:DT:=dD vA 3
def bJ4:DT:=dD vA 4
def bJ3:DT:=dD vA 5
def bJ2:DT:=dD vA 6
def bJ1:DT:=dD vA 7
def bJ0:DT:=dD Ky 0
def bI9:DT:=dD Ky 1
def bI8:DT:=dD Ky 2
def bI7:DT:=dD QB 0
def bI6:DT:=dD QB 1
def bI5:DT:=dD Kx 0
def bI4:DT:=dD Kx 1
def bI3:DT:=dD Kx 2
def bI2:DT:=dD QA 0
def bI1:DT:=dD QA 1
def bI0:DT:=dD Qz 0
def bH9:DT:=dD Qz 1
def bH8:DT:=dD ZO 0
def bH7:DT:=dD ZN 0
def bH6:DT:=dD ZM 0
def bH5:DT:=dD ZL 0
def bH4:DT:=dD Dh 0
def bH3:DT:=dD Dh 1
def bH2:DT:=dD Dh 2
def bH1:DT:=dD Dh 3
def bH0:DT:=dD Dh 4
def bG9:DT:=dD Gx 0
def bG8:DT:=dD Gx 1
def bG7:DT:=dD Gx 2
def bG6:DT:=dD Gx 3
def bG5:DT:=dD AD 0
def bG4:DT:=dD AD 1
def bG3:DT:=dD AD 2
def bG2:DT:=dD AD 3
def bG1:DT:=dD AD 4
def bG0:DT:=dD AD 5
def be3:DT:=dD sd 0
def be2:DT:=dD sd 1
def be1:DT:=dD sd 2
def be0:DT:=dD sd 3
def bd9:DT:=dD sd 4
def bF9:DT:=dD ZK 0
def bF8:DT:=dD ZJ 0
def bF7:DT:=dD ZI 0
def bF6:DT:=dD ZH 0
def F:List FD:=[oK,fd1,fd2,T3,fd4,fd5,TZ,EK,fd8,TY,Ss,sC,Sr,Lt,yP,Sq,Sp,So,ak6,ak5,Sn,Sm,Sl,Sk,Sj,Si,Sh,Hh,Hg,Hf,ak4,ak3,ak2,ak1,Sg,ak0,Sf,aj9,aj8,DV,He,aj7,aj6,Se,Sd,Sa,aj5,R',Ls,R9,aj4,bC6,aj3,aj2,R8,Lr,R7,Hc,R6,aj1,aj0,ai9,ai8,ai7,R5,ai6,R4,ai5,ai4,R3,Lq,R2,ai3,ai2,R1,ai1,ai0,R0,ah9,ue,RZ,ah8,ah7,Lp,Lo,RY,RX,RW,RV,RU,ah6,ah5,ah4,ah3,ah2,ah1,ah0,ag9,ag8,ag7,KI,Z5,QP,QO,QN,KH,GA,Z4,Z3,bo9,Gz,bo8,bo7,KG,Z2,bo6,oK,QM,QL,QK,QJ,Z1,Z0,ZY,ZX,ZW,ZV,QI,KF,AE,ZU,ZT,ZS,ZR,ZQ,QH,QG,oK,Dj,oK,Pe,Xb,JI,C3,Of,JH,Ji,N3,N1,FP,mM,NY,oK,oK,oK,oK,oK,oK,IU,oK,oK,Im,oK,oK,oK,vA,Ky,QB,Kx,QA,Qz,ZO,ZN,ZM,ZL,Dh,Gx,AD,sd,ZK,ZJ,ZI,ZH,bo5,bo4]
end
end Go.Proofs.YthicpeihkkokmaaGreatDoor
