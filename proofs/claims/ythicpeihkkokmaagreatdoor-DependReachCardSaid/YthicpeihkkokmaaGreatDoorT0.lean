/- Functions as programs on data, and their checks. -/
import Derived.Test.YthicpeihkkokmaaGreatDoorChecked
import Derived.Test.YthicpeihkkokmaaGreatDoorA0
import Derived.KernelRfl
set_option maxRecDepth 1000000
set_option maxHeartbeats 0
namespace Go.Proofs.YthicpeihkkokmaaGreatDoor
variable{α:Type}{l:List Char}
open Go Go.Ex Go.RowKit Go.T
noncomputable section
def BV:Option aG:=some ⟨.cells ([1116352408,1899447441,3049323471,3921009573,961987163,1508970993,2453635748,2870763221,3624381080,310598401,607225278,1426881987,1925078388,2162078206,2614888103,3248222580,3835390401,4022224774,264347078,604807628,770255983,1249150122,1555081692,1996064986,2554220882,2821834349,2952996808,3210313671,3336571891,3584528711,113926993,338241895,666307205,773529912,1294757372,1396182291,1695183700,1986661051,2177026350,2456956037,2730485921,2820302411,3259730800,3345764771,3516065817,3600352804,4094571909,275423344,430227734,506948616,659060556,883997877,958139571,1322822218,1537002063,1747873779,1955562222,2024104815,2227730452,2361852424,2428436474,2756734187,3204031479,3329325298].map fun n=> .int .u32 n),1,false,true,jN⟩
def gb1:Option aG:=some ⟨.cells [s [46,46],s [61,61],s [33,61],s [60,61],s [62,61],s [45,62],s [123],s [125],s [40],s [41],s [91],s [93],s [44],s [59],s [58],s [46],s [61],s [60],s [62],s [43],s [45],s [42],s [47],s [37],s [95]],1,false,true,jN⟩
def gb2:Option aG:=some ⟨.cells [s [97,102,116,101,114],s [97,108,119,97,121,115],s [97,110,100],s [97,114,114,105,118,101,115],s [98,111,111,108],s [99,111,109,112,111,110,101,110,116],s [99,111,117,110,116],s [100,101,108,101,116,101],s [100,111],s [101,108,115,101],s [101,120,105,115,116,115],s [102,97,108,115,101],s [102,101,116,99,104],s [102,108,97,103],s [102,108,101,101,116],s [102,111,114,97,108,108],s [104,97,115],s [105,102],s [105,109,112,108,105,101,115],s [105,110],s [105,110,116],s [108,97,116,101,110,99,121],s [108,105,110,107],s [110,111,116],s [110,111,119],s [111,110],s [111,110,99,101],s [111,114],s [112,114,101,118,105,111,117,115],s [115,101,110,100],s [115,105,110,99,101],s [115,105,122,101],s [115,116,111,112],s [115,116,111,114,101],s [116,97,98,108,101],s [116,114,117,101],s [118,97,114],s [118,101,114,115,105,111,110],s [119,104,105,108,101]],1,false,true,jN⟩
def gb3:Option aG:=some ⟨.cells [v,v,i 0,i 0,v,v,u,v,i 1,i 1,v,v,u,v,i 2,i 2,v,v,u,v,i 1,i 1,v,v,v,v,i 1,i 1,u,u,v,v,i 1,i 1,u,v,u,u,i 0,i 4,v,v,v,u,i 1,i 5,v,v,v,v,i 2,i 2,v,u,u,v,i 1,i 1,v,u,v,v,i 0,i 0,v,v],6,false,true,jN⟩
def gb4:Option aG:=some ⟨.cells [x,x,i 0,i 0,s [99,111,110,115,116],s [78],i 0,i 1,s [118,97,114],s [65],i 0,i 1,s [112,97,114,97,109],s [65],i 0,i 1,s [102,108,97,103],s [65],i 0,i 1,s [110,111,119],x,i 0,i 1,s [103,101,116],s [65],i 1,i 1,s [104,97,115],s [65],i 1,i 1,s [115,105,122,101],s [65],i 0,i 1,s [110,101,103],x,i 1,i 1,s [110,111,116],x,i 1,i 1,s [109,117,108],x,i 2,i 1,s [100,105,118],x,i 2,i 1,s [109,111,100],x,i 2,i 1,s [97,100,100],x,i 2,i 1,s [115,117,98],x,i 2,i 1,s [101,113],x,i 2,i 1,s [110,101],x,i 2,i 1,s [108,116],x,i 2,i 1,s [108,101],x,i 2,i 1,s [103,116],x,i 2,i 1,s [103,101],x,i 2,i 1,s [97,110,100],x,i 2,i 1,s [111,114],x,i 2,i 1,s [115,101,116,118,97,114],s [65],i 1,i 0,s [112,117,116],s [65],i 2,i 0,s [100,101,108,101,116,101],s [65],i 1,i 0,s [106,117,109,112],s [65],i 0,i 0,s [98,114,97,110,99,104],s [65],i 1,i 0,s [99,111,115,116],x,i 0,i 0,s [115,101,110,100],s [65,66,78],i 0,i 0,s [97,102,116,101,114],s [66,78],i 1,i 0,s [115,116,111,114,101],s [66],i 2,i 0,s [102,101,116,99,104],s [65,66],i 1,i 0,s [115,116,111,112],x,i 0,i 0],4,false,true,jN⟩
def gb5:Option aG:=some ⟨.cells [.int .u64 1,.int .u64 10,.int .u64 100,.int .u64 1000,.int .u64 10000,.int .u64 100000,.int .u64 1000000,.int .u64 10000000,.int .u64 100000000,.int .u64 1000000000,.int .u64 10000000000,.int .u64 100000000000,.int .u64 1000000000000,.int .u64 10000000000000,.int .u64 100000000000000,.int .u64 1000000000000000,.int .u64 10000000000000000,.int .u64 100000000000000000,.int .u64 1000000000000000000,.int .u64 10000000000000000000],1,false,true,jN⟩
def gb6:Option aG:=some ⟨.cells [i 0,v,i 0,x,i 0,v,i 7,x,i 0,v,i 7,s [116,114,117,101],i 0,v,i 7,s [102,97,108,115,101],i 0,v,i 7,s [110,111,119],i 0,u,i 7,x,i 1,u,i 7,x,i 1,u,i 7,s [104,97,115,32],i 0,u,i 7,s [115,105,122,101,32],i 1,v,i 6,s [45],i 1,v,i 6,s [110,111,116,32],i 2,v,i 5,s [32,42,32],i 2,v,i 5,s [32,47,32],i 2,v,i 5,s [32,37,32],i 2,v,i 4,s [32,43,32],i 2,v,i 4,s [32,45,32],i 2,v,i 3,s [32,61,61,32],i 2,v,i 3,s [32,33,61,32],i 2,v,i 3,s [32,60,32],i 2,v,i 3,s [32,60,61,32],i 2,v,i 3,s [32,62,32],i 2,v,i 3,s [32,62,61,32],i 2,v,i 2,s [32,97,110,100,32],i 2,v,i 1,s [32,111,114,32]],4,false,true,jN⟩
def gb7:Option aG:=some ⟨.cells [y 0,y 1,y 28,y 2,y 29,y 14,y 24,y 3,y 30,y 22,y 20,y 15,y 25,y 17,y 4,y 8,y 31,y 27,y 13,y 23,y 21,y 19,y 16,y 7,y 26,y 12,y 18,y 6,y 11,y 5,y 10,y 9],1,false,true,jN⟩
def gb8:Option aG:=some ⟨.cells [y 0,y 1,y 56,y 2,y 57,y 49,y 28,y 3,y 61,y 58,y 42,y 50,y 38,y 29,y 17,y 4,y 62,y 47,y 59,y 36,y 45,y 43,y 51,y 22,y 53,y 39,y 33,y 30,y 24,y 18,y 12,y 5,y 63,y 55,y 48,y 27,y 60,y 41,y 37,y 16,y 46,y 35,y 44,y 21,y 52,y 32,y 23,y 11,y 54,y 26,y 40,y 15,y 34,y 20,y 31,y 10,y 25,y 14,y 19,y 9,y 13,y 8,y 7,y 6],1,false,true,jN⟩
noncomputable def body(f:FuncId):Code:=((Tryz.prog.funcs[f]?).bind (·.body)).getD .skip
def sq:a0c:=[(45,[.i64,.i64,.i64]),(46,[.i64,.i64,.i64]),(49,[.u8,.i64,.i64]),(50,[.u8,.i64,.i64]),(59,[.u8,.u8,.u8]),(64,[.u8,.i64,.i64,.i64]),(65,[.u8,.i64,.i64,.i64]),(96,[.i64,.i64,.i64,.i64,.i64,.i64]),(97,[.i64,.i64,.i64,.i64,.i64,.i64]),(159,List.replicate 32 .u8),(160,List.replicate 32 .u8),(190,[.u8,.i64,.i64,.u8,.i64,.i64]),(294,[.u32,.u32,.u32,.u32,.u32,.u32,.u32,.u32]),(379,[.u8,.i64,.i64,.i64]),(380,[.u8,.i64,.i64,.i64]),(387,List.replicate 24 .u8),(410,[.u64,.u64,.u64,.u64,.u64,.u64,.u64,.u64,.u64,.u64,.u64,.u64,.u64,.u64,.u64,.u64,.u64,.u64,.u64,.u64])]
def iN(n:Nat):Int:= @OfNat.ofNat Int n instOfNat
def iM(n:Nat):Int:= -@OfNat.ofNat Int n instOfNat
def bN(n:Nat):UInt8:= @OfNat.ofNat UInt8 n UInt8.instOfNat
def cQ(n:Nat):xM:=cd (@OfNat.ofNat Nat n (instOfNatNat n))
def nN(n:Nat):Nat:= @OfNat.ofNat Nat n (instOfNatNat n)
def lN(t:DT):DT:=F0 (GV (Ie BV)) t
attribute[irreducible] iN iM bN cQ lN nN
attribute[local irreducible] kal Dn
structure FX where
 f:Nat
 n:Nat
 k:Nat
 rs:List ResultVar
 sg:ia
 m:Nat
 hs:List (Nat×jV×Nat)
 ds:List DT
inductive Z where
 |n (_:Nat)
 |v (_:xM)
 |l (_:a0e)
 |q (_:a0h)
 |o (_:List (Option xM))
 |t (_:DT)
 |k (_:NK)
 |b (_:aG)
 |h (_:List aG)
 |e (_:List (Nat×xM))
 |m (_:jV)
 |s (_:ia)
 |d (_:List (List (Option xM)×DT))
 |a (_:AO)
 |i (_:a0u)
 |r (_:List ResultVar)
 |g (_:List (Nat×jV×Nat))
 |f (_:List DT)
 |x (_:FX)
def zn(d:α):List α->Nat->α
 |[],_=>d
 |a::_,0=>a
 |_::t,n+1=>zn d t n
def zj(n:Nat):Nat:=bif Nat.blt n 47 then(bif Nat.blt n 39 then n+34 else bif Nat.blt n 45 then n+31 else 76) else bif Nat.blt n 91 then n - 48 else bif Nat.blt n 96 then n - 51 else bif Nat.blt n 123 then n - 52 else 77
def zi(c:Char):Nat:=zj c.toNat
def zs:List Nat->List Nat
 |a::b::t=>bif Nat.blt a 15 then zn 0 [41,666,0,512,515,526,513,520,519,518,521,523,517,514,516] a::zs (b::t) else((a - 15)*78+b)::zs t
 |[a]=>[zn 0 [41,666,0,512,515,526,513,520,519,518,521,523,517,514,516] a]
 |[]=>[]
def zc(s:String)(_:String.ofList l=s:=by exact rfl){y:a0h}(_:zs (l.map zi)=y:=by conv=>{lhs;reduce}):a0h:=y
def zp:List Nat->List (Nat×Nat)
 |a::b::t=>(a,b)::zp t
 |_=>[]
def zh(n:Nat):Nat->List α->List (List α)
 |0,_=>[]
 |f+1,l=>l.take n::zh n f (l.drop n)
def zf(e:α){x:α}(_:e=x:=by conv=>{lhs;reduce}):α:=x
def zR:List (List (List (Nat×Nat))):=zf (zh 18 14 (zh 18 237 (zp (zc "?1?1?2?4GRGR2?52?8?1?7GSAvGTGTGSAm?3Av?:GXGSAn?2?=?2??2?936G_2?3AuGgGg?2?AGe=GVGY?2?C2?BElEmGb?6G^?62?;GW?54>EoEp2Gf;GnExEyEzE%?@?6?:298G^?3Gd?9GwGxGs<?7?5GU@AEuEvEqErE*E+EwG+G&AwGb?3GSAw?3AtGhGhH7H75GtGcGcGaGmE&H2G,G%?;@B2Gz?3Ax?2?IH:H1H4HA2An?D?K?D?LAmAmGkGW2GyGVGWGjH>GU@??2?<7:E~F0?<AmEtH0GU@@?6GjF8F9G_H6GSAxHUF:F2F3?3Ay2?OF4F5F<F=GTG.?2?NH=E,GVGTHPF1AnAnGvHCGkHbHXF;GVGrHDHZHaF>GSApGiGiHG?T?2?Q?3As2?PGRGrH8H8H9H9HrHr?E?EHW2GV?HGaGuHsGpHfHY?;@CGRGWHVHyGU@FCMAmHOEjD5AoGSAoH<An?<Ao?@GpGmAoF6F722Ht@@?2?RHmF??<An?7Gy?JAvEsHR?W?>AmHgE.H*H0H3GuI0HeI:GU@DGd?8H3H=GlArGvGtHlHT5I7G*?9IL5IMIOHJGiGU@JIFIP?MH+I=?>?_?aB^BFH?7?^?M6=Go1GkGr2?SApHHG.@?H_I8;G~GfI2EmHK?;@EIKG*BfCKHQ?>H.IjIDGlIgIlInImAmGU?<Ap3GUGV?GC=D1EsGo1HiHIIfH~HNIEHL2H,2ITH@IW?6H5=4Gq@E5EoHqAxI~IBI5?>?2?bGq@BI&Gc?3Ar?VHFICH_><GSAuGq@C@HIrGSAsHp?<J4IoD7AnF@FAI??>GU@IAsEvGSArGmAnHjI<HuHuHvHvHwHwJ5J5EjGvGoGoI>Gi?2?dEsEtH<AoGSAyIbBMH4?6?3B;?FAmHRH3H^@N?1?G?1?HIi?5?UAmJ^IAAnI;EwG~GSAtGlAmHdE.?3C2112?Z2I67H%GlAnJ>JCGU@OIv@GJ0H;2GaFBFC?3Az?7GzGY?7H&GaIH?G2I;?9IX?X?XD6Ap3=34EjGoF6H;GU@MGq@KGuJz?5@@HpHQ2?EEj1HBGiJ@JqAtGlBQK6Gq@PH@K7?6GeGVGRGaGaHk@??2?J?FAq=I4AnHHG*?E?FAnGj4HMJj"++zc "HnHkIaIp?5@?EwGw?2I?G+HdH;GcHII6HV2?63@?:BsAsH^@Q?3BKH%KQIaJaKPKTJZ@H?2?t=6H<ApHIH?JT?62HFC5KFH1EsHK?BHxHxK9KbKf@D?3A%GfJ?HhIwJOEuK^K3KjJV?<AqHqAyIsJMJUHQG.J;H5B.HgHH=94I4GU@TGVJY?<ArF7HjFFFGH5B;I1GvI_@G2?e2GUFIFJFKFLGSAqK~L0?SIpKB?9GU@UHG?g?3Aq;ElFDFEGYIcGd?EHIIhH%ItI,3JdJdL9K%?@JSH:EqH?;I>HBH2E,Hk@LIq?>?3CAD4AqHlJrIzIhAvAmB~I*C0?6E+IJF1IJG*IXIYK0I*LMKsLSLOE+LPF1LTLNGlAoGq@RH?:HD?6GSA%J_Am?cAq3Hz4GlGdGfIeElJKLBLDKp?3A&?3BL?<AsHYIdJGJGJHJHJIJIJJJJL7L7>4I_@DKUJw4=GU@XHcAwJeHPGnHCHS>JLKLL@FH?2?u?H?GGU@LGiHBGuJ?J8G%JcGoLcLhLyEsAw?>4JPH^@_HcAzI5J6IVKJL2FM?2?v?3C9?;@KEmG~JlLUJlLVK1JRKn?>2Kq?FAp?JM4AqGpEtHSE%I^GR?GHn;IHJXLWIGMGEu2GT?2?w?XCpAmAoB0E2EjLs;MLEpIeEvL<E&IeE,H;E.F5E~IGF0JbF1KgF2KMF3JbF4J~F7JFGXIuGcMdH6L%H;JFHLIwHdJuHhJnHhL~HmL4HnKlHoK4I@JuIEM3IIJpINJxINKiIuJoIuJ+IyMSIyMnJ7JpJ7MtJ<MYJQMxJiMgJnMjJoMrJyMPJ*MXJ*M,J+KzKKMaKmM+KwMTLzMwL*IxM1F6M;IxMJN4MMMqMOIxMQAoMRD=MUN:MVN9MWMZM^M_MbMcMiMkMlN3MmJxMpN0MuMyMvMzM%N1M&M*M.N=M~IIN2NIN5N>N?N@NANBNCNFNDNGNHNQNJNRNMNENNNONPNUNSNLNTNXNVNW?64:EjGSAzI%KYJtLANYLQGSA*IVJ2IzGzGUJ;I9?>EjHhGYGY1GiHMKvHTGsIvKVJ::KoIBNjHi?3C<?H?HC,C:F;I<GU@bGtH1HSEmIdHXKx?7?3BM?3BN?3BO?3BP?3BQ?3BR?3BS?3BT?3NKE&E*GU@^GVH,GdKHHM6K5L&LJKh"++zc "?3B.G,9IV3I%LuJNAx?3A*?:H6?@G&6JB4K=<G%Gq@SH>I1HBHBHi@cI8HjI@KII+KdKELI?2?f?3C;41F>F?FTFUGq@WG.@@HWJQM2JvM:FNN^IQOQFV?NLL?UAn?cAoEwExGU@eGkNcGr@?I1;IAAnJPGpOWLYOY?>AwO>>J9Ev1IQNhJ89JNOiOJEz?h@=EuGUGaH@GdM=Gr@IGuItG~EjHEEAHGOpI9?eKEI2KS?6Kr@ZLeItNwOjOB=O+J:2BZ?3C?Ga2H5CAH@NuHKGzHcAyK;?7LCGlOXFWO~Cb2H.?XAnArLb64GxJeHEB;HoJgIc<Iq?VJW3JtKNK&?3L6@=E?Ba59F:Nv1HJHCKkJ_AnKZGpLfNyOgH5?3Ap?JAxAsHHBcCHDeB1EqHzE,I^F3NzGXI^Gq@fHoHoHqAzH*IdI3I3I4GpI<K5I_KVJsPTKaHLKuKdMoK<NpHnO&PNEtEuFOFPGU@gHcA%JT?3L6@>L?L?LiO?NaL_O@2OVPlPQ?>PeOUApOkEm5EuKX1GcH,H.I0LgIJEvIYGzJ3LdLEE.P2O%PxP+?6K,?;@SBwC13Gl6EjE*G~HEBqHS;K1KAKy?>K*I.Q2Q42Ht?7Gf?FAo?UAo@GI@ByC<6Ev9Gl;1E%LxE,IIGaHiG~EpHEC8HEDUIAAmII2IZGsJ0QNJEL^KtPpK.@YL:3NrQBOPO8PDPGQUH&?<At?FAs?SJa@iLvAnGpD9BMD9BNGU@jGj>G%7H5C3H<MFHDNnHM=JEGpKC?RK&?6LlF8LtHcM5G&MNJsN_;OvQ9?8?GApGpBKCQ4<EjQQEvEwGSA&GyNlI3GiJVE&K_Q&M<JfNgQvNxKkOIF<OrQCOyIWP>E~QxEj?<AuEmHzEmR2ErEsEvKIF1ISF91FXFYGU@kGd?ZGj2HCI@HECLHKH+HcAxHeP&HfF2IiH+I.6J>Q1JAApJZQ_JmJ%K>A&KG@VKWOqK,C8M0OdMCKCP8R<R:R;RKKRRN@lRSQn2Ke2MH2Me2N7?FAr@?Ne@DE+BNMhBYGjD@BSDmBqEEB~EORc6Er9K=8HOElIwEpH1EsGcEwGcF0IGF1M>F2KgF3K+F4M>F5J~F6K+F7H&F@MfF@RvFAMhGU@mGWQ%GXNZGkPAGuRdG%HO"++zc "G*KiH6IGHJ4HWPiHcA&HdH&HhI3H&MHI3KlICR.IyRkIyS6J7RuJ9JLJ9NZJAAqJDJLJ~S4K@G&KMS;KZQiKmNoKoN<LES7LFQmLfP3LmLmLnLnLoLoLpLpLqLqLrQsM7RbMeNqMfRYMsNdMsS1N7SNO5GyOOM6PKQIPPPPPdQ*PwJMP*J<Q7RoQKPFQTR1QdRxR3RrR9SbRGKcRZRyRaS^RmSERnKKRpRqRsRtRwSQR&R~R*SBS3SOS8SVS9S?S:SoS<SmSAShSCSrSGR6SMSpSPSlSRSqSSSfSXStScSdSgSjSkS&SsSwSuSxSyS%SzS~S*S+S,T1T0S.T2T3?3C@AnIUBXQeEPT7313On>Ej>1EoQJFRFSGvG*H@T8HZJrIQH@IUA%IqJ6K>A%LaIkLwAmNfKDNmHTP4RgRWHxSTT?T4NdT;TLT@TJ2?M?NAw?fBKAoGpAzTCBbCI3<61El4EpEqGSA,GSA.H3HdH>HOHEDhHcLLI9KqJD=JKH&JU?RJX?7JfLHK;JYK@GpOTPsTRNi2MA?3A+?6HL?FAtF11F1LlGdITGdLZGjO;GkGTGuLIIDKcJ&L5LR3Lk?>T_ICTxHL?3C6?<Av<>E+J,F0J,F5J,F6ISF>1GRL+GaL>GpGjHM9HeOcIY?5IoJCI+OsI+O*KG@aKWU1KWU2KzHaK+TfLXTNM?RVM@U3MI?GNoR@O2?6O4SUOzQXQ3PzQY?>QoA,RLQSTEUNTOUCTe8T+UGU4UAUEUS2G_2HxAvJ=87EjL8Ew=FZF^GU@q1O=GdGzGe2G*QtH6PUHECfHeGWHpIqIN?9IQK8IZ4Iz?;JROxK>AwL3@aL;H?LrOaO7I4O<OMOhT6P?HFPRC1QpAz?6Go?>At?FAvAm?>AqHHBpR,CqD0DoU*676Ep4O6EoU9GU@oGaJBH^@pHpI=HzIcHzL:HzOcIRFwIRFxIRFyIRFzIRF%IRF&IsR%JWJ&J&V@KNReKr@dKxOtL3@VLaJAMKIcMKOtNbRTNkNkP@HoUqTXUwKOU,N%V?VGVBEl?;@W?@L^@GGlAmApApJAE7C0585UgEsObE,ICGU@sGq@nGq@rG%K*G*GfHBH^HEB&HEP;HhI@IBK.IUAvIUAwIsL:L_QzLkKtOZOeP1OAPIF@Q,TiRDTURRU^"++zc "SYJvTkGeV1S@VTApVXG_2Hb2PV?3Ao?FAu?XAy@?Jj@u3DeB26PH=H@9186:OLElLvErKwErVlEtObEvH3EwP_EyGxE&HiE.OHF5R0F;PWF=QVFDPcFQSFFRR+FSSnF_VsGR?H1L1GaH5GaJDGd?5GlAqGoKLGuI2G*LZH6I^HLW=HMEjHNV*HQHFHjS5HoK<HoL.H&PVI2P_I@REIIW<J1AuJ9UJJ:PHJ<W5JS3JkW7K4K<K4OGK8QFK<OGKr@hKuOsKuO*KyQRL1JLL<WaLeSZLxKcL,W2L.VKL.WdMoPaN<PcNrR_Ns?3OHP~OLWuON?3OoW;OzWzP@PhPIJ@PSTyPWVzPXQHPXQPPZPaPZWgP^WtPhX1PjIQPjW_PuSeQ01QOS_QWWORXW@SDW,SaWAT:X8TBV.TlW%UjVWVALKVCSvVrWoV+WWV,W&W3WYW6X?W?L2WBX6WCWDWFWUWHX0WSX2WTWeWVX;WXXOW^W~WcXHWkVmWmXGWnXTWq2WrXVWsX3WwXMWxXFW+XCW.XUX5X@X9XRX:L4X<XIX=XSXDXYXEXXXJI.XKXLXNXiXPW>XQX_XZXkXdXhXfXcXgXjXlXoXpXW2I:?3Aw?3B3?;@P?FAw?iAoAoHHArTQAsLbBKI9EyEzF1G~FQT>GU@YGeJWGmApGn5IFR4IKINIRFbIRFcIRFvIdJFI%T~K?PLKO>LK3M9J2MAK?O9LiO9PrOMX&P:X^PSQ~PqPqPuX,QLJ=Q^GXRMW4UrY:UyWZVdXrXaOlX+F2X~Ge?j@=AuViB9C^BVQ=DaHF4JE<S09GUEm1EqEsGRJXGdKeGlApGoOlGv4H<ArHBTIHDHTHEBwHEYRHGYNHJ6HM>I9HFIIOIIVTcIZH>I,VLJ2IJJ3:K;IcO8YDP6OAP;BoPBK?QgVqS=IkTTJ1T*Y7U&YsVgYxXqLZY@TnYjHaYzYq23?A?>?JAy?JAz?UApAqTmArO^AvVjB2Xu6Tb=1=Ta9O6;H5EpEtGSA~GjG,H<AtH>K*H?LdHEBIHM4H^@%Hk@@I1L8I5?VI9RQIAAoIbBII*B_JNAzJkVYK2GyK:E+KUGXKyJ6LgYoLj?6Lt1NxI@O:?3OZQMP<UsR?4RAOxT^Z<Tw?7UxI3YTYbY~?>Z0?>2KN2Pt2S>?2?x"++zc "?6HJ?I?>?cArBjHF=E%9LFElEpEl1ElQ65L=EqQ6ErL=EtExEtRhEvL=ExE&ExQDEyRhE*QDE+1E.SiF1QGF9VpGRNtGU@zGdH?GdHxGoH6G*?ZH4KhHEC>HJJdHKL3HLQ<HTG,H^@*HnPEI3URIHL+IY?BIZ<J1AzJ=AqJEJSJKZmJNAyJQJwJU?bJWJ%JcNpJgGcJ%^FK2?9K2K0K2KHK5FDKAUWKCWRKJTGL=ZnLQTMLXI^M5WbMNGRNqSiO<RQOR8ORQEPfOwQ8HFQ:ArQHTuQVM:QWY*Q+^:RIMERf^BS>^VT=VaUB^gUbVNUpQ5V8VMVO^TVfZkVw?>XzAnYl7Z6^_ZL^bZfZ&ZqZ;ZsZtZvZwZ+Ue^;^i^G^y^P^r^c^s^hEq^jVP^t^R^z^,2Gr2HB2JY?3A~?3B1?5@I?FAy?FAz?HYK?NAy?RKaAn?fArMEAwYEAwYyAyIkAy^?A&?6BCLG65>99<787Ej:JKEj5Eo1EsHzEu1F41F51F81F;1GSA+GU@wGU@+GdP7GeL5GeMCGvH:G&AxH<AqHATAHBIQHKGyHOLwHRO_Ht@?IHNtIS_NIV_UIZOFJ3Q5J=AsJ=AtJgRzJk1JmP=JtI6K@K:KAArM07M84O:P0P9_aPBY=P^AmPtQcP.AsQ?QbQ?QcQAOeTF_:TsIiW:O3YuZRZ@AtZFMDZJ?6ZN_*Z_WG^1_w^5a2^.TM^~@@_<_=_ABD__a6_d_&_eQ@_lKR_sVv26?3CB?5@H?8Th?<Aw?FA*?iAq@VH5@YElAoJ1B0_3BIR7BNR7BdCJBz?6CC_r3IJ817RO;GUEoErEoX.EqH5ErG~Ex1EyE%E*1E+F4E,ISE.G~E.HSE.ISE~OEF0KXF1F9F1J,F3G~F3ISF3J.F4OEF5G~F5ISF5KXF61F6G~F6JmF7HSF7U0F8G~F8J.F9PYF:G~F:ISF:M?F:UMF;ISF;JmF;awF<U;F<adF=1F=G~F=ISF>PYF?1F?M@F?UMF@ISF@b1FAJqFAU;FB1FBISFBRJFC1FCL&FE1FH1FJ1GVHbGYG.GYOS1Q~GjGsGnI.GyGiGy^SG~7H5aKHKM=HS3HSagH_RUHcA*HjHmH*bKH.YBI9TgI<J@ICF4IDH=ISTrISa~IdHjIia@"++zc "IkAqI%_EI+I,J1A%J=ArJ=AuJ@U@JRYfJSGeKWU0L@RJLUa,LVb7LxIKL,aSM?a_M?ajM@afM@auMKOSNa2NfGjNvbbNzRUN%UKN%bOOEPzOKMFOKQaOKQuOKTSONLHOP^MOqaEP?V5PRB.R0U?RFTrRFZ%RHaYROCCS=METzJ&T%JEU?YLU@amUDc0UDc6UOaRUOb*UP_,UPbEUTb~UTc7UtaFVRJkW8O3Y3P7YAa9YMLKYv^pY+P8^ILK^*Y^_MbR_Obs_PTZ_fcGa3c<aHa%aIb5aOCDaTEsaXblaZaaabc8acbnaeahaianakc>albNaoarapaqasavatayaxb9azcOa&a+a*b.a.b0b2b<b3cPb4bfb6brb8cdb:FIb;b&b=cmbJcSbQclbTbibUbMbWUKbgcnbhcobkcZbmcKboR4buWJb+b,c1cJc9cpc:cQc;c2c?c^c@ApcDP7cNc=cTcUcVckcWcYcXc_cacccbcecfd5cgchcicvcjd:cqcucwd2cxd4c*d8c.d3d6d<d7d9d=d?d>d@dBd;dCdAdDdE2BD2O@2Tg?3B4?3B5?P?6?cApAxIUA~CYBEJ1BXK_CpC~3El3Ga3Q8666U64Ga4VH<1979Ep71Ej:;QqEmEoEvO_ExEuGTH,GU@~1RzGaZ^GfU+GuU+GyHBG*KeG~<H4HTH5C@HBGsHKGfHKI6HL^nHe?7He_bHhJOHs?6I1VxI5JRI7GpI9^EIAVUIHYXIN?ZIRF*IZEmIkZ4I,TzJ1AxJA_;JBdXJg2JgdjJmQwKG@tKa^%LHJfLwApM7AqMBdQNi_>OfGeOw?FP6?BPL?fPfa8PsP9P%ZQQ>@?QLHFR5?>RlJOTWe6TtKYUndvUu_+VVbCVbH:VcdSWKeOXtHAXyCYY4GSY5GSYG8YIPvY&QlZeQb^3K:^=An^O^q_R:a7e?aDCJa^E~b>@@cFeYc%HFd1P.ddePdnJhdodle9KReNQ<2J22Wl?3An?3A,?3BX?3C5?;@R?GX4?QAx@?9@^dY@.R=AmerApOhAqXxAsO^AtO^Aue2AwPvAyIUAzb^BBCMBPAuBSAwBWQ;BXT&B&ZhB+YHCOBO6Et=><W1858H@:IZ:Qq:_g:bGEjElEjEpEjG,EjU.;^AEmIZEoU.EpL="++zc "EpV~Eq1ErEpErEvErPkErU~ErWLEr^kEuV~EwU~Ex=F8W9F<RPFBW*FGFHFOSFFPR+FQSnFZT>GU@ZGUA41OaG_bpGaOHGjduGnH:G&A*G*HxG*LCG+JeH5e&H6_JH<AuH?QEHIVEHJEoHJfBHMK@HS5HSYSHUS5HdI8Hk@IHlPrHzGWIDE&IGJ%IGP=INIXI_R_IbC^Ic=IfJ7IkAtIt_HI%_DJ9Q0J<X7J<XmJ=A&JBF1JDErJDOLJcWfJcX7JcXmJiJDJig6JkJgJvXbK=5K>AzKD2KLYeKOI+KvYcKvdqL;KHL>feLFfELWHELkJ6L+X4L,fCM0HOM8G,M97MINtMN?7NbU_NqW9NsONO7Z>OC7OCEpOTdHOVSeOeehOodkP3PUPdfmPfUfPgMFPgQaPgQuPgTSPiURPnArP%1P.f9P~REQGfoQPWNQXWNRRI.RXfYRiEjRiErRiEvSDW*SHSHSISISJSJSKSKSLSLSWSWSZf~Saf^SvVtT=geTHTdTcY,TpHOTwGRT,?3T.?>UBWlUIekUIfAUdXnUl@RUtZ2UugNVI9VVKDVcg.Vo_@VtJMVuZ*VyeyVyezV%V%WMg?Whh0Whh1WpftWpgQWyC1X>M2X>OUXBhJXbgCXeMDXnh;Y8enYJ?GYdHFYne7ZG_%ZTO_ZpgvZugwZxgx^CZK^DJ8^ag8^ff>^xhSaAJ6bjf8dIgaeGY%eIgGedf6eeQ=eqfWf1f2f7BYf?RffGg^fKfOfLgDfP6fQg_fRgdfXbVfZgbf_hxfafbfgfyfh<fnhGfxgyf.a4g2h%g<gsg=gAgJhwgLT9gMhggWJ%gXhmgZf%gfh8gli7goYggqhQgrhcg%gzg&i<g*i=g+i>g,i?g~hyh9i3h:hdhAhvhBhYhEOrhFM6hHiDhLiBhPhCheINhhCRhkhohzgth*i@h+guh.iPh~i;i0hii5h,i8iTiAiNiCfsiHiQiIfSiRiX2OA?3A.?3C3?;@n?FA%?JA%?QAy?UAq@dcIA6J2ArArAs?cAsM9AuexAw_8Ay?6AyZbA%?6B0GSB1a<BC?6BaCGC<IkCHQ=D8BPD:BI3>6G~4GU4PM8I18K*8bFEj4El^651ErUUEvJ,E.HPF4UeGSiqGU@dGUA21GjGaI,GdelGoH;Gv5G*_vG~>G~E&"++zc "H5B~H5isH6JwH:hVH@f4HJNlHJ_ZHKYFHLI1HSEtHSEwHT4HZ?6HeJsHyI;HzJsI63INLZIYH?J1AwJ;@MJ=AvJFF@JNA&JiGiJmd_JrKhJ%L5J.EuJ.LdK2?PK?J_K?P,K@bdK.A7LJ?6LKTVLR=M8KJM8OFM<T5NeTZNfZXNiArO4P=OfZ=OnZYPw?GQAQMQk=Q.gRRBK3RCAsSY^<UQZAUh_oUlihV6_nVZj4V_LdXBjyY?ToYCYCY_eiYhI4YkIZYwA&Z5dKZBP1ZZj5ZgJh^UJs^oim_9Xe_p3bPUcbYjYdLa0dMh3daeXdiiOeFYWeZTnfd6gciohI?HhRk;hfk1iJ_ciMULiZjQiijfilk:irk5j1jmjCjzjlJfjpM6jvjwk7kOk>KRkAkPkIkQkUk?kWkC2?42Ap2JX?3C=?3Z5?6bS?QAz?VMA?cAu?k?4?m@@@Hi%A15AtJAAuP:AwPnAxieAykeAzZcA%KOA&S2A,kdA.LGA~MBB0CWB6^YB=k6BmeQC:kbC=IUCTkzD1HND8HND?BKD?HNDFHNDMHNDTHND^HNEEJ=EF?FEHHF3I33Jk6El6Gn46>J,>PJ>Tb<9<JP9VH8^>7Ya:Ov:aMEjO,EjO.Ej^QEje1El^0El^+5O,5O.5PnEoEsEoOmEpYmEqH;EqHkEqTjEqk^ErO,ErO.EvO,EvO.EwOuExHSEyEvE%^mE&1E&laE*P%E~1FvV9FwV:FxV;FyV<FzV=F%V>GU@VGU@tGU@vGUA3GUA8GVJX1k<GcPYGkH,GmAqGmArGoZaGuiwGxE&GxHMGzVNG&NKG.kjG~EqH0KIH0j_H1J.H5C5H?EvH@C~HEApHEAqHEC5HEKAHFH1HG?lHJHNHM7HMGSHMM5HM^uHM^vHNDfHNk+HNk,HNk~HNl0HNl1HNl2HNl3HS6HS:HSE%HTUaHz_yHzl*H~F&H~lfH~lgH~lhH~liH~ljH~lkI3dtI=UmI@EwIGQwIQIQIRFuIUAuI^GcIbBwIhXAIhc4Ir@II+L>I,_TI.WPJ2ZXJ<ZlJDElJDPEJRHFJVWMJbl^JdHLJiHBJvJMJvR%Jv^&J.aVJ.deK03K8_KK;JXK?LRK@e_KAl4KAl5KDTPKFA5KG@&KGVSK_7K_ElLCJkLCLXLYlwL^HL"++zc "Lac~LjN&LsR8LwAnM7AtM7knM<ZUMDU:N_L8NbO4NcmnNmGpNsP0N*N+N,N.N~O0OD7P:f3PbKDPymtP~HfQ0GoQ:AvQ?k*QZ_zQjV3Qle;QpkrQym>Q+mjR8m=RAm8RCAqRlmVS0TIT:ZYTH2TdMDT%QkU8JPU8jqUVbDUZEzUZlcU_J&UfUzUi?ZV8nOV9N6V9N8V:N6V:N8V;N6V;N8V<N6V<N8V=N6V=N8V>N6V>N8VFAnVJGrVJnuVOVMVe?FVh@aVhhlVoktW8E&WIe%WK^^XveLXyCuX*msY6N6Y6N8Y;>Y>NnYGkZYIYtYOjSYP6YQJ8YWOuYZPmYn3YpmyYripYwkuZHe5ZOhb^H^H^J?E^XJk^Ykx^lnc^&mr_0nE_SAs_ukMa;>aGkcaQlrb@fHbZcEbqnYc3f0cA6cHj^cLZZcRjIdO_?dRZ:dgoEdxlCe@o>et^df@8ffRefj_Yf&l%g@ldgTggh2Y9h5PAh>AviSY%iuk&i+5j?ocj@O%jje=j+oFj~_2k4TDkFkqkNU%kXm7k_l6kilUkko;ksA*kvB0kyVPlE3lFlGlJ?ElLlMlNowlOoXlQj7lSovlVlWlXlYlz^wl.lZl~o9mNN;mON;mPN;mQN;mRN;mSN;mTP*mUd&mf^QmmEymq^+n6okn9Axn:C4nGOunWp<naIQn~Ouo?oroDoyoGozoM;oPkooRJ%oTmvoWnboYoxobo_oiC>oqkKo%pCo*p4o,n3p0p3p1pFp@ml2?:2?n2Gi2IZ2Th?3B2?3C0?67?6Gc?7Pt?8YX?:Hy?BAo?FA+?HZ,?UAr@@IP@GEr@HEo@,TWA08A9H5Apd0AtbvAvLGAvYAAxJ1Az?6A%IUA*BEB5ZWBUPoBiCSC0WvC1CBC1JfC7CFC^C=DFC4E@Bb3?23H@3I+3J:3T<6jr=3=<=Gs=G,=H>=JP4L14eR>6>H@<3<U69I39I78RO7PM7Tj:NgEj;;LX;l:Elo<5ErEoKXEpHzEqHMEqHnErJOEsEuEuJ,EvF0Evj6EwEvEy1EzbAEzc+Ezl,E&G~E&ISE&fcE&iEE*OEE+E,E+HSE+KXE+VZE,G~E,LtE,bAE.c,F21F3j2F4G~F5PYF6QoF6RHF7csF7qsF8IoF9ISFA1"++zc "F_FaFbFcFdFeFfFgGTP&GUA;GVTh1H51O31OF1QyGdn1GeHJGiTvGknvGmAsGmAtGmAuGsTVGvY2G%1G%ZEH0EwH1I@H5C;H<AsH?EpH@q0HBTvHDK:HECDHECVHJ=HLHOHMVuHSErHTElHcA+HcA,HzI>HzLhI1R=IAe*IAklIDIKIDcrIbC>IbCvI%LrI%dcI+emJ2QrJ3=J4o~JAAoJBEsJBF0JBqeJZpmJeHfJfb%JmqpJsixJv_xJ%M6J%V4J&UaJ,qXJ.4J.qWK2GzK9C=K:ElK:1K>AyKC?bKG@GKnJ6KvU7K,kwK.prLR6LY7L_2Lba:Ltq_M8r:N<?>Nbf+O=kSO?ToOOGuOhoUOkc&Ome3OoTuOwHFOwQ@P1G_P5AmP5B3P<a:P>cyPBK1PC>POC3POC@Q1qxQ3qPQ7qhQ:UWQ<GXQR?<QZVnQ^H6Q^JwQgpBQj<QleER5?VR5J6R7qwRCAnRDaJRFs7RHRVRHqcRIY.RIZiRJqvRLgERUqbR^IYT5LHTAKhTUTyT^2TlP9TscsTvqIU77UHGcUV?ZVUAtVZcyV_>VprfVwr&WIpoWvC=WyC0XwIYX*mIX.qGY2_LY2leY3a?Y8mWYBr;YLriYMkTYP3Y_I.YikHYkUkZ1QMZ2AwZ3^WZ:BDZGeDZMk8ZSc+ZSc,ZUB~ZdPGZ.rm_1?7_7ig_?_taJrUaUsyaWn&aWsxbIjubeqkbes*btdFbtdGbvt8cCkmcCptctdFctdGczt@cztBc&sVd0psdNTHdhsFd%kYd*KDd+gFd.tRe>gmefrqeos;fz=g1eAh=t>i4^9itsii.Rjj3tGjMp*jos6k@Jhl>j%lbrTlytNmg2mxIrm&ibn=rlnHsan^jLoBtgoHtHoVYQomthp>r~pg_xpnKkpuAwpvsUpwAypyA&pzsSqMTKqNEoqVqdq^srqfqiqlqnqmG*qotoqqqrqtquqyspqzq%q&q*q+s&r0tFr2tMrDq.reE%rotus8tcs@t.sEu5sGu0sWtEsXu2s^t&s_QSsecrshtIsnu1svu<swCEszt,t7u:t?trtAtVtCrntDtXtJuCtKuKtLuQtOuPtPtytbu8tduStjuHt~uTu3u4u6u7u9uRu=uXu?uau@tiuAuWuBuZuDucuGuMuLubuNuhuUuguVuiuYueu_ud"++zc "ujumulufunuo2?>2Ge2KC2g>2hW?3CF?3aG?3o8?5@J?5@^?66?6=?6Ga?6Gs?6H;?6IZ?6Nl?6_k?7H??7H+?>BN?>CE?FA&?GU5?GUF?GZ,?HU5?HUF?VY=?^IT?yIR@G;@Hl<@O4@Z4@hcR@xpMA>H5Ap?>ApO^Ape>Aqr.ArM9ArPvAraCAsY<AsiYAtbLAtiYAuhKAurMAvUhAviWAvogAvpAAwIUAwiWAyK:AyKtA%AqA%MBA&GcA&idA,MBA.Q;A._2B3H~B7J1B;H~B<CfBBX%BCH~BGK_BKH~BKj,BLIkBMIUBSH~BTYHBWIkBXIUB_^7BrBDC6b%CFLGCGIUCGJfCSBECaHFCa^@CdaBCjCwCkCyCmC,CnCzD>BJDABlD&A,E>vt3Eo3J83KX3gn6>6TX=5=H6=HK=P54_X<G~<W09Hn9eR9j*8IZ8J38Jh8Qq8Xs8ZE8qB7IZ7JE7Kp7Lv7O,7O.:7:GU:1:Jh:LF:Z~:iGEjEmEjHzEjL,EjiG;4;Em;Q.;TK;VD;eEElI7ElL=ElUbEliLEmI.EmJ3Emw:5iF5l95rNEoiFEopXEpO,EpO.EpZaEp_BEqGkEqI,Er1EsGmEsw9EtL=Etg:EthpEtojEuIzEu_BEuhpEujJEv=Ev5EvEzEvT*Evf;EwEtEwHSEwQOEwfkExZlExfkEyWPEzZ8E%EyE%E.E%OoE%dyE%f;E&^mE*f*E*xCE+cBE,E~E,efE._jF0g:F31F:LlFAlTFCrKFW?2FhFiFjFkFlFmFnFoFpFqFrFsFtFuFvFwFxFyFzF%F&F*F+F,F.F~G0G1G2G3G4G5G6G7G8G9G:G;G<G=G>G?G@GAGBGCGDGEGFGGGHGIGJGKGLGMGR?7GSBMGSB^GU@aGUvDGWm1GYxu1HB1HL1H~1L%1Ob1WG1loGaHBGaUIGfQcGiJ<GiJcGmQuGnKEGoV7GtHqGtKcGuQbGuv+Guv~GwWiGwWjG*ITG*UoG*bDG~4G~:H0HJH5CEH5CFH5aLH5vkH6y3HBN_HDLiHFwoHJ>HJ<HJ9HJ1HJx;HKVQHLQGHM<HMGaHMI+HMhrHQV5HRKIHSEjHSEqHSxJHUL8HYe^HeH,HnWfHnnI"++zc "HoGsH&g>H+:I1egI>K4I>ybIB?>IGT9IG_CINn,INrBIYVQIZx@I^y0Ibv*IhVLIsJsIsOSIzUoI+J.I.U<I.U=J0cBJ1vwJ2ODJ2UkJ3K%J3yZJ9H~J9IQJ<WfJ<iUJDJiJDiUJDx?JKI.JKrGJMdsJOJ.JOnxJQ2JQy7JSHLJi4Jjg4Jm_CJm_FJwhtJ.6J.waK2?5K2VEK9C3K:qaKBLCKGA?KH6KMg;KOwlKOx=KRw,KSLjKSN&KSN*KSN+KSN,KSN.KSN~KSO0KSO1KU^DKYRTKYsoK_;KaTGKatYKnUmKnkfKpgKKtXwKtvRKuemKxWEKy?VL1PEL1m^L1rsL3@&L3VSL5fNL8zAL;piLDdsLFQyLFjALFy@LGt2LGvbLJi_LRYSLY<LgQILgzILjN*LjN+LjN,LjN.LjN~LjO0LjO1LlHjL*H~L~zzM1x+M5YcMAYfMCY9MDeDMEApMI?HMIL+MIgPNeH~NecLNfR?NhvANsLHNu8NyK8NyjDN&N*N&N+N&N,N&N.N&N~N&O0N&O1N*N,N*N.N*N~N*O0N*O1N+N,N+N.N+N~N+O0N+O1N,N~N,O0N,O1N.N~N.O0N.O1N~O1O0O1O2UHO3WiO3WjO4w@O5H?O6^uO:T5O:kRO<y%O=a;OCEjOCElOC5OCErOCEtOCEvOOn2ORdWOSxNOTJwOa3Ol@yOuhqOuhuOyp,P0a>P2%zP5ArP5AsP5AuP5vUP6G_P6YFP9eKP:uFPC<PDq2PEivPJJdPJ_ZPbynPkWiPkWjPkySPm9P%s9Q>@FQ>@IQ>@LQJU>QKHFQPg7QT&7QfdVQfegQhGeQjKZQl^ZQyU<QyU=Qz%=Q+zhR8x%RAUhRB_IRPg;Rfj<S2AsS2vNSUwWTFT6THtUTKjPTQvETTZcTYWiTYWjTZ2T^z?TmtxTsjVTukLT.zcU5?GU5?HU7GsU8x,U:jTU>I.UF?GUF?HUJg7UUOTUX1UdiVUpl=Uv^@V0hrV0z<V2qLV7gIV7hDV^GcVaEtVesHVkgIVkhDVki1VvvdVxoSV&QAWEL+WEgPWLzyWvCDXAc4Y<RjYJL+Yd_iY+OXZ4e4Z9^vZ9^wZ9lHZBQhZH^eZIOxZP&DZQy.ZVJAZdw3ZhwhZjIVZp%kZr*<Zu%nZx%pZy*:Zz*;Z*fiZ~s5^8w+^9>^Zeb^Z&H"++zc "^aoh^fw*^kvW^lfV^xiV_4zX_9eo_Lqj_Ql7_TGe_^Ej_^wV_kGa_qw5a0zFa<oKa>?3aMhKaQU8b?ppb@w&bIJEbXJAbag0bcT.c5mJcAQ6cE*^cMS2dP6df&Mdhn0drLHe4&Xe8xHeKzqeS&SeU*mebneewIse~*wf5htfJ&ufNzmfT%ffU&tg3Vjg3mZg5z=g9ypgO*zgSdVgUYKgYrhgpyEh6vyh@zrh@*_hN^<hN_chWlshnzuh&Leh&*Mi1&+i2o@i9i9i:j=iKtviKx.izW0i~VSj8Gcj>%djNGsjUm_javmjcAojexLjiJEk3kDkEx<k%+9k.xMl8rClBVDlIVDlRoAl_*UlxOFmXn*mapLmi&xm*YVm+xzm.H5n4ztn;@In>KKnMi&nT%&nU+dndGUo4tSo6TDoCejo^VDoazKod*&oo*NopOmo&yqp;wqpG&YpJ*YpShZpThspVh^pWh_pYsfp++Vq4+Wq9I,q?_QqU%xr3upr6@Jrb%8s2ZCs<&_s=gnsTw=sgG%s%ZCs.&ot4*DtQk=tW&RtZV3tfsAtwycuIJ3u^xPutxFuwzEuz&Tu+1u~Jcv1+Xv2wJv4yyvB&zvG&%vMvOvP,OvQvTvS*Tv^A&v_*7va,LvcA~vnvovq+Fvrvsv%z4v,+Bw;*aw?9wA&iwCwMwE,bwOwPwUw~wZ,=w^wpwgqOwm*Swn%lwrwswu%mwvxvww*~w%x3x0y*x5%ox7ExxDY1xEx:xGyXxI,vxQxRxSxTxUxVxWxXxYxZx^x_xaxbxcxdxexfxgxhxixjxkxlxmxnxoGPxtBKy2g4y5zsy6+Iy9nPy:h^y<I.yFVxyH,TyM,GyO*ty^VRy_*2yfGsyj&@yv.5ywhqyx,Ey&.7z0ziz1y~z6,2z7B0z9+Cz>zLzV*rz_Kyzd&szj+xzn%w%2&<%4,t%?+M%_O1%bp2%ch_%rHJ%s.F%ycM%%Jf%,Gn&0&,&1,3&3.>&8nR&9hs&B*R&I&:&Jhu&K.a&NZI&P&w&Q,f&Zp=&^hZ&a,8&j+J&n.f&qUi&r,d&vPm&.*e*A.q*C,n*POw*V.r*W.K*XeB*g,P*i+~*j,q*u.b*xrd*y.=*%+O*,w7+4KR+6,Q+:+D+<,g+A,V+Gi:+H.y+P,X+RyY+TMD+_,u+flp+m&*+ofl+sxA+uEs+y,U+zfD+,f5,9,N"++zc ",B.E,D,x,J,_,K~5,R.s,WBN,YBY,Z.<,cj:,e.Q,h.l,j.6,l.I,o,<,y,z,%,&,*,+,,,.,~.0.1.2.@~F.G.v.OUv.P~^.TD%.Y~8.c&c.i,F.u*d.z,^.&~J.*~c.+~7.~~Q~0+5~Bvx~E~_~G~T~H~h~I+=~M~l~P~k~U~V~W~X~Y.3~Z&d~o~t~p~s~u~v~x~z~yx9"))))
abbrev ZZ:=List Z->List Z
def zo:List (List ZZ):=[[fun s=> .l []::s,
 fun| .o a::s=> .o (none::a)::s|s=>s,
 fun| .v a:: .l b::s=> .l (a::b)::s|s=>s,
 fun| .n a:: .q b::s=> .q (a::b)::s|s=>s,
 fun| .n a::s=> .v (.int .i64 (iN a))::s|s=>s,
 fun| .k a:: .l b:: .t c::s=> .t (.op a b c)::s|s=>s,
 fun s=> .q []::s,
 fun s=> .o []::s],
 [fun| .o a:: .t b:: .d c::s=> .d ((a,b)::c)::s|s=>s,
  fun s=> .d []::s,
  fun| .l a:: .n b:: .n c:: .l d:: .d e::s=> .t (kal a b c d e)::s|s=>s,
  fun| .k a:: .l b:: .t c:: .t d::s=> .t (.br a b c d)::s|s=>s,
  fun| .n a::s=> .v (cQ a)::s|s=>s,
  fun| .q a::s=> .v (.string ⟨⟨a.map bN⟩⟩)::s|s=>s,
  fun| .n a:: .v b:: .e c::s=> .e ((a,b)::c)::s|s=>s,
  fun s=> .v (.slice none 0 0)::s],
 [fun| .q a:: .l b::s=> .t (.ret a b b)::s|s=>s,
  fun s=> .v v::s,
  fun| .n a:: .q b:: .l c::s=> .t (.jump a 0 b c c)::s|s=>s,
  fun| .n a::s=> .v (.int .u8 (iN a))::s|s=>s,
  fun| .b a:: .h b::s=> .h (a::b)::s|s=>s,
  fun s=> .t .stop::s,
  fun s=> .h []::s,
  fun| .o a::s=> .o (some v::a)::s|s=>s],
 [fun| .o a::s=> .o (some u::a)::s|s=>s,
  fun s=> .v u::s,
  fun| .n a::s=> .v (.pointer (some ⟨a,0,none⟩))::s|s=>s,
  fun| .l a:: .n b:: .n c::s=> .b ⟨.cells a,b,true,false,c⟩::s|s=>s,
  fun| .a a:: .n b:: .n c:: .n d:: .n e::s=> .b ⟨a,b,Nat.beq c 1,Nat.beq d 1,e⟩::s|s=>s,
  fun| .t a:: .f b::s=> .f (a::b)::s|s=>s,
  fun| .n a:: .n b::s=> .v (.iface a (cQ b))::s|s=>s,
  fun| .k a:: .l b:: .o c:: .t d:: .t e::s=> .t (.aQ a b c d e)::s|s=>s],
 [fun| .q a:: .l b:: .l c::s=> .t (.ret a b c)::s|s=>s,
  fun| .n a:: .n b:: .n c:: .n d::s=> .v (.slice (some ⟨a,b,none⟩) c d)::s|s=>s,
  fun| .l a::s=> .v (.tuple ⟨a⟩)::s|s=>s,
  fun| .n a:: .l b:: .t c::s=> .t (.note ⟨.own a,b,J⟩ c)::s|s=>s,
  fun| .v a::s=> .a (.own a)::s|s=>s,
  fun| .n a:: .m b:: .n c:: .g d::s=> .g ((a,b,c)::d)::s|s=>s,
  fun s=> .e []::s,
  fun| .e a:: .h b::s=> .m ⟨a,b⟩::s|s=>s],
 [fun| .n a:: .n b::s=> .n (a*300+b)::s|s=>s,
  fun| .n a:: .n b:: .n c:: .r d:: .s e:: .n f:: .g g:: .f h::s=> .x ⟨a,b,c,d,e,f,g,h⟩::s|s=>s,
  fun s=> .f []::s,
  fun s=> .g []::s,
  fun s=> .r []::s,
  fun| .l a:: .h b:: .n c:: .v d:: .h e::s=> .s ⟨a,b,c,d,e⟩::s|s=>s,
  fun| .l a::s=> .v (.agg ⟨a⟩)::s|s=>s,
  fun| .n a:: .r b::s=> .r (.tmp a::b)::s|s=>s],
 [fun| .n a::s=> .v (.map (some a))::s|s=>s,
  fun| .n a:: .n b:: .l c:: .d d::s=> .t (Dn a b c d)::s|s=>s,
  fun| .n a:: .l b:: .l c::s=> .v (.func (.func a) ⟨b⟩ ⟨c⟩)::s|s=>s,
  fun| .i a:: .v b::s=> .a (.jC a b)::s|s=>s,
  fun| .i a:: .v b::s=> .a (.rk a b)::s|s=>s,
  fun| .n a:: .n b:: .r c::s=> .r (.cell a b::c)::s|s=>s,
  fun| .i a:: .v b::s=> .a (.gA a b none)::s|s=>s,
  fun| .v a:: .o b::s=> .o (some a::b)::s|s=>s],
 [fun| .n a:: .v b:: .v c:: .l d::s=> .a (.pG a b c d)::s|s=>s,
  fun| .k a:: .l b:: .v c:: .t d:: .t e::s=> .t (.sw a b c d e)::s|s=>s,
  fun| .n a:: .q b:: .l c:: .l d::s=> .t (.jump a 0 b c d)::s|s=>s,
  fun| .v a::s=> .a (.maps a)::s|s=>s,
  fun| .n a:: .n b:: .n c:: .n d:: .n e:: .q f:: .l g:: .l h:: .q i:: .l j:: .l k::s=> .t (.pick a b c d e f g h i j k)::s|s=>s,
  fun| .t a::s=> .t (lN a)::s|s=>s,
  fun s=> .t .stop::s,
  fun s=> .t .stop::s]]
def zw(f:α->Z)(l:List α):List ZZ:=l.map fun a s=>f a::s
def zq:List (List ZZ):=zo++zh 8 19 (zw .v [.pointer none,.int .u64 (iN 8),.int .u64 (iN 16),.int .u64 (iN 24),.int .i64 (iM 1),.int .u64 (iN 256),.int .u64 (iN 1),.int .i64 (iN 9223372036854775807),.int .u64 (iN 3),.int .u64 (iN 64),.int .u64 (iN 65536),.int .i64 (iM 9223372036854775808),.int .i64 (iN 4294967290),.int .u32 (iN 1013904242),.int .u32 (iN 1359893119),.int .u32 (iN 1541459225),.int .u32 (iN 1779033703),.int .u32 (iN 2600822924),.int .u32 (iN 2773480762),.int .u32 (iN 3144134277),.int .u32 (iN 528734635),.int .u64 (iN 0),.int .u64 (iN 13),.int .u64 (iN 17),.int .u64 (iN 32),.int .u64 (iN 4294967296),.int .u64 (iN 7)]++zw .i [[.u8,.i64,.i64],[.u8,.i64,.i64,.u8,.i64,.i64]]++zw .k [.bin .add (nN 0),.sj,.ld,.bin .eql (nN 0),.bin .lss (nN 0),.tY (nN 1),.iO,.kS .u8,.dB (nN 4) (nN 1),.Gm,.bin .sub (nN 0),.bin .shr (nN 0),.bin .geq (nN 0),.bin .add (nN 3),.sB (nN 0),.pD (nN 0) (nN 3) true,.tY (nN 3),.bin .gtr (nN 0),.wa (nN 3),.bin .eql (nN 3),.bin .eql (nN 2),.uu (nN 1) (nN 0) (nN 1) false,.kj (nN 0),.dB (nN 1) (nN 1),.bin .neq (nN 0),.app (nN 1) (nN 16),.Hb (nN 0),.sB (nN 3),.tY (nN 4),.wa (nN 4),.dB (nN 3) (nN 1),.bin .quo (nN 0),.dB (nN 4) (nN 2),.sB (nN 1),.pD (nN 0) (nN 1) false,.AV false,.kS .i64,.sB (nN 2),.dB (nN 1) (nN 0),.app (nN 4) (nN 56),.app (nN 3) (nN 24),.sB (nN 37),.app (nN 4) (nN 32),.bin .leq (nN 0),.bin .rem (nN 0),.wa (nN 2),.tY (nN 6),.bin .neq (nN 3),.app (nN 1) (nN 24),.app (nN 1) (nN 1),.uu (nN 6) (nN 0) (nN 6) true,.GX,.bin .mul (nN 0),.sB (nN 4),.sB (nN 5),.tY (nN 2),.wa (nN 1),.dB (nN 6) (nN 1),.wa (nN 6),.app (nN 3) (nN 64),.pR (nN 1),.dB (nN 3) (nN 0),.DH,.u5 [.u8,.i64,.i64],.tI [.u8,.i64,.i64],.mx,.app (nN 3) (nN 32),.app (nN 6) (nN 48),.pR (nN 2),.te [.u8,.i64,.i64] false,.dB (nN 1) (nN 5),.app (nN 6) (nN 112),.dB (nN 1) (nN 3),.dB (nN 2) (nN 1),.app (nN 2) (nN 24),.bin .shl (nN 0),.kS .u64,.GM,.dB (nN 1) (nN 8),.u4,.pR (nN 3),.app (nN 1) (nN 8),.app (nN 3) (nN 40),.bin .xor (nN 0),.dB (nN 1) (nN 2),.dB (nN 1) (nN 7),.dB (nN 3) (nN 2),.dB (nN 6) (nN 3),.uu (nN 4) (nN 0) (nN 4) true,.n0 (nN 1) (nN 1),.kj (nN 1),.Cz,.zV [.u8,.i64,.i64],.Cy [.u8,.i64,.i64],.Cw [.u8,.i64,.i64],.Cv [.u8,.i64,.i64],.n0 (nN 3) (nN 64),.kj (nN 2),.C2,.app (nN 3) (nN 72),.bin .and (nN 0),.EO (nN 64),.EM,.te [.i64,.i64,.i64] false,.te [.u8,.i64,.i64] true,.dB (nN 1) (nN 4),.dB (nN 1) (nN 6),.dB (nN 2) (nN 0),.dB (nN 3) (nN 3),.dB (nN 6) (nN 2),.C6,.tI [.u8,.i64,.i64,.u8,.i64,.i64],.n0 (nN 1) (nN 16),.n0 (nN 1) (nN 24),.n0 (nN 1) (nN 8),.n0 (nN 4) (nN 56),.n0 (nN 6) (nN 112),.pR (nN 4),.Dx,.strOf])
def zx:Nat->Nat->List Z->List Z
 |0,_,s=>s
 |f+1,x,s=>bif Nat.ble 658 x then(match zn (0,0) (zn [] (zn [] zR ((x - 658)/324)) ((x - 658)/18%18)) ((x - 658)%18) with|(a,b)=>zx f a (zx f b s)) else bif Nat.ble 512 x then(match s with| .l a::s=> .l (cQ (x - 512)::a)::s|s=>s) else bif Nat.ble 213 x then .n (x - 213)::s else zn id (zn [] zq (x/8)) (x%8) s
def zr:List Nat->List Z
 |[]=>[]
 |x::t=>zx 99 x (zr t)
def zF:List Z->FX
 | .x x::_=>x
 |_=>⟨0,0,0,[],⟨[],[],0,u,[]⟩,0,[],[]⟩
def zD:List Z->DT
 | .t x::_=>x
 |_=> .stop
def mkF(x:FX):FD:=bv3 body x.f x.n x.k x.rs x.sg x.m x.hs x.ds
def F1(s:String)(_:String.ofList l=s:=by exact rfl){y:a0h}(_:zs (l.map zi)=y:=by conv=>{lhs;reduce}){x:FX}(_:zF (zr y)=x:=by conv=>{lhs;reduce;delta iN iM bN cQ lN nN}):FD:=mkF x
def D1(s:String)(_:String.ofList l=s:=by exact rfl){y:a0h}(_:zs (l.map zi)=y:=by conv=>{lhs;reduce}){x:DT}(_:zD (zr y)=x:=by conv=>{lhs;reduce;delta iN iM bN cQ lN nN}):DT:=x
def dD(f:FD)(k:Nat):DT:=f.qP.getD k .stop
def oK:FD:=F1 "0CMB9P<+tLR9Yo1JixxIGW1OvPmaP@,9GaV2El7Ji5Z=EmwF"
def fd1:FD:=F1 "0D7AyAqO^M9ggebUfV&P,K7CEHndtI0HL3LsHOG~ErJiEsLg^2"
def fd2:FD:=F1 "0D5C<AtaCDyodrwKDKaRPneIYGfI0HLJQHIydI3IELgGXKMGaGoErGcOoGdXv7I3K8:JDIELgGXKMGaGoErGcOoGdydL1.RL1J3_I.R~aoh~aiSXqydL1.RL1J3_I.R~aoh~aiSXq?9?Z"
def T3:FD:=F1 "0D6A,P<+tntIk^p?>AsjkUfV5U&Dy?FAxeal&pdGcxxI%q9WLOFdkL3@Gj<Qd6EwHMS@AyKOGwZTGd?PGpn7OFa=OFJh"
def fd4:FD:=F1 "0D4C5AtaCDyodrwKDKaRPneIYGfI0HLH6K^wSIELgI3I_@?I3ErJiMHGcs9Gag@olP%LgK87GaK8:L1g@oleGI3K8ZozDp;ElpX~wkL~wkLI3K8ZozDp;ElpX~wkL~wiZnf"
def fd5:FD:=F1 "0CNDgAu?iAsC1M9HOggrwZ=KaVbUfsuIXI3T+JnJKJuolGoJoPKJpolGoEvH;PKGdIXHnK8TWWLHL1Z^IfPKIv@cJKR9H&I3nII~N<H;R32I3nIF0H;R3LQL1K8TWWLHLJnTfyaJoPK2yaEvH;PKGdIX.Ha4.Ha4L1K8TWWLHLJnTfyaJoPK2yaEvH;PKGdIX.Ha4.H^.T4NY^2"
def TZ:FD:=F1 "0BsBCX%+tntIk^pJ6Z8UfV5UvXweal&pdGcHLTPK07K8K3K8wSIEZ8L_K^;NaH&n7M3a=M3rcH%CNArLyEt;3h5?7zkl,Ezlp6F1JEG&AyKOF2QGG*?PGpn7Z8p_TaH&n7Z8p_TaJh"
def EK:FD:=F1 "0BQB1s?&UAr?NAvAo?>AsPBHpI5KAAvK?eaO2K:Gc1I%l;m;BK4H~>GUAlTVRM9Lv=8NmHZK:HOdzHcAvAo2=Jh"
def fd8:FD:=F1 "0BPAwvHv<r43YgJh"
def TY:FD:=F1 "0BRBMe,oeRITQU%AqI=J6q<rGQ:ApQZeal&pe1KDI%6HnLzJ:6YU@zqAJ,i,V2:o:EjRMaPABdTUrG&inPyq<J3TWRMGaGUAB38UrG&inHOq<HS<J:68Z.<6J,7y?V2Ejo:;RMElGUAB3EmUrG&inI.q<UrWb7q<dzTGY,Jh"
def Ss:FD:=F1 "0BSBXX%+tVFXzU%+pRPUfK1IbC%_5LRwLl&peHOxxO=Z.P=V4El2GRG.@D_EG~EoIGEp4l+fvjDEsGSBCHk@,j0EtKgEv4G~EwrsErdtKQ_pErEuJQ1HIUoGwEz_R3F1NmG&pxF2IZF3QGUi?E?PGpTGRPY,RPJh"
def sC:FD:=F1 "0B6DoAuXxB;bqtUMDPL,5bXIUvJBBJ1a7ryODHEB4HFeS%+H;P?baeUUzVn,5bXIUvJAuie^oAvgSHEB4HFeSM7AsPnAtGch>UWAseU_ig0&~ZHYv_;kNAn?>C9IkC:J1C;TDeStWGch>UWKtv&eUb_g0QZZ1pGCEIUCFJ1CGTDeS,?ogQ:v&eUb_g0_hm_Tqif~mCVMBCWQ;CX~3Q:~rpl~mCtMBCuQ;Cv~3Q:~rZ1pGCEIUCFJ1CGTDeS,?ogK1AnAmAnv&eUb_g0_hm_Tqif~mCVMBCWQ;CX~3K1AnAmAn~rpl~mCtMBCuQ;Cv~3K1AnAmAn~rLRW0f44KFAjZ7>J3T<V2Q5Ap&;zD8ZD7GU@GL?H;pZAnH4HZUHGaJ0HO+LJpEjHO+LWI@oQ5Ap&;zD8ZDwLHDUHJ8HO+Ly;LrIGf<y?HML1>IR<;V2ElLXJ3EmJkKGA:EjHBq,75k2HDKhjKEpODEoKGA:EjGiq,75k2HDKhjKEpODEoI7HDJrHZO2runDGcTPK0>J:=7_Q3q6=:IG>=OvV2;WJK8ElGlIp@b,0HnEmKwEmLWV2,0HnEoKwEoML>=l+V2ErWJPmEsU>5Z;GUAC8EuQjJPLJO?K:EwO;EvUVKHq>O9K:EmH>mGY0eTHZO2jZu%GcK3G%mGY0eTHZO2jZu%GcwSG%O=O4J&M69QqBRAvi*HKVE;V^l9ZBKZHDTojZzJJ8L;muluO9UH63W1J8Gcs38gVIhHn4Kw4LWV27o:EmyQ5K9CEEoZDEplvHls4jZLiUHJ&IZTY1OmZEGc^0?PI*C3VqZR,?2_+Omg5.BEqGaYUA3*hYa~AU>olI3x*Gt.tErK9CAEsZDEtr7oojKPk1ojEqTt_D.BqSx**hrA~AV2Ejo:EpyQEq.tEsHS8HSEljDEvm*Zo,sJ3qZKU.oHqA~VhA:JkGcK,~1EzfrE%&yF2%B_L%CF5+eF6~DrgF7frF8V^F3FA&kFBecFCi6dLgHFEUXFD.:F3ecF5i6XugHF7UXF6GdQ^.oExOy~1ExfrEz&yF1%BxK%CF4+eF5~DQGF6frF7V^F2F@&kFAecFBi6dKgHFDUXFC.:F2ecF4i6pbgHF6UXF5y;LukS8gVIhHn4Kw4LWV27o:EmyQ5K9CEEoZDEpr9Hls4jZLiUHJ&IZTY1OmZEGc^0?PI*C3VqZR,?2_+Omg5.BEqGaYUA3*hfp~AU>olI3x*Gt.tErK9CAEsZDEtGmAvoojKPk1ojEqTt_D.BqSx**hH<Av~AV2Ejo:EpyQEq.tEsHS8HSEljDEvm*Zo,sJ3qZKU.oHqA~VhA:JkGcK,~1EzfrE%&yF2%B_L%CF5+eF6~DrgF7frF8V^F3FA&kFBecFCi6dLgHFEUXFD.:F3ecF5i6XugHF7UXF6GdQ^.oExOy~1ExfrEz&yF1%BxK%CF4+eF5~DQGF6frF7V^F2F@&kFAecFBi6dKgHFDUXFC.:F2ecF4i6pbgHF6UXF5^2"
def Sr:FD:=F1 "0C3B9ArXxD:&V+Q^eA&IkA*IUA+M8Jdm^HED:HFG,jxHED:_hU&D:TqU:@F3fweTO2N^d^>IZGctnwGC3AyOddwL3@GbCQddafue_ErG,EqL;dMG,jx2O;Jh"
def Lt:FD:=F1 "0BXBMe,^WJ_e**9sAPRD2K?OZrRAsME*9LGB9MBB:Q;B;Lk?VK1PRD2HFRjRCAwL8HED2J=AwU&D:_6c5skGeUaU_P=*O^UG.@F<H@BXAz:P4BXAzEjZD7I7_WO2jK7j0;G%GcGnKBk@g5O4_CM6EmQqC3AyLBdwL3twQdEjEvn^^3^8ExRjEwL8L;zkwIlp3EmNmJr?65IZEoJh"
def yP:FD:=F1 "0B8CRAuXxBq&VY9,5PvB1IkB2IUB3*cUun+4%*H;Q8_hn.TqVn,5PvBCIkBDIUBEs0Uun+4%*n8GcQ8_hn._irW&~*>~LM8n+4+lM7AsQ8^@n.b_rW_hrVTqZ1*>AvPvAwZb~LJ1BeLGBfMBBgZPn+9n8PnAuS2Av^^i.;hVEjbLAyGc^4_in.barWjUrVJ=AyIbCy_6if*>f0~LJ1BzLGB%MBB&ZPn+9P5AtM7AuPnAv^^EjS2AxbLAy^4_in.barWjUrVJ=AxIbCyJ=AyKACA_6pl*>f0A&Zb~LJ1BzLGB%MBB&Q;B.T&B~ULC0sRn+:pAS2Ay^^EmbLA%rMA&^4HFrNA*HECAJ=Awn.J=AxrWJ=AyrVJ=A%IbCyg9KACAJ=A*IbCDpjr*JEHDUH6T<q5GcNbt;8t<L3A:7HBq,9EjfuyGrtG,;V48paL3A:7Giq,9EjfuyGrtG,;^K>I7HlUH>aN4TV9GcVI7ytQrGUAC8ElQjJPHlO?K:5O;Em^K<Y0Xt_YUH<db4G%GcVIwH:lu^3Li_YO2HT:QFO;_FGcjbN^+lM7As2O;hTEm&=EoU>5EqEploElEryP_XY>i_NnEtG%OdEs^K;lvH4sdPrO2HT;YVG%I1ElGcs%G~Emfvr7HDTosdPrO2^8I.1r=GcU>UYecEm&GH4TAesK:EoQf5kVEqIzL3@XGcEsH@BXAzEtHKUoErH0_REpEwm:rAj~_3TpEy_GI.ExL;VEEpV^EoqR<YaHDjZPr_2NnEs_GqOJh"
def Sq:FD:=F1 "0D_B8t3TFApmZJ1AvYtT%*kmJ+n@x>dp+n@yi,H@D_A&9P4D_A&:K=qKO7ElNmzJG*Gy6Jh"
def Sp:FD:=F1 "0DaB9t3TFApVijSYtT%J36PJ1*kKO1=Ua+n@x>dp+n@yi,H@DaA*9P4DaA*:HkA2Q6;NmKOEl=EmG*zHGayIJh"
def So:FD:=F1 "0DcB1Z3oeRI+3M8O;HED:TqLR4Qk1T<KDn=9=M6wGDcA+OdHkA2dTHMTkEm_BO;gKdUHJwF"
def ak6:FD:=F1 "0D&A%e+P;C1dNO<dJJ2gF>usv<l8jE1GoGiK8Q5B2jE1GoGiI,GSB33H^AI3Nl1yoyo.^,IQg%h,Ir@*3?6xw%3%3Jcm0%gK_xwJcdr+;K_Gax~H5BHu*x~r@%@nQBEnQBJnQB@&LBF&LBH^dBXoZB<oZBW^dBWoZBY^dBYetQ+I3K&O:hMQ+GaK&n@K__1GRI>6dsVdAI3Nl1yoyo.^,IQg%h,Ir@*3?6xw%3%3Jcm0%gK_xwJcdr+;K_Gax~H5BHu*x~r@%@nQBEnQBJnQB@&LBF&LBH^dBXoZB<oZBW^dBWoZBY^dBYetQ+I3K&O:hMQ+GaK&n@K_kaGRI>6GiGsHBsl"
def ak5:FD:=F1 "0DdA%e+P;BZdNO<dJJ2Z=29usv<l8HJVKGiK8Q5AwHJVKGiI,HW3H^XrNtZ,zpOGYJNtU5zpK4YJNt%9zpL.YJNtUFzpHo*6Z,.AOG*6U5.AK4*6%9.AL.*6UF.AHohUpkz5OGhUv9z5K4hU?H%9z5L.hUv:z5HohUv8ygOGhUv6ygK4hU?G%9ygL.hUv7ygHoHBsl"
def Sn:FD:=F1 "0D%B7ZWDfhXDfNit%_.P,DfB9LcO&=y>LzJEKOd^KpeM~bA~~N"
def Sm:FD:=F1 "0D%B7ZWDghXDgNit%_.P,DgB:LcO&=y>LzJEKOd^KpeM~bB0~N"
def Sl:FD:=F1 "0DeB3ZWDfhXDfNivVAx_.U:J;@Ziz=fwKOT<Nb~bA~~N"
def Sk:FD:=F1 "0DeB3ZWDghXDgNivVAx_.U:J;@Ziz=fwKOT<Nb~bB0~N"
def Sj:FD:=F1 "0C~BAX%UsDbhXDbNiYO_.c5rui4H@DbB=4mL@x,am2B38mL@ylDm2B3;j*EmKpmpmpj:"
def Si:FD:=F1 "0C~BAX%UsD0hXD0NiYO_.c5rui4H@D0B;4mL@x,am2B48mL@ylDm2B4;j*EmKpmpmpj:"
def Sh:FD:=F1 "0C~BAX%UsD3hXD3NiYO_.c5rui4H@D3B<4mL@x,am2B58mL@ylDm2B5;j*EmKpmpmpj:"
def Hh:FD:=F1 "0C*vinXOMC+I9%6?fC+e@TT_.Vn?fC+pOzgnL?fC+pOQ;B5T&B6ULB7sQUzzw,HVI4XsqFHTr<ZMHB,;9a58Y0^8&p^L_n9kVqJC+B>UYV67KZTp5zbl@NnwT"
def Hg:FD:=F1 "0C*vinXOMC.I9%6?fC.e@TT_.Vn?fC.pOzgnL?fC.pOQ;B5T&B6ULB7sQUzzw,HVI4XsqFHTr<ZMHB,;9a58Y0^8&p^L_n9kVqJC.B?UYV67KZTp5zbl@NnwT"
def Hf:FD:=F1 "0C*vinXOMD2I9%6?fD2e@TT_.Vn?fD2pOzgnL?fD2pOQ;B5T&B6ULB7sQUzzw,HVI4XsqFHTr<ZMHB,;9a58Y0^8&p^L_n9kVqJD2B@UYV67KZTp5zbl@NnwT"
def ak4:FD:=F1 "0DfB2t3.pw24zfVClDP3;rPIHJYMIVClDP3;rPMKWELDlqMILDR>"
def ak3:FD:=F1 "0DgBMe,^W.pw24zfO&:QsOREl>Ol@MM>5J3EoJkNh@hEpl+J.ErPJHBOl@hEpl+J3Er&6KxMIJMlqWEO&:QsOREl>Ol@dM>5VaEoY^@MEpl+J3ErJkNh@hEsG~Etj_PJHBOl@hEsG~EtJ3Eu&6lqMIJMR>"
def ak2:FD:=F1 "0D0B@e,^W.pDdA.4Hzpk?HkJ*0kJ&gkJ&fkJgUkJ%:kJ&mkJ&liJ^<Z,?Hj.*0j.&gj.&fj.gUj.%:j.&mj.&lXBVtpk?HkG*0kG&gkG&fkGgUkG%:kG&mkG&lhIv8?Hjs*0js&gjs&fjsgUjs%:js&mjs&lPeM2^2"
def ak1:FD:=F1 "0D3Bke.^W.pDdA.4Hzpk?HXa+?*1Hzv9_7@yT=yWK8wx+?U5ewHz?H+8@xT=yWK8wx+?%;Hzv:_7@xT=yWK8wx%vEsG~MMK8Ok+?UFewHzv8_7@h^*Go+>*1Hzv6_7@hcI@ypM+>U5ewHz?G+8@hcIvC+>%;Hzv7_7@hcIvC%vEvG~,sK8qZ+>UF**pk_7@d^*GohO?H*1Isv9t=@ypMhOv9**?H+8igvChO?H%;Isv:t=vC%vEvG~,sK8qZhOv:**v8t=,MGohO?G*1Isv6t=,MY^@yEuG~EvjJK8aUhOv6**?G+8ig,MY^@xEuG~EvjJK8aUhO?G%;Isv7t=,MY^@xEuG~EvjJK8aU%vEyG~EzmIK8lbhOv7ewR>"
def Sg:FD:=F1 "0DbA,t3J_e~_.U:J;@Ziz=fw,Htn4QqDcA+M0HKXv7y,HM_n:L;el"
def ak0:FD:=F1 "0C+B1Z3oOr*K8q?TBD_A&w<Xv>GSBCTBDaA*w<Xv<J9TBC~B3=rPd~"
def Sf:FD:=F1 "0C.B7Z3oOPLsZAwIkdOAy_qiyrFR^PLsYAwIkdOAy_qiyrFR^P,NuLcOS6Qk6T<J%ys6d*6T<J%eMf+dpP39V6Vu7GsIst^7GsUbC~B4>rPeMf+dpQjeA8GsIQJh"
def aj9:FD:=F1 "0D2AsvFoOP,C~B5=rPR>"
def aj8:FD:=F1 "0D1B4Z3oOjR6JkOR=?2?,jFJ36LXr_PJHBr_GajFJ36YZr_&6IQJh"
def DV:FD:=F1 "0CKBpe.oesZA*IkA+IUA,*cQ8QZPLsYA*IkA+IUA,*cQ8sKsZB9IkB:IUB;s0Q8sKsYB9IkB:IUB;s0Q8nLsZ~K+7nLsY~K+7QZZ1OesZ~KJ1BYLGBZMBB^*@UzZ1OesY~KJ1BYLGBZMBB^*@UzP,NuLcOS6Qk6d^q5ys6d*6d^q5eMt;9_1Js%AV6VufFIst^fFGd?O@p9kaJs%AV6VufFIst^fFL;K0>y1>W14TVNbt;9_1t^:G,V49kat^:G,^K>GmMF>W14TVh?Ng%AjONu7V6=PMGeElG,Isg1&FElG,Jvg1&F;G,L;K0<lvGpf=Gs3h?eH=&FfF^K<r7Gpf=Gs3h?Ng%AHzOS7r8sjQFG,ys7r9sjQFG,L;GzC*B7G,M2eMRT9Xs7r9sjK3G,ZMGihTqJNuwYPAZ>&h5QfIsPAfp&h5QfgK=YaGpGe:QfhT:eH<fp&hEmQf^L=rAGpGe:QfJh"
def He:FD:=F1 "0CLBIe,oeJAAwIkdOAys0Q8sKJAB5IkB6IUB7+7nLJAB5IkB6IUvfB<LGB=MBB>*@UzjijuT<Ge4h?IzydGaUj:xqIQrJfF^K<d*f=Gs3h?Xs7y1Gj7K3G,rrC*B8G,M2TtT~enqJD1BAUYHzPAPMbB5Qfzb=eA:QfJh"
def aj7:FD:=F1 "0BrA&Z3h2jdCJC;KDjOCKBBKDjOCLBCKDrO1IsI>J<JvI>GXJvI>HnR>"
def aj6:FD:=F1 "0CSAvvHP,IWGebH=&6R>"
def Se:FD:=F1 "0B^A.s?&UAtWZYt*oIGJ&j>LY6YTTI9HJk8"
def Sd:FD:=F1 "0D*A.ZWDia=TdQ@_%Dia=2o5*oZ.J&V4>_1G.@A6zx8nV7V4>kaG.@A6zx8nV7t6"
def Sa:FD:=F1 "0DjA.ZWD<a=TdQ@_%D<a=2o5*oJmJ&KR>Q>@M6bFzx:j66OvLY9;nVElTIEjt6"
def aj5:FD:=F1 "0D:AuvHIYsM3KJQS6K,D*BGJ%bHOOjFR>"
def R':FD:=F1 "0D>B0vKCy*EUcTgtkQ@PL*l+pGoJd1HECyK?nZ6J%UaoJh<qCHJODHBNmsjZMGoJdNlJh"
def Ls:FD:=F1 "0D?B:AsaCCD*EUcTgtkQ@PL*lvVtzTDj;rFK?Vn*lvVtzLGA+MBA,Q;A.gOj;rFTqnZ6J%Uaf,ZC>a5<tTf=ZMj;Gi~28h<73HJI1HBn_;^LrzwF"
def R9:FD:=F1 "0D;B0vKC>*EUcTgtkQ@PL*l+pj;^4K?nZ6J%UaoJh<qCHJODHBNmsjZMj;GiJh"
def aj4:FD:=F1 "0D9vZkgM9HBHO.xsuGff:HL1:Hz_mHBHhIs_mGiHhR>"
def bC6:FD:=F1 "0D9vZkgM9GiHO.xsuGff:rIHz_mHBHhIs_mGiHhR>"
def aj3:FD:=F1 "0COB<ijikHO.xXwjRaNORdbJ3dbmobB>wQjXbB>wQJ3aNmoHLjXHLJ3aNmoHLjXHLJh"
def aj2:FD:=F1 "0D8A&P<gT.xUzjRaNmoKD7ODjXKD7ODJh"
def R8:FD:=F1 "0CPB@ik*QV&VFe~jkeBAxr*QkU.xxNbt;;_1G.@LsNm~+a5Hzb?A5fMW0ixExElmK~>rk~>Ud_mnUGd?O@p;kaG.@LsNm~+a5Hzb?A5fMW0ixExElmK~>rk~>Ud_mnUL;I6OFJh"
def Lr:FD:=F1 "0CQBfAtM9*QV&VFAzIkt%jkeBAxZVrbIkApMEk4IkB=exs1B>?4Ao?>B?TDRPs:Y1HECvHFGnHEAvv5jijudbHLVI;&?H5C9T,WyC8m~L,EoQmL,EpEm+aPUJtpiL^=Ge1OoY1Is_mOoL;I6OFI%4I3I,I34Kw4GnH@D;BL8EoTj_xRPGXEoV7.SVk.Sd._yRPGXEoV7.SVk.SKB?5AAW13LtEoUnQSY1K,DjBHGtbHfMGuQcRPmiHz&CIs&CLeQbRPmiHz&CIs&C^2"
def R7:FD:=F1 "0D@BsAtY<I1epGv25*Qv5LaRIIk_;AsPvt%J1A*TDRPs:Y1^4HFEoU~rFpjLRElQQ5El_IHLOdEmO=f,l+H@w0EmErTj_y.kE.KKfi&&E.KKfid.rj<ErmK.kE~EyP>fi&&E~EyP>fiJvG.pp4H@vzExErmK.k*L&&*Lrk.k*L&&*LUi?5@L*vO:e<?3C:rhm~bjBI?6L,ErEoL,EsIr@LEtQmpYJQGX2DkBd<Em6Y1_KRPEpGk_mqjR>"
def Hc:FD:=F1 "0CRD?AugT*QUzLac3BZIkB^IUB_jks:;dT^4_6ZVc3C:IkC;IUC<jks:L83^4_6jtc3AxIkAyPvC:IUC;J1iuCBLGCCMBCDZPVbs:RG^4HF4HECAaBU:v@7KR:&?H5+.K_EjlxHLR6b?AAwx7H@D;BLEwEjTj_yZTJDwYpJxKgpfDIspJxKgpfDd.rjEpEjmKZTJDwY~CIs~CrkZTJDwY~CIs~CINQt_mZTL;ITzWEm&?yCT,t9Q,zYbjBI?6L,Er5+a_Jb?AAT9W0w0E*5Tj_yf*JD5V7jeF9F1QnL8VkjeF9F1QnL8d.rjx2mKf*JD5V7~:Vk~:rkf*JD5V7~:Vk~:INQt_mf*L;K0wfJSGnr1;3,6Ema55Y0L^=GeI.r1L8K2I6OFhTEp&?m0O:hMQ,P0K_5L,EtH5BI?6L,EuEqL,EvQmHM3R1ExLFEwEylxVbEzHzb?AAOO<LtP^IBEqK.@VF2K,k.F3lT_yrgJDPU~iQt~i?9tvrgJDPU~iQt~i?9?9Qt_mrgKBKH3JPJSIZEpG%Q<Jh"
def R6:FD:=F1 "0BtBAAsXxDNtQbPtk+Qc3B0IkB1I=J6GoI^HEDNHFZ8OwXwP,vuKDHKphf:KDYuUxI^>LcJtphCPBQVbGk?7phCQBRPKGkOSYSeT?6Z%cBUdJtphCPBQVbGk?7phCQBRPKGkOSYSeT?6Z%cBUiIT63ZeCRBTZ86GkIc6I4WbErLgGdGyRjwT"
def aj1:FD:=F1 "0EHA+vKCyZjjndJtkjdvzI+rOGoJdNlyrw0P=TjI>ODHBmwI>ODGi^2"
def aj0:FD:=F1 "0ENB>X%ZjjndJUcjdvzI+rO_kyrw0P=Tj?7fqAp^5H6HJW1mwrjJ&rOLX1IsI>JdGXd~"
def ai9:FD:=F1 "0EPA~P<jnMCjdEHBVKDTj?7VQ<YZHJH6yLmwI>GXR>"
def ai8:FD:=F1 "0EOA*Arkg?cAv?cAw%>G,dJR?QZym<&5J8S0I^Jh"
def ai7:FD:=F1 "0EIB~AtLbZj?cAs%>J2O;bPR?TqP,EMB^Gj9O5VQ:&5HOJ34JkHJJkI^P.AqHJJkI^J34LXHJ^SP.ApHJ^SJ34IJH@ENBWQeK;JsRgEj>;STY1G*Z@AuTOJkTNZ@A*^X8ejA+^X8ejAw^XLXejB1^XLXejB2^XLXejAt+qA,+qA.+qA~+qB0oCd1oCa3TOJkTN_,TOJkTNGyJkI^R>"
def R5:FD:=F1 "0EMBGX%Zj?cAsjndJR?+QYvAtZi+vVfBhTqJ_AoYvAtY.+vVfBhTqLR4QkJdGsj8s3wGEIBZOmOdO5VQ5&5PyJ3OOJ3ElEln?ElIZlPm<GpElIZlPJ3dTNmU7lPm<U7lPL;Gy3I^s3wGEIBZOmOdO5VQ5&5PyJ3OOm<GpElIZlPm<U7lPL;GyJd^1Jh"
def ai6:FD:=F1 "0E>BJX%M9Epz^WRUn^q^n_GH:eBA+P,EHBVGjEpTj?7LAEr^7mwJsvz=qQpff:Q<H6qQn>IIIsn>IIJvrj3qQpff:Q<H6qQ+jIs+jJvpff:sIqQ+jIs+jnf"
def R4:FD:=F1 "0E?BFikTYz^.%A,ntIkoUTDUnRP^nM3eBA~LREq^ARl1^7s3EtQqEIBZOmH0O_O5Ptf:M3E%EzHzJtH?Ey3e^~4Gd_v~4JvJtH?Ey3e^~4Gd_v~4IN?ELAM0I1HhEsJh"
def ai5:FD:=F1 "0E@BFvLRl2Kkz^.%B1P,k.R8TjpfQbsI_J~jUd~jIN?8GRTh_vsI_J~jUd~jnf"
def ai4:FD:=F1 "0D+CKAtY<RlKkYitY.%B1jREpJk.wJkt:T*F4EvVYF5I8JF^MZ~EvLXt:T*F4EvVYF5I8JF^MGdPtf:j+NcY*IsNcY*G*rBLX.wYZe^onj=onylYZ.wYZe^onj=onylGlAv.wJke^onj=onylWJt:^7LXVYx4Z~EpIJt:^7LXVYx4Z~EpGlAsH@D;BL;lTpfQbsIPU~dJv~dG*?8GRTh_vsIPU~dJv~dylGlAtZdq2^7G,R8GaObx4Z~EpGlAut:^7ZLx4GdLA^7Jh"
def R3:FD:=F1 "0DkBJikEpz^.%A+VFAs+3M8UnOF^nHheBA.LREp^ATY1^7taEsk9QCEjLF:EzZeiwHhE%V7EjP1KND+BcTaF3gpyUGkPDDkBdY7K5ExGkPDDkBdL&YDEyGkL:jeFhVsu^INQtNcOFgpKBLAOFHhJh"
def Lq:FD:=F1 "0BuB>e,oOJ_e**9PBnJK?OZrR*9LGA*MBA+Q;A,Lk?VnJTq+SskI+Uaf,ZC>a5<tTf=K2k@~2wHq61;i2r+Eln_EmJ:Ga;L>GaOadUr+Emn_5J:I3;L>I3Oal7r+5n_EoJ:MJL>Hn%uHnr+Eon_EpJ:L1;L>L1%uL1r+Epn_EqRWVEwNw4tpEpIZG,EqzCwN35tpEoIZG,EpzCwN3Emtp5IZG,EozCwNdTtpfIG,5^LrzwF"
def R2:FD:=F1 "0E0A.ZWE1a=TdQ@_%E1a=2o5*oJmJ&KR>Q>@d6bFzx:nVEjt6"
def ai3:FD:=F1 "0EJBBikwesP_5P,IW:;bHZom,ApEl_jwXfvJBEoVoAzh45I&9;bHYVrxLXEm_j_HHSEoJBEpVoAzh4EoI&7;^6VSAq5_jEjEoHSEpJBEqVoAzh4Epd~"
def ai2:FD:=F1 "0EABVvLj<YiHLa8sPv5IYKND.BijH5ltn0rxgBEmRz,CqLrxgBGaRz,C;YZrxJke8,C;WJrxIJe8,C;IJUUz8EJBgNxOJElltOApxP>REoHI&Evi~v>Ez_jaVHSE&JBE*iEE&_SAtI&Evi~v>Ez_jaVHSE&JBE*iEE&_SAuI&Evi~v>Ez_jaVHSE&JBE*iEE&GdL3v>e8uIR>"
def R1:FD:=F1 "0D.A*vIwesP_5VFAs+3jkL8LwAzYEAzYyicLRfHL81jHtn5gVKNEABhOFIKH1Gk_bS@AyZNI@H3O3L;LAZ?Jh"
def ai1:FD:=F1 "0D~viM9we^O_fLwAxYEAxYy_5LR;J3ZoyV2LAEmjHm,B6e8wXfvJBEoGafvUUbpw1rI5;GkI:E&I,E&EpGUAKE&EpE*i^ipr?H3E+^J?Z"
def ai0:FD:=F1 "0DlDEAuY<_VYiHLa8sPpjIYzlB8e8EjEqrKrcs<r,D.BirIEr5ltn0I&E%+KB3,wn%F0r3I&E&+KB4,wn%F0_SApI&E&+KB5,wn%F0_SAqm,B7..,7w1bSE~EoltG_sfD~Bj%0F<EpZ^IhFHF1GUAKFHF1F=i^A~?6OPK5L@FI^J?9LCIJm,B7..,7w1bSE~EoltzlB6Et_jHaHSF>JBF?GaHSF>I,F>F1GUAKF>F1FAi^B1?6%0FB^JP7AsLtExK>AxQS_VK,E0BfExE.Hk@DEyE~G~F0fvI&F1IgzlB9E~F3F2RzE,F4HSF5JBF6n%F5G*P7AtIGX*G~a^5rdGaI&E~IgzlB:1F2F1RzE,F3HSF4JBF5n%F4_SAum,B;..,7D~BjbSE~EpZ^IhF=F1GUARF=F1F2i^A.?6F3bVF<F>^JP7AvI&E%+KB<,w,7D~BjbSF0EpZ^IhF>F2GUARF>HYi^A.?6bVHaF?^J?9P7Awm,B=..n%E~i^_@IDHdR>"
def R0:FD:=F1 "0DAA*vIwesP_5VFAs+3jkL8LwAzYEAzYyicLRfHL81jHta5^U?7KNDlBkOFIKH1JOGk_bS@vXE.IDHdL;LAZ?Jh"
def ah9:FD:=F1 "0CTB?AsaCEHY<GvYijHQLrwGjKaZ?QLicIYG_?2?.2w1HL7ElGcEmltsMs>OyDBBrExKxOSElH&x>s>R@Ews>2x>ExR@O_lqOSElH&x>s>R@Ews>2x>ExR@O_^2"
def ue:FD:=F1 "0BvClAuaCDaM9;PfI1QLrwGjKaZ?QL_5ntbXMEvJBFIUBGJ1BHTDqAOD3H;%+N_hjGv^4baKAAvic*BAnbXMEvJBYIUBZJ1B^TDk<._hj56Eo^4jU^NAw^NAxKAAvaBjtpKyhkpyhpQM8Z?hjo+YeKcotEtm4g9mzA*m%B0jtpKs1kps1pQM8Z?hjo+Yer?otO_m4g9mzA*m%B4jtpK^okp^opQM8Z?hjo+YeH1OJotlym4g9mzA*m%B8t1pKyhkpyhpQJ1CCLGCDMBCEZPeQhjEqPnA,S2A.YeHRotEwm4J=A,mzA.m%B3t1pKs1kps1pQJ1CCLGCDMBCEZPeQhjEqPnA,S2A.YeyUotGxm4J=A,mzA.m%B7t1pK^okp^opQJ1CCLGCDMBCEZPeQhjEqPnA,S2A.YeQ*otLEm4J=A,mzA.m%B;U:v@;KRElXs6JEHDUH;U~1J%GsGcN_wjK2ITLuZ.P=V45t<VEEoLv7EqNmyGHTEsM0Er_GV45paVEEoLv7EqNmyGHTEsM0Er_G^KwfHDO2O2HZKOElj0qAODH;OdEm%jEpIzH?ErYZRMEqLvEjEtm<HlToKhHTEvgREuGvI.RMEqLv:Etm<HDTojZHTEv_pEuz3zB@D73QJ2ouAnouAnK0EopZApH4PrTo%aoL._lR^HGi2oL_GlR^HGiK2ouAoouAoK0EopZAqH4PrTo%aoL._+^Ho2oL_G+^HoK2ouApouApK0EopZArH4PrTo%aoL._+^^HHoGi2oL_G+^^HHoGiUVITKYf+ZCEua5Evr7Y>HTQyr1dyjbGpo+Z?2H:Z?,6Eya5Ezr8Y>HTGxr1VgO_jbGpo+Z?2H:Z?,6E*a5E+r9Y>HTqgr1VgH3E&jbGpo+Z?2H:Z?hTExNgIWEqEyGVkhAmnKW:ofrAo3F9ICIdF8KcLEHBKBUoHRllExV^ErEyRMEwllE%V^EsE&&GzvpbZNVbLBEzE*HREwhTE&NgIWEqE*GVkhAmnKLEofZ>o3F=%0F<KcHfKIHBE%IHkhAnnKLEofZ>o3F=%0F<r?HfEzHBKBL3AGyUllE&V^ErE*KGAEGxllE,V^EsE.Qj_XzvpbK:F0VbLBE+E~JVhTE.NgIWEqE~GVkhAmnKHfoffpo3FAI8jVKcF3H_H3E&HBqgIHkhAnnKHfoffpo3FAI8jVr?F3H_GxO3HBE,IHkhAonKHfoffpo3FAI8jVH1OJF3H_H2HBKBL3AaQ*llE.V^ErE~KGA9LEllF1V^EsF2QjYazvpbK:F4VbLBF0F3JVHdJh"
def RZ:FD:=F1 "0DnAve+P;BqO<2^EgFKCIYXvQ5B=HJGoI^1I,GSB>3H^AI3GoI^q~C0gYscI*Bm?6x&aL_~x&C=_rZUC:_~1GasN_~x&C;*3?6I^WGC4Ti_~K<m0%g_~K<dr+;_~x&C;Jf?3C4UxK<r@%@UxK<H5C:a>M<a1C1h6CCa1C:WvC1Z_GaKs?3C1?3C1a1C@*fB~a1C2?3C>a1C;Jfa1C9LHa1C9Jfa1C4LHa1C4JfZ_GaKshMa1C<P0a1C@Ti?3aL_~Gaq~C=a>LH_~I3q~p.Q,e<_~Gaq~C7*fk%_~Jgj@P0O:steu_~Gaq~C0Nssc?6I^1drJfhMZJ?3Ba?3Bm?6JgKsiae<P0I*Ba?3Bmu*1*vn@JfI*Ba?6I31QgTipceuZJ?3Bau*1*vss?6I^1MNI>QOsl"
def ah8:FD:=F1 "0DoA*Z3,>K?jRQ5B6YgHB_gB7YgHB_gB;rHHB_gB<rHHBjEJh"
def ah7:FD:=F1 "0DmB4Ar*EIZKJzZHECaQ:Ap^On7HECaJ=KtApMDIYIhGeOaGeJ:OOmeR?LAHB>K2IhGeOaGeJ3>=meR?LAHB<K2Ih_TR?LAGi<UV?E?Z"
def Lp:FD:=F1 "0DBCQAuO^dNO<dJUcKCTFAo?4U%AqJAA,IUA.M8e=HECaUhKAApK?ZVIkAoIUAqJAAs?fDm2KJuqB6IkvfB8TDLwAqHEv&KAApR^T%O7GaGUAg=Z7fwXtGpq74NbI,LuL5LuZgfubdT~^K3I7JST9T<4O=O4J&M6<gVIhUqLrj7K3I,LrL5Lr;H@DnBo9dwfqB9HMEo:YmJ:ErEqjEJ3QEB=YmOREsPJNlYmJBEtqREuo.6qYpHl_pPE%E&EvngfVE.E,nwfVE+E%p?~<lK~<+wrcqREto.QDEupHdgpPGxEungUZE,E+nwUZE*Ezp?pNlKpNo&fqB:HMEo:YmJ:ErEqjEJ3QEB=YmOREsPJNlYmJBEtqREuo.6qYpHl_pPE%E&EvngfVE.E,nwfVE+E%p?~<lK~<+wrcqREto.QDEupHdgpPGxEungUZE,E+nwUZE*Ezp?pNlKpN+wJ:EqEojEJ3QEB=YmORErPJNlYmrcEoHMEto.QDEupHdgpPGxEungUZE,E+nwUZE*Ezp?pNlKpN+wJBErEoHMEso.6EuEtpHx6pPX*Etngx1E+E*nwx1E&Eyp?x6^lEvZlEz^mx1EylKx6^lEvZlEz^mx1Eyo&?9Hx?EmuI,J8OaJ8V_9PJ6HBYgGiK2?Z"
def Lo:FD:=F1 "0BTBde.,>Y9JAAtMEB8IkB9IUB:gS3^^G,3jx1H;KLYEAsKABxTqOZrSAwMEBNIkBOI=J6=OFL8eIRCAzHEDYJ=AzIbDaicP,vuKDyNl=KXqBBtBUKDdwVQ7PJKX7fw_WO2N^:+Ly;zW8NgBuBeI1HKVE;V^9Elfue_5G,EmL;mupZAoXtHZUHaNG,3jx1H;H;H;2aNG,3W1H;H;H;I%63GuBvBn=OFL86h5?7UoH:GUATEmE&O7JPH4JrKOE+r?H3E*WI@YEmdzUn12j0Jh"
def RY:FD:=F1 "0DGp%DHt5DH,AU&D:tlAhdWJdm^uOkS>QqDHBynDdwmbn<n?fI5tq"
def RX:FD:=F1 "0Cap%Cbt5Cb,APRD2tlAidWJdL%uOU_P=*Ok9CbBzODI1Hexpmb_Vn?EqIZErtq"
def RW:FD:=F1 "0B.p%B~t5B~,AIbCDtlAQdWj;uOoJNgB~B%ODO5mbI1n?;IZEltq"
def RV:FD:=F1 "0B+p%B,t5B,tfPBQ:CAtlAfdWGcuOf,ZC>2GWGzB,B&<HKmb9n?wD7tq"
def RU:FD:=F1 "0B&p%B*t5B*,ArVtlAQdWj;uOoJNgB*B*ODO5mbI1n?;IZEltq"
def ah6:FD:=F1 "0DHAue+D:&VjdDGBt4_^QeR>"
def ah5:FD:=F1 "0CbA*ArXxD2NfZ=d+Z=2QZP,DGBt4P4CaBu>P4CaBu<_^GjQfd~"
def ah4:FD:=F1 "0B~Aze+CDbqd+R?n;Q_l;H@CaBuw<?PKOP5Aq<Y,J8R>"
def ah3:FD:=F1 "0B,Ate+CANf3d+3usP,B.Bv3_^6R>"
def ah2:FD:=F1 "0B*Aze+C>bqd+R?n;@.lol;H@B+Bww<?PKOP5Aq<Y,J8R>"
def ah1:FD:=F1 "0BVA,ArXxBq&VK?U:A_q,qAGU@.GUAC9W0B&Bx4HK?PKOM7ArPnAt72TVUXR>"
def ah0:FD:=F1 "0BxArvFIVHBMCJUIYGy.^?6Jh"
def ag9:FD:=F1 "0BxArvFIVGiMCJUIYGyQg%h?6Jh"
def ag8:FD:=F1 "0EEB2P<nX>MCR^P,w23zf~qIHJYMI~qMKWE~qMKMI~q^2"
def ag7:FD:=F1 "0E7Bte.h2jdw23zf~&?8JYMI~&?8JXWE~&?8JXMI~&?9?Z"
def KI:FD:=F1 "0BwB<ik=e;nNMDnte2omZ6j%K?*BA+IkA,IUA.ttR^eaJSKY13Nbe:4K&K_HMS@AxK:T~bII7WbT<l;s2dpe:4YU@v9QjJP_WK::8>RMGlAwlmQwi^in9>Jh"
def Z5:FD:=F1 "0E8B2vII+e;nNmx4J3T<ZOjBGeI~N<K.AE=H5YQGe<YrinG%GdYFjBGeI~N<K.AE=K&JfkRPoivGe<%.z8q1G%4%~NaJwHOHqA%nzI1Yr_@L8d~"
def QP:FD:=F1 "0DvCpAuY<q=Yi^%nNV&La^eAq?NAxU%hnTDKJP5Aq<TbHFQf6N_HED2sHAq_o?FAxLR<GUAe77GoHS<JE_WHZXt?6:<K3bBG%s3ekHKmbEpNmHl?6EqIZErM0I1oBH?9Jk+E_uAqAqK.AZ8PEoVo8Elo=PyUp9LXi2L>GaOadUo@_uAsAsK.A^8bGZ:B&PodRElH5o8Emo=I.^0fqAp+EoIH5p.Q,e<K_8bGZ:B&uxElo=PyUpQEAq+EP^sqC6iazY&4J8El%.r,q1Py:K;OSEjK8fMZOQzJwy4A*VheeJTJfkRPoivGtEr%._P2q1JOEj%~TZJwH0HqA.nzr>YrA~?6GwINYFQzJwy4A*nzGtErYrA+?6JOIN?EH?9IJ+EP^sqCDeuT,Q,zY&4J8El%.r,q1Py:%~QzJwy4A*nzGtEqYrA+?6R8IN?EfqAsQoAxAmyDOyDEC>3yDjGhb_uAtAtK.AFdrJfhMK_8H5BIpdjAt4uxElo=PyG*fqAtIaAoL1yiG~aP@,3OrDEC>EmyDjGhb_uAtAtK.AFKsiae<P0m~PEC1Nsm.jA5H5BDuxEoo=TYG*fqAui2L,*vn@JfzYL,ElPEdRL>GaOadUL,PyUUz8E8C2J8EoEjYrpxTY^0fqAvL,QgTipceuK_8L,;PEdRi2L,GnUUz8E8C2J85EjYrpxGtUpQEAwo@P^VhaDC@LHssux;o=GnGdOAinJ8Jh"
def QO:FD:=F1 "0DFB9vI=e;nNMDVFAzIkt%ttsbzHGaHS=^A=T<J&ta<^U?7KNDvC3GsG%OdYpS@vX5GnL;_4>P1LAQwJh"
def QN:FD:=F1 "0C_B8ArY<=Yi^%nNMDVFAtIkYOttR^ji^AI+1GeVI<NgDEC>8yDjGjBGsKoAmkMH5C<ONK_9jA:H5BDPoivGsEjP6ffq1L87%~L_JwPyHqA&nzwjYpS@A*K:ErTYUi?ELAGsJh"
def KH:FD:=F1 "0BzC9AtY<q;Yi^%nNR^La^eB0IkB1IUB2jjRCApl>HFqC9^4j%Tq*BBVIkBWIUBXttsbYFjBGeKosq+.K_=&4Ge<Yp8Gafw_WJrN^wSd_f<eMRT8IzLZJkrCEjH6jG+NoIyC+gp&vvPotsGst+Pyl?WMLXJ3EjOrBxB,jG+NoIyC+gp&B~NsNsM<PotsGst+Pyl?G*GzBxB.jG+NoIyC+gp&B~NsNsM<PotsGst+Pyl?WMYZZO+NP^sqaL+gBUJTLHt9Q,?3YQGs;o<5Gn<Z9K@rE;O;^KqF_W?6r<Gs,6<2GWH?Z7ZdC_C5Gs9Ypq>G&vX:UXO6=R18jGjBGsKosqCCJfP0T5T,gYm.&4Gs:Yp;P1ffC_C5fD9K;G.@I5GaZOL_JwdeHqA&nzEmGtYpq>fjK:EsH1Ui?E_4>GaZOjBQwJ0K.hlQw9YrinUXR>"
def GA:FD:=F1 "0BUBue.oe^eB7IkB8IUB9*c^^Unjx8Tb_h_oV&Vn^eBGIkBHIUBIs0^^Unjx8Tb_h_o&~d,BYIkBZIUB^ttR^P,vuKDyNl=Goe:GcYuK_e:<Ir@v3e:9PECH?6RMGlAwlmHOmGJEH4O?u%QFq5EjGaeMt;7_1JsBxB,HKsLjNG%oIsNK_:PEtsG%t+G,PyG*?O@p7kaJsBxB.HKsLjNG%oIsNK_:PEtsG%t+G,PyKBK0>I7L^>db43ODVI7NgQC;HKsLjNG%_uAtAtK.AFH5C9T,WyC8K_:PEBH?3BYK_EjK&M<O:e<stuvm~H5YQG%EmYpq>e_EpG,I.KBK0<Y0eT?6<dbG%VI<IzKNBzC6GsQfYp=KZG&vX;N_L;_4>GaZOjBQwJ0K.hlQw9K;OS8I,aNGUAS8:HJEj^J?Z"
def Z4:FD:=F1 "0B7B5Z3,>jdBTBsKDP6VQ<PJKX<H@BUC7KDP4BVB+KDb>AWYU@tGc;H@BWC?ElGkNkb?@Yi*9EmR@T*Nz>dzK>Ax12_Onf"
def Z3:FD:=F1 "0AvA~Z3?iApB;bqbP3J2QOI9MDP,B6AxGjjMB8A%O;jMB7C8i*P6VQElPJKXO;HJ;O;d~"
def bo9:FD:=F1 "0C,A~t3IYev3GoIQdiT9z@GlB.V_6GlCGH@DPC@3HkA>T9=LYKsiae<P0OgKsM<?3CDZUCFT5OgKshMOgKsP0P0h6CCJfT5POB~NsNsM<PO+.POp+CBb%POp.Q,e<POC1NsPOC2kRPOC2?3CET,scT5sC%hsCTipceusCpBsCVqsCn@O:M<M<POC5%gPOC6iaPOC6?3k%M<T,JfT5POC6ONPOvvPOC9O:e<stuvPOC9T,WyC8POC;%@POC;*3POC<ONPOC<stJfPOC<P0POC=P0Jf?3CCT,WvCBT5sDJfhMsDT,stJfsD+;sDLHsssDLHn@JfOgP2t9Q,Og.^POaLPOCCJfP0T5T,gYPOCDeuT,Q,OWV_=JQln3J3f<jFln3IQ^0?Z"
def Gz:FD:=F1 "0CJBpe.oeJAB=IkB>IUB?+7sKJAAt?dM4B=IkB>IUB?J1BTLGBUMBBV*@HG?o&e_zJAAt?dM4B=IkB>IUB?J1BTLGBUMBBVQ;B^T&B_ULBasRQrdVHG?o?<vY_6LR4J3T<UjOjIQmGK8<y,HS=K89xrIQHS4Qk4aNGjh?Xs:HS7K8;y,J3K3UjEjHnIQIaAmmHI7_WHT:ZoG,GcrrC*B6G,M2TtT~mWZCEja5;Y0H4^8L81R,^K:K8Ejy,rJ;QfkVEmQ>AcEl5HBm:KZz:ErQrEq^Ll@H4NnEmn<Jh"
def bo8:FD:=F1 "0ByArvF^WIYib1q63GSC1J:3H6HMdU.4n5nAnBnCO1t9pc?3p.ia?3C4euh6C7?3C8M<?3C:ONss?3C>P0sc*fCC?3CD?3CEuv?3CGK:rH*Z*ZQjI3.4KSzMzNzOzPzQzRzSzTzULjzMLjn5z%z&z*z+z,z.z~N&zNn5N&%D%E%F%G%H%I%JN*zOz%%DN*nA%K%L%M%N%ON+zPz&%EnAN+%P%Q%R%S%TN,zQz*%F%K%PN,nB%U%V%WN.zRz+%G%L%QnBN.%X%Y%ZN~zSz,%H%M%R%U%XN~nC%^O0zTz.%I%N%S%V%YnCO0.UzUz~%J%O%T%W%Z%^.U?6P=yIsl"
def bo7:FD:=F1 "0C^AuvHjR6H6V_1q63GSC1J:3H6HMdU.4n5nAnBnCO1t9pc?3p.ia?3C4euh6C7?3C8M<?3C:ONss?3C>P0sc*fCC?3CD?3CEuv?3CG?6J%S0*Z*ZZBI3.4KSzMzNzOzPzQzRzSzTzULjzMLjn5z%z&z*z+z,z.z~N&zNn5N&%D%E%F%G%H%I%JN*zOz%%DN*nA%K%L%M%N%ON+zPz&%EnAN+%P%Q%R%S%TN,zQz*%F%K%PN,nB%U%V%WN.zRz+%G%L%QnBN.%X%Y%ZN~zSz,%H%M%R%U%XN~nC%^O0zTz.%I%N%S%V%YnCO0.UzUz~%J%O%T%W%Z%^.U?6f<yJUV?E?Z"
def KG:FD:=F1 "0DEBjAtr.&UArJ1BBIka7Kn?VR^VnIkAuJABZIUB^J1B_TDKJLwAqHEDf^@_oR^T%r_PJGor_Gayiy>yIln6K8OOln6HSmc<GaNw?2?%9J.>8zB@v6HSmc:Ga_Q_FHM1;*kK:Gn1*kruT<rXIGiydpln9JB?2?%=K8UXzB@v9Qj:k2K:i.;J:Z7K2H+1=HM1=GUAJ<<GlIp@iyibFe:8:lnwR@,dUHSwf_W?6l:1Ejyidpe:GcYU@vYU@,dUmHI7JS6:K38O=f,dpe:>Ir@v3e:8YU@v9HMQpAyHT;:LzI,T<GUASJ8yKK2?Z"
def Z2:FD:=F1 "0BWAwe+CqO<2^EjHVgT_usIYPtp,?2@2?2@5?2?~?2@4?2@0?2@3?2@6?2@1k0k0k0k0?2@73r6@oxO?*PmFXJBGSBSFYV_FZ1HMFZxrHMF^J9GUAJF^F_JdI,Fa1L5Fa1GlCMGUA<xO?&eWvpFdeWvlFfeWvjFheWvgFjeWveFlY5%<FnY5y+FpY5xyFrzGFeFgFiFkFmFoFqFslmFbFt.MC0.ZFu,4FvN;C+o1C.o0D0p5D3niD5nhD7p6D:nkD<njD>p7DAnmDCnlDEp8DHnoDJnnDLp9DOnqDQnpDSp:DVnsDXnrDZmMe0N;Dae0N8Dce0N6DeH~F*m9C,HNC~m@D2HND4HND6mAD9HND;HND=mBD@HNDBHNDDmCDGHNDIHNDKmDDNHNDPHNDRmEDUHNDWHNDYmFD_HNDbHNDdm?HNDggKFZJ9GUAJU^JdI,F_1L5F_1GlCMGUA<xO?&eVvpFceVvlFeeVvjFgeVvgFieVveFkY4%<FmY4y+FoY4xyFqzGFdFfFhFjFlFnFpFrlmFaFs.MB~.ZFt,4FuN;C*mYN8C,mYN6C~H~FuY6N;D2o1D4o0D6p5D9niD;nhD=p6D@nkDBnjDDp7DGnmDInlDKp8DNnoDPnnDRp9DUnqDWnpDYp:D_nsDbnrDdmMm9C+HNC.HND0m@D3HND5HND7mAD:HND<HND>mBDAHNDCHNDEmCDHHNDJHNDLmDDOHNDQHNDSmEDVHNDXHNDZmFDaHNDcHNDem?L;?9?Z"
def Ja:DT:=D1 "uyFvN;C+o1C.o0D0p5D3niD5nhD7p6D:nkD<njD>p7DAnmDCnlDEp8DHnoDJnnDLp9DOnqDQnpDSp:DVnsDXnrDZmMe0N;Dae0N8Dce0N6DeH~F*m9C,HNC~m@D2HND4HND6mAD9HND;HND=mBD@HNDBHNDDmCDGHNDIHNDKmDDNHNDPHNDRmEDUHNDWHNDYmFD_HNDbHNDdm?HNDg2"
def aN3:DT:=D1 "uyFcGSvpFdeWvlFfeWvjFheWvgFjeWveFlY5%<FnY5y+FpY5xyFrzGFeFgFiFkFmFoFqFslmFbFt.MC0.ZFu,4FvN;C+o1C.o0D0p5D3niD5nhD7p6D:nkD<njD>p7DAnmDCnlDEp8DHnoDJnnDLp9DOnqDQnpDSp:DVnsDXnrDZmMe0N;Dae0N8Dce0N6DeH~F*m9C,HNC~m@D2HND4HND6mAD9HND;HND=mBD@HNDBHNDDmCDGHNDIHNDKmDDNHNDPHNDRmEDUHNDWHNDYmFD_HNDbHNDdm?HNDgGd"
def I9:DT:=D1 "uyFuN;C*mYN8C,mYN6C~H~FuY6N;D2o1D4o0D6p5D9niD;nhD=p6D@nkDBnjDDp7DGnmDInlDKp8DNnoDPnnDRp9DUnqDWnpDYp:D_nsDbnrDdmMm9C+HNC.HND0m@D3HND5HND7mAD:HND<HND>mBDAHNDCHNDEmCDHHNDJHNDLmDDOHNDQHNDSmEDVHNDXHNDZmFDaHNDcHNDem?2"
def aN2:DT:=D1 "uyFbGSvpFceVvlFeeVvjFgeVvgFieVveFkY4%<FmY4y+FoY4xyFqzGFdFfFhFjFlFnFpFrlmFaFs.MB~.ZFt,4FuN;C*mYN8C,mYN6C~H~FuY6N;D2o1D4o0D6p5D9niD;nhD=p6D@nkDBnjDDp7DGnmDInlDKp8DNnoDPnnDRp9DUnqDWnpDYp:D_nsDbnrDdmMm9C+HNC.HND0m@D3HND5HND7mAD:HND<HND>mBDAHNDCHNDEmCDHHNDJHNDLmDDOHNDQHNDSmEDVHNDXHNDZmFDaHNDcHNDem?Gd"
def bo6:FD:=F1 "0DPA~ZWDUhXDUjoI=?VQ@eaKO1TP?5@vq6IZdiGejaB.j,CGYHjaB_j,ByYH~9~9jaB_j,ByYH~9~9YgJh"
def QM:FD:=F1 "0C1BEikFWPfI1*8HEE^QlPfI1*8HEE^?FBintHQJ6cMHEE^?FBi^=QaFWjH*8TPmuK8FX1V2xO?*PmFYI,xrFZH^AVFZ3N_*82nv@,3F^GUA=F^HMFWGOHMU^J3GQxr2?q?BQaGNWQCcWQCdWQCeWQCfWQCgWQChWQCiWQCj~%QkGN^q~%UVI6cMJh"
def JD:DT:=D1 "?BQaGNWQCcWQCdWQCeWQCfWQCgWQChWQCiWQCj~%2"
def IN:DT:=D1 "?BQaGN^q~%2"
def QL:FD:=F1 "0C8A*P<ZjUsC:p_k=%7C:2Uco5eau.T9O=G~3G~6J:%q9OE>KXJ.%qYUv?YU@Zi,Jm:4KREjh<;Za5K2a?l<YU@Zi,mHrpEjn2aPv?aP@ZElG~EmJm54KREoh<wtEsK2Q%Jh"
def QK:FD:=F1 "0C8A*P<ZjUsChp_k=%7Ch2Uco5eau.T9O=G~3G~6J:%q9OE>KXJ.%qYUv?YU@di,Z.:4V4Ejt<ev;ZaEmV4Ejpaev;ZaEmK2a?l<YU@di,mHrpEjn2aPv?aP@dElG~EmZ.54V4Eot<evwtErV4EopaevwtErK2Q%Jh"
def aW3:DT:=D1 "evwtEr2"
def QJ:FD:=F1 "0C8A*P<ZjUsCgp_k=%7Cg2Uco5eau.T9O=G~Ir@OLrJ,,aG~6LYUXS0Yb:jEJh"
def Z1:FD:=F1 "0C7B6Ar*5epUYs~_6IY?OAM<J2Rjp^Q>A@deVdAMEpJ2UYp^Q>A@YWHBGUAd9J2wI_02?@QiPksl"
def Z0:FD:=F1 "0BaB7vKBMZjM98KahR?RmgKa>OnnDS_T.QRaAKtV&v<TWZSuEGcuJ1HON%*pu;*pr5GdQ3w6J.TWZSuEGcuJ1HON%*pu;*pr5WIjT7fclDJm;6KRElXs5LtEpuE5uJRlN%oQEsu;oQEsr5L;?5jT7fc:QsJ.l9ZSuEGcuJ1PyN%oQEou;oQEor5WIjTEmfc5G~EoJmEp6KREqXsEsLtEuuEEsuJr>N%oQExu;oQExr5L;?Z"
def ZY:FD:=F1 "0BcAxAq*5s~suH.p~rIq;.?JKH:R>"
def ZX:FD:=F1 "0BbAxAq*5s~suH.p~Tvq;Rj.?JKH:R>"
def ZW:FD:=F1 "0BdvZM9KakHTqIYH.PSTvLXTWVri+LXTW.?HCJO^2"
def ZV:FD:=F1 "0BfB3Ar*5epUYs~_6IYH.p~Tvq;RjRDp~EmHCEsGtEqUYRDp~yUEzwI.?E%JeE~d~"
def QI:FD:=F1 "0BgBQvLi*s~?FAxVFBGIkBHIUBI_qOnM0S_R5QR&ejR8IJP:ukH?8GlAsP:ukH?8GlAtP:ukH?8GlkmukK0R4QFTvtnEjgVH.BgCLTaj<dxK@rEEvQ~L;VRTaJh"
def WZ:DT:=D1 "?euk"
def KF:FD:=F1 "0BBCBAtM98KakHV&VF_>TT_qOnM0S_R5QR&e*BArZb_>YwB~LGC0MBC1ZP9Oni*S_?<AxsJvYHFwj4TYHED2?FA,LR8QQ&pTvtaEj^U?7H.itTaElTj.,mw.,L;VRTaY8O4QwM6ErgVH.BgCLr=I@dxl@ILGsE+H3O3EmLBL;H.f3r=EpRDf3ErI@O_EqdxK@rEE.W:Hd^2"
def aW2:DT:=D1 "H.uFGd"
def aW1:DT:=D1 "H.X^a9"
def aN1:DT:=D1 "n1up2"
def aN0:DT:=D1 "?eitTaElTj.,mw.,Gd"
def AE:FD:=F1 "0AyB.e.O<2JUI?HFpDKCTFVUA~IUB0M8T:1JdJgS_IqQRKnKtR^OZd,B<IkB=IUB>_qOnM0S_R5QR&eQAd,ArIkAsMEB<IUB=J1B>IkBELGBFry<O>^CR,&AUY^4PF?<AzsJA%Ktv5Z1d,ArIkB<IUB=J1B>IkBRLGBSMBBTZP9Oni*S_?<AxsJvY_6ifd,ArIkB<IUB=J1B>IkBRLGBSMBBTQ;BYT&BZULB^sR:OnJKS_?<A%sJA&KtaBIYQ3w6K2?SAmIaAmOEw6JEHAWbJgH;Nh@M6j6=y>LzJEHAJSTV1H;NbGUA14J2WJZ7_0furE9T~OEw6I7L^GcJgT9JdJgGsNh@M<M69QqBVB+i*egIML^I.1T9JdJgGsL;ITzWEjXsElY0G&AyeTu&Gej0H>GvHOK2H.BCCvTaO5?@sd?6UYTtLrGUA1EmJ2Jkiy_0YhKZIL4EpODZEEo5HSEllu_WHZrL_IODHOPy,;Ema55lvYcG,I.1r=^L3JPL^e1r=kVEpIzQ3:KXraEtpIPkpUE*n&G*a?wR@lEtG~EuOEEvKXraEwpIO_pUE.W:HdG*H+T9raEwpIO_pUE.W:HdG*a?j2p>J.3EzraE%pIE%E&pUF2nHG*a?j2E%j?JmE*Ir@ME+G~E,PYE.raE~pIHPpUF8TsG*?5Q_E~E.QoA&B=EqR2F0o~F1pIF1F2pUF:F3IdHUKBKH<_XQiEp_GI.Jh"
def ZU:FD:=F1 "0BlA~s?ym33.XPJZg.XGaJ:r4ZgK8r4GayLJh"
def ZT:FD:=F1 "0BmA~s?ym33.XPJZg.XGaJ:r4ZgK8r4GayLJh"
def ZS:FD:=F1 "0BKB1P<%>J2G,TdQZP,BlCOJ&P4BmCPw8P4BmCPq:yN9PJ9^XPJ8OR7PJ7yLd~"
def ZR:FD:=F1 "0BDB7P<M9OMBEI9KapDMDWRq8I5UmIqJR%7BEjo_8U%opq8.NJRMAQZc5HDskJ&1IZ%j9ytRjR=3EjNmHDO??6;IZElJ8jbL^s=6J8urJ8Jh"
def ZQ:FD:=F1 "0BiA.P<%iTdK?TFsmmZgSHEBMQZnZq7Ukh?j&G,epRj2rHrJfFt6"
def QH:FD:=F1 "0BjBLijijAt%i2Y@dJUcK?TFAoTmAqJA+pOmHEBMTqnZq7>UkI%I+yRGUA=8IR7?2?zPm:Jm3EjKRwbY1Om&OWPPbGeEpO;QkGjEjOmL;H+zW8Q.I1OmHKLCPJ=HBrHGiL;Gy=GiJh"
def QG:FD:=F1 "0BDB7P<M9OMBJ2rvYipDHFZKm5PFIqKtR^WRq8I5UmIqmkZKm5PFKnKtY9?fBJ2rvuqAr?NA%U%opq8.NmkZKm5PFVmMATqc5LJskq7Uk%j8UlA09J2I1p^U>rQ3;NmLJes?6Ele1OmNmO9HT;OmjbjgPnAm6OmurOmJh"
def Dj:FD:=F1 "0B0BVX%M94KapDMDWRq8I5UmIqJR+QZbArZcAsidUy?fBH2gErvTEuqA+IkA,IUA._qjr.NmkKJHEBDHFjWm5HFbLAsHEBCPFQYKt_hJRV&OZZHZbArZcAsidUy?fBH2gErvTE2J6pDHFKJHEBDHFjWm5HFbLApHEBCPFKnKtUhJRR^QAZHZbArZcAsidUy?fBH2gErvTEuqBIIkBJIUBK_qjr.NmkKJHEBDHFjWm5HFbLAsHEBCPFQYKt_hJRV&IY?SAmfwHlKhLiJrUHGsj8H;VI7Ulpqr^p^fuY?rtH>H@BjCT4QrKxG.A18r^_0U>QrR=9EofuY>?3B0K:EqG,Ep5lqIcK@Y?K:5H>zoY??6H>TPK04K8d^HS4JB9j948JW4wH4JB;GaGUAk4ElGUA0=J2I12GcfvY0Y>es?6I.j8Em>UVHVHWNaQzdHCUQeUgVRR,eMRT7Ulpqr^p^&GY?rtH>H@BjCT4QrKxG.A18r^_0U>QrR=9Eo&GY>?3B0K:EqG,Ep5lqg1KZY?K:5H>zoY??6H>Jh"
def QF:FD:=F1 "0A~A+P<%iTdjcsmIkYOgSZAQZnZq7Ukh?UlAXJ2RjepG,2HJHBrJfFZMGiJh"
def ZP:FD:=F1 "0BYB9P<%>J2G,TdQZymJ&J:J&jFORw8J:w8jFJ:q:jFJh"
def KD:FD:=F1 "0B9BEX%%iTdjcVUXzU%AsY.+vZAK1ZITqJ_VUXzU%AsZi+vZAK1ZITqP,dPKDrO3ys3JEl&peTV1UkTtLua;8NgBYCZOmI1Hz?7UoOmR=dTU>rQPyHMQp_@EoIZEpOmIs?7UorQdTNmG&pxfI5OmL;UoOmR=38dz%+27%j8ytrQ3;HMUw?6Ele1OmK2dMTGY,Jh"
def Di:FD:=F1 "0B:BKe,oOJ_e*hnPBnJK?OZrR~6Lk?VnJTqQArRAtMEAuY.~6T&B3OhB4ULB5sQnJHFQrHEC%_5QArRAtMEAuZi~6T&B3OhB4ULB5sQnJHFQrHEC%_5+SskI+Uaf,j>HS<tTf=dzh3~2wH3Y0dqO;QFI1^Lrz8bYL>7%u7LYEl:m:_Xz:EmQrm:KZz:EmQrzC:LvdTtpfIG,5bYL>7%u7m:_Xz:EmQr^L9jqElJh"
def QE:FD:=F1 "0C4B:vLnDYiTG~nQlzZ~nUzVFB0IkB1IUB2M8e=nT<%*n8VeUh^NAq^NAsUv_iUvV&IY?;@r9GoRM9Lv3:HSwLoapdQFEjQOHSwLjgHO1bBtn7gVHVOTbpC4CaH>n<U9S@A&s4esK:ErEmLBL;?@jgH>Jh"
def KC:FD:=F1 "0BZCQAuM9<zZ~nQlzZ~nQZVFe~M8e=nT<%*n8VeUh^NAq^NAsUv_iUvV&ZVe5e~J1A&LGA*MBA+ZPjxP5At7M7AvPnAwVeHFs.HEC1_h^NAt^NAvUvJ=AwUvaBLR<JEjgf=bBta7^UOSwfG&A%Xt_YrL_IH>QrPyK2?@jgH>Y8O4QwM6EpgVG_Tl2C4CaG%I1H1JOU9l@H4s4esi_NnqaGvI.L;LCGaeXEpUUHWNeeF9Eqd%oSP9ErI@VvoKK:E&H3flI3~?Hn~?J<mH~=:~SNeL_P9QfEsEj~fJcyV~=Ej~SNaNeP9R,Es~fJ9UU,:.;~eflGXo4.;kYG*G_,:d%~e^2"
def aM9:DT:=D1 "?5@VW4kZtSG*"
def aM8:DT:=D1 "LCGaeXEpUUHWNeeF9Eqd%oSP9ErI@VvoKK:E&H3flI3~?Hn~?J<mH~=:~SNeL_P9QfEsEj~fJcyV~=Ej~SNaNeP9R,Es~fJ9UU,:.;~eflGXo4.;kYG*G_,:d%~eG*"
def KB:FD:=F1 "0B;B=AsaCB&jn2^EbB2Y9bXe5hnTDH;GiH;VeHF+l9n8PnAuVe^@^NAr^NAtUvbaUvUzVnbXe5~6gOH;GiH;VeHFRCAt%+:pAVe_i^NAu^NAwUvJ=AxUv_5+SeTO2O2%aLuT<H;GiH;O=f,y?yVI7O9jKEjQF_pdz+l9n8PnAu2_p~2Elh<Em3dIsg8OdV19JPH4s4esi_^8EueKO69JPO9^8Ep8Od^LKvO9rL8OdJh"
def QD:FD:=F1 "0B=B0P<nX>MCR^PLIko6Ytzw?6Lr<UaoJh<qCnV7t6"
def QC:FD:=F1 "0B>A~P<jn%6Iko6YtP,B:C_GjZD>JE?6G,1TtLuf,j>LYqCnV9HJk8"
def Gy:FD:=F1 "0B<BXijAsnXJ8MCQZPLIksmTCJ1A&LGA*rynDP?UzVnIksmVib^LGA&MBA*Q;B4T&B5ULB6sRn<P?_6_zIksmVib^LGA&MBA*Q;BFT&BGULBHsR:9qKP?_5LR<Qk>Gcf=KDrXIGf<y?Jm7Ir@dPNd*GeEjq;Py1nDYgkVEmh<5W0o7Ga37K=7Of3Eqq=Ern<O67OfHLEqn<^KEjy1Z=EjYV:L8bYZ.d_V4Elt<evEmW0o7L1dbK=qHw4q=EpQrO6qHHLEoQrV4ElpaevEmW0o7L1dbK=qHw4q=EpQrO6qHHLEoQr^L<PbGeGsEl:9qKJh"
def aW0:DT:=D1 "Gzo7L1dbK=qHw4q=EpQrGd"
def aM7:DT:=D1 "?BQuHLEoQr2"
def oY:FD:=F1 "0AwDKAuO^,>Y9YvAr???>B9IUB:M8O;P?TqVncF?>BCJ1BDLGBEryOD=c%V&_zehedBLQ;BMgORj4eiUYYd_6Z1gciMQYJ6I14eiGvYdicifpRBoeJBph7BqosHB.JifpRBoeJBph7BqosGi.JplpRB.eJB~h7C0osHB.JplpRB.eJB~h7C0osGi.J?UAspRCOeJCPh7CQosHB7EsnxA~?UAspRCOeJCPh7CQosGi7EsnxA~?UAtkFkKC%eJC&h7C*kXpjr*QkGcT<KDNbH@s,L1Z7K=Tk8U.O;GdK0qFl&KOGcr<G,rXJmf<KR7XsEjY0rE>I+ZoODQrjbKOn7urg5H@YPdUKuK=9KZL^fIG,VWZEUbB:C_UYZDEmluQiPy1wITt89IG<8G~5H@s,UQP4B;CcGvEoK;?HGRJsvhI1LuEqZDEvlvjgEpYlQy1K*H1PkIHMIGRJsvhI1LuEqZDEvr7jgEpYlQy1K*H1PkINKHq>bdGs5I1rY.LzkdfUQ+UYa~@rrvhGvLuErZDEur8LJTpH01dyTtdc.LzkdfUQ+UrA~@rrvhGvLuErZDEur9LJTpH01dyTtdc.Lm1Gam+UQdf+UZ>~@WPZ>LJh4EydyrrYPl7Z7^6AbI3Z7UQUQI3Z7fdQDHSwyAvoa?6EuUZH>EsaUHhEtTtdc.Lm1Gam+UQdf+Ufp~@WPfpLJh4Eydy^KwyAwLJTpEs_KHhEtrYU__F^9Etk9B=CdY_EvHkv@E%KRE&NgB>CeLEEwP4s,mh^6AHUQmhUQz2mhz2kEF0WPH<AvG&A,_Y?6E~F1Z8F2HhEsL4?EK0wyAxHlTpJO1_VrYU__F^9Etk9B=CdY_EvHkv@E%KRE&NgB>CeLEEwP4s,mh^6AHUQmhUQz2mhz2kEF0WPH<AwG&A,_Y?6E~F1Z8F2HhEsL4?EK0wyAxHlTpJO1_VrYU__F^9Eqk9B>CeH:EtP4s,HnZ7^6AHUQHnZ7UQTeExHnZ7TeExkEEzWPH<AxG&A+HAjLaVZ8E&_VKBKH8_XYcO;Eq_VJh"
def yy:FD:=F1 "0A,BMijAsIVGjMCMD&UAt^?LG,SzgsK+2?I?VQ@_z+2Y.B6IkvfB8Yt_z+2ZiB6IkvfB8YtVn+2?A?VQ@+SK:GcI+1hT9NgdP3RjjOYP=RjK=<I4K:;GsElJvPAI4Nn;zou.TPmuY0mJnd*Ok9*sODjO*sI1V64KZHTEmyro7I1K=w>zJUdIc4KZrLL;?BArK:O=nd*Ok9*sODjO*sI1V6w>HTEmyro7I1K=w>zJUdIcw>rLzoK:TPGy6Jh"
def KA:FD:=F1 "0AxB6s?TFhnYtT%mGORI+IQmGJEK:T<O=oJQ>@OJ&KR7&=<GqAYr^epElG%2IQTIEmUVel"
def Kz:FD:=F1 "0A+BMX%a:TFAr?NAvAn?>AuJ1txKn?VV5ZIR^r*JEO2KOGcIZ1rXIGf<dpJ3>L1dzHcAvAna=&;HSIr@wJ97J:8:&;HSIr@oqKJmdTKREmytH:R=6Eqk2HAKOErI+EszB@oQEAuPmEjNwQEAuV2ElWJPmEmNwQEB;PmEoU>;5EpR=6Eqk2HAKOErI+EsdzHcAvAna=Jh"
def yx:FD:=F1 "0ArCCAtLbjnMCjckl*+BM?NAxAqv3Q;BOgO8ha.j^@*?R5UmT.JRXwOZrS*+AzPv,SY.BM_8Arv3T&BOULB_?NAzAu?>Bah7Bbhf;JNA%jW.jHFY1ZAb_ZIba*??<A&Um?<A*JRpjZ1rSAxTQU%A~?NAxAn?>C2J1C3LGC4ry<haRAK1ZIV5UmLkUmQYJR&~rS*+AzPv,SY.BM_8Arv3T&BOULBqJ1BreJBsT.J6EjZKJNA%.jHFGvZAb_*??<A%Um?<A&JRaBQArS*+AzPv,SZiBM_8Arv3T&BOULBqJ1BreJBsT.J6EjZKJNA%.jHFGvZAb_*??<A%Um?<A&JRaBP,AuD6jOAvC9GjUgQ3<KXTBAyCN<O5GzAwCgR,K;OSwk_ITBA+CpEm4Hke%EqEmU>GXJgR=R8jIJEHAO2ToTA?6PyEpGcPk1UYUiQtJMTt_DI,_CJW_CIzsMGeHqA&nyUYK,A,CiGeEmHke%Eo3KG@kEp=yWI7^3HAesTAjK5OmH118UYHO^0K0=Y0H4O2TAN^Gc=K3RjrYI,_FJW_F&=ElH~EqZOVlJw;y4B2nyEuR8r%;GtEvtex6PybHE%1H@dP>KcV6EjJPY>h4E*ExY1X*KpUbdP>KcHzJMIsIcEjJPY>h4E*ExY1X*INHxK0=luHlKhLiTpfM_VrXJmf<KR7&=:U>ElqKR=6EmYhKZH4esTAKO5I+EoODK2YFJQNaJwODsTOykwOD6dwsM7TGOyAxCo7M2y;wQJm=:KREpNgdP>KcV6:YaO9Tp7Euz3IsIc:_XO9Tp7Euz3gK8I4H4sdHTQwdaEjI.I%wQJm=:KREpQ>KPYaO9Tp7Etz3K2UoGvR=4EpHM8I4fjsdHTEql?ErEjI.Jh"
def vA:FD:=F1 "0BCB,e.M9KaXeJUI?HFpDTqLa^eA*PQJ63haQO&AgmjWJNA*nSAyLkQYm6PFLkQRR5Ktb_*n*nJRXw?UBMQM^eA*PvA,?IJ63haQO&AgmjWJNA*nSAyLkQYJ2I12;m6PFLksJvYb_bc?<Azbc?<AzJRic?UBMQM^eA*PvA,?AJ63haQO&AgmjWJNA*nSAyLkQYm6PFLkQRR5Ktb_*n*nJRXwOZd,BC?JAwJ6RCAmhanSA%I=I5m6%5IqbcKnJRPp?<HgKAR^?UBNd,BCMEBE?IJ6RCAmhanSA%I=I5J2H>72:m6%5aAbc?<AxJRPp?<HgKA_5?UBNd,BCMEBE?AJ6RCAmhanSA%I=I5m6%5IqbcKnJRPp?<HgKAR^QAd,BiTQU%BjIUBkM8TGO>^CRA%5IqbcKnJRsb?SAmIaAmJEG&A%LieTO2TANnGc<l?GcTP?pApAtA*AoApY?HTO;5JKHO2Tv5JKHO2Y?h42rITPUorQ<5JEzvPrNnEoG%GnTP?:r,BhD2<KdAqXtToKhPrJr?6Ej7HO:Gd?M?pAsAoBCArAsO9rtODOdGsurElODOdGs2O9Nn2bBTP?OANEjJ2G,I9H,UoQfR=deGUA@El5EpH^AN;J2QfI9H,UoG,R=EsOqA@ErEtEvluO9HTEqEwUV?Mmur8_WTAKOd^GsNbI,^IIz?OAP4yzI9xp?:r,BhD2:HK?OAP>yzI9xp?:Qz2BhD2ElK==GaIaAqO>GUAO7yz2EjIaAq^CGUAO;yz2Emr8HlK:H:L;?9Hx?E?SAqO>GUAL4IaAq^CGUAL>Hs_WjLTGl?2TV9Jh"
def Ky:FD:=F1 "0CjBPAs~;n4TmAu_tZVc~TmAuLGAvzasbzHnFO=tT4Ji3TPXvqAL>>sB&>>U67PC7Q.ODQrRBZoJB>V3>U65PC5o2sBo2L5iyGtEqL>EmL5EuEmqTJB>OfEvUkEwTKKHrzEmYYKHrz<Jh"
def QB:FD:=F1 "0DKBqAtt0kDK?LaOhAoIUApJ1t2_t^=Qaq56TP?5@wI34YhGaJ.<6Ji3yPGaJ:96sOL>8PC8eHq:HM;U6ElPCElQ.I1wjRBEp1yPGaHMmdErPCEreH=EqL>EvPCEvQ.KkKIRBEz1yRQjEqQjEqL>E*PCE*eHmdE~PCE~Y;E%L53E%qgE.L>E&L5F3E&F0F1F2QkF4IZEq&WYYKHmdEqPCEqeHq:L>EuPCEuQ.qTdfRBqZyRsOsOL>E&PCE&eHmdE.PCE.Y;EzL53EzLEL>E%L5F2E%HfQkF3^>&WYY?9KeKHmd8PC8eHq:L>;PCwbI1Y1&OyRsOsOL>ErPCEreHmdEvPCEvY;EpL53EpKkL>EqL5EzEqKIQkE%^>&WYY?Z"
def Kx:FD:=F1 "0CkBWAs~;LaOhApTmYO?4U%Awe4_tZVOhApTmYO?4U%AyZFMA+iKYJBdYNw>I3QkGeQwTPM=s5DKCxJ&KYfzKvGp>^>WI@I=eA>TPM=Z7HMIZHMIZL>>sBLK*qODe3w_I1GuDKCxZoKYtZOfEm_BYYHxjPJh"
def QA:FD:=F1 "0CnB=As~;LaOhYOZFMA+iVu4I%IZI,cH*qG,I,j^:=QfO7V3TkUY&WJh"
def Qz:FD:=F1 "0ClBbAt~;LaUtAuJ1AvMEAwLGAxzaHF<VfBHQZU:@IKYrpJ9GUA=4H@DLD44Hk@b,1qEO78JB7I4bdQw:>GdjPTP?5@b=L1_QqEO78m:Gaso:ZeDMD5<K;G.@I4?2?zGUAUfDPmEmJ.5=JB5=O7EoO7EoL>EqPCEqo2sBo2L5iyqTL>EpL5ExEpr>k2JSEyUkEzwcKH_BO75L>EpPCEpo2sBo2L5iyKcL>EoL5EwEoHRk2JSExUkEywc?9jPJh"
def ZO:FD:=F1 "0DxB;ijAw?cAxk3UnY&HF4m3Q@?RUcHpd&HF4m3K?IYIhcHs+k6LAKY3;2LAIZJ&YY?Z"
def ZN:FD:=F1 "0DOBDijAyt0UnY&HF>m3Q@yTmk=m3sbKNDxC&QedwKNDxC&8947dwKNDxC&;<:EldwLAH:d~"
def ZM:FD:=F1 "0DNA,ArkgYk6UnY&HF=m3Q@yTmk=m3+i6GaO7P1KNDOC*J&w8=O5LAODR>"
def ZL:FD:=F1 "0CmBZAtkg?cAvk3eZUcHpd&+iKYNw,1>GaO7<Nw,18I3O77Nw,1EjHnO7;rpJ9rpxqZdDNC+3W1O5KNDNC+5:EoO5KNDNC+EqElErO5KNDOC*EtEmEpqU%eaUJiEvGaEwJ3ExJQJiEvI3EwJiOkEwUiKNDOC*39:Zo%e_IJiEmGa5J3EoJQJiEmI35JiYV5GdI6:Ga3Jh"
def Dh:FD:=F1 "0CoCZAukgk3Y&KCyTJRMDn4&bzaR^ZVc~&bzaR^jtc~&bMBAxKykfQZt1c~&bMBAyKykfQZIYzHnF1I%>JDI7&hjX3O=I,VA&>4U67PC7Q.ODQrRBZoJ3LumomcKYJ:EmxqjXmc4V34U6EoPCEoLK*4RlL>5L5x2KkJBl;J.ExI3JBi&x8EyJByuEyI3*=x8EzYhPbEwUkEzTKKHM5U7Em>YYH?LumomcKYJ:<xqjXmc4V34U68PC8LK*4I1L>9L5PHGvJBl;J.EpI3JBi&EoQOEqJByuEqI3*=EoQOErYhPbEoUkErTK?MM=qD<&2&>qD:PC:Q.QfUYRBYVJB<V3qDEoPCEojh&2jhL5TVRlL>5L5x2KkJB<PMx8ExTK_4yu5I3*=bBEoYhnFEoYY_4yuqE*=bB8YhnF8I%<=L><&2&>qD:PC:Q.QfUYRBYVJB<V3qDEoPCEojh&2jhL5TVRlL>5L5x2KkyPQhx8ExTKKH>nF5YYKH>nF9Jh"
def Gx:FD:=F1 "0CpByAt?cAwt0Y&KCyTJRK?Lah=tz_tZVh=tz_tjth=tz_tIYma*qu>O7V3Tkt*?M?BTStmoN^IkTy1KDQjeAw_YY?BQutmoNVAkTJBi&Gj;K8I+Ji,0XApLGve3Eq4H:nMKvGpEr6JOTK?9KeXvI+Ji,0XApLu>nMKvGpt*?Z"
def AD:FD:=F1 "0CqD1Au?cAw?cAxt0eZUcHpd&K?Lat_ZVt_jtt_t1t_ifQMt_IYma*qu>O7V3Tkt*?MibbZcHs+rJw_tTYY?BTStmbZXAs+K8oN*4GvmeEq6H:z;HBErTK+cGve3Eq4H:+kEr6JOTK_4M5U7;YYXvoNXATz3O;meEj6Rjz;HBwc+cu>+kt*?M?BMFtmbZcHs+Qj&Fw_lvGpKDYY?BArGptmbZXAs+K8oN*4GvmeEq6H:z;GiErTK+cGve3Eq4H:+kEr6JOTK_44YaU7;YYXvoNXATz3O;meEj6Rjz;Giwc+cu>+kt*?Z"
def sd:FD:=F1 "0C=CeAut0kDK?+hZiAx?Iv;+hY.Ax?Iv;+hZiAx?Av;+hY.Ax?Av;^=Qam&~gv.Gj%eqEy8wD,@<OBN_GuCoC.wKf&I6EmIsGWn,5JWPyY;;JWEmwbNxJORB_KdmfIwdpW*IPbO3U=*IOfO3U<p2bxZzV0^wbzZzdZpW*IPMO3U=*IQhO3U<p2byZzV0^wbwZzq@fI;eCQaqYrZfIwdpT,mPbPkU=,mOfPkU<nRbxw.V0^ubzw.dZpT,mPMPkU=,mQhPkU<nRbyw.V0^ubww.4UiH?9H%CoC.wDf&I6:IsGWn,EjJWN_jhJW:<Q._VRBfMdm:^>VDpV*HPbGwU=*HOfGwU<nPbxZyV0^vbzZydZpV*HPMGwU=*HQhGwU<nPbyZyV0^vbwZyq@:^>eCQaEsErrZ:^>VDpS*FPbTYU=*FOfTYU<p=bxZrV0lHbzZrdZpS*FPMTYU=*FQhTYU<p=byZrV0lHbwZr4yk7JWUXjhJW8<Q._G5&Odm+Y~RPb.hOf.gbx+1bzfUdZ~RPM.hQh.gby+1bwfUq@lBeCQaEqEprZ+Y~OPb.DOf.Cbx*.bzfJdZ~OPM.DQh.Cby*.bwfJ4IN?M~gClC%Gjfz4H%v.<IZO5IXI3y8f@,@8OBL8K8eL5JW_HY;EmJWwXQ.NxJORB_Kdm+Z++Pb.WOf.Vgi*KgkZzlA++PM.WQh.Vgj*KghZzwBlIeCTSqYze+Z+&Pb.eOf.dgi+0gkfTVH+&PM.eQh.dgj+0ghfTykEjJWN_Y;8JW:8Q._VRBfMdm+r+*Pb.9Of.8gi*JgkZylA+*PM.9Qh.8gj*JghZywBo^eCTSEsErze+r+%Pb.nOf.mgi*GgkZrlA+%PM.nQh.mgj*GghZr9Ui?M~gv.Gj%eqEy8wD,@<OBN_K8eLElJW7ElY;;JW7wbEmHCRBEs1dmwKwdEtO,EtO.O_J.EwEyOu,rPbGxU=,rOfGxU<GwHM,pbxxBV0,pbzxBdZEtO,EtO.O_J.EwEyOu,rPMGxU=,rQhGxU<GwHM,pbyxBV0,pbwxBq@wK;eCQuEuEtrZwKwdElO,ElO.GtJ.EoEqOu,kPbR8U=,kOfR8U<TYHM,ibxwzO6,ibzwzVHElO,ElO.GtJ.EoEqOu,kPMR8U=,kQhR8U<TYHM,ibywzO6,ibwwzyk7JWUXjhJW8<Q._G5&Odm+Y~RPb.hOf.gbx+1bzfUdZ~RPM.hQh.gby+1bwfUq@lBeCQuEqEprZ+Y~OPb.DOf.Cbx*.bzfJdZ~OPM.DQh.Cby*.bwfJ4IN?M~gClC%Gjfz4H%v.<IZO5IXI3y8f@,@8OBL8K8eL5JW_HY;EmJWwXQ.NxJORB_Kdm+Z++Pb.WOf.Vgi*KgkZzlA++PM.WQh.Vgj*KghZzwBlIeCMFqYze+Z+&Pb.eOf.dgi+0gkfTVH+&PM.eQh.dgj+0ghfTykEjJWN_Y;8JW:8Q._VRBfMdm+r+*Pb.9Of.8gi*JgkZylA+*PM.9Qh.8gj*JghZywBo^eCMFEsErze+r+%Pb.nOf.mgi*GgkZrlA+%PM.nQh.mgj*GghZr9nf"
def ZK:FD:=F1 "0BhvZYkkDKCLRIrA=6H@C>D3=dtItT9P=du>^2"
def ZJ:FD:=F1 "0C>AuAqO^^WIYM=q3@;IRq3@:z@?2?+IR6M;J.=?2v==%14kB?6>Pm<m;BS9HJ8H~=kBN^Pm>m;BK<yKz@?2v=6%1=kBN^Pm>m;BC<yKH~6kBu&Pm4m;B;>yJJ.q3?+IR3M;z@?2v=6%1=kBN^Pm>m;B3<yKH~6kBu&Pm4HMNe>yJJ.q3v=3%16kBu&Pm4HMJ9>yJH~Ir@~iOu%Pm=HM14yIJh"
def ZI:FD:=F1 "0DLAtAqO^^WU:A=q4C>D36HkA<?2?z=S0R>"
def ZH:FD:=F1 "0DMB<e,M9Ka3VfBH^O6VfBHKCU:A<q3@8GUADGeIR=?2@<GUADI+GUA<>?2@9GUADJ8Ji99Jh"
def bo5:FD:=F1 "0AuBdAt?cAmIVMCJUP,BOD7HexpVQd^ORd^TBAyCNKXGVHtpqJ2_kP1lswRpq+@EjiL&E;J3EoHn+b;EjiL&EwkqS+bdcGUpq+@wi&EwkqSQ9J3Erj9QFJWQFj&KkuumXpEn*Emwi&EEoJ3EsHnQ9J3Etj9QFJWQFj&r>uufvJ3Exj9j0JWj0j&W:epgBI9sL%tRlHqB3nygBr%RlE&teE**bbHleKUH6%tqgE.HqB7ny*br%qgE.F0teF1gBbH_MIQHJHBy=y=pEpEG*GzB7C8KDP6VQaNTBAyCN9GVHtA0:J2_kP1lsaPA0:+@wiyewkqS+bEmwiyeEoJ3EsHn+bElaPA0:+@5iLyeEoJ3EsHnNyJ3Etj9YVJWYVj&r>uumXpEn*Eo5iLyeEqJ3EuHnNyJ3Evj9YVJWYVj&KIuuHSEpJ3Ezj9Ep1JWEp1j&E%O3epgBI9sL%tqTHqB3nygBr%qTE+teE,*bbHTrKUH6%tj3HqB7ny*br%j3F2teF3gBbHF71IQHJHBy=y=pEpEnf"
def bo4:FD:=F1 "0BOB<AsXxBqdNLbIVYuPoC3PoCHPo+.JTO:PoCHPoaLPoCE?3p&vvPoBXJTKS?3BVPoaLPoCF?3p&vvPoBXJTKS?3BVJTgYPoC5?3BC?3BDPoCHPoCEPoBXPoCFPoBFJTLj?3BVPoCJPoCJPoCJ?6dJJ2gFJ82JUIYsMQgu,HqETVhAGyAv0yBv0GU@cIJyB?6P%JkGoGaGcGUVSA%I^6GU@&JkyAUx=H;xsm0pei%@V>xsKsKO<K,vuQgu,9yN8PJWK18GUAGyAv0yBv0GU@cIJyB?6P%JkGoGaGcGUVSA%I^wR@&JkyAUxEjH;xsm0peaP@VElxsKspdEmHsI*C3u,HqETIBe7Qgu,5JgR>"
def bD2:DT:=dD oK 0
def cs9:DT:=dD fd1 0
def cs8:DT:=dD fd2 0
def cs7:DT:=dD T3 0
def cs6:DT:=dD T3 1
def cs5:DT:=dD fd4 0
def cs4:DT:=dD fd5 0
def cs3:DT:=dD TZ 0
def cs1:DT:=dD TZ 1
def bD1:DT:=dD EK 0
def al1:DT:=dD EK 1
def cr9:DT:=dD fd8 0
def cr8:DT:=dD TY 0
def cr7:DT:=dD TY 1
def cn3:DT:=dD Ss 0
def cn2:DT:=dD Ss 1
def cn1:DT:=dD sC 0
def cn0:DT:=dD sC 1
def cm9:DT:=dD sC 2
def cm8:DT:=dD sC 3
def cm7:DT:=dD sC 4
def cm6:DT:=dD sC 5
def cm5:DT:=dD sC 6
def cm4:DT:=dD sC 7
def cm3:DT:=dD sC 8
def cm2:DT:=dD sC 9
def cm1:DT:=dD Sr 0
def cm0:DT:=dD Sr 1
def cl9:DT:=dD Lt 0
def cl8:DT:=dD Lt 1
def cl7:DT:=dD Lt 2
def cl6:DT:=dD yP 0
def cl5:DT:=dD yP 1
def cl4:DT:=dD yP 2
def cl3:DT:=dD yP 3
def cl2:DT:=dD yP 4
def cl1:DT:=dD yP 5
def cl0:DT:=dD yP 6
def ck9:DT:=dD Sq 0
def ck8:DT:=dD Sq 1
def ck7:DT:=dD Sp 0
def ck6:DT:=dD Sp 1
def ck4:DT:=dD So 0
def ck3:DT:=dD So 1
def ck1:DT:=dD ak6 0
def ck0:DT:=dD ak5 0
def cj9:DT:=dD Sn 0
def cj8:DT:=dD Sn 1
def cj7:DT:=dD Sm 0
def cj6:DT:=dD Sm 1
def cj5:DT:=dD Sl 0
def cj4:DT:=dD Sl 1
def cj3:DT:=dD Sk 0
def cj2:DT:=dD Sk 1
def cj1:DT:=dD Sj 0
def cj0:DT:=dD Sj 1
def ci9:DT:=dD Si 0
def ci8:DT:=dD Si 1
def ci7:DT:=dD Sh 0
def ci6:DT:=dD Sh 1
def ci5:DT:=dD Hh 0
def ci4:DT:=dD Hh 1
def ci3:DT:=dD Hh 2
def ci2:DT:=dD Hh 3
def ci1:DT:=dD Hg 0
def ci0:DT:=dD Hg 1
def ch9:DT:=dD Hg 2
def ch8:DT:=dD Hg 3
def ch7:DT:=dD Hf 0
def ch6:DT:=dD Hf 1
def ch5:DT:=dD Hf 2
def ch4:DT:=dD Hf 3
def ch3:DT:=dD ak4 0
def ch2:DT:=dD ak3 0
def ch1:DT:=dD ak2 0
def ch0:DT:=dD ak1 0
def cg9:DT:=dD Sg 0
def cg8:DT:=dD Sg 1
def cg7:DT:=dD ak0 0
def cg6:DT:=dD Sf 0
def cg5:DT:=dD Sf 1
def cg4:DT:=dD aj9 0
def cg3:DT:=dD aj8 0
def cg2:DT:=dD DV 0
def cg1:DT:=dD DV 1
def cg0:DT:=dD DV 3
def cf9:DT:=dD DV 5
def cf8:DT:=dD DV 7
def cf7:DT:=dD He 0
def cf6:DT:=dD He 1
def cf5:DT:=dD He 2
def cf4:DT:=dD He 3
def cf3:DT:=dD aj7 0
def cf2:DT:=dD aj6 0
def cf0:DT:=dD Se 0
def ce9:DT:=dD Se 1
def ce8:DT:=dD Sd 0
def ce7:DT:=dD Sd 1
def ce6:DT:=dD Sa 0
def ce5:DT:=dD Sa 1
def ce4:DT:=dD aj5 0
def ce3:DT:=dD R' 0
def ce2:DT:=dD R' 1
def ce1:DT:=dD Ls 0
def ce0:DT:=dD Ls 1
def cd9:DT:=dD Ls 2
def cd8:DT:=dD R9 0
def cd7:DT:=dD R9 1
def cd6:DT:=dD aj4 0
def cd5:DT:=dD aj3 0
def cd4:DT:=dD aj2 0
def cd3:DT:=dD R8 0
def cd2:DT:=dD R8 1
def cd1:DT:=dD Lr 0
def cd0:DT:=dD Lr 1
def cc9:DT:=dD Lr 2
def cc8:DT:=dD R7 0
def cc7:DT:=dD R7 1
def cc6:DT:=dD Hc 0
def cc5:DT:=dD Hc 1
def cc4:DT:=dD Hc 2
def cc3:DT:=dD Hc 3
def cc2:DT:=dD R6 0
def cc1:DT:=dD R6 1
def cc0:DT:=dD aj1 0
def cb9:DT:=dD aj0 0
def cb8:DT:=dD ai9 0
def cb7:DT:=dD ai8 0
def cb6:DT:=dD ai7 0
def cb5:DT:=dD R5 0
def cb4:DT:=dD R5 1
def cb3:DT:=dD ai6 0
def cb2:DT:=dD R4 0
def cb1:DT:=dD R4 1
def ca9:DT:=dD ai5 0
def ca8:DT:=dD ai4 0
def ca7:DT:=dD R3 0
def ca6:DT:=dD R3 1
def ca5:DT:=dD Lq 0
def ca4:DT:=dD Lq 1
def ca3:DT:=dD Lq 2
def ca2:DT:=dD R2 0
def ca1:DT:=dD R2 1
def ca0:DT:=dD ai3 0
def bZ9:DT:=dD ai2 0
def bZ8:DT:=dD R1 0
def bZ7:DT:=dD R1 1
def bZ6:DT:=dD ai1 0
def bZ5:DT:=dD ai0 0
def bZ4:DT:=dD R0 0
def bZ3:DT:=dD R0 1
def bZ2:DT:=dD ah9 0
def bZ1:DT:=dD ue 0
def bZ0:DT:=dD ue 1
def bY9:DT:=dD ue 2
def bY8:DT:=dD ue 3
def bY7:DT:=dD ue 4
def bY6:DT:=dD ue 5
def bY5:DT:=dD ue 6
def bY4:DT:=dD ue 7
def bY3:DT:=dD ue 8
def bq8:DT:=dD RZ 0
def bY2:DT:=dD ah8 0
def bY1:DT:=dD ah7 0
def bY0:DT:=dD Lp 0
def bX9:DT:=dD Lp 1
def bX8:DT:=dD Lp 2
def bX7:DT:=dD Lo 0
def bX6:DT:=dD Lo 1
def bX5:DT:=dD Lo 2
def bX4:DT:=dD RY 0
def bX3:DT:=dD RY 1
def bX2:DT:=dD RX 0
def bX1:DT:=dD RX 1
def bX0:DT:=dD RW 0
def bW9:DT:=dD RW 1
def bW8:DT:=dD RV 0
def bW7:DT:=dD RV 1
def bW6:DT:=dD RU 0
def bW5:DT:=dD RU 1
def bW4:DT:=dD ah6 0
def bW3:DT:=dD ah5 0
def bW2:DT:=dD ah4 0
def bW1:DT:=dD ah3 0
def bW0:DT:=dD ah2 0
def bV9:DT:=dD ah1 0
def bV8:DT:=dD ah0 0
def bV7:DT:=dD ag9 0
def bV6:DT:=dD ag8 0
def bV5:DT:=dD ag7 0
def bU4:DT:=dD KI 0
def bU3:DT:=dD KI 1
def bU2:DT:=dD KI 2
def bU1:DT:=dD Z5 0
def bU0:DT:=dD QP 0
def bT9:DT:=dD QP 1
def bT8:DT:=dD QO 0
def bT7:DT:=dD QO 1
def bT6:DT:=dD QN 0
def bT5:DT:=dD QN 1
def bT4:DT:=dD KH 0
def bT3:DT:=dD KH 1
def bT2:DT:=dD KH 2
def bT1:DT:=dD GA 0
def bT0:DT:=dD GA 1
def bS9:DT:=dD GA 2
def bS8:DT:=dD GA 3
def bS7:DT:=dD Z4 0
def bS6:DT:=dD Z3 0
def bS5:DT:=dD Gz 0
def bS4:DT:=dD Gz 1
def bS3:DT:=dD Gz 2
def bS2:DT:=dD Gz 3
def bS1:DT:=dD KG 0
def bS0:DT:=dD KG 1
def bR9:DT:=dD KG 2
def YN:DT:=dD Z2 0
def bR8:DT:=dD QM 0
def bR7:DT:=dD QM 1
def bR6:DT:=dD QL 0
def bR5:DT:=dD QL 1
def bR4:DT:=dD QK 0
def bR3:DT:=dD QK 1
def bR2:DT:=dD QJ 0
def bR1:DT:=dD QJ 1
def bR0:DT:=dD Z1 0
def bQ9:DT:=dD Z0 0
def bQ8:DT:=dD ZY 0
def bQ7:DT:=dD ZX 0
def bQ6:DT:=dD ZW 0
def bQ5:DT:=dD ZV 0
def bQ4:DT:=dD QI 0
def bQ3:DT:=dD QI 1
def bQ2:DT:=dD KF 0
def bQ1:DT:=dD KF 1
def bQ0:DT:=dD KF 2
def bP9:DT:=dD AE 0
def bP8:DT:=dD AE 1
def bP7:DT:=dD AE 2
def bP6:DT:=dD AE 3
def bP5:DT:=dD AE 4
def bP4:DT:=dD AE 5
def bP3:DT:=dD ZU 0
def bP2:DT:=dD ZT 0
def bP1:DT:=dD ZS 0
def bO7:DT:=dD QH 1
def bO5:DT:=dD QG 1
def bO4:DT:=dD Dj 2
def bO3:DT:=dD QF 0
def bO2:DT:=dD QF 1
def bO1:DT:=dD ZP 0
def bO0:DT:=dD KD 0
def bN9:DT:=dD KD 1
def bN8:DT:=dD KD 2
def bN7:DT:=dD Di 0
def bN6:DT:=dD Di 1
def bN5:DT:=dD Di 2
def bN4:DT:=dD Di 3
def bN3:DT:=dD Di 4
def bN2:DT:=dD QE 0
def bN1:DT:=dD QE 1
def bN0:DT:=dD KC 0
def bM9:DT:=dD KC 1
def bM8:DT:=dD KC 2
def bM7:DT:=dD KB 0
def bM6:DT:=dD KB 1
def bM5:DT:=dD KB 2
def bM4:DT:=dD QD 0
def bM3:DT:=dD QD 1
def bM2:DT:=dD QC 0
def bM1:DT:=dD QC 1
def bM0:DT:=dD Gy 0
def bL9:DT:=dD Gy 1
def bL8:DT:=dD Gy 2
def bL7:DT:=dD Gy 3
def bL6:DT:=dD oY 0
def bL5:DT:=dD oY 1
def bL4:DT:=dD oY 2
def bL3:DT:=dD oY 3
def bL2:DT:=dD oY 4
def bF1:DT:=dD oY 11
def be6:DT:=dD yy 0
def bL1:DT:=dD yy 1
def bL0:DT:=dD yy 2
def bK9:DT:=dD yy 3
def bK8:DT:=dD yy 4
def bK7:DT:=dD yy 5
def be5:DT:=dD KA 0
def bK6:DT:=dD KA 1
def be4:DT:=dD Kz 0
def bK5:DT:=dD Kz 1
def bK4:DT:=dD yx 0
def bK3:DT:=dD yx 1
def bK2:DT:=dD yx 2
def bK1:DT:=dD yx 3
def bK0:DT:=dD yx 4
def bJ9:DT:=dD yx 5
def bJ8:DT:=dD vA 0
def bJ7:DT:=dD vA 1
def bJ6:DT:=dD vA 2
def bJ5:DT:=dD vA 3
def bJ4:DT:=dD vA 4
def bJ3:DT:=dD vA 5
def bJ2:DT:=dD vA 6
def bJ1:DT:=dD vA 7
def bJ0:DT:=dD Ky 0
def bI9:DT:=dD Ky 1
def bI8:DT:=dD Ky 2
def bI7:DT:=dD QB 0
def bI6:DT:=dD QB 1
def bI5:DT:=dD Kx 0
def bI4:DT:=dD Kx 1
def bI3:DT:=dD Kx 2
def bI2:DT:=dD QA 0
def bI1:DT:=dD QA 1
def bI0:DT:=dD Qz 0
def bH9:DT:=dD Qz 1
def bH8:DT:=dD ZO 0
def bH7:DT:=dD ZN 0
def bH6:DT:=dD ZM 0
def bH5:DT:=dD ZL 0
def bH4:DT:=dD Dh 0
def bH3:DT:=dD Dh 1
def bH2:DT:=dD Dh 2
def bH1:DT:=dD Dh 3
def bH0:DT:=dD Dh 4
def bG9:DT:=dD Gx 0
def bG8:DT:=dD Gx 1
def bG7:DT:=dD Gx 2
def bG6:DT:=dD Gx 3
def bG5:DT:=dD AD 0
def bG4:DT:=dD AD 1
def bG3:DT:=dD AD 2
def bG2:DT:=dD AD 3
def bG1:DT:=dD AD 4
def bG0:DT:=dD AD 5
def be3:DT:=dD sd 0
def be2:DT:=dD sd 1
def be1:DT:=dD sd 2
def be0:DT:=dD sd 3
def bd9:DT:=dD sd 4
def bF9:DT:=dD ZK 0
def bF8:DT:=dD ZJ 0
def bF7:DT:=dD ZI 0
def bF6:DT:=dD ZH 0
def F:List FD:=[oK,fd1,fd2,T3,fd4,fd5,TZ,EK,fd8,TY,Ss,sC,Sr,Lt,yP,Sq,Sp,So,ak6,ak5,Sn,Sm,Sl,Sk,Sj,Si,Sh,Hh,Hg,Hf,ak4,ak3,ak2,ak1,Sg,ak0,Sf,aj9,aj8,DV,He,aj7,aj6,Se,Sd,Sa,aj5,R',Ls,R9,aj4,bC6,aj3,aj2,R8,Lr,R7,Hc,R6,aj1,aj0,ai9,ai8,ai7,R5,ai6,R4,ai5,ai4,R3,Lq,R2,ai3,ai2,R1,ai1,ai0,R0,ah9,ue,RZ,ah8,ah7,Lp,Lo,RY,RX,RW,RV,RU,ah6,ah5,ah4,ah3,ah2,ah1,ah0,ag9,ag8,ag7,KI,Z5,QP,QO,QN,KH,GA,Z4,Z3,bo9,Gz,bo8,bo7,KG,Z2,bo6,oK,QM,QL,QK,QJ,Z1,Z0,ZY,ZX,ZW,ZV,QI,KF,AE,ZU,ZT,ZS,ZR,ZQ,QH,QG,oK,Dj,oK,QF,ZP,KD,Di,QE,KC,KB,QD,QC,Gy,oY,oK,yy,oK,oK,oK,oK,oK,KA,Kz,oK,oK,yx,oK,oK,vA,Ky,QB,Kx,QA,Qz,ZO,ZN,ZM,ZL,Dh,Gx,AD,sd,ZK,ZJ,ZI,ZH,bo5,bo4]
