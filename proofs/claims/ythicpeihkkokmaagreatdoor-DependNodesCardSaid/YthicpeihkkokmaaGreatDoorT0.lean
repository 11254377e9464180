/- Functions as programs on data, and their checks. -/
import Derived.Test.YthicpeihkkokmaaGreatDoorChecked
import Derived.Test.YthicpeihkkokmaaGreatDoorA0
import Derived.KernelRfl
set_option linter.unusedVariables false
set_option linter.unusedSimpArgs false
set_option maxRecDepth 1000000
set_option maxHeartbeats 0
namespace Go.Proofs.YthicpeihkkokmaaGreatDoor
open Go Go.Ex Go.RowKit Go.T
noncomputable section
def C0:Option aE:=some ⟨.cells ([1116352408,1899447441,3049323471,3921009573,961987163,1508970993,2453635748,2870763221,3624381080,310598401,607225278,1426881987,1925078388,2162078206,2614888103,3248222580,3835390401,4022224774,264347078,604807628,770255983,1249150122,1555081692,1996064986,2554220882,2821834349,2952996808,3210313671,3336571891,3584528711,113926993,338241895,666307205,773529912,1294757372,1396182291,1695183700,1986661051,2177026350,2456956037,2730485921,2820302411,3259730800,3345764771,3516065817,3600352804,4094571909,275423344,430227734,506948616,659060556,883997877,958139571,1322822218,1537002063,1747873779,1955562222,2024104815,2227730452,2361852424,2428436474,2756734187,3204031479,3329325298].map fun n=> .int .u32 n),1,false,true,jS⟩
def gb1:Option aE:=some ⟨.cells [s [46,46],s [61,61],s [33,61],s [60,61],s [62,61],s [45,62],s [123],s [125],s [40],s [41],s [91],s [93],s [44],s [59],s [58],s [46],s [61],s [60],s [62],s [43],s [45],s [42],s [47],s [37],s [95]],1,false,true,jS⟩
def gb2:Option aE:=some ⟨.cells [s [97,102,116,101,114],s [97,108,119,97,121,115],s [97,110,100],s [97,114,114,105,118,101,115],s [98,111,111,108],s [99,111,109,112,111,110,101,110,116],s [99,111,117,110,116],s [100,101,108,101,116,101],s [100,111],s [101,108,115,101],s [101,120,105,115,116,115],s [102,97,108,115,101],s [102,101,116,99,104],s [102,108,97,103],s [102,108,101,101,116],s [102,111,114,97,108,108],s [104,97,115],s [105,102],s [105,109,112,108,105,101,115],s [105,110],s [105,110,116],s [108,97,116,101,110,99,121],s [108,105,110,107],s [110,111,116],s [110,111,119],s [111,110],s [111,110,99,101],s [111,114],s [112,114,101,118,105,111,117,115],s [115,101,110,100],s [115,105,110,99,101],s [115,105,122,101],s [115,116,111,112],s [115,116,111,114,101],s [116,97,98,108,101],s [116,114,117,101],s [118,97,114],s [118,101,114,115,105,111,110],s [119,104,105,108,101]],1,false,true,jS⟩
def gb3:Option aE:=some ⟨.cells [v,v,i 0,i 0,v,v,u,v,i 1,i 1,v,v,u,v,i 2,i 2,v,v,u,v,i 1,i 1,v,v,v,v,i 1,i 1,u,u,v,v,i 1,i 1,u,v,u,u,i 0,i 4,v,v,v,u,i 1,i 5,v,v,v,v,i 2,i 2,v,u,u,v,i 1,i 1,v,u,v,v,i 0,i 0,v,v],6,false,true,jS⟩
def gb4:Option aE:=some ⟨.cells [x,x,i 0,i 0,s [99,111,110,115,116],s [78],i 0,i 1,s [118,97,114],s [65],i 0,i 1,s [112,97,114,97,109],s [65],i 0,i 1,s [102,108,97,103],s [65],i 0,i 1,s [110,111,119],x,i 0,i 1,s [103,101,116],s [65],i 1,i 1,s [104,97,115],s [65],i 1,i 1,s [115,105,122,101],s [65],i 0,i 1,s [110,101,103],x,i 1,i 1,s [110,111,116],x,i 1,i 1,s [109,117,108],x,i 2,i 1,s [100,105,118],x,i 2,i 1,s [109,111,100],x,i 2,i 1,s [97,100,100],x,i 2,i 1,s [115,117,98],x,i 2,i 1,s [101,113],x,i 2,i 1,s [110,101],x,i 2,i 1,s [108,116],x,i 2,i 1,s [108,101],x,i 2,i 1,s [103,116],x,i 2,i 1,s [103,101],x,i 2,i 1,s [97,110,100],x,i 2,i 1,s [111,114],x,i 2,i 1,s [115,101,116,118,97,114],s [65],i 1,i 0,s [112,117,116],s [65],i 2,i 0,s [100,101,108,101,116,101],s [65],i 1,i 0,s [106,117,109,112],s [65],i 0,i 0,s [98,114,97,110,99,104],s [65],i 1,i 0,s [99,111,115,116],x,i 0,i 0,s [115,101,110,100],s [65,66,78],i 0,i 0,s [97,102,116,101,114],s [66,78],i 1,i 0,s [115,116,111,114,101],s [66],i 2,i 0,s [102,101,116,99,104],s [65,66],i 1,i 0,s [115,116,111,112],x,i 0,i 0],4,false,true,jS⟩
def gb5:Option aE:=some ⟨.cells [.int .u64 1,.int .u64 10,.int .u64 100,.int .u64 1000,.int .u64 10000,.int .u64 100000,.int .u64 1000000,.int .u64 10000000,.int .u64 100000000,.int .u64 1000000000,.int .u64 10000000000,.int .u64 100000000000,.int .u64 1000000000000,.int .u64 10000000000000,.int .u64 100000000000000,.int .u64 1000000000000000,.int .u64 10000000000000000,.int .u64 100000000000000000,.int .u64 1000000000000000000,.int .u64 10000000000000000000],1,false,true,jS⟩
def gb6:Option aE:=some ⟨.cells [i 0,v,i 0,x,i 0,v,i 7,x,i 0,v,i 7,s [116,114,117,101],i 0,v,i 7,s [102,97,108,115,101],i 0,v,i 7,s [110,111,119],i 0,u,i 7,x,i 1,u,i 7,x,i 1,u,i 7,s [104,97,115,32],i 0,u,i 7,s [115,105,122,101,32],i 1,v,i 6,s [45],i 1,v,i 6,s [110,111,116,32],i 2,v,i 5,s [32,42,32],i 2,v,i 5,s [32,47,32],i 2,v,i 5,s [32,37,32],i 2,v,i 4,s [32,43,32],i 2,v,i 4,s [32,45,32],i 2,v,i 3,s [32,61,61,32],i 2,v,i 3,s [32,33,61,32],i 2,v,i 3,s [32,60,32],i 2,v,i 3,s [32,60,61,32],i 2,v,i 3,s [32,62,32],i 2,v,i 3,s [32,62,61,32],i 2,v,i 2,s [32,97,110,100,32],i 2,v,i 1,s [32,111,114,32]],4,false,true,jS⟩
def gb7:Option aE:=some ⟨.cells [y 0,y 1,y 28,y 2,y 29,y 14,y 24,y 3,y 30,y 22,y 20,y 15,y 25,y 17,y 4,y 8,y 31,y 27,y 13,y 23,y 21,y 19,y 16,y 7,y 26,y 12,y 18,y 6,y 11,y 5,y 10,y 9],1,false,true,jS⟩
def gb8:Option aE:=some ⟨.cells [y 0,y 1,y 56,y 2,y 57,y 49,y 28,y 3,y 61,y 58,y 42,y 50,y 38,y 29,y 17,y 4,y 62,y 47,y 59,y 36,y 45,y 43,y 51,y 22,y 53,y 39,y 33,y 30,y 24,y 18,y 12,y 5,y 63,y 55,y 48,y 27,y 60,y 41,y 37,y 16,y 46,y 35,y 44,y 21,y 52,y 32,y 23,y 11,y 54,y 26,y 40,y 15,y 34,y 20,y 31,y 10,y 25,y 14,y 19,y 9,y 13,y 8,y 7,y 6],1,false,true,jS⟩
noncomputable def body(f:FuncId):Code:=((Tryz.prog.funcs[f]?).bind (·.body)).getD .skip
def sq:j6:=[(45,[.i64,.i64,.i64]),(46,[.i64,.i64,.i64]),(49,[.u8,.i64,.i64]),(50,[.u8,.i64,.i64]),(59,[.u8,.u8,.u8]),(64,[.u8,.i64,.i64,.i64]),(65,[.u8,.i64,.i64,.i64]),(96,[.i64,.i64,.i64,.i64,.i64,.i64]),(97,[.i64,.i64,.i64,.i64,.i64,.i64]),(159,List.replicate 32 .u8),(160,List.replicate 32 .u8),(190,[.u8,.i64,.i64,.u8,.i64,.i64]),(294,[.u32,.u32,.u32,.u32,.u32,.u32,.u32,.u32]),(379,[.u8,.i64,.i64,.i64]),(380,[.u8,.i64,.i64,.i64]),(387,List.replicate 24 .u8),(410,[.u64,.u64,.u64,.u64,.u64,.u64,.u64,.u64,.u64,.u64,.u64,.u64,.u64,.u64,.u64,.u64,.u64,.u64,.u64,.u64])]
def iN(n:Nat):Int:= @OfNat.ofNat Int n instOfNat
def iM(n:Nat):Int:= -@OfNat.ofNat Int n instOfNat
def bN(n:Nat):UInt8:= @OfNat.ofNat UInt8 n UInt8.instOfNat
def cQ(n:Nat):xM:=cd (@OfNat.ofNat Nat n (instOfNatNat n))
def nN(n:Nat):Nat:= @OfNat.ofNat Nat n (instOfNatNat n)
def lN(t:DT):DT:=G3 (H0 (Jf C0)) t
attribute[irreducible] iN iM bN cQ lN nN
attribute[local irreducible] kal HK
structure FX where
 f:Nat
 n:Nat
 k:Nat
 rs:List ResultVar
 sg:io
 m:Nat
 hs:List (Nat×kg×Nat)
 ds:List DT
inductive Z where
 |n (_:Nat)
 |v (_:xM)
 |l (_:kM)
 |q (_:uo)
 |o (_:List (Option xM))
 |t (_:DT)
 |k (_:NK)
 |b (_:aE)
 |h (_:List aE)
 |e (_:List (Nat×xM))
 |m (_:kg)
 |s (_:io)
 |d (_:List (List (Option xM)×DT))
 |a (_:AO)
 |i (_:Na)
 |r (_:List ResultVar)
 |g (_:List (Nat×kg×Nat))
 |f (_:List DT)
 |x (_:FX)
def zn{α:Type}(d:α):List α->Nat->α
 |[],_=>d
 |a::_,0=>a
 |_::t,n+1=>zn d t n
def zj(n:Nat):Nat:=bif Nat.blt n 47 then(bif Nat.blt n 39 then n+34 else bif Nat.blt n 45 then n+31 else 76) else bif Nat.blt n 91 then n - 48 else bif Nat.blt n 96 then n - 51 else bif Nat.blt n 123 then n - 52 else 77
def zi(c:Char):Nat:=zj c.toNat
def zs:List Nat->List Nat
 |a::b::t=>bif Nat.blt a 15 then zn 0 [41,0,666,512,515,526,513,520,518,519,521,517,523,732,516] a::zs (b::t) else((a - 15)*78+b)::zs t
 |[a]=>[zn 0 [41,0,666,512,515,526,513,520,518,519,521,517,523,732,516] a]
 |[]=>[]
def zc(s:String){l:List Char}(_:String.ofList l=s:=by exact rfl){y:uo}(_:zs (l.map zi)=y:=by conv=>{lhs;reduce}):uo:=y
def zp:List Nat->List (Nat×Nat)
 |a::b::t=>(a,b)::zp t
 |_=>[]
def zh{α:Type}(n:Nat):Nat->List α->List (List α)
 |0,_=>[]
 |f+1,l=>l.take n::zh n f (l.drop n)
def zf{α:Type}(e:α){x:α}(_:e=x:=by conv=>{lhs;reduce}):α:=x
def zR:List (List (List (Nat×Nat))):=zf (zh 18 13 (zh 18 234 (zp (zc "?1?1?2?4GRGR1?51?8?1?7GSAvGTGTGSAm?:GX?3AvGSAn?2?=?2?>1?936G^1?3AuGgGg?2?AGeEbGVGY?2?C1?BElEmGb?6G_?61?;GW?54>EoEp1GfExEy<GnEzE%?@?6?:189G_?3Gd?9GvGxGs;GU@A?7?5EuEvEqErE*E+EwG+G&AwGb?3GSAw?3AtGhGhH7H75GtGcGcE&H2GaGmG,G%?;@B1Gz?2?I?3AxH:H1H4HB1An?D?KGkGW1GyGVGW?D?MAmAmGU@?GjH>?2?<E~F07:EtH0F8F9GU@@?<Am?6GjGSAxG^H6HRF:F2F3F4F5F<F=GTG~1?O?3Ay?2?NH<E,GVGTHOF1AnAnGwHCGkH_HXF;H^F>GSApGiGiGVGrHDHb?3As?2?Q1?PH8H8H9H9HpHpHV1HJ?T?E?EGRGrGaGuHrGpHfHYGV?GHWHvGU@FGRGWCMAm?;@CD5AoHPEjGSAo?@GpF6F7GmAoH=AnHy@@11HkF?EsHQ?<Ao?7GyE.H&H0H3AmHg?2?R?JAvGuH~?<An?W??HeI8GU@DH3H<Gd?8GlArGwGtHoHU5I6G*?9IL5IMIOGU@JHHGiIFIPB^BF?^?L?_?aH?7Go26EbGkGrID???LI01?SHZI5<G.GfI1G~@?EmHI?;@EIKG*BfCKH+IiI?GlIfIjIlIkC=D13GUEsGo2HiHGIdH,=ICHMAmGUGV?FH@ITApHK?6H51H.HT???<ApHqAxGq@E1I_Eb4I*I@5Eo?2?bIwGc?3ArGq@BI>HZ>;@HIoGSAsGSAuGq@CJ2ImD7AnF@FA?VHFGU@II<??AsEvGSArHjI:HsHsHtHtHuHuHw?<J3J3IB??GmAnGoGoEsEtI=GiEjGwGSAyH=AoH4?6?3B;?HAm?2?dHQH3?1?F?1?GIh?5Ha@NIxBMEwG.GSAtGlAmHdE.?3C2?UAmJdIE1I47Hz22GlAnJ;JAAnIAIq@GI~H;1GaFBFC1?ZGY?7H%Ga?9IWD6Ap3EbEjGoF6H;GU@MGq@KGuJtII?F34GU@P1IA?7GzHwHT?5@@?X?XHAGiJ=JoAtGlBQK3Ej21?E?3AzGq@OH@K4GVGRGaGa?2?JEbI7AnHKG*?E?6Ge?HAnGj4HLJgHlHnHn@?"++zc "?HAqEwGv?2IB?5@?G+HdH;GcHGI4HW1BsAs?3BK@?:HzKNIaIuKPKQIaJkJX@H?2?tEb6HGH?JR?61HFC5KDHI?BHxHxK9K^Kb@DGfJ<Ha@RHhIrJLEuKXK5KfJU?63H=ApHqAyG~J7H1EsH5B.HgHKIvJMEb84I7GU@TGVJWJSHTF7HjFFFGH5B;I2GwIZ@GFIFJFKFLK&K*?<ArGSAqK??91?e1GU?<AqGU@UHJ?g?3Aq?SIuFDFEGYIeHGIgHzInI+3JaJaL7Kx?3A%?@JQH:EqH?<I=HAH2E,Hn@L?3CAD4Aq<ElIzIgAvAmB~IyC0?6E+IJF1IJGd?EG*IWIyLJKoLPLLE+LMF1LQLKGlAoGq@QH?:HD?6I&??IUJ~4GlGSA%GdGfH*LBIcElJNL@LbKq?3BLHYIbHoK7JDJDJEJEJFJFJHJHJeAmL5L5?cAqIZ@DKTJ+GU@XJbHO?3A&>4GnHCHS>HcAwJKKKL=FH?2?u?G?F4EbGU@LGiHAGuJ<J6G%J_GoLvEs?<AsAw??3Le4JPHa@_HcAzI<J>IVKHK+FM?2?v?3C9EmG.JjLRJjLSJ.JZ?;@K?HAp?JM3AqGpEtHSE%IXGR?FHl<IIJVLTIGMEEu?2?wAmAoEjLp<MJEpIcEvL9E&IcE,H;E.F5E~IGF0J^F1KcF2KLF3J^F4JzF7JCGXIpGcM^H6LyH;JCHMIrHdJrHhJlHhL.HkK~HlKhHmK1I;JrICM1IHJnINJsINKdIpJmIpJwItMNItMiJ5JnJ5MoJ8MTJOMsJfMbJlMeJmMmJvMSJvMzJwKwKJMXKiMyKtMOLwMrL%IsM0F6M;IsMHM.MKMlMLIsMMAoMPN4MQN3MRMUMVMWMYMZMdMfMgM,MhJsMkM&MpMtMqMuMvM*MwMxM%IHM+NBM~N7N8N9N:N;N<N?N=N@NANINCNJNEN>NFNGNHNMNKNDNLNPNNNO:EjGSAzI,KWJqL?NQLO1GT1Kv?64GSA*IVJ1L2???XCpB0E2GUJ7I9??K0NbNcD=NfNgEjHhGYGY2GiHLKsIqKSIzGzJ::KlI@NiHi?3C<?G?GC,C:F;I:GtH1HSEmHUGsIbHXKu?7?3BM?3BN?3BO?3BP?3BQ?3BR?3BS?3BTE&E*GU@^GVH.GdKIHL6K2Lz?3B.GU@aG,8"++zc "IV3JTAx?3A*?:H6?@G&6J?4KEGq@SH>I2HAHAHVJOHi@bI5HjI;KGI.K_KCLF?2?f?3C;?3Nh?cAo42F>F?FTFUGq@WI,L*M4J%M:FNNZIROPFV?NLIEwExGU@eGkNVGr@?G~@@I2<JPGpOULVOW??AwO;>J9Ev2IRNdJTOeLhL>OGEzAnJI;G%EuGUGaH@GdMAGr@IGuInG.EjHEEAJ68KCI1KO?6Km@ZLaInO8OfO?EbOzJ:1BZ?3C??UAnGa1H5CAH@NtHIGzHcAyK:?7LAGlOVFWO*CbO,IE1H+?XAnArLo64GxJbHEB;HmJhI9?eJY3JqKMKy?3L4@=E?Ba58F:Nu2HHHCKgIe;KkGpLcNwOcH5?3ApAsHKBcCHDeB1EqH*E,IXF3NyGXIXGq@fHmHmHqAzH&IbI3I3I7GpI:K2IZKSI&?VJ,PPKZHMKrK_MjK;NoHlOxPKFOFPHcA%JR?3L4@>L<L<LtO<NTL_O=1OTPhPbOSAn?fApOgEtEuEuKV2GcH.H+H~LdIJEvIUGzJ4L^LCE.O~OwPsPy?6L0?;@S?JAxBwC13Gl6EjE*G.HEBqHS<J.K>KzJ0P,Q0?7Gf@GI;ByC<6Ev<2Em5E%LsE,IHGaHiG.EpHEC8HEDUIH1IYGsI~QEJJLXKpPkK,??L1@YL83NqQ:OOO6PAPDP~??QMH%@hLrAnGpD9BMD9BNGU@iGj>G%7H5C3H=MDHDNxHLEbJJGpKA?RKy?6LgF8LqHcM5G&NS<NXJ,OsQ5?HAs?i@=ApGpBKCQEjQHEvEwGU@jGd?ZGyNkHJQkI3GiJUE&KYQtM<JcNnQmNvKgOFF<OoQ;P<E~P?ITQnEj1Hy?HAo8GlEmH*EmQ*EvKGF1ISF92FXFYGSA&HCI;HII0HePwHfF2IhI0J06J;P+JXQRJuKeJ*R?K<A&KR@VKUOnL0C8L~OaNYKAP5R5R3R4RC@kRHQd1Ka1MF1M_1N1?8?F?SJk?UAo@?N^@DE+BNMcBYGjD@BSDmBqEEB~EORU6Er4;8KEElIrEpH1EsGcEwGcF0IGF1M=F2KcF3K%F4M=F5JzF6K%F7H%F@MaF@RlFAMcGU@lGWQrGXNRGj1GkPIGuRVG*KdH6IGHH4HVPfHcAxHcA&HdH%HhI3H%MFI3Kh"++zc "I>RvItRaItR,J5RkJ9JKJ9NRJBJKJzR*K=G&KLS2KiNmKkQ^KlN6LCR.LDQcLcP0LiLiLjLjLkLkLlLlLnLnLuQiM7RTM_NpMaRMMnNWMnRyN1SDO3GyONM6PHQAPMPMP_QuPqJMPxJ8Q3ReQCPCQLQ%QVRnQ&RhR2STR<KnRNRoRQIERSSQRcS;RdKJRfRgRiRjRmSGRrRwRtS9R&SER~SLS0S5S1SfS3SdS7S^S8SiS=R0SCSgSFScSHShSISXSNSkSUSVSZSaSbSsSjSnSlSoSpSrSqSxStSuSvSzSySwS%S&?3C@?<At?HArBXQWEPS~323Oi>Ej>2EoQBErEsFRFSGwG*G%HPH@T0I9KvI^A%I&J>K<A%LmJIN_KBNlHUP1RYRKHxSJT8S*NWT3TDT:TB?<Au?fBKAnI^AoGpAzT<BbCI3;62El4EpEqGSA,GSA.H3HdH>HPHEDhHcLIIRH@JBEbJNH%JS?RJV?7JcLEK:JWK=GpLxAmODPnTINe1M@?HAt9HPF12F1LgGdLWGjO9GkGTGuLFI?KnJ&L3KFJeLZ3LmI%TTI>ToHM1?L?3A+?3C6E+JxF0JxF5JxF6ISF>2GRL&GaL;GdI_GpGjHECLHL8HeO^IU?5ImJAI.OpI.OyKUT%KUT&KwH^K%TZLUTFM>RJM?T*MG?FNmR7O2SKOL?6OvQQP.PuQeA,RAQKT>UFTGU<TY9TvU@T+U:U>UK1G^1HxAvJG;>97EwEbFZF^Ge1H6PQHECfHeGWIN?9IRK8IY4Iz?;K<AwLNH?LuOYO5I7O:OJOdTJP=HFPNC1QfAz?6Go??At?HAvAnI%AqHKAr?NBpT9CqD0DoUo676Ep4O4EoU3GU@p2ORGaJ?GdGzHa@nH*L8H*O^IQFwIQFxIQFyIQFzIQF%IQF&IvRqJYJ&J&V2KMRWKm@dKuOqL6@VM2??MIIeMIOqNUR@NjNjP>HmUbTPUhKjUqNzV1V9V4El?;@W?@LX@GGlAm??AmApApJIE7C0595UWEsOZE,I>GU@oGU@rGU@sGq@mGq@qG%KzG*GfG*ROHAHaHEB&HEP9HbK7HhI;I^AvIvL8KR@cL6@cM2KpO.O>PFF@QwTaR9TMRGUSSOJ%S,??TcGeUuS6VGApVKG^1H_1PR?3Ao?<Av?XAy"++zc "@?Jg@u3AmJIDeB26PEEbH@8296:OIEjLGElLrErKtErL_EtOZEvH3EwPXEyGxE&HiE.OEF5QzF;PSF=QNFDP^FQS<FRRuFSSeF_VhGR?G2K.GaH5GaJBGd?5GoKKGuI1G*LWH6IXHLEjHMW5=VsHTHFHjR+HmK;HmL,HwIDH%PRI1PXI;R:IHW4J8V,J9UCJ:PEJ@AuJQ3JiV~K1K;K1OCK8Q=K;OCKm@gKrOpKrOyK,QIK.JKL9WRLaSPLsKnL+V%L,V=L,WXMjPYN6P^NqRRNr?3OEP&OIWmOK?3OkW3Ot?HOvWrP>PePFJ=POTpPSVpPTQ@PTQGPVPYPVW^PWWlPeW&PgIRPgWTPpSWP*2QFSRQOWGR6TeRLW8S:WxSSW9T2X1TXVwUYVJV3LHV5SmVgWgVtWOVuWuV&WQV.X3W7K+W:W~W;W<W>WLW@W%WJW*WKWYWNX5WPXHWSWzWWXAWcVcWeX@WfXMWi1WjXOWkW+WoXFWpX?WtX=WwX<WyXNW.X9X2XKX4K~X6XBX7XLX>XQXCJ0XDXEXGXbXIW6XJXVXRXYXSXdXTXfXZXaX_XcXeXhXjXP1I8?3Aw?3B3?6HM?;@O?hAoAoHKAoJIBKI9F1G.FQT7GU@YGeJYGlAqHwI&I@L1IFQ+IKINIQFbIQFcIQFvIbJCKj>LH3M9J1M@KFOJXuOjPmP8XUPOQyPlPlPpXwQDJGRBV+UcY1UjWUUnAwVVXlXWOhXvF2XyGe?j@=AqI%ArOMAsLoAuV^BVQ8DaHF4JJ;Rx8GUEm2EqEsGRJVGdKaGlApGoOhGw4HATAHDHUHEBwHEYJHH6HJYDH*IeI9HFIHOFIVTWIYH>I+V>I,UPJ1IJJ4:K:IeO6Y:OlApP3O>P9BoQYVfRPGXTLJ@TuY0UmYlVZYpXkLWY5TgYaH^YrYi13?HAu?JAy?JAzAqTfB2Xo6TVEb2EbTU8O4<H5EpEtEyEzGSA~GjG,GmApH=AtH>KzH?L^HL4Ha@zHn@@I2LGI9RFI<?VIyB_JZQsJiVLK6GyK@E+K,J>LdYgLf?6Lq2NvI;O7?3OjLtP:UdTSZ2Tn?7U1QsUiI3YLYUYy??Yz??1KM1Po1S4?2?x?6HH?UAp?cArAqMCBjHFEbE%8LDElEpEl2ElQ25L:EqQ2ErL:EtEx"++zc "EtRZEvL:ExE&ExQ<EyRZE*Q<E+2E.S_F1Q?F9VeGRNsGU@yGdH?Gn5GoH6G*?ZH=ArHEC>HHJaHIL6HMQ7HUG,HlPBI3UJIIL&IU?BIY;JJJQJNZ_JOJ+JS?bJYJuJ_NoJhGcJu^5K2FDK6?9K6J~K6KIK>UOKAWIKHTdKTGXL:ZaLOTELUIXM5WVNpS_O:RFOQ9OQQ~PaKFQ4HFQ6ArQ@TlQNM:QOYuQvZ+RX^2Rs4S4^ET5VRU;^RUaQ1UyV@U&V?VA^DVXZZVm??Y?AnYc7Y*^KZ@^MZTZoZWIEZdZ0ZfZgZiZjZqUUZ,^T^6^i^?^a^N^b^SEq^VVB^c^B^j^o1Gr1HA1JW?3A~?3B1?5@I?GYA?HAy?HAz?RKZApMCArMCAwY;AwYqAyI%AyJ@A&?6B9C^BCLY6579:JNEj5EsH*Eu2F42F52F82F;2GSA+GU@%GU@*GdHxGdP4GeL3G&AxH4L>HAIRHBVYHIGyHL>HPLxHQOXHy@?IINsIS_:IYOBJ4Q1JGAqJGAsJGAtJhRpJi2JqI4J*P;K=K@K>ArL~7M84NT1N_GjO7O+OlYEP6_IPWAmPaY4PoQUP%AsQ9QTQ9QUTkIhTtPrW2O1YmZEZ7AtZ=MBZ>?6ZB_kZNW?Zv_fZz_r^pTE^q@@^*^+^.Az_1BD_H_v_L_i_UKe_bVl?3CB?5@H?8T_?A???HAw?I???hAq@VH5@YElAmUeAoJ@B0^uBIR1BNR1BdCJBz?6CC__3IJ8;927RD<GUEoErEo2EoXxEqH5ErG.Ex2EyE%E*2E+F4E,ISE.G.E.HSE.ISE~OAF0KVF1F9F1JxF3G.F3ISF3JyF4OAF5G.F5ISF5KVF62F6G.F6J*F7HSF7TzF8G.F8JyF9PUF:G.F:ISF:M>F:UEF;ISF;J*F;ahF<U5F<aQF=2F=G.F=ISF>PUF?2F?M?F?UEF@ISF@atFAJoFAU5FB2FBISFBR>FC2FCLzFE2FH2FJ2GVH_GYG~GYO_2QyGeNYGjGsGnJ0GwH:GyGiGy^CG.7H5a:HEBIHS3HSaTHZRIHa@.HcA*HjHkH&b>H+Y8I9T^I:J=I>F4I?H<ISTjISarIVb3IbHjIh_,I,_3I.I+J=U9J@A%JQGeJTAyJZYZKUTzL=R>LRapLSaz"++zc "LsIKL+aDM>aMM>aWM?aSM?afMIO_NXGRNubONyRINzUDNzbCOAPuOHMDOHQSOHQlOHTKOKLEOO^9Ona3P=WMPNB.QbPcQzU8R;TjR;ZnR=aJRDCCTqJ&TsJJU8YBU9aZU=buU=bzUGaCUGboUH_mUHb8ULbtULb%VDJiW0O1X+P4Y7_zYCLHYvP5^8LH^mYS_9bF_;be_<TR_Mc7_a^^_sb.a5Apa7ala8axa?CDaEEsaIb^aKaNaOb&aPbaaRaUaVa^aXc0aYbBa_acaaabadagaeajaia&akcAamaoanbsaqasaua,avcBawbUaybda%cRa*FIa+bna.c^b=cEbEcZbHbXbIbAbJQ.bLUDbVc_bWcabZcLb_c;bbQ+bgXzbpbqbvc:b*cbb+cCb,bwc1cMc5P4c?b~cFcGcHcYcIcKcJcNcOcQcPcScTcycUcVcWcicXc+ccchcjcvckcxcpc&cscwczc.c%c*c~d1d0d2d4c,d5d3d6d71BD1O=1T^?3B4?3B5?<Aw?P?6?cApAqJIAvI^AxI^BEJ@BXKYCpC~3Ga3Q4666T.4Ga4V:>8;2877Ej72<QhEmEoEvOXExEuGTH.GU@,2RpGaZLGfUpGuUpGyHAG*KaH4HUH5C@HAGsHIGfHII4HIMAHM^YHe_JHhJLI2VnI6GpI9^4I<JZIIYPIN?ZIQF*IYEmI+TqJ?dKJGAuJTAzJePrJh1JhdYKR@tKZ^kLEJcLmUeLxApM7AqNadENe^,ObGeP3?BPnP6PvZDQDHFQ,@?RbJLTOduT~KWU_diUf_lVIb5VSH:VTdGWBe;XnHBXsCYX,GSX.GSY<9Y>QPYtQbZSQTZ~An^>^__>:_CK@_xd~a2CJaLE~a~@@c>eEcnHFcuP%dCAwdSe<daJpdbd^e:Q7161J11Wd?3An?3BX?3C5?;@Q?FW,?HA*?QAx@?8@^dLAme^ApOdAqXrAsOMAtOMAwQPAyI^AzbPA,?6BBCMBPAuBSAwBWQJBXV8B&ZVB+Y=COBO3El6Et;Vz8Ep959H@7Pc:IY:Qh:_N:b:Ej:EjElEjEpEjG,EjUr<^1EmIYEoUrEpL:EpVxErEpErEvErPtErUsErWCEr^UEuVxEwUsExEbF8W1F<REFBWvFGFHFOS<FPRuFQSe"++zc "FZT7GU@ZGUA32OYG^_ZGaOEGjdgGnH:G*HxG*LAG+JbG.;H5ehH6_6H=AuH?Q~HGV7HHEoHHf0HLK=HRR+HS5HSYKHdI5He?7Hn@IHoPmH*GWI?E&IGJuIGP;INIWIZRRIdJ5IeEbIn_5IxC^I,a=J8X0J8XgJ9P*J?F1JBErJBOIJGA&J_WZJ_X0J_XgJfJBJffxJiJhJ%XXJ*R^K<AzKB1KE5KKYXKjI.KsYVKsdcL;fOLDf4LTHEL&W,L+f1L~HPM8G,M9e,MGNsNUVPNX?7NpW1NrOKO5Z5O@7O@EpODd:OTSWOkdZP0PQP_fVPdMDPdQSPdQlPdTKPfUJPiArPv2P%ewP&R:Q?fYQGWEQQWERGJ0RLfGR_EjR_ErR_EvS:WvS>S>S?S?S@S@SASASBSBSMSMSPfpSSfISmViT5gMT;TrTWYwTnGRTy?3U;WdUAeTUAe~U^@QUfg<V;8VIKBVTgkVUXiVd^~ViJMVkZpVoefVoegVqVqVvZYWDf,W_gmW_gnWhfbWhg>WqC1X8M4X8OSX;h3XXg1X^MBXig%Y@?FYWHFYfdyZ<_jZGOXZcgaZhgbZkgc^3J6^Lfw^Pe*^hh<^&AubYevd;gJe4Yse5g6eLeteMQ8eZfEeneoeuBYe+RXf6gHf:f=f;g5f>6f?gIf@gLfFbKfHgKfJh^fKfLfQfgfR;fXg~fdgdfo_tfqhbf%gZf*f~g2Keg9hZg:T1g;hJgCJugEhPgGfjgNgsgShqgVYYgXh:gYhFgfgegghvghhwgihxgjhyglh_gthmguhGgzhYg&hAg,Oog.M6h1h+h5h&h9g*hHINhKCRhNhRhag^hdhzheg_hgi8hhhuhihLhohfhri<h%i6h*fai0i9i1fAi:i@1O>?3A.?3C3?;@m?HA%?JA%?NAy?QAy?UAq@dc9A6J1ArArAsM9AwiIAy?6AyZPA%?6B0GSB1_&BC?6BaCGC<I%CHQ8D8BPD:BI3>6G.4GU4PJ9I29Kz9b9Ej4ElZ%52Eq2ErUMEvJxE.HOF4UUGSiTGU@dGUA12GjGaI+GdeUGoH;Gw5G&A*G*_eG.>G.E&H5B~H5iVH6J+H:h>H@erHHNkHH_DHIYnHMI2HSEwHb?6HeJ,Hr?6HvIAI43IEePINLWIUH?J7@MJ>YTJ@AwJCF@JGAr"++zc "JGAvJfGiJuL3JyEuJyL^J*dPK6?PK7L>K=bQKFPzL1A7LHTNLNKILh?6M2J>M8KHM8OBM<S+N^TRO2P;ObZ3OiZMOm7Pq?FQaEbQxg?R8K5RzAsSOZ.T;MBTH??UIb;U^iMVMinVQL^Vr??X;j_X%_WY6TxY9Y9Y^_VYbIYYehjYoA&Y&d=Z8O.ZKioZUJp^ZiP^zX^_X3_^jabDUTbMjEd>_pd?j<d@gpdXi7e3YOeDikeFTgeQi+eejte&j,fN6h2?Gh;juhIk0i2_Ki5VjiBj9iNjJiUjpj8iRjQJcjRj+jSM6jYjZjrk:jyKej%j~k1k=k@jzkBjc1?41Ap1JV?3C=?3Y&?QAz?VM@?cAu?k?4?m@@@HibA05A4UvAs?cAuP8AwPiAxiJAykKAzZQA%KjA&R%A.LYA~NaB6^HB=jqBme=C:kIC=I^CTkcD1=D8=D?BKD?=DF=DM=DT=D^=EEJGEF?HEHHF3I33Ji6El6GnEb>46>Jx>PG>TV;JP8V:9^07Zx:Os:a<EjO%EjO&Ej^AEjdsEl^nEl_?5O%5O&5PiEoEsEoOuEpYdEqH;EqHnEqTbEqkFErO%ErO&EtK8EvO%EvO&EwOrExHSEyEvE%^XE&2E&lGE*PvE~2FvU*FwU+FxU,FyU.FzU~F%V0GU@VGU@tGU@vGUA2GUA8GVJV2jvGcPUGkH.GmArGoZOGuiZGxE&GxHLGzV@G&NhG.EqG~kPH0KGH0jCH1JyH5C5H=AqH?EvH@C~HEApHEAqHEC5HEK>HFH1HH=HJ?lHL7HLGSHLM5HL^eHL^f=Df=kg=kh=kj=kk=kl=km=knHS6HS:HSE%HSlAHU4H*_hH*lgH,F&H,lLH,lMH,lNH,lOH,lPH,lQI3dfI;EwIDZ?IEXtIGR^IQFuIRIRIXGcI^AuIgX:IgbxIo@IIxBwI+_AI.L;J0WFJ1^QJ8Z^JBElJBPBJTA&JUWDJZHFJ^lEJaHMJfHAJyaGJydTJ%JMJ%RqJ%^lK:JVK=eKK>koK>kpKBTwKDA5KFLZKFP7KR@&KRVEKY7KYElLAJiLALULVl_LXHMLZEbLfN%LpT6LxAnM7AtM7kUM<ZHMBU4NSLGNUO2NVmWN_^QNeArNlGpNrO+N&N*N+N,N.N~P8eqPZKB"++zc "PcOtP&HfP*GoQ6AvQ9kfQ>mZQ_UxQbd&QfkYQjSYQolzQvmRRbm@RxTARzAqT2ZMT6lyT@1T@goTsQaU1luU2JPU2jTUNb7UREzURlIUVUkUX?ZUldBU&n<U*N0U*N2U+N0U+N2U,N0U,N2U.N0U.N2U~N0U~N2V0N0V0N2V<GrV<nbVAV?VW?HVdepW0E&WAkRWB^JXpHPXqe8XsCuX&hOX~N0X~N2Y2>Y<kCY>^IYHj=YIJ6YOOrYRQpYf3YhmcYkiSYok^Z1mYZINx^7^7^:?E^@hE^GJi^Hka^WnM^lma^rn2_@As_ck9_%>a4Y%a6kJaAlXb1f7bNc6bRdwc26c8jBc<ZKc@TfcDm4dD_wdFY~dVo0djk+e0nze_^OemkVe.9fPRWfkldf.lJgAUVgqPIgwAvh0oGi;YsiXkeie5iw_EizoKi%OwjOd,jeo1jj^tjoT=k5VFk;kXkElskGkqkOl>kQnwkZA*k_B0kbVBk.3k~l0l4?El5l6l7odl8oDl:iql<ocl?l@lBlClc^glilDljnum9N5m:N5m;N5m<N5m=N5m>N5m?PxmAdomN^AmVEym_^nmtoTmwAxmxC4n9OrnCo%nKIRnfbGn%Orn~ofo2ogo9<o=Juo@_7oCnLoEoeoJoIoQC>o^k7ohp0ojosolmqoooropp4o,mT1?:1?n1Gi1IY1T_?3B2?3C0?67?6Gc?7Po?8YP?:Hv?GZr?UAr@@IP@GEr@HEo@+TO@~9A9H5ApctAtbhAtmGAvY7AxJ@Az?6A%I^A*BEB5ZJBUPjC0WnC1CBC1JcC7CFC^C=DFC4E@Bb3?23H@3H*3I+3I.3J:3T46jUEb;EbGsEbG,EbH>EbJP4K.4e>>6>H@;3;8;T.8I38I69RD7PJ7Tb:Nn<LU<Pc<kuElnx5ErEoKVEpH*EqHLEqHlErJLEsEuEuJxEvF0EvipEwEvEy2Ezb2EzcqEzlhE&G.E&ISE&fME&h,E*OAE+E,E+HSE+KVE+VME,G.E,LqE,b2E.crF22F3ilF4G.F5PUF6QeF6R=F7ceF7qZF8ImF9ISFA2F_FaFbFcFdFeFfFgGTPwGUA;GVT_2H52O12OB2QoGdmoGeHHGiTmGkncGmAqGmAsGmAtGmAuGsTNGwX*"++zc "G%2G%Z;H0EwH1I;H5C;H=AsH?EpH@pkHATmHDK@HECDHECVHHEbHLVkHMHPHSErHUUwHcA+HcA,H*I=I2UvI?IKI?cdIxC>IxCvI.eVJ1QgJ2onJ4EbJ?EsJ?F0J?qLJ@AxJXpSJbHfJcbmJuM6JuUzJxqCJy4JyqBJ%_gJ&UwJ*qWJ,i^K6GzK9C=K<AyK@ElK@2KA?bKR@GKsU0L1pXLNJ~LV7L_1LocfLqqGM8qxN6??NUfmO<TxONGuORk>OdoAOgcoOkTlOtHFOtQ.OudtO.G^P2AmP2B3P7VvP:cfP<clP@>PLC3PLC@PaJ.P+qcP.q;Q3qOQ6UOQ7GXQI?<QYo~Q_;R1qbR9a9R;rnR=RJR=qJR>qaRAg3RIqIRPH6S+LES.IUT?UlTH?VTHJ>TMTpTS1TeP6TkceTmq4U07UBGcUN?ZVMclVQ>VerIVmraWApUWnC=WqC0Xxq2X*_8X*lKX+_+Y8qyYBrSYCk?YF^FYTJ0Y_k4YbUZYemCYj_.Yja0Y%AwY~BDZ1m3Z<dxZAjsZFcqZFcrZHB~ZRPDZsrM^s?7^wiL_03_GI7_w_d_ybra9r>aFsRaHngaHsQb<jXbTqRbTsUbcJ,bfd8bfd9bhshc4kTc4pZcgd8cgd9cmsscmsucos5ctpYdAT@dWr+dlkDdmKBdng4dpt4d.gTeNrPeWrqfiEbfre1hnb?iWsEigTiims%j&JpkzjilHr=lbt0mO1mfiFmhIom%rLm+rmn5s:nIj3n+tBo3s&oBYIoVtCo*rfpO_gpTKgp_s4paAypcA&pds3q8TCq9EoqAqKqFsMqMqPqSqUqTG*qVtKqXqYq^q_qdsKqeqfqgqhqisTqmszqos~r0qkrGE%rNtQrrt@rxt^r*tfr,tas6sxs7tcs8tWs9QKsAcdsDs*sItbsPCEsStZsdtmsgtksq_ysrtNstt8svrRswt:s+tts,t%s.u1t1u0t2tTt?titAu3tEtyt_u4tdtetgthtju2tnu8tpu=tqtDtru7tsu:tuu?txt,t*u>t.uDu5uCu6uEu9uAu<u@uFuIuHuBuJuK1??1Ge1KA1f+1h??3A,?3CF?3a6?3nt?5@J?5@^?66?6Eb?6Ga?6Gs?6H;?6Nk?6_S?7H??7I0??CE?FT,?FU??FZr?GT,?GU??HA+?VY4?yIQ"++zc "@G<@Hkx@P4@Z4@gcD@wp9A>H5AnEbAoMCApOMApd.AqreArM9ArQPAra1AsY3AsiAAtb@AtiAAuh4Aur9AvLYAvX%Avi?AvoNAvo.AwI^Awi?AyK@AyKpA%AqA&GcA&iHA,NaA.QJA.^tB0CWB3H,B;H,B<CfBBYGBCH,BGKYBKH,BKjfBLI%BMI^BSH,BTY=BWI%BXI^B_Z&BiCSBrBDC6bmCFLYCGI^CGJcCSBECaHFCa_OCdedCjCwCkCyCmC,CnCzD>BJDABlD&A,E>vO3Eo3J63KV3gU6>6Ga6Qa6TPEbH6EbHIEbpq;G.;Vy8Ej8Hl8e>8jl9IY9J49Jp9Qh9Xm9Z;9p+7IY7JJ7Kq7Lr7O%7O&:GU:2:Jp:LD:Zt:h~EjEmEjH*EjL+Ejh~<4<Em<Qx<TC<V6ElI6ElL:ElUyEli4EmJ05h.5kt5r:Eoh.EopDEpO%EpO&EpZOEp_2EqGkEqI+Er2EsGmEsvmEtL:EtfyEthSEtoREuIzEu_2EuhSEuj2EvEbEv5EvEzEvTuEvezEwHSEwQFEwfTExZ^ExfTEyWFEzY,E%EyE%E.E%OkE%dkE%ezE&^XE*flE*wqE+c3E,E~E,eNE._RF0fyF32F:LgFAl=FCr7FW?2FhFiFjFkFlFmFnFoFpFqFrFsFtFuFvFwFxFyFzF%F&F*F+F,F.F~G0G1G2G3G4G5G6G7G8G9G:G;G<G=G>G?G@GAGBGCGDGEGFGGGHGIGJGKGLGMGR?7GSBMGSB^GU@cGUutGWlmGYxM2HA2HM2H,2Ly2OZ2W?2lUGaHAGaUAGfQUGiJ8GiJ_GmQlGnKCGoU%GtKnGuQTGuvZGuvaGvWaGvWbG*VbG*b7G.4G.:H0HHH5CEH5CFH5a;H5vFH6xaHANSHDLtHFwHHH>HH;HH8HH2HHwiHIVCHL;HLGaHLI.HLhUHMQ?HQKGHRLGHSEjHSwxHTWMHYeGHeH.HlWZHln6HmGsH%f+H*J,I0:I2eOI=K1I=y7I@??IGT1IGdNINnkINq.IUGfIUH+IUI0IUVCIXxZIYwnI_KWIgV>IvO_IxvYI%eSI%p^I,f2I.JyI~c3J0U6J0U7J1OmJ1UZJ4KxJ4y3J8WZJ8i=J9H,J9IRJ@vSJBJf"++zc "JBi=JBwmJLJyJLneJMdeJNr3JO1JOxdJQHMJf4JgfsJy6Jyw=J&GUJ*dNJ*dQJ+hWK6V7K9C3K?LAK@qHKLfzKOLfKON%KON&KON*KON+KON,KON.KON~KOO0KRA?KT^3KWsJKY<KZTdKZt;KewXKjwkKp_~Kpv2KqjLKreVKuW=K.PBK.mFK.rVL0v@L2J>L2Z?L2kLL3f<L6@&L6VELBdeLDQoLDi&LDxlLGynLV;LYsbLYv=LZYKLdQALdywLfN&LfN*LfN+LfN,LfN.LfN~LfO0LgHjLhiDL%H,L.zPM0xVM5YVM@YZMBdxMG?GMGL&MGg=NYTrN^H,N^c<N_RsNduqNrLENt9NwK8Nwi,N%N&N%N*N%N+N%N,N%N.N%N~N%O0N&N+N&N,N&N.N&N~N&O0N*N+N*N,N*N.N*N~N*O0N+N.N+N~N+O0N,N.N,N~N,O0N.O0N~O0O1WaO1WbO2vrO3H?O4^eO7S+O7k<O:yUO@EjO@ElO@5O@ErO@EtO@EvODJ+OLUBONmpOQdJOR_%OY3O_w&Oh@xOluvOrhTOrhXO+_*O~%PP2ArP2AsP2AuP2uxP2v5P3G^P3YnP6e7P8twP?phP@;PApmPBiYPGJaPG_DPZyHPtWaPtWbPtx+PvroQ4QjQBVaQCHFQGfvQL%eQXdIQXeOQZGeQ_KkQoU6QoU7Qvz<Q,@IQ,@LR6ziR8aBREfzRXivRzuuR%AsR%u,SKw7T6xST@t7TCj7TLZQTQWaTQWbTR1TSyrTkj>Tlk8TwJ~T,?FT,?GU0GsU2xWU4j;U??FU??GUCfvUMODUQ2UakyUg_OUthUUtylU%g8U%g+VHAtVNq6VOGcVPyoVREtVUi>VWr.V_g8V_g+V_hkVaJ0Vlv?Vno>Vrz7W=L&W=g=WCzOWnCDWsAwX:bxX&@cY3TiY@L&YFjwYW_QYvOVYxSYY.^fY.^gY.l1Z8QZZC%oZDyXZRveZVwCZXIVZc%?Ze&jZh%BZk%DZl&hZm&iZpfSZtrkZ*wW^LoP^PwV^Uv7^WfD^hi>^vz1^zeW_8qQ_=kr_AGe_FEj_Fw6_SGa_Yvg_pyu_&o7_*?3a4o?a<h4aAU2b0pVb1wUb<JJbSVrbyr8c2Q2c6*1c=R%c@zLdU%.dWmnddLEdvftdzwvd+*De7zGe?%+eA*HeInNeSrHecIveshW"++zc "f9&Ff<zCfB%;fC&Efuypf&yLg@dIgBYAgFrKgWxqgrvUgyzHgy*2h7Z.h7_Kh?lYhQzMhcLahc&xhk&Rhln,hshshtixi3tRi3xXiaVyihVEirGciy%9j4vPj6Gsj@mKjDvHjHwzjN*Ljmj.k2wjkd*Zkiw%ksq~k*V6l2V6l;n*lF&*laOBmBoZmEnhmHp8mQ&HmgYNmjxRmlH5my@Im&KJn:icn@+4nB%Rnqt5nsT=n.eRo6spoHV6oL*NoSz6oX&yoYOuoiyJozwJp7&~p?hBp@hVpBhCpChDpEsBpg*%po*&p%_=q@%OqpuLqs@JriZ9rs&4rtgUsCG%sX&As^Z9sc&ot3jxt9%*t<UxtJr&tSy8t&J4u;w+uPwtuTyvuW%,u^2uaJ_uc**udv*uey_ur&Mu+u.u~+ov0v4v1Awv3&&v;&ev<+mv>A~vIvJvL*kvMvNvWygv^*gvn*3vq8vt&<vvv.vx++w0w1w5wZw:+Zw;wIwBq:wF&%wG%@wKwLwN%AwOxNwP*SwTwbw^yWwd%CweExwrZuwswhwuy1ww,@w,w.w~x0x1x2x3x4x5x6x7x8x9x:x;x<x=x>x?x@xAxBxCxDxExFxGGPxLBKx_fsxbzIxc*nxfn>xghCxhJ0xrVnxt+txy+hx,*Ey4VDy5&Yy<Gsy@%kyQ+fyR,QyShTyV,Syaz=ybyYyd+QyeB0yi*hyqz5z0*Cz8&Dz>+GzAK,zJ%Nz^%iza,>zk*r%6O0%7oq%8hD%HHH%K,f%MAp%QJc%U&O%VGn%Y&T%Z+R%^c=%a,Z%fnD%ghV%m&z%s%h%thX%x,+%z&G%%,0%&,&&1+u&2o&&3hB&5+V&=*o&@.2&C+.&JQp&NUX&U*7&m.>&n,8&+.A&,,k&.Ws*:+p*<+O*=,;*F,,*IrF*K,Y*M*u*Qvi*VKe*^*i*a,1*f+v*lht*m.E*v+x*wx~*x+q*yMB*~,?+1.9+6lV+;&Q+=fU+Cwo+DEs+Hf3+Mes+c,c+e,B+k+&+l.R+s.?+wBN+yBY+z,X+,it+~,q,2.7,4,R,6,i,9+X,C,D,E,F,G,H,I,J,K,L,M,N,_.g,g.C,nUg,o.&,tD%,y.U,~&6.5+g.8.*.B*6.F+%.H.k.I...J.T.M.r.N*W.^vT.h.u.i~4.j*b.n~8.q~7.v.w.x.y.z,O.%&7~:~?~;~>~@~A"++zc "~C~E~Dwg"))))
abbrev ZZ:=List Z->List Z
def zo:List (List ZZ):=[[fun s=> .l []::s,
 fun| .o a::s=> .o (none::a)::s|s=>s,
 fun| .v a:: .l b::s=> .l (a::b)::s|s=>s,
 fun| .n a:: .q b::s=> .q (a::b)::s|s=>s,
 fun| .n a::s=> .v (.int .i64 (iN a))::s|s=>s,
 fun| .k a:: .l b:: .t c::s=> .t (.op a b c)::s|s=>s,
 fun s=> .q []::s,
 fun s=> .o []::s],
 [fun| .o a:: .t b:: .d c::s=> .d ((a,b)::c)::s|s=>s,
  fun s=> .d []::s,
  fun| .l a:: .n b:: .n c:: .l d:: .d e::s=> .t (kal a b c d e)::s|s=>s,
  fun| .k a:: .l b:: .t c:: .t d::s=> .t (.br a b c d)::s|s=>s,
  fun| .n a::s=> .v (cQ a)::s|s=>s,
  fun| .q a::s=> .v (.string ⟨⟨a.map bN⟩⟩)::s|s=>s,
  fun s=> .v (.slice none 0 0)::s,
  fun| .n a:: .v b:: .e c::s=> .e ((a,b)::c)::s|s=>s],
 [fun| .q a:: .l b::s=> .t (.ret a b b)::s|s=>s,
  fun s=> .v v::s,
  fun| .n a:: .q b:: .l c::s=> .t (.jump a 0 b c c)::s|s=>s,
  fun| .n a::s=> .v (.int .u8 (iN a))::s|s=>s,
  fun| .b a:: .h b::s=> .h (a::b)::s|s=>s,
  fun s=> .t .stop::s,
  fun| .o a::s=> .o (some v::a)::s|s=>s,
  fun| .o a::s=> .o (some u::a)::s|s=>s],
 [fun s=> .h []::s,
  fun s=> .v u::s,
  fun| .n a::s=> .v (.pointer (some ⟨a,0,none⟩))::s|s=>s,
  fun| .l a:: .n b:: .n c::s=> .b ⟨.cells a,b,true,false,c⟩::s|s=>s,
  fun| .t a:: .f b::s=> .f (a::b)::s|s=>s,
  fun| .a a:: .n b:: .n c:: .n d:: .n e::s=> .b ⟨a,b,Nat.beq c 1,Nat.beq d 1,e⟩::s|s=>s,
  fun| .n a:: .n b::s=> .v (.iface a (cQ b))::s|s=>s,
  fun| .k a:: .l b:: .o c:: .t d:: .t e::s=> .t (.aV a b c d e)::s|s=>s],
 [fun| .q a:: .l b:: .l c::s=> .t (.ret a b c)::s|s=>s,
  fun| .n a:: .n b:: .n c:: .n d::s=> .v (.slice (some ⟨a,b,none⟩) c d)::s|s=>s,
  fun| .l a::s=> .v (.tuple ⟨a⟩)::s|s=>s,
  fun| .n a:: .l b:: .t c::s=> .t (.note ⟨.own a,b,J⟩ c)::s|s=>s,
  fun| .v a::s=> .a (.own a)::s|s=>s,
  fun| .n a:: .m b:: .n c:: .g d::s=> .g ((a,b,c)::d)::s|s=>s,
  fun s=> .e []::s,
  fun| .e a:: .h b::s=> .m ⟨a,b⟩::s|s=>s],
 [fun| .n a:: .n b::s=> .n (a*300+b)::s|s=>s,
  fun| .n a:: .n b:: .n c:: .r d:: .s e:: .n f:: .g g:: .f h::s=> .x ⟨a,b,c,d,e,f,g,h⟩::s|s=>s,
  fun s=> .f []::s,
  fun s=> .g []::s,
  fun s=> .r []::s,
  fun| .l a:: .h b:: .n c:: .v d:: .h e::s=> .s ⟨a,b,c,d,e⟩::s|s=>s,
  fun| .l a::s=> .v (.agg ⟨a⟩)::s|s=>s,
  fun| .n a:: .r b::s=> .r (.tmp a::b)::s|s=>s],
 [fun| .n a::s=> .v (.map (some a))::s|s=>s,
  fun| .n a:: .n b:: .l c:: .d d::s=> .t (HK a b c d)::s|s=>s,
  fun| .n a:: .l b:: .l c::s=> .v (.func (.func a) ⟨b⟩ ⟨c⟩)::s|s=>s,
  fun| .i a:: .v b::s=> .a (.jV a b)::s|s=>s,
  fun| .n a:: .n b:: .r c::s=> .r (.cell a b::c)::s|s=>s,
  fun| .i a:: .v b::s=> .a (.r9 a b)::s|s=>s,
  fun| .i a:: .v b::s=> .a (.gM a b none)::s|s=>s,
  fun| .v a:: .o b::s=> .o (some a::b)::s|s=>s],
 [fun| .n a:: .v b:: .v c:: .l d::s=> .a (.qa a b c d)::s|s=>s,
  fun| .k a:: .l b:: .v c:: .t d:: .t e::s=> .t (.sw a b c d e)::s|s=>s,
  fun| .n a:: .q b:: .l c:: .l d::s=> .t (.jump a 0 b c d)::s|s=>s,
  fun| .v a::s=> .a (.maps a)::s|s=>s,
  fun| .n a:: .n b:: .n c:: .n d:: .n e:: .q f:: .l g:: .l h:: .q i:: .l j:: .l k::s=> .t (.pick a b c d e f g h i j k)::s|s=>s,
  fun| .t a::s=> .t (lN a)::s|s=>s,
  fun s=> .t .stop::s,
  fun s=> .t .stop::s]]
def zw{α:Type}(f:α->Z)(l:List α):List ZZ:=l.map fun a s=>f a::s
def zq:List (List ZZ):=zo++zh 8 19 (zw .v [.pointer none,.int .u64 (iN 8),.int .u64 (iN 16),.int .u64 (iN 24),.int .i64 (iM 1),.int .u64 (iN 256),.int .u64 (iN 1),.int .i64 (iN 9223372036854775807),.int .u64 (iN 3),.int .u64 (iN 64),.int .u64 (iN 65536),.int .i64 (iM 9223372036854775808),.int .i64 (iN 4294967290),.int .u32 (iN 1013904242),.int .u32 (iN 1359893119),.int .u32 (iN 1541459225),.int .u32 (iN 1779033703),.int .u32 (iN 2600822924),.int .u32 (iN 2773480762),.int .u32 (iN 3144134277),.int .u32 (iN 528734635),.int .u64 (iN 0),.int .u64 (iN 13),.int .u64 (iN 17),.int .u64 (iN 32),.int .u64 (iN 4294967296),.int .u64 (iN 7)]++zw .i [[.u8,.i64,.i64],[.u8,.i64,.i64,.u8,.i64,.i64]]++zw .k [.bin .add (nN 0),.uT,.ld,.bin .eql (nN 0),.bin .lss (nN 0),.uU (nN 1),.jf,.mv .u8,.cP (nN 4) (nN 1),.Hs,.bin .sub (nN 0),.bin .shr (nN 0),.bin .geq (nN 0),.bin .add (nN 3),.tI (nN 0),.qK (nN 0) (nN 3) true,.bin .gtr (nN 0),.uU (nN 3),.bin .eql (nN 3),.xW (nN 3),.bin .eql (nN 2),.vk (nN 1) (nN 0) (nN 1) false,.ky (nN 0),.cP (nN 1) (nN 1),.bin .neq (nN 0),.app (nN 1) (nN 16),.Ik (nN 0),.tI (nN 3),.uU (nN 4),.xW (nN 4),.bin .quo (nN 0),.cP (nN 4) (nN 2),.cP (nN 3) (nN 1),.tI (nN 1),.qK (nN 0) (nN 1) false,.B1 false,.tI (nN 2),.cP (nN 1) (nN 0),.app (nN 4) (nN 56),.mv .i64,.tI (nN 37),.app (nN 4) (nN 32),.bin .leq (nN 0),.xW (nN 2),.bin .rem (nN 0),.app (nN 3) (nN 24),.bin .neq (nN 3),.app (nN 1) (nN 24),.uU (nN 6),.app (nN 1) (nN 1),.vk (nN 6) (nN 0) (nN 6) true,.H4,.tI (nN 4),.tI (nN 5),.uU (nN 2),.xW (nN 1),.bin .mul (nN 0),.cP (nN 6) (nN 1),.app (nN 3) (nN 64),.qk (nN 1),.EN,.xW (nN 6),.DF [.u8,.i64,.i64],.uB [.u8,.i64,.i64],.mx,.app (nN 3) (nN 32),.app (nN 6) (nN 48),.cP (nN 3) (nN 0),.qk (nN 2),.vI [.u8,.i64,.i64] false,.cP (nN 1) (nN 5),.app (nN 6) (nN 112),.cP (nN 1) (nN 3),.cP (nN 2) (nN 1),.app (nN 2) (nN 24),.bin .shl (nN 0),.mv .u64,.HT,.cP (nN 1) (nN 8),.vY,.qk (nN 3),.app (nN 1) (nN 8),.app (nN 3) (nN 40),.bin .xor (nN 0),.cP (nN 1) (nN 2),.cP (nN 1) (nN 7),.cP (nN 3) (nN 2),.cP (nN 6) (nN 3),.vk (nN 4) (nN 0) (nN 4) true,.n5 (nN 1) (nN 1),.ky (nN 1),.DH,.AU [.u8,.i64,.i64],.DG [.u8,.i64,.i64],.DE [.u8,.i64,.i64],.DC [.u8,.i64,.i64],.n5 (nN 3) (nN 64),.ky (nN 2),.Ea,.app (nN 3) (nN 72),.bin .and (nN 0),.F4 (nN 64),.F2,.vI [.i64,.i64,.i64] false,.vI [.u8,.i64,.i64] true,.cP (nN 1) (nN 4),.cP (nN 1) (nN 6),.cP (nN 2) (nN 0),.cP (nN 3) (nN 3),.cP (nN 6) (nN 2),.Ef,.uB [.u8,.i64,.i64,.u8,.i64,.i64],.n5 (nN 1) (nN 16),.n5 (nN 1) (nN 24),.n5 (nN 1) (nN 8),.n5 (nN 4) (nN 56),.n5 (nN 6) (nN 112),.qk (nN 4),.HU,.strOf])
def zx:Nat->Nat->List Z->List Z
 |0,_,s=>s
 |f+1,x,s=>bif Nat.ble 658 x then(match zn (0,0) (zn [] (zn [] zR ((x - 658)/324)) ((x - 658)/18%18)) ((x - 658)%18) with|(a,b)=>zx f a (zx f b s)) else bif Nat.ble 512 x then(match s with| .l a::s=> .l (cQ (x - 512)::a)::s|s=>s) else bif Nat.ble 213 x then .n (x - 213)::s else zn id (zn [] zq (x/8)) (x%8) s
def zr:List Nat->List Z
 |[]=>[]
 |x::t=>zx 99 x (zr t)
def zF:List Z->FX
 | .x x::_=>x
 |_=>⟨0,0,0,[],⟨[],[],0,u,[]⟩,0,[],[]⟩
def zD:List Z->DT
 | .t x::_=>x
 |_=> .stop
def mkF(x:FX):FD:=bC1 body x.f x.n x.k x.rs x.sg x.m x.hs x.ds
def zg{α:Type}(e:α){x:α}(_:e=x:=by conv=>{lhs;reduce;delta iN iM bN cQ lN nN}):α:=x
def F1(s:String){l:List Char}(_:String.ofList l=s:=by exact rfl){y:uo}(_:zs (l.map zi)=y:=by conv=>{lhs;reduce}){x:FX}(_:zF (zr y)=x:=by conv=>{lhs;reduce;delta iN iM bN cQ lN nN}):FD:=mkF x
def D1(s:String){l:List Char}(_:String.ofList l=s:=by exact rfl){y:uo}(_:zs (l.map zi)=y:=by conv=>{lhs;reduce}){x:DT}(_:zD (zr y)=x:=by conv=>{lhs;reduce;delta iN iM bN cQ lN nN}):DT:=x
def dD(f:FD)(k:Nat):DT:=f.rF.getD k .stop
def nU:FD:=F1 "0CMB9P:+BLZ8Yg2JfxPIGVzOsQpa@@+8GaVNEl7Jf5Z3Emvy"
def fd1:FD:=F1 "0D7AyAqOMM9PcUVeIUVYxPzK4CEHldfH~HM3LpHPG.ErJfEsLdZw"
def fd2:FD:=F1 "0D5C<Ata1DyoLrZKBKZREnNyCH~HMJOHGy:I3ICLdGXKLGaGoErGcOkGdXq7I3K8:JBICLdGXKLGaGoErGcOkGdy:K.,rK.J4aB,r.+oP.+i;Xky:K.,rK.J4aB,r.+oP.+i;Xk?9?Z"
def Vb:FD:=F1 "0D6A,P:+Bs>^^??AsjPUVWMUmDy?HAxeHlepLGcxPI,Eb3WCOBdZL6@GivQV6EwHLS6AyKjGvZGGd?PGpmuOBeXOBJp"
def fd4:FD:=F1 "0D4C5Ata1DyoLrZKBKZREnNyCH~HMH6KXw3ICLdI3IZ@?I3ErJfMFGcroGaf.oUPvLdK87GaK8:K.f.oUe4I3K8ZbytozElpD~Bk8~Bk8I3K8ZbytozElpD~Bk8~BiBnO"
def fd5:FD:=F1 "0CNDgAu?hAsC1M9HPPcUVrZZ3KZVSUV_~IUIWI3TvJlJNJroUGoJmPHJnoUGoEvH;PHGdIWHlK8TOWCHM2ZLIdPHIq@bJNR2H%I3n6I*N6H;Q&1I3n6F0H;Q&LOK.K8TOWCHMJlTZy6JmPH1y6EvH;PHGdIW,h_t,h_tK.K8TOWCHMJlTZy6JmPH1y6EvH;PHGdIW,h_t,h^pS*NQZw"
def Va:FD:=F1 "0BsBCYG+Bs>^^J>Y,UVWMUg_~eHlepLGcHM&87K8K5K8w3ICY,L_KX<NTH%muM1eXM1rEHzCNArLvEt<3gq?7zDlhEzlV6F1JJG&AyKjF2Q?G*?PGpmuY,pHTUH%muY,pHTUJp"
def FY:FD:=F1 "0BQB1rwTtTJUnAvAo??AsPaHwI<K>AvKFeHOLK@Gc2I,kwlwBK4H,>GUAlTNRB8LrEb9NlHbK@HPj5HcAvAo1EbJp"
def fd8:FD:=F1 "0BPAwuyyEqq3YYJp"
def U':FD:=F1 "0BRBMeknFYj?NAwVFAqIDJ>pxr3Q6ApQjeHlepM2KBI,6HlLwJ:6YM@yp*JxifVN:nvEjRBa@ABeyUcG&iQQ>pxJ4TORBGaGUAB39UcG&iQHPpxHS;J:69Zs;6Jx7xkVNEjnv<RBElGUAB3EmUcG&iQJ0pxUcWV7pxj5TdYwJp"
def TD:FD:=F1 "0BSBXYG+BT?Y?VF+>REUVJ.IxC%^xLZv,lepMHPxPORZsP;UzEl1GRG~@D_3G.EoIGEp4lffei,EsGSBCHn@+iiEtKcEv4G.EwrVErdfKN_XErEuJO2HGVbGvEz_>3F1NlG&pbF2IYF3Q?UX?E?PGpTdREYwREJp"
def tJ:FD:=F1 "0B6DoAuXrB;_^t7MBJe,zI%AqI^u%BBJ@_xz@OmHEB4HFe?%TH;P=dveAUkP7,zI%AqI^u%AuiJ^ZAvg@HEB4HFe?M7AsPiAtGcgwUOAseA_Qft&gXtYEk5An??C9I%C:J@C;T=e?t9GcgwUOKpvXeAj?ftQj^dXtoZCEI^CFJ@CGT=e?+_oNQ6vXeAj?ft_PmKThiK~9CVNaCWQJCX.XQ6~=pR~9CtNaCuQJCv.XQ6~=^dXtoZCEI^CFJ@CGT=e?+_oNJ.AnAmAnvXeAj?ft_PmKThiK~9CVNaCWQJCX.XJ.AnAmAn~=pR~9CtNaCuQJCv.XJ.AnAmAn~=LZVyer4KDAjY+>J4T4VNQ1ApQp8yt9Z:7GU@GL<H;pFAnH4HbUBGaI~HP*qJnEjHP*qWA@oQ1ApQp8yt9Z:v,HDUBJ6HP*qG*I_LuIGkvxkHLK.>IQ;<VNElLUJ4EmJiKRA:EjHAqj75soHDL>m5EpOmEoKRA:EjGiqj75soHDL>m5EpOmEoI6HDK7HbOLrYjVGc&8>J:Eb7_=3psEb:IG>EbOsVN<XzK8ElGlIu@avpHlEmKtEmLTVNvpHlEoKtEoMJ>EblfVNErXzQpEsVa5Z0GUAC9EuQ_JPLhO<K@EwO9EvUNKIpzOjK@EmH>m1Z4e@HbOLjGuXGcK5G%m1Z4e@HbOLjGuXGcw3G%ORO2J&M68QhBRAvidHIV7<VOktZ8KkHDTxjGKjEmEb5J6rb3qtOjUB63VzJ6Gcrl9gDIgHl4Kt4LTVN7nvEmx&5K9CEEoZ:Epl^HorjjGLtUBJ&IYTQ2OuZ;Gc_??PIyC3VfZE+_1_lOufu,bEqGaYMA2*;Zx.dVaoUI3xUGt.@ErK9CAEsZ:EtquoXm5Pt2oREqT~a=,bq>xU*;q,.dVNEjnvEpx&Eq.@EsHS9HSEli,EvmgZb,=J4qEKT.<HqA~X&A:JiGcL0.OEzf_E%&KF2zn_8zoF5+5F6.frJF7f_F8VOF3FA&SFBeJFChpd>g7FEUQFD,VF3eJF5hpXog7F7UQF6GdRP.<ExP?.OExf_Ez&KF1znwyzoF4+5F5.fQ?F6f_F7VOF2F@&SFAeJFBhpd=g7FDUQFC,VF2eJF4hppJg7F6UQF5G*I_L*k>9gDIgHl4Kt4LTVN7nvEmx&5K9CEEoZ:EpqwHorjjGLtUBJ&IYTQ2OuZ;Gc_??PIyC3VfZE+_1_lOufu,bEqGaYMA2*;fZ.dVaoUI3xUGt.@ErK9CAEsZ:EtGmAvoXm5Pt2oREqT~a=,bq>xU*;H=Av.dVNEjnvEpx&Eq.@EsHS9HSEli,EvmgZb,=J4qEKT.<HqA~X&A:JiGcL0.OEzf_E%&KF2zn_8zoF5+5F6.frJF7f_F8VOF3FA&SFBeJFChpd>g7FEUQFD,VF3eJF5hpXog7F7UQF6GdRP.<ExP?.OExf_Ez&KF1znwyzoF4+5F5.fQ?F6f_F7VOF2F@&SFAeJFBhpd=g7FDUQFC,VF2eJF4hppJg7F6UQF5Zw"
def TC:FD:=F1 "0C3B9ArXrD:%~TrXt^%A&I%A*I^A+M8JamFHED:HFG,j^HED:_PUmD:ThU4@F3ffe@OLNZdO>IYGctIvzC3AyOafhL6@Gb5QVe&fceKErG,EqLNd@G,j^1O9Jp"
def MI:FD:=F1 "0BXBMek^FJeei*Or&PND2mieiAsMC*OLYB9NaB:QJB;M2?VJ.PND2HFTiRzAwLGHED2JGAwUmD:^ybysGGeUwVPP;b?>bcG~@F;H@BXAz:P1BXAzEjZ:7I6_BOLm57ii<G%GcGnK?j&fuO2dNM6EmQhC3AyL@fhL6tSQVEjEvnI_CZ*ExTiEwLGLNzDv&lV3EmNlK7?65IYEoJp"
def zQ:FD:=F1 "0B8CRAuXrBq%~Tr,zQPB1I%B2I^B3*5Ufni4%SH;Q4_PnlThP7,zQPBCI%BDI^BErgUfni4%SmvGcQ4_Pnl_Qr@&gXt^%.mM8ni4+<M7AsQ4_Onlj?r@_Pr?Th^dXt^%AvQPAwZP.mJ@BeLYBfNaBgZCni8mvPiAuR%Av^Jig<h>Ejb@AyGcZy_Qnldvr@j@r?JGAyIxCy^yiKmB^%em.mJ@BzLYB%NaB&ZCni8P2AtM7AuPiAv^JEjR%Axb@AyZy_Qnldvr@j@r?JGAxIxCyJGAyK>CA^ypRmB^%emA&ZP.mJ@BzLYB%NaB&QJB.V8B~VjC0s@ni:o.R%Ay^JEmb@A%r9A&ZyHFr:A*HECAJGAwnlJGAxr@JGAyr?JGA%IxCyf&K>CAJGA*IxCDukLZ6JJHDUB6T4prGcNUsk9slL6A:7HAqjvsfcxsrXG,<Uz9pIL6A:7GiqjvsfcxsrXG,<^;>I6HoUB>a>4TN8GcV;7IzVbQgGUAC9ElQ_JPHoO<K@5O9Em^;;Z4Xn_EUB;dR4G%GcV;v%:qt_CLt_EOLHU:Q=O9dQGcjFNZ+<M7As1O9jnEmQ,@FEoVa5EqEplUElErx%llZIiDNxEtG%OaEs^;<l^H4VYL>PmOLHU<YNG%I2ElGcs^G.EmfequHDTxVYL>PmOLZ*J02q%GcVaV*eJEm%rH4VYuRK@EoQX5kAEqIzL6@XGcEsH@BXAzEtHIVbErH0_>EpEwlvq,jj^uXpEy_4J0ExLNV7EpVOEoq=;ZxHDjGPm^tNxEs_4q:Jp"
def TB:FD:=F1 "0D_B8sWTtApmGJ@Av^ITs*>r8&L@w>fW&L@xifH@D_A&8P1D_A&:KEEj<O5ElNlKjEmEb5G*Gy6Jp"
def TA:FD:=F1 "0DaB9sWTtApV^j=^ITsJ46PG2*>Kj2EbUw&L@w>fW&L@xifH@DaA*8P1DaA*:HnA1Q2<NlKjElEbEmG*KIvkxuJp"
def Tz:FD:=F1 "0DcB1YFnFYjyNM8O9HED:ThLZ4Qa2T4KBm%8EbM6vzDcA+OaHnA1eyHLTcEm_2O9jLdHHHvy"
def ar9:FD:=F1 "0D&A%ejP9C1dAO:d<J1g4>uOyEksi.2GoGiK8Q1B2i.2GoGiI+GSB33HaAI3Nk2yGyG,%+jQY%=+jq+&Z?6xOz_z_J_lk%<KYxOJ_dd*_KYGaxYH5BHuZxYq+zln?BEn?BJn?B@%uBF%uBH^OBXoFB<oFBW^OBWoFBY^OBYe_QvI3KyO7h6QvGaKym.KY^sGRI=6deVVAI3Nk2yGyG,%+jQY%=+jq+&Z?6xOz_z_J_lk%<KYxOJ_dd*_KYGaxYH5BHuZxYq+zln?BEn?BJn?B@%uBF%uBH^OBXoFB<oFBW^OBWoFBY^OBYe_QvI3KyO7h6QvGaKym.KYkHGRI=6GiGsHAsH"
def ar8:FD:=F1 "0DdA%ejP9BZdAO:d<J1Z318uOyEksHHV=GiK8Q1AwHHV=GiI+HV3HaXlNsZrzFOCY@NsT,zFK1Y@NszdzFL,Y@NsU?zFHm&cZr,aOC&cT,,aK1&czd,aL,&cU?,aHmh=pQyfOCh=uiyfK1h=?GzdyfL,h=ujyfHmh=uhy=OCh=ufy=K1h=?Fzdy=L,h=ugy=HmHAsH"
def Ty:FD:=F1 "0D%B7ZJDfh@DfNetV_nPzDfB9ppOxEbxjLwJJKjdOKqe9.,A~.o"
def Tx:FD:=F1 "0D%B7ZJDgh@DgNetV_nPzDgB:ppOxEbxjLwJJKjdOKqe9.,B0.o"
def Tw:FD:=F1 "0DeB3ZJDfh@DfNev6Ax_nU4J7@ZiaEbffKjT4NU.,A~.o"
def Tv:FD:=F1 "0DeB3ZJDgh@DgNev6Ax_nU4J7@ZiaEbffKjT4NU.,B0.o"
def Tu:FD:=F1 "0C~BAYGUdDbh@DbNeYH_nbyrYhnH@DbB=4m7@w+*lnB39m7@xk,lnB3<jlEmKqm^m^it"
def Tt:FD:=F1 "0C~BAYGUdD0h@D0NeYH_nbyrYhnH@D0B;4m7@w+*lnB49m7@xk,lnB4<jlEmKqm^m^it"
def Ts:FD:=F1 "0C~BAYGUdD3h@D3NeYH_nbyrYhnH@D3B<4m7@w+*lnB59m7@xk,lnB5<jlEmKqm^m^it"
def Iq:FD:=F1 "0C*vDnEOJC+I9zgPrC+e0TL_nP7PrC+p;K,?Vn=PrC+p;QJB5V8B6VjB7s?UkzN+iV;4Xmq1HUqzZAHA+Y8_u9Z4Z*&B^<_V8kAq5C+B>V*Y^7KkXp5z9k%Nxw4"
def Ip:FD:=F1 "0C*vDnEOJC.I9zgPrC.e0TL_nP7PrC.p;K,?Vn=PrC.p;QJB5V8B6VjB7s?UkzN+iV;4Xmq1HUqzZAHA+Y8_u9Z4Z*&B^<_V8kAq5C.B?V*Y^7KkXp5z9k%Nxw4"
def Io:FD:=F1 "0C*vDnEOJD2I9zgPrD2e0TL_nP7PrD2p;K,?Vn=PrD2p;QJB5V8B6VjB7s?UkzN+iV;4Xmq1HUqzZAHA+Y8_u9Z4Z*&B^<_V8kAq5D2B@V*Y^7KkXp5z9k%Nxw4"
def ar7:FD:=F1 "0DfB2sW.=vd4z;V5k,P0<LeIIJWMGV5k,P0<LeMIW=LBlWMGLBQq"
def ar6:FD:=F1 "0DgBMek^F.=vd4z;Ox:QiOQEl>Oh@MM=5J4EoJiNd@gEplfJyErPGHAOh@gEplfJ4Er%dKuMGJMlWW=Ox:QiOQEl>Oh@dM=5VREoYS@MEplfJ4ErJiNd@gEsG.EtjCPGHAOh@gEsG.EtJ4Eu%dlWMGJMQq"
def ar5:FD:=F1 "0D0B@ek^F.=DdA.4H*pQ?Gk6&Wk6&:k6&9k6gBk6zek6&?k6&>i2Z.Zr?Gjh&Wjh&:jh&9jhgBjhzejh&?jh&>X;VipQ?Gk3&Wk3&:k3&9k3gBk3zek3&?k3&>h2uh?GjW&WjW&:jW&9jWgBjWzejW&?jW&>PbM4Zw"
def ar4:FD:=F1 "0D3Bkel^F.=DdA.4H*pQ?GXW*d&XH*ui^w@xT5HSEqK8wQ*dT,ecH*?G*Y@wT5HSEqK8wQ*dzfH*uj^w@wT5HSEqK8wQ%LEsG.MKK8Og*dU?ecH*uh^w@g^mGo*c&XH*uf^w@gc9@xp9*cT,ecH*?F*Y@gc9us*czfH*ug^w@gc9us%LEvG.,=K8qE*cU?*PpQ^w@d^mGoh8?G&XIvuism@xp9h8ui*P?G*YiLush8?GzfIvujsmus%LEvG.,=K8qEh8uj*Puhsm+nGoh8?F&XIvufsm+nYS@xEuG.Evj2K8aFh8uf*P?F*YiL+nYS@wEuG.Evj2K8aFh8?FzfIvugsm+nYS@wEuG.Evj2K8aF%LEyG.Ezm3K8lHh8ugecQq"
def Tq:FD:=F1 "0DbA,sWJeAuyM_nU4J7@ZiaEbff+itI4QhDcA+L~HIXq7y^HL_V:LNeU"
def ar2:FD:=F1 "0C+B1&dLZ6K8p%TXD_A&voXq>GSBCTXDaA*voXq;J9TXC~B3EbLedq"
def Tp:FD:=F1 "0C.B7&dJesaAwI%dDAy_Yi_r2S.Jes_AwI%dDAy_Yi_r2S.PzNtppO_vl6T4JuyK6dm6T4Jue9fmfWP08Y^Vk7GsIvt=7GsUyC~B4>Lee9fmfWQ_e19GsIRJp"
def ar1:FD:=F1 "0D2AsuwjwPzC~B5EbLeQq"
def ar0:FD:=F1 "0D1B4&dj:6JiOQEb?2?,i~J46LUrDPGHArDGai~J46YRrD%dIRJp"
def EZ:FD:=F1 "0CKBpelnFsaA*I%A+I^A,*5%jJes_A*I%A+I^A,*5%jP7saB9I%B:I^B;rg%jP7s_B9I%B:I^B;rgQ4n=sa.l*Xn=s_.l*XQj^dsa.lJ@BYLYBZNaB^&lUk^ds_.lJ@BYLYBZNaB^&lUkPzNtppO_vl6dOpryK6dm6dOpre9sk8^sJ,zmY^Vkf5Ivt=f5Gd?O@n8kHJ,zmY^Vkf5Ivt=f5rb>x^>Vz4TNNUsk8^st=:G,Uz8kHt=:G,^;>GmMD>Vz4TNgxNnzmy9Nt7Y^EbPJGeElG,Ivfr%qElG,J%fr%q<G,rb;l^Gpe%Gs3gxe6Eb%qf5^;;quGpe%Gs3gxNnzmH*O_7qvsFQ=G,yK7qwsFQ=G,LNGzC*B7G,M4e9R@8Xm7qwsFK5G,ZAGijnq5Ntw9PIZ5&;5QXIvPIfZ&;5QXjLEbZxGpGe:QXjn:e6;fZ&;EmQX^<Ebq,GpGe:QXJp"
def Im:FD:=F1 "0CLBIeknFOlAwI%dDAyrg%jP7OlB5I%B6I^B7*Xn=OlB5I%B6I^B7J@B<LYB=NaB>&lUkmrjXT4Ge4gxIzy:GaUY:xIIRr5f5^;;dme%Gs3gxXm7x^Gj7K5G,rUC*B8G,M4T~UPhjq5D1BAV*H*PIPJb45QXz9Ebe1:QXJp"
def aq9:FD:=F1 "0BrA&YFT@T;jICJC;KBy9CKBBKBy9CLBCKBr;2IvI=J8J%I=GXJ%I=HlQq"
def aq8:FD:=F1 "0CSAvuyPzITGedhEb%dQq"
def To:FD:=F1 "0B^A.rwTtTJAtWU^I*@IGJ&iyLV6YLTA8HHjs"
def Tn:FD:=F1 "0D*A.ZJDieXT;Q._jDieX1nr*@ZsJ&Uz>^sG~@A6zK9nA7Uz>kHG~@A6zK9nA7sf"
def Tm:FD:=F1 "0DjA.ZJD<eXT;Q._jD<eX1nr*@J*J&Ke>Q,@M6b9zK:ip6OsLV8<nAElTAEjsf"
def aq7:FD:=F1 "0D:AuuyIURPJ+3KHQK6L0D*BGJudhONi~Qq"
def Tl:FD:=F1 "0D>B0u&Cy&pUTT^tFQ.JenP+>GoJa2HECyKFnG6JuUwo5gvp,HHOmHANlsFZAGoJaNkJp"
def MH:FD:=F1 "0D?B:Asa1CD&pUTT^tFQ.JenPv6tUT=iur2minPv6tULYA+NaA,QJA.jNiur2ThnG6JuUwfnZ9>_u;t6e%ZAiuGi.P9gv73HHI2HAnJ<^<r_vy"
def Tk:FD:=F1 "0D;B0u&C>&pUTT^tFQ.JenP+>iuZyKFnG6JuUwo5gvp,HHOmHANlsFZAiuGiJp"
def aq6:FD:=F1 "0D9v:kMM9HAHPn4eI&^yCexHM2:H*_THAHhIv_TGiHhQq"
def bJ6:FD:=F1 "0D9v:kMM9GiHPn4eI&^yCexr6H*_THAHhIv_TGiHhQq"
def aq5:FD:=F1 "0COB<kSiOHPn4eI&^j:a>OQdRJ4dRmXb4>:7jAb4>:7J4a>mXHMjAHMJ4a>mXHMjAHMJp"
def aq4:FD:=F1 "0D8A&P:gAOteIOtUkj:a>mXKB7OmjAKB7OmJp"
def Tj:FD:=F1 "0CPB@iOn4brWsAuT?AuyMjPWsAxLZvlUrxPNUsk<^sG~@Ls1mm+05H*b0A5ijVyi^ExElm6.arQ.aVU_Tn@Gd?O@n<kHG~@Ls1mm+05H*b0A5ijVyi^ExElm6.arQ.aVU_Tn@LNI4OBJp"
def MG:FD:=F1 "0CQBfAtM9n4brWsAuT?AzI%tVjPWsAxrvAoI%^%joI%B=eerhB>?4Ao??B?T=RErpZuHECvHFGnHEAv?HA&mrjXdRHMV;<%wH5C9TyWqC8mmL+EoQcL+EpEm+0PQJq?BAoLXEbGe2OkZuIv_TOkLNI4OBI,4I3I+I34Kt4GnH@D;BL9EoTb_gREGXEoU%,sV_,sdp_hREGXEoU%,sV_,sK??5AAVz3LqEoU_QKZuL0DjBHGtdhijGuQUREmQH*%nIv%nLaQTREmQH*%nIv%nZw"
def Ti:FD:=F1 "0D@BsAtY3I2eYGw15n4brWsA&T?ApI%^&AsQPtVJ@A*T=RErpZuZyHFEoUsr2ukLZElQH5ElaBHMOaEmORfnlfH@vbEmErTb_h.6E.KJfS&PE.KJfSdprT;Erm6.6E~EyP<fS&PE~EyP<fSJ%G~pV4H@vVExErm6.6&w&P&wrQ.6&w&P&wUX?5@L*GO7d*?3C:rKmmbYBI?6L+ErEoL+EsIo@LEtQcpEJOGX1DkBd;Em6Zu_7REEpGk_TqQQq"
def Il:FD:=F1 "0CRD?AugAOtbrOtUkT?ZYBZI%B^I^B_jPrp<eyZy^yP7h0C:I%C;I^C<jPrpLG3Zy^ySYh0AxI%AyQPC:I^C;J@iXCBLYCCNaCDZCVSrpR<ZyHF4HECAedU4up7Ke:%wH5+NKYEjlaHMR0b0AAwQ7H@D;BLEwEjTb_hZGJBw9p7wygWf3Ivp7wygWf3dprTEpEjm6ZGJBw9.eIv.erQZGJBw9.eIv.eINRO_TZGLNyIR@Em%wxoTysiQwz2bYBI?6L+Er5+0_6b0AAT1VyvbE*5Tb_hflJB5U%jHF9F1QdLGV_jHF9F1QdLGdprTwam6flJB5U%.WV_.WrQflJB5U%.WV_.WINRO_TflrbwAJQGnqn<3+TEm_u5Z4LXEbGeJ0qnLGK6I4OBjnEp%wlkO7h6QwO+KY5L+EtH5BI?6L+EuEqL+EvQcHL3Q%ExLDEwEylaVSEzH*b0AAON;LqPWI@EqL1@VF2L0kiF3l=_hrJJBPQ~5RO~5?9tRrJJBPQ~5RO~5?9?9RO_TrJK?KI3JPJQIYEpG%Q7Jp"
def Th:FD:=F1 "0BtBAAsXrDNt3bDtFTrXtZYB0I%B1IDJ>GoIXHEDNHFY,&^PzvQKBHIpPexKBYmUiIX>ppJqpPCPBQVSGk?7pPCQBRPHGkO_YKe@?6Znc3VUJqpPCPBQVSGk?7pPCQBRPHGkO_YKe@?6Znc3UXI_63ZSCRBTY,6GkIe6I7WVErLdGdGyTiw4"
def aq3:FD:=F1 "0EHA+u&CyZXm*d<tFjIvVI.r;GoJaNkIvJ,vbP;TbI=OmHAmbI=OmGiZw"
def aq2:FD:=F1 "0ENB>YGZXm*d<UTjIvVI.r;_SIvJ,vbP;Tb?7f^ApZzH6HHVzmbrTJ&r;LU2IvI=JaGXdq"
def aq1:FD:=F1 "0EPA~P:m*NYjIEHBVKBTb?7VC;YRHHH6xxmbI=GXQq"
def aq0:FD:=F1 "0EOA*ArkM?cAv?cAwzjG,d<RsQjyF;%cJ6RxIXJp"
def ap9:FD:=F1 "0EIB~AtLoZX?cAszjJ1O9bDRsThPzEMB^Gj8O3VC:%cHPJ44JiHHJiIXP%AqHHJiIXJ44LUHH^CP%ApHH^CJ44IJH@ENBWQWK:J,RYEj><SJZuG*Z7AuTGJiTFZ7A*^G9eRA+^G9eRAw^GLUeRB1^GLUeRB2^GLUeRAt+?A,+?A.+?A~+?B0n.cun._sTGJiTF_mTGJiTFGyJiIXQq"
def Tg:FD:=F1 "0EMBGYGZX?cAsm*d<RsTrXtYEAta0+EVXBhThJeXtYEAt_.+EVXBhThLZ4QaJaGsirrlvzEIBZOuOaO3VC5%cQ>J4ONJ4ElElm,ElIYl9lxGpElIYl9J4eyNlU0l9lxU0l9LNGy3IXrlvzEIBZOuOaO3VC5%cQ>J4ONlxGpElIYl9lxU0l9LNGyJaZvJp"
def ap8:FD:=F1 "0E>BJYGM9Epz4WIU_^_^Y_4H:WsA+PzEHBVGjEpTb?7L?ErZ&mbJ,vVEbq<pNexQ7H6q<m&IHIvm&IHJ%rT3q<pNexQ7H6q<+9Iv+9J%pNexr~q<+9Iv+9nO"
def Tf:FD:=F1 "0E?BFiOTQz4.GA,s>oAT=U_RE^YM1WsA~LZEq^1Rb2Z&rlEtQhEIBZOuH0OXO3PoexM1E%EzH*JqH?Ey3eG.QGd_e.QJ%JqH?Ey3eG.QGd_e.QIN?EL?L~I2HhEsJp"
def ap7:FD:=F1 "0E@BFu*Rb1Kgz4.GB1PzkiT6TbpNQTr~_6~6VU~6IN?8GRT__er~_6~6VU~6nO"
def ap6:FD:=F1 "0D+CKAtY3RbKgY_t;.GB1j:EpJi.DJisjTuF4EvVLF5I5JC^9ZtEvLUsjTuF4EvVLF5I5JC^9GdPoexjeNVYuIvNVYuG*q.LU.DYReGoWixoWyBYR.DYReGoWixoWyBGlAv.DJieGoWixoWyBXzsjZ&LUVLwcZtEpIJsjZ&LUVLwcZtEpGlAsH@D;BL<l=pNQTr~PQ.~J%.~G*?8GRT__er~PQ.~J%.~yBGlAtZRpmZ&G,T6GaOZwcZtEpGlAusjZ&Z@wcGdL?Z&Jp"
def Te:FD:=F1 "0DkBJiOEpz4.GA+T?AsyNM8U_OB^YHhWsA.LZEp^1TQ2Z&t>EssyQ;EjLD:EzZSiZHhE%U%EjO.KMD+BcTUF3gWx.GkPADkBdY0K2ExGkPADkBdLzY:EyGkL8jHFhVhu;INRONVOBgWK?L?OBHhJp"
def MF:FD:=F1 "0BuB>ekjwJeei*OPan7miei*OLYA*NaA+QJA,M2?Vn7ThmrJJsGI.UwfnZ9>_u;t6e%K6j&.Pv%ps2<hlrcElnJEmJ:Ga<L;GaOYdHrcEmnJ5J:I3<L;I3OYkrrc5nJEoJ:MHL;Hl%JHlrcEonJEpJ:K.<L;K.%JK.rcEpnJEqRKV7v~vftLEpIYG,Eqysv~35tLEoIYG,Epysv~3EmtL5IYG,Eoysv~eytLf8G,5^<r_vy"
def Td:FD:=F1 "0E0A.ZJE1eXT;Q._jE1eX1nr*@J*J&Ke>Q,@d6b9zK:nAEjsf"
def ap5:FD:=F1 "0EJBBiOq7t+^xPzIT:<dhZbmkApEl_Rw8feJ?EoVdAznj5Iw8<dhYNr^LUEm_R_5HSEoJ?EpVdAznjEoIw7<Z%VEAq5_REjEoHSEpJ?EqVdAznjEpdq"
def ap4:FD:=F1 "0EABVu*ivY_HMt+?HA&IUKMD.Bij15lZmnr^g0EmRp+dq6r^g0GaRp+d<YRr^Jidz+d<Xzr^IJdz+d<IJUMyhEJBgNvOGEllZO>pbP<R:o3IwEvihunEz_RaGHSE&J?E*h,E&_@AtIwEvihunEz_RaGHSE&J?E*h,E&_@AuIwEvihunEz_RaGHSE&J?E*h,E&GdL6undzt&Qq"
def Tc:FD:=F1 "0D.A*uzq7t+^xT?AsyNjPLGLxAzY;AzYqiGLZf7LG2j1tI5gDKMEABhOBIKH1Gk_JS6AyZBI;H3O1LNL?Z6Jp"
def ap3:FD:=F1 "0D~vDM9q7_y^>_MLxAxY;AxYq^xLZ<J4Zby01L?Emj1mkB6dzw8feJ?EoGafeUM_Zvcr65<GkI8E&I+E&EpGUAKE&EpE*iCiSq*H3E+^:?Z"
def ap0:FD:=F1 "0DlDEAuY3b6Y_HMt+ukIUzEB8dzEjEqr7rErsrdD.Bir6Er5lZmnIwE%*pB3,Ap3F0qpIwE&*pB4,Ap3F0_@ApIwE&*pB5,Ap3F0_@AqmkB7.L+UvcbGE~EolZG^sBD~BjzXF<EpZLIgFHF1GUAKFHF1F=iCA~?6OOK2L=FI^:?9LAIJmkB7.L+UvcbGE~EolZzEB6Et_RH^HSF>J?F?GaHSF>I+F>F1GUAKF>F1FAiCB1?6zXFB^:P4AsLqExK<AxQKb6L0E0BfExE.Hn@DEyE~G.F0feIwF1IfzEB9E~F3F2RpE,F4HSF5J?F6p3F5G*P4AtIGZ1G.aL5rFGaIwE~IfzEB:2F2F1RpE,F3HSF4J?F5p3F4_@AumkB;.L+UD~BjbGE~EpZLIgF=F1GUARF=F1F2iCA.?6F3bKF<F>^:P4AvIwE%*pB<,A+UD~BjbGF0EpZLIgF>F2GUARF>HYiCA.?6bKH^F?^:?9P4AwmkB=.Lp3E~iC^~I?HdQq"
def Tb:FD:=F1 "0DAA*uzq7t+^xT?AsyNjPLGLxAzY;AzYqiGLZf7LG2j1t>5bc?7KMDlBkOBIKH1JLGk_JS6v8E.I?HdLNL?Z6Jp"
def ao9:FD:=F1 "0CTB?Asa1EHY3GwY_j1QDrZGjKZZ6QDiGIUG^?2?.1vcHM7ElGcEmlZRPJ+ruP?DBBrExKuO_ElH%wlruR7Ewru1wlExR7OXlWO_ElH%wlruR7Ewru1wlExR7OXZw"
def u4:FD:=F1 "0BvClAua1DaM9q7I2QDrZGjKZZ6QD^xs>ZYu%BFI^BGJ@BHT=p*Om3H;%TNShMGwZydvK>AviGrvUlZYu%BYI^BZJ@B^T=jv,*hM56EoZyj@^=Aw^=AxK>AvedSYoOy>kWy>p=M8Z6hMokYXKnoaEtlpf&mdA*meB0SYoOrhkWrhp=M8Z6hMokYXq*oaOXlpf&mdA*meB4SYoO^ZkW^Zp=M8Z6hMokYXH1OGoalblpf&mdA*meB8^doOy>kWy>p=J@CCLYCDNaCEZCe=hMEqPiA,R%A.YXHQoaEwlpJGA,mdA.meB3^doOrhkWrhp=J@CCLYCDNaCEZCe=hMEqPiA,R%A.YXx.oaGxlpJGA,mdA.meB7^doO^ZkW^Zp=J@CCLYCDNaCEZCe=hMEqPiA,R%A.YXQuoaLClpJGA,mdA.meB;U4up<KeElXm6JJHDUB<Us2JuGsGcNSwEK6I_L*ZsP;Uz5slV7EoLr7EqNlxsHUEsL~Er_4Uz5pIV7EoLr7EqNlxsHUEsL~Er_4^;wAHDOLOLHbKjEliip*OmH;OaEm%IEpIzH?ErYRRBEqLrEjEtlxHoTxL>HUEvg?EuGwJ0RBEqLr:EtlxHDTxjGHUEv_XEuJNJ0K6?5@D73QB1obAnobAnJ~EopFApH4PmTx%Fo8,*l;^7Gi1o8_4l;^7GiK6obAoobAoJ~EopFAqH4PmTx%Fo8,**.Hm1o8_4*.HmK6obApobApJ~EopFArH4PmTx%Fo8,**.^7HmGi1o8_4*.^7HmGiUNyIfmZ9Eu_uEvquZIHUQoqndkjFGpokZ61H:Z6+TEy_uEzqvZIHUGxqnVZOXjFGpokZ61H:Z6+TE*_uE+qwZIHUqNqnVZH3E&jFGpokZ61H:Z6jnExNnITEqEyGVkNAmn8W2oMq,n&F9I>IbF8KnLCHAK?VbHQlRExVOErEyRBEwlRE%VOEsE&%rzYpJZBVSL@EzE*HQEwjnE&NnITEqE*GVkNAmn8LCoMZ5n&F=zXF<KnHfKGHAE%IIkNAnn8LCoMZ5n&F=zXF<q*HfEzHAK?L6AGx.lRE&VOErE*KRAEGxlRE,VOEsE.Q_llzYpJK@F0VSL@E+E~JUjnE.NnITEqE~GVkNAmn8HfoMfZn&FAI5j>KnF3HZH3E&HAqNIIkNAnn8HfoMfZn&FAI5j>q*F3HZGxO1HAE,IIkNAon8HfoMfZn&FAI5j>H1OGF3HZH2HAK?L6AaQulRE.VOErE~KRA9LClRF1VOEsF2Q_ZxzYpJK@F4VSL@F0F3JUHdJp"
def Ta:FD:=F1 "0DnAvejP9BqO:1^4g4KAIUXqQ1B=HHGoIX2I+GSB>3HaAI3GoIXqlC0gFs<IyBm?6xTa;_oxTC=__ZHC:_o2Gas1_oxTC;&Z?6IXW?C4Ta_oK;lk%<_oK;dd*__oxTC;Jc?3C4UiK;q+zlUiK;H5C:_*M<_qC1grCC_qC:WnC1ZNGaKo?3C1?3C1_qC@*8B~_qC2?3C>_qC;Jc_qC9LE_qC9Jc_qC4LE_qC4JcZNGaKoh6_qC<O+_qC@Ta?3a;_oGaqlC=_*LE_oI3qlpiQwd*_oGaqlC7*8kd_oJhi%O+O7sOea_oGaqlC0Nrs<?6IX2ddJch6Z>?3Ba?3Bm?6JhKoiEd*O+IyBa?3BmuZ2*Gm.JcIyBa?6I32QYTapKeaZ>?3BauZ2*GsN?6IX2NXI=QFsH"
def ao8:FD:=F1 "0DoA*YF+^KFj:Q1B6YYHA_NB7YYHA_NB;r4HA_NB<r4HAi.Jp"
def ao7:FD:=F1 "0DmB4Ar&pIYKHz3HECaQ6Ap^>muHECaJGKpApMBIUIgGeOYGeJ:ONmLRsL?HA>K6IgGeOYGeJ4>EbmLRsL?HA;K6Ig_ARsL?Gi;UN?E?Z"
def ME:FD:=F1 "0DBCQAuOMdAO:d<UTKATtAo?4VFdBA,I^A.M8d,HECaX%K>ApmiAmI%AoI^dBAs?fDm1KHuMB6I%B7J@B8T=LxAqHEvXK>ApS.TsO5GaGUAgEbY+ffXnGppt4NUI+L*L3L*ZUfcbQUP^;3I6JQT1T44ORO2J&M6;gDIgUbLuiqK5I+LuL3Lu<H@DnBo8fhf^B9HLEo:YdJ:ErEqi.J4Q~B=YdOQEsPGNkYdJ?Etq=Euom6qDp5lFp<E%E&EvnQfDE.E,ndfDE+E%o+.Zl3.Z+FrEq=EtomQ<Eup5dVp<GxEunQURE,E+ndURE*Ezo+p:l3p:oif^B:HLEo:YdJ:ErEqi.J4Q~B=YdOQEsPGNkYdJ?Etq=Euom6qDp5lFp<E%E&EvnQfDE.E,ndfDE+E%o+.Zl3.Z+FrEq=EtomQ<Eup5dVp<GxEunQURE,E+ndURE*Ezo+p:l3p:+FJ:EqEoi.J4Q~B=YdOQErPGNkYdrEEoHLEtomQ<Eup5dVp<GxEunQURE,E+ndURE*Ezo+p:l3p:+FJ?ErEoHLEsom6EuEtp5EwEtp<Z1EtnQw_E+E*ndw_E&Eyo+EwEt^WEvZ^Ez^Xw_Eyl3EwEt^WEvZ^Ez^Xw_Eyoi?9Hx?EJ~pqJ6OYJ6VQ8PG6HAYYGiK6?Z"
def MD:FD:=F1 "0BTBdel+^TrOlAtMCB8I%B9I^B:g@3^JG,3j^2H;KKY;AsK>BxThP7AtJIAwMCBNI%BOIDJ>EbOBLGe5RzAzHEDYJGAzIxDaiGPzvQKBxzkyKVp+BtBUKBfhVC7PGKV7ff_BOLNZ:*qG*yIR@9NnBuBeI2HIV7<VO8ElfceK5G,Emrb3pFAoXnHbUBa>G,3j^2H;H;H;1a>G,3VzH;H;H;I,63GuBvBnEbOBLG6gq?7VbH:GUATEmE&O5JPH4K7KjE+q*H3E*WA@YEmj5U_21iiJp"
def S':FD:=F1 "0DGpeDHseDH+bUmD:tHAhdJJamFt~k>>QhDHByjVfhmImzm,f85tM"
def S9:FD:=F1 "0CapeCbseCb+bPND2tHAidJJaLyt~VPP;b?>syCbBzOmI2HexHmIb6m,EqIYErtM"
def S8:FD:=F1 "0B.peB~seB~+bIxCDtHAQdJiut~o5NnB~B%OmO3mII2m,<IYEltM"
def S7:FD:=F1 "0B+peB,seB,tJPaQ6CAtHAfdJGct~fnZ9>1GWGzB,B&;HImI8m,vw7tM"
def S6:FD:=F1 "0B&peB*seB*+br?tHAQdJiut~o5NnB*B*OmO3mII2m,<IYEltM"
def ao6:FD:=F1 "0DHAuejD:%~jIDGBt4_FQWQq"
def ao5:FD:=F1 "0CbA*ArXrD2N_Z3dnZ31QjPzDGBt4P1CaBu>P1CaBu;_FGjQXdq"
def ao4:FD:=F1 "0B~AzejCD_^dnRsmyQRkwH@CaBuvo?PKjP2Aq;YwJ6Qq"
def ao3:FD:=F1 "0B,AtejCAN_3dn3uOPzB.Bv3_F6Qq"
def ao2:FD:=F1 "0B*AzejC>_^dnRsmyA4lUkwH@B+Bwvo?PKjP2Aq;YwJ6Qq"
def ao1:FD:=F1 "0BVA,ArXrBq%~KFU4A_qjp*GUA4GUAC8VyB&Bx4HI?PKjM7ArPiAt71TNUQQq"
def ao0:FD:=F1 "0BxAruwIVHANYJSIUGy,%?6Jp"
def an9:FD:=F1 "0BxAruwIVGiNYJSIUGyQY%=?6Jp"
def an8:FD:=F1 "0EEB2P:nE>NYS.Pzvd3z;~<IIJWMG~<MIW=~<MIMG~<Zw"
def an7:FD:=F1 "0E7BtelT@T;jIvd3z;~G?8JWMG~G?8JVW=~G?8JVMG~G?9?Z"
def LW:FD:=F1 "0BwB<iOEbd&n;MBs>eSoVY*jimiVvA+I%A,I^A.tPS.eHJQKW23NUd%4KyKYHLS6AxK@UPb<I6WVT4kwrifWd%4YM@v8Q_JP_BK@:9>RBGlAwlSR^iCiQ8>Jp"
def af9:FD:=F1 "0E8B2uzI.d&n;mh4J4T4^@i*GeI*N6L1AEEbH5YIGe;YkiQG%GdYni*GeI*N6L1AEEbKyJck<PjiYGe;%WyhplG%4%XNTJ+HPHqA%nmI2Yk^~LGdq"
def RW:FD:=F1 "0DvCpAuY3pyY_^kn;YxT?^%Aq?NAxVFhQT=KHP2Aq;TVHFQX6NSHED2r.Aq_W?HAxLZ;GUAe77GoHS;JJ_BHbXn?6:;K5b4G%rleTHImIEpNlHo?6EqIYErL~I2n+H?8Ji*j_cAqAqL1AZ9PBoBntElnyQ>Ua8LUhlL;GaOYdHn,_cAsAsL1A^9b:Y~B&PjdFElH5ntEmnyJ0_?f^Ap*jo4H5piQwd*KY9b:Y~B&uUElnyQ>UaQ~Aq*jPWsLC6iEz2%bJ6El%WrdplQ>:K:O_EjK8ij^@R6J+GtHqA*X&eMJRJck<PjiYGtEr%W_<1plJLEj%XTRJ+H0HqA.nmq&YkA~?6GvINYnR6J+GtHqA*nmGtErYkA+?6JLIN?EH?8IJ*jPWsLCDeaTyQwz2%bJ6El%WrdplQ>:%XR6J+GtHqA*nmGtEqYkA+?6T6IN?Ef^AsQeAxAmxpP?DEC>3xpj0hE_cAtAtL1AFddJch6KY9H5BIpLi&scuUElnyQ>G*f^AtIaAoK.y?G.a@@+3OoDEC>Emxpj0hE_cAtAtL1AFKoiEd*O+mmPBC1Nrmli&5H5BDuUEonyTQG*f^AuhlL+*Gm.Jcz2L+ElPBdFL;GaOYdHL+Q>UMyhE8C2J6EoEjYkpbTQ_?f^AvL+QYTapKeaKY9L+<PBdFhlL+GnUMyhE8C2J65EjYkpbGtUaQ~Awn,PWX&a2C@LEsNuU<nyGnGdO>iQJ6Jp"
def RV:FD:=F1 "0DFB9uzEbd&n;MBT?AzI%tVtPs=KIvkHSEb^1EbT4J&t>;bc?7KMDvC3GsG%OaYhS6v85GnLN^v>O.L?R^Jp"
def RU:FD:=F1 "0C_B8ArY3EbY_^kn;MBT?AtI%YHtPS.mr^1I.2GeV;;NnDEC>9xpj0i*GsKlAmk9H5C<OKKY8i&:H5BDPjiYGsEjP3fPplLG7%XL_J+Q>HqA&nmwEYhS6A*K@ErTQUX?EL?GsJp"
def LV:FD:=F1 "0BzC9AtY3pwY_^kn;S.T?^%B0I%B1I^B2jORzApkzHFp,8ZyjiThrvBVI%BWI^BXtPs=Yni*GeKlsL+NKYEb%bGe;Yh9Gaff_BK7NZw3dPkve9R@9IzLWJiq~EjH6j0*to4xo+7pfvRPjtOGstYQ>p.WDLUJ4EjOoBxB,j0*to4xo+7pfB~NrNrM<PjtOGstYQ>p.G*GzBxB.j0*to4xo+7pfB~NrNrM<PjtOGstYQ>p.WDYR^@*tPWsLa;+7BUJRLEsiQw?3YIGs<nx5Gn;Y.K=r1<O9^;q1_B?6qzGs+T;1GWH?Y+ZRC_C5Gs8YhpzG&v8:UQO4EbQ%9j0i*GsKlsLCCJcO+S+TygFml%bGs:Yh<O.fPC_C5f38K:G~@I5Ga^@L_J+dTHqA&nmEmGtYhpziwK@EsH1UX?E^v>Ga^@i*R^I~L1hOR^8YkiQUQQq"
def HF:FD:=F1 "0BUBuelnFYjMCB7I%B8I^B9*5^JU_j^9TV_P_WYxP7YjMCBGI%BHI^BIrg^JU_j^9TV_P_W&gVHBYI%BZI^B^tPS.PzvQKBxzkyGod%GcYmKYd%;Io@v3d%8PBCH?6RBGlAwlSHPm1JJH4O<uXQ=prEjGae9sk7^sJ,BxB,HIs;j6G%o4s1KY:PBtOG%tYG,Q>G*?O@n7kHJ,BxB.HIs;j6G%o4s1KY:PBtOG%tYG,Q>K?J~>I6LX>dR43OmV;7NnQ;<HIs;j6G%_cAtAtL1AFH5C9TyWqC8KY:PBBH?3BYKYEjKyM<O7d*sOuSmmH5YIG%EmYhpzeKEpG,J0K?J~;Z4e@?6;dRG%V;;IzKMBzC6GsQXYhEbKkG&v8<NSLN^v>Ga^@i*R^I~L1hOR^8K:O_9I+a>GUAS9:HHEj^:?Z"
def af8:FD:=F1 "0B7B5YF+^jIBTBsKBP3VC;PGKV;H@BUC7KBP1BVB+KBa~AWYM@tGc<H@BWC?ElGkNjb0@Yid8EmR7TuNy>j5K<Ax21_;nO"
def af7:FD:=F1 "0AvA~YF?hApB;_^bD3J1QFI9MBPzB6AxGjj4B8A%O9j4B7C8idP3VCElPGKVO9HH<O9dq"
def bx7:FD:=F1 "0C,A~sWIUeb3GoIRdXT1ymGlB.VQ6GlCGH@DPC@3HnA>T1EbLVKoiEd*O+OcKoM<?3CDZHCFS+OcKoh6OcKoO+O+grCCJcS+PLB~NrNrM<PL+NPLpgCBbmPLpiQwd*PLC1NrPLC2k<PLC2?3CETys<S+rz%=rzTapKearzo~rzVfrzm.O7M<M<PLC5%<PLC6iEPLC6?3kdM<TyJcS+PLC6OKPLvRPLC9O7d*sOuSPLC9TyWqC8PLC;zlPLC;&ZPLC<OKPLC<sOJcPLC<O+PLC=O+Jc?3CCTyWnCBS+r%Jch6r%TysOJcr%*_r%LEsNr%LEm.JcOcO~siQwOc,%PLa;PLCCJcO+S+TygFPLCDeaTyQwOUVQEbJOlT3J4kvi~lT3IR_??Z"
def HE:FD:=F1 "0CJBpelnFOlB=I%B>I^B?*XQjP7OlAt?dM3B=I%B>I^B?J@BTLYBUNaBV&lHJ?o&VSYOlAt?dM3B=I%B>I^B?J@BTLYBUNaBVQJB^V8B_VjBas@QgdIHJ?o?<v9^yLZ4J4T4UYOfIRm1K8;y^HSEbK88xJIRHS4Qa4a>GjgxXm:HS7K8<y^J4K5UYEjHlIRIaAmm2I6_BHU:ZbG,GcrUC*B6G,M4T~UPmCZ9Ej_u<Z4H4Z*LG2T9^;:K8Ejy^r5<QXkAEmQ,AcEl5HAlvKkyjErQgEq^<k%H4NxEmmzJp"
def bx6:FD:=F1 "0ByAruw^FIUiF2ps3GSC1J:3H6HLdH,Pmsm~n0n1O0sipK?3piiE?3C4eagrC7?3C8M<?3C:OKsN?3C>O+s<*8CC?3CD?3CEuS?3CGK@r4*0*0Q_I3,PKOyxyyyzy%y&y*y+y,y.LfyxLfmszQzRzSzTzUzVzWN%yymsN%zpzqzrzsztzuzvN&yzzQzpN&m~zwzxzyzzz%N*y%zRzqm~N*z&z*z+z,z.N+y&zSzrzwz&N+n0z~%0%1N,y*zTzszxz*n0N,%2%3%4N.y+zUztzyz+z~%2N.n1%5N~y,zVzuzzz,%0%3n1N~,uy.zWzvz%z.%1%4%5,u?6P;xusH"
def bx5:FD:=F1 "0C^Auuyj:6H6VQ2ps3GSC1J:3H6HLdH,Pmsm~n0n1O0sipK?3piiE?3C4eagrC7?3C8M<?3C:OKsN?3C>O+s<*8CC?3CD?3CEuS?3CG?6JuRx*0*0Z8I3,PKOyxyyyzy%y&y*y+y,y.LfyxLfmszQzRzSzTzUzVzWN%yymsN%zpzqzrzsztzuzvN&yzzQzpN&m~zwzxzyzzz%N*y%zRzqm~N*z&z*z+z,z.N+y&zSzrzwz&N+n0z~%0%1N,y*zTzszxz*n0N,%2%3%4N.y+zUztzyz+z~%2N.n1%5N~y,zVzuzzz,%0%3n1N~,uy.zWzvz%z.%1%4%5,u?6kvxvUN?E?Z"
def LU:FD:=F1 "0DEBjAtreTtTJArJ@BBI%_xL2?VS.P7UlAuJIBZI^B^J@B_T=KHLxAqHEDf_O_WS.TsrDPGGorDGay?xjxulT6K8ONlT6HSmJ;GaO8?2?%8Jy>9K6?5@v6HSmJ:Ga_=dQHL2<*>K@Gn2*>rYT4I,LuIGi_fWlT8J??2?%EbK8UQK6?5@v8Q_:soK@ig<J:Y+K6I02EbHL2EbGUAJ;;GlIu@hy?b9d%9:lTw2@+dHHSwA_B?6ku2Ejy?fWd%GcYM@vYM@+dHm2I6JQ6:K59ORfnfWd%>Io@v3d%9YM@v8HLQfAyHU<:LwI+T4GUASJ6xwK6?Z"
def af6:FD:=F1 "0BWAwejCqO:1^4j1VZTTuOIUPoph?2@2?2@5?2?~?2@4?2@0?2@3?2@6?2@1jkjkjkjk?2@73qs@ow*?*QpFXJ?GSBSFYVQFZ2HLFZxJHLF^J9GUAJF^F_JaI+Fa2L3Fa2GlCMGUA<w*?&eCvKFdeCvGFfeCvEFheCvBFjeCvAFlX.zhFnX.yZFpX.xQFry~FeFgFiFkFmFoFqFslSFbFt,mC0,.Fu+SFvN5C+noC.nnD0otD3nSD5nRD7ouD:nUD<nTD>ovDAnWDCnVDEowDHnYDJnXDLoxDOn^DQnZDSoyDVnaDXn_DZm8drN5DadrN2DcdrN0DeH,F*ltC,=C~l&D2=D4=D6l*D9=D;=D=l+D@=DB=DDl,DG=DI=DKl.DN=DP=DRl~DU=DW=DYm0D_=Db=Ddl%=DgjLFZJ9GUAJUSJaI+F_2L3F_2GlCMGUA<w*?&eBvKFceBvGFeeBvEFgeBvBFieBvAFkX,zhFmX,yZFoX,xQFqy~FdFfFhFjFlFnFpFrlSFaFs,mB~,.Ft+SFuN5C*mDN2C,mDN0C~H,FuX~N5D2noD4nnD6otD9nSD;nRD=ouD@nUDBnTDDovDGnWDInVDKowDNnYDPnXDRoxDUn^DWnZDYoyD_naDbn_Ddm8ltC+=C.=D0l&D3=D5=D7l*D:=D<=D>l+DA=DC=DEl,DH=DJ=DLl.DO=DQ=DSl~DV=DX=DZm0Da=Dc=Del%LN?9?Z"
def PA:DT:=D1 "uVFvN5C+noC.nnD0otD3nSD5nRD7ouD:nUD<nTD>ovDAnWDCnVDEowDHnYDJnXDLoxDOn^DQnZDSoyDVnaDXn_DZm8drN5DadrN2DcdrN0DeH,F*ltC,=C~l&D2=D4=D6l*D9=D;=D=l+D@=DB=DDl,DG=DI=DKl.DN=DP=DRl~DU=DW=DYm0D_=Db=Ddl%=Dg1"
def aW3:DT:=D1 "uVFcGSvKFdeCvGFfeCvEFheCvBFjeCvAFlX.zhFnX.yZFpX.xQFry~FeFgFiFkFmFoFqFslSFbFt,mC0,.Fu+SFvN5C+noC.nnD0otD3nSD5nRD7ouD:nUD<nTD>ovDAnWDCnVDEowDHnYDJnXDLoxDOn^DQnZDSoyDVnaDXn_DZm8drN5DadrN2DcdrN0DeH,F*ltC,=C~l&D2=D4=D6l*D9=D;=D=l+D@=DB=DDl,DG=DI=DKl.DN=DP=DRl~DU=DW=DYm0D_=Db=Ddl%=DgGd"
def Pz:DT:=D1 "uVFuN5C*mDN2C,mDN0C~H,FuX~N5D2noD4nnD6otD9nSD;nRD=ouD@nUDBnTDDovDGnWDInVDKowDNnYDPnXDRoxDUn^DWnZDYoyD_naDbn_Ddm8ltC+=C.=D0l&D3=D5=D7l*D:=D<=D>l+DA=DC=DEl,DH=DJ=DLl.DO=DQ=DSl~DV=DX=DZm0Da=Dc=Del%1"
def aW2:DT:=D1 "uVFbGSvKFceBvGFeeBvEFgeBvBFieBvAFkX,zhFmX,yZFoX,xQFqy~FdFfFhFjFlFnFpFrlSFaFs,mB~,.Ft+SFuN5C*mDN2C,mDN0C~H,FuX~N5D2noD4nnD6otD9nSD;nRD=ouD@nUDBnTDDovDGnWDInVDKowDNnYDPnXDRoxDUn^DWnZDYoyD_naDbn_Ddm8ltC+=C.=D0l&D3=D5=D7l*D:=D<=D>l+DA=DC=DEl,DH=DJ=DLl.DO=DQ=DSl~DV=DX=DZm0Da=Dc=Del%Gd"
def bx4:FD:=F1 "0DPA~ZJDUh@DUm+ID?VQ.eHKj2Tw?5@vpsIYdXGejDB.jfCGY=jDB_jfByY=.V.VjDB_jfByY=.V.VYYJp"
def RS:FD:=F1 "0C1BEiOFWPcI2&fHEE^brI2&fHEE^?HBiT?AnHTJ>c=HEE^?HBiZ~QSFWj1&f&83K8FX2VNw*?*QpFYI+xJFZHaAVFZ3NS&f1nc@+3F^GUA=F^HLFWGOHLUSJ4GQxJ1?q?BQSGNWHCcWHCdWHCeWHCfWHCgWHChWHCiWHCj~FQaGN^_~FUNI4c=Jp"
def KG:DT:=D1 "?BQSGNWHCcWHCdWHCeWHCfWHCgWHChWHCiWHCj~F1"
def JO:DT:=D1 "?BQSGN^_~F1"
def RR:FD:=F1 "0C8A*P:ZXUdC:pHjxzcC:1UTnreH?6IYT1ORG.3G.6J:%G8OA>KVJy%GYMuoYM@ZifJ*:4KeEjgv<ZO5K6_+kxYM@Zifm2rOEjmpa@uoa@@ZElG.EmJ*54KeEogvwMEsK6QrJp"
def RQ:FD:=F1 "0C8A*P:ZXUdChpHjxzcCh1UTnreH?6IYT1ORG.3G.6J:%G8OA>KVJy%GYMuoYM@difZs:4UzEjsleb<ZOEmUzEjpIeb<ZOEmK6_+kxYM@difm2rOEjmpa@uoa@@dElG.EmZs54UzEoslebwMErUzEopIebwMErK6QrJp"
def bg1:DT:=D1 "ebwMEr1"
def RP:FD:=F1 "0C8A*P:ZXUdCgpHjxzcCg1UTnreH?6IYT1ORG.Io@PLuJx+*G.6LVUQRxYU:i.Jp"
def af5:FD:=F1 "0C7B6Ar&beYV*sY^yIU?OAM;J1TipGQ,A@dTVVAMEpJ1V*pGQ,A@YOHAGUAd8J1v&^r1?@Q^PtsH"
def af4:FD:=F1 "0BaB7u&BMZXM99KZh;?RmOKZ>OijVSRVrQId?KpYxyETOZFtvGctz2HPNz*Atl*AqrGdP.vhJyTOZFtvGctz2HPNz*Atl*AqrWAj;7fMk,J*<6KeElXm5LqEptv5tzRbNzo<Estlo<EsqrLN?5j;7fM:QiJyktZFtvGctz2Q>Nzo<Eotlo<EoqrWAj;EmfM5G.EoJ*Ep6KeEqXmEsLqEutvEstzq&Nzo<Extlo<ExqrLN?Z"
def af3:FD:=F1 "0BcAxAq&bsY_~yDpjr6pw,^JNH:Qq"
def af2:FD:=F1 "0BbAxAq&bsY_~yDpjTmpwTi,^JNH:Qq"
def af1:FD:=F1 "0Bdv:M9KZk4ThyDPOTmLUTOVgieLUTO,^HCJLZw"
def af0:FD:=F1 "0BfB3Ar&beYV*sY^yyDpjTmpwTiR9pjEmHCEsGtEqV*R9pjx.Ezv&,^E%JbE~dq"
def RO:FD:=F1 "0BgBQu*idsY?HAxT?BGI%BHI^BI_YOiL~SRTHQI&Vj:9IJP8uGH?9GlAsP8uGH?9GlAtP8uGH?9GlkTuGJ~Q+Q=TmtIEjgDH+BgCLTUivdjK=r1EvQyLNVDTUJp"
def X':DT:=D1 "?euG"
def LS:FD:=F1 "0BBCBAtM99KZk4YxT?^,TL_YOiL~SRTHQI&VrvArZP^,YoB~LYC0NaC1ZC8OiidSR?<Axs0v9HFwE4TQHED2?HA,LZ9QH&BTmt>Ejbc?7H+iWTUElTb.Kmb.KLNVDTUYeO2R^M6ErgDH+BgCLq%I;djk%ILGsE+H3O1EmL@LNH+eqq%EpR9eqErI;OXEqdjK=r1E.W2HdZw"
def bg0:DT:=D1 "H+twGd"
def bf9:DT:=D1 "H+XU_z"
def aW1:DT:=D1 "mouL1"
def aW0:DT:=D1 "?eiWTUElTb.Kmb.KGd"
def BG:FD:=F1 "0AyB.elO:1JSIBHFp1KATtVHA~I^B0M8T22JaJhSRI&QIL2KpS.P7VHB<I%B=I^B>_YOiL~SRTHQI&VSYVHArI%AsMCB<I^B=J@B>I%BELYBFz@;O;bRT9%lV*ZyPC?<Azs0A%Kp?HA&^dVHArI%B<I^B=J@B>I%BRLYBSNaBTZC8OiidSR?<Axs0v9^yiKIEVHArI%B<I^B=J@B>I%BRLYBSNaBTQJBYV8BZVjB^s@:OiJNSR?<A%s0A&KpedIUP.vhK6?SAmIaAmOAvhJJHBWVJhH;Nd@M6ipEbxjLwJJHBJQTN2H;NUGUA04J1XzY+^rfcr18UPOAvhI6LXGcJhT1JaJhGsNd@M;M68QhBVB+ideOIMLXJ02T1JaJhGsLNyIR@EjXmElZ4G&Aye@uYGeiiH>GwHPK6H+BCCvTUO3?@VYL>?6V*T~LuGUA0EmJ1Jii_^r_GKkIL4EpOmZ;Eo5HSElqt_BHbHUElaBOmHPQ>+YEm_u5l^YVG,J02q%^<3JPLXdsq%kAEpIzP.:KVrCEtp6PtpAE*ngG*_+w2@kEtG.EuOAEvKVrCEwp6OXpAE.W2HdG*I0T1rCEwp6OXpAE.W2HdG*_+ilo*Jy3EzrCE%p6E%E&pAF2n5G*_+ilE%izJ*E*Io@ME+G.E,PUE.rCE~p6HOpAF8TkG*?5QRE~E.QeA&B=EqQ*F0onF1p6F1F2pAF:F3IbHRK?KI;llQ^Ep_4J0Jp"
def ae9:FD:=F1 "0BlA~rwyF33,xPGZU,xGaJ:qqZUK8qqGaxxJp"
def ae8:FD:=F1 "0BmA~rwyF33,xPGZU,xGaJ:qqZUK8qqGaxxJp"
def ae7:FD:=F1 "0BKB1P:zjJ1G,T;QjPzBlCOJ&P1BmCPvjP1BmCPpvxz8PG8^GPG9OQ7PG7xxdq"
def LR:FD:=F1 "0BDB7P:M9OJBEI9KZp1MBWIpuI<Z?I&JZzcBENeUnAyVFoYpu,pJZM@QjbyHDsGJ&2IY%I8IzVbTiUv3EjNlHDO<?6<IYElJ6jFLXrt6J6uNJ6Jp"
def RN:FD:=F1 "0BiA.P:%>T;KFTtVHp^g@HEBMQjnGptUZgxjdG,eYTi1r4r5f5sf"
def ae6:FD:=F1 "0BjBLkSkSAt%>1Y5d<UTKFTtAoTfdB+>OuHEBMThnGpt>UZI,I.x*GUA=9IQ7?2?zQp:J*3EjKew>ZuOu%yWFPZGeEpO9QaGjEjOuLNI0KWR@9QxI2OuHILAPGEbHAr4GiLNGyEbGiJp"
def ae5:FD:=F1 "0BDB7P:M9OJBJ1rWY_p1HFdwlqPCI&KpS.WIpuI<Z?I&mUdwlqPCL2KpTrPrBJ1rWuMUnA%VFoYpu,pmUdwlqPCVcM@ThbyLhsGptUZ%I9U^@~8J1I2pGVar<3<NlLh?3epEldsOuNlOjHU<OujFjMPiAm6OuuNOuJp"
def ae4:FD:=F1 "0B0BVYGM94KZp1MBWIpuI<Z?I&JZTrAoZPArZQAsiHUj?fBH1g3rWT>uMA+I%A,I^A._YjU,pmUKHHEBDHFmSlqHFb@AsHEBCPCS,Kp_PJZYxP7AoZPArZQAsiHUj?fBH1g3rWT>1J>p1HFKHHEBDHFmSlqHFb@ApHEBCPCL2KpX%JZS.SYAoZPArZQAsiHUj?fBH1g3rWT>uMBII%BJI^BK_YjU,pmUKHHEBDHFmSlqHFb@AsHEBCPCS,Kp_PJZYxIU?SAmffHoL>LtK7UBGsirH;V;7U^pWrBpGfcY6rXH>H@BjCT4QgKuG~A09rB^rVaQgUv8EofcZI?3B0K@EqG,Ep5lWIeK=Y6K@5H>LN?BAoY6?6H>&84K8dOHS4J?8is49JY4v%4J?<GaGUAk4ElGU@~EbJ1I21GcfeZ4ZI?3epJ0irEm>UNHWHVNTR6d:CUQWUWVDT9e9R@7U^pWrBpG%rY6rXH>H@BjCT4QgKuG~A09rB^rVaQgUv8Eo%rZI?3B0K@EqG,Ep5lWfrKkY6K@5H>LN?BAoY6?6H>Jp"
def RM:FD:=F1 "0A~A+P:%>go&II%YHg@b;QjnGptUZgxU^AXJ1TieYG,1HHHAr5f5ZAGiJp"
def ae3:FD:=F1 "0BYB9P:zjJ1G,T;QjyFJ&J:J&i~OQvjJ:vji~J:pvi~Jp"
def LQ:FD:=F1 "0B9BEYG%>goVHY?VFAs_.+Eb;J.IxBIThJeVHY?VFAsa0+Eb;J.IxBIThPzA~CYKBr;3yK3JJlepMTN2UZT~L*_%9NnBYCZOuI2H*?7VbOuUveyVar<Q>HLQf^~EoIYEpOuIv?7Vbr<eyNlG&pbf85OuLNVbOuUv39j5%T17%I9IzVbr<3<HLUh?6EldsOuK6d@TdYwJp"
def Er:FD:=F1 "0B:BKekjwJeeihQPan7miei.SM2?Vn7ThSYeiAtMCAu_..SV8B3OdB4VjB5s?n7HFQgHEC%^xSYeiAtMCAua0.SV8B3OdB4VjB5s?n7HFQgHEC%^xmrJJsGI.UwfniyHS;t6e%j5gp.Pv%3Z4dcO9Q=I2^<r_9bML;7%J7LVEl:lvllyjEmQglvKkyjEmQgys:LreytLf8G,5bML;7%J7lvllyjEmQg^<8jTElJp"
def RL:FD:=F1 "0C4B:u*jVY_Td~1Qbz3~1UkT?B0I%B1I^B2M8d,nB;%SmvVWX%^=Aq^=AsUg_QUgYxIU?;@q8GoRB8Lr3:HSv,oSpLQ=EjQFHSv,jMHP2b4tI7gDHWOD_ZC4CaH>mzU3S6A&rjuRK@ErEmL@LN?@jMH>Jp"
def LP:FD:=F1 "0BZCQAuM9;z3~1Qbz3~1QjT?AuyMM8d,nB;%SmvVWX%^=Aq^=AsUg_QUgYxrvhIyMJ@A&LYA*NaA+ZCj^P2At7M7AvPiAwVWHFsXHEC1_P^=At^=AvUgJGAwUgedLZ;JJjMe%b4t>7bcO_wAG&A%Xn_EHUElaBH>QgQ>K6?@jMH>YeO2R^M6EpgDG^Te1C4CaG%I2H1JLU3k%H4rjuRiDNxqHGwJ0LNLAGaeDEpUMHVN^e38Eqdlo>P6ErI;Vlo7K@E&H3fUI3.bHl.bJ8m2._:.tN^L_P6QXEsEj~2J_y0._Ej.tNTN^P6T9Es~2J9UM+W,W~0fUGXnq,WkDG*G^+Wdl~0Zw"
def aV9:DT:=D1 "?5@VV+kCt5G*"
def aV8:DT:=D1 "LAGaeDEpUMHVN^e38Eqdlo>P6ErI;Vlo7K@E&H3fUI3.bHl.bJ8m2._:.tN^L_P6QXEsEj~2J_y0._Ej.tNTN^P6T9Es~2J9UM+W,W~0fUGXnq,WkDG*G^+Wdl~0G*"
def LO:FD:=F1 "0B;B=Asa1B&m*1^4b41TrnP^&hQT=H;GiH;VWHF+<8mvPiAuVW_O^=Ar^=AtUgdvUgUkP7nP^&.SjNH;GiH;VWHFRzAt%T:o.VW_Q^=Au^=AwUgJGAxUg^xmrJJe@OLOL%FL*T4H;GiH;ORfnxky0I6Ojm5EjQ=_Xj5+<8mvPiAu1_X.PElgvEm3d;sC9OaUu8JPH4rjuRiDZ*Eue7O48JPOjZ*Ep9Oa^<KsOjHUEl9OaJp"
def RK:FD:=F1 "0B=B0P:nE>NYS.JeUlns^IzN?6Lu;Uwo5gvp,nA7sf"
def RJ:FD:=F1 "0B>A~P:m*zgUlns^IPzB:C_GjZ:>JJ?6G,2T~L*fniyLVp,nA8HHjs"
def HD:FD:=F1 "0B<BXkSAsnEJ6NYQjJeUl&IT<J@A&LYA*z@jVP=UkP7Ul&IV^bPLYA&NaA*QJB4V8B5VjB6s@mzP=^ySYUl&IV^bPLYA&NaA*QJBFV8BGVjBHs@:vs<P=^xLZ;Qa>Gce%KBI,LuIGkvxkJ*7Io@dPKdmGeEjpwQ>2jVYYkAEmgv5Vy_0vk37KE7Ob3EqpyErmzO47ObHMEqmz^;Ejx^Z3EjYN:LGbMZsdPUzElslebEmVy_06K.dRKEq3vfpyEpQgO4q3HMEoQgUzElpIebEmVy_06K.dRKEq3vfpyEpQgO4q3HMEoQg^<;PZGeGsEl:vs<Jp"
def bf8:DT:=D1 "Gz_06K.dRKEq3vfpyEpQgGd"
def aV7:DT:=D1 "?BQlHMEoQg1"
def pu:FD:=F1 "0AwDKAuOM+^Tr_aAr?>??B9I^B:M8O9P=ThP7c>??BCJ@BDLYBEz@OmEbcn&gePeLBLQJBMjNTi4eQV*YW^y^dePi5S,J>I24eQGwYWiGiKp>BojbBpjgBqo_HA,jiKp>BojbBpjgBqo_Gi,jpRp>B.jbB~jgC0o_HA,jpRp>B.jbB~jgC0o_Gi,j?UAsp>COjbCPjgCQo_HA7EsneA~?UAsp>COjbCPjgCQo_Gi7EsneA~?UAtk;k7C%jbC&jgC*kEukLZvlGcT4KBNUH@snK.Y+KETc9UrO9GdJ~q1leKjGcqzG,I,LuJ*kvKe7XmEjZ4r1>I.ZbOmQgjFKjmuuNfuH@_0dHKrKE8KkLXf8G,VJZ;UyB:C_V*Z:EmqtQ^Q>2v&T~98IG;9G.5H@snUIP1B;CcGwEoK:?GGRJ,vCI2L*EqZ:Evl^jMEpYcQo2KzH1PtIIMGGRJ,vCI2L*EqZ:EvqujMEpYcQo2KzH1PtINKIpzbQGs5I2yO,lzDdUUI*zZx.crUvCGwL*ErZ:EuqvLhXpH02dkT~f2,lzDdUUI*zq,.crUvCGwL*ErZ:EuqwLhXpH02dkT~f2,llmGamjUIdU*zZ5.cWFZ5LhnjEydkrU_0krY+Z%AbI3Y+UIUII3Y+fNQ<HSwRAvoS?6EuURH>EsaFHhEtT~f2,llmGamjUIdU*zfZ.cWFfZLhnjEydk^;wRAwLhXpEs_7HhEtyOVPdQb?EtsyB=CdYTEvHnupE%KeE&NnB>CeLCEwP1snmPZ%AHUImPUIycmPyck2F0WFH=AvG&A,_E?6E~F1Y,F2HhEsK~?EJ~wRAxHoXpJL2b6yOVPdQb?EtsyB=CdYTEvHnupE%KeE&NnB>CeLCEwP1snmPZ%AHUImPUIycmPyck2F0WFH=AwG&A,_E?6E~F1Y,F2HhEsK~?EJ~wRAxHoXpJL2b6yOVPdQb?EqsyB>CeH:EtP1snHlY+Z%AHUIHlY+UITYExHlY+TYExk2EzWFH=AxG&A+HBj3aGY,E&b6K?KI9llYVO9Eqb6Jp"
def LM:FD:=F1 "0AxB6rwTthQ^ITsm1OQI.IRm1JJK@T4ORo5Q,@PJ&Ke7Q,@F;GqAYrBeYElG%1IRTAEmUNeU"
def RI:FD:=F1 "0ApB5&dPzAuD6y9AvC9GjUWP.>KVTXAwCgjVK:J,AyCN>O3?:OD_ZBDCRGwj4AxCo5:LeUX?9ROJMQq"
def wz:FD:=F1 "0BCB,elM9KZX^JSIBHFp1ThT?^%A*P~J>3o;QF%lgTmSJTA*nHAyM2S,lrPCM2QITHKpj?*?*?JZ_~?UBMIEVv^%A*QPA,?IJ>3o;QF%lgTmSJTA*nHAyM2S,J1I21<lrPCM2s0v9j?bS?<AzbS?<AzJZiG?UBMIEVv^%A*QPA,?AJ>3o;QF%lgTmSJTA*nHAyM2S,lrPCM2QITHKpj?*?*?JZ_~P7VHBC?JAwJ>RzAmo;nHA%IDI<lrzbI&bSL2JZPk?<HgK>S.?UBNIEVHBCMCBE?IJ>RzAmo;nHA%IDI<J1H>71:lrzbd?bS?<AxJZPk?<HgK>^x?UBNIEVHBCMCBE?AJ>RzAmo;nHA%IDI<lrzbI&bSL2JZPk?<HgK>S.SYVHBi?NAwVFBjI^BkM8TdO;bRU1zbI&bSL2JZs=?SAmIaAmJJG&A%Lte@OLVYNxGc;p.GcTw?pApAtA*AoApY6HUO95JNHP1Tm5JNHP1Y6nj1r6TwVbr<;5JJzYPmNxEoG%GnTw?:rdBhD2;K_AqXnTxL>PmK7?6Ej7HP:Gd?L?pAsAoBCArAsOjrXOmOaGsuNElOmOaGs1OjNx1b4Tw?OANEjJ1G,I9H.VbQXUvdTGUA@El5EpHaAN<J1QXI9H.VbG,UvEsOnA@ErEtEvqtOjHUEqEwUN?LJ~3qv_BVYKjdOGsNUI+^8Iz?OAP4yTI9xH?:rdBhD2:HI?OAP>yTI9xH?:R61BhD2ElKEEbGaIaAqO;GUAO7yT1EjIaAqbRGUAO<yT1EmqvHoK@H:LN?9Hx?E?SAqO;GUAL4IaAqbRGUAL>Hr_Bj3Tdp.1TN8Jp"
def LK:FD:=F1 "0CjBPAs.Yd+o?Au_dP7*9AuLYAvzBs=KI6n3ORt64Jf3TwXqp*L;>ry%v>T.7P@7QxOmQgR8ZbJ?>Ux>T.5P@5nprynpL3i_GtEqL;EmL3EuEmq?J?>ObEvUZEwTCKIr_EmYQKIr_;Jp"
def RH:FD:=F1 "0DKBqAtsZj.KFLmOdAoI^ApJ@sb_dZ~QSpr6Tw?5@%I34_GGaJy;6Jf3x%GaJ:86s2L;9P@9e6pvHL<T.ElP@ElQxI2wER8Ep2x%GaHLmMErP@Ere6EbEqL;EvP@EvQxKgKGR8Ez2x*Q_EqQ_EqL;E*P@E*e6mME~P@E~Y2E%L33E%qNE.L;E&L3F3E&F0F1F2QaF4IYEq&0YQKImMEqP@Eqe6pvL;EuP@EuQxq?dUR8qEx*s2s2L;E&P@E&e6mME.P@E.Y2EzL33EzLCL;E%L3F2E%HfQaF3^0&0YQ?9KaKImM9P@9e6pvL;<P@w>I2Zu%yx*s2s2L;ErP@Ere6mMEvP@EvY2EpL33EpKgL;EqL3EzEqKGQaE%^0&0YQ?Z"
def LJ:FD:=F1 "0CkBWAs.YLmOdApTfYH?4VFAwrH_dP7AmOdApTfYH?4VFAyZ=M@+8KWJ?dLO8>I3QaGeR^TwMArkDKCxJ&KWfiKsGp>^0WA@IEbe1>TwMAY+HLIYHLIYL;>ryLH*BOmdtw<I2GuDKCxZbKWt<ObEm_2YQHxj7Jp"
def RG:FD:=F1 "0CnB=As.YLmOdYHZ=M@+8Vk4I,IYI+c8*BG,I+jB:EbQXO5UxTcV*&0Jp"
def RF:FD:=F1 "0ClBbAt.Yd+AuJ@AvMCAwLYAxzBHF;VXBHQjU4@IKWrOJ9GUA=4H@DLD44Hn@a+Pq0O59J?7I7bQR^:>Gdj7Tw?5@aEbK._=q0O59lvGasJ:ZSDMD5;K:G~@I4?2?zGUAUf3QpEmJy5EbJ?5EbO5EoO5EoL;EqP@EqnprynpL3i_q?L;EpL3ExEpq&soJQEyUZEzw?KI_2O55L;EpP@EpnprynpL3i_KnL;EoL3EwEoHQsoJQExUZEyw??9j7Jp"
def ae2:FD:=F1 "0DxB;kSAw?cAxjmU_YtHF4loQ.?RUTHwdoHF4loKFIUIgc8sVjqL?KW3<1L?IYJ&YQ?Z"
def ae1:FD:=F1 "0DOBDkSAysZU_YtHF>loQ.y2mUEblos=KMDxC&QWfhKMDxC&9847fhKMDxC&<;:ElfhL?H:dq"
def ae0:FD:=F1 "0DNA,ArkMYb6U_YtHFEbloQ.y2mUEblo+8vkO5O.KMDOC*J&vjEbO3L?OmQq"
def ad9:FD:=F1 "0CmBZAtkM?cAvjmeFUTHwdo+8KWO8+P>GaO5;O8+P9I3O57O8+PEjHlO5<rOJ9rOxIZRDNC+3VzO3KMDNC+5:EoO3KMDNC+EqElErO3KMDOC*EtEmEpq@%:aFJfEvGaEwJ4ExJOJfEvI3EwJfOgEwUXKMDOC*38:Zb%:aBJfEmGa5J4EoJOJfEmI35JfYN5GdI4:Ga3Jp"
def Ep:FD:=F1 "0CoCZAukMjmYtKAy2JZMBd+o?+rzBS.P7*9+rzBS.SY*9+rNaAxK,kLQj^d*9+rNaAyK,kLQjIUKI6n32I,>JBI6&;jA3ORI+V3%v4T.7P@7QxOmQgR8ZbJ4L*mXmJKWJ:EmxIjAmJ4Ux4T.EoP@EoLH&_RbL;5L3waKgJ?kwJyExI3J?icwfEyJ?yPEyI3&kwfEz_GPZEwUZEzTCKIM5U0Em>YQH?L*mXmJKWJ:;xIjAmJ4Ux4T.9P@9LH&_I2L;8L3PEGwJ?kwJyEpI3J?icEoQFEqJ?yPEqI3&kEoQFEr_GPZEoUZErTC?LMAp~;%_%vp~:P@:QxQXV*R8YNJ?;Uxp~EoP@EojK%_jKL3TNRbL;5L3waKgJ?;PJwfExTC^vyP5I3&kb4Eo_Gn3EoYQ^vyPq0&kb49_Gn39I,;EbL;;%_%vp~:P@:QxQXV*R8YNJ?;Uxp~EoP@EojK%_jKL3TNRbL;5L3waKgx%QZwfExTCKI>n35YQKI>n38Jp"
def HC:FD:=F1 "0CpByAt?cAwsZYtKAy2JZKFd+Y%tU_dP7o6tU_dSYo6tU_dIUmH*BtoO5UxTctX?L?BTKtGo:^8k?x^KBQ_e1w<YQ?BQltGo:V3k?J?icGj<K8I.JfvpX:p8GwdtEq4H:n:KsGpEr6JLTC?9KaXqI.JfvpX:p8ton:KsGptX?Z"
def BF:FD:=F1 "0CqD1Au?cAw?cAxsZeFUTHwdoKFd+Y%spP7+@SY+@^d+@iKIE+@IUmH*BtoO5UxTctX?LiFbNc8sVr5w<t6YQ?BTKtGbNX:sVK8o:&_GwmLEq6H:ykHAErTC+3GwdtEq4H:+:Er6JLTC^vM5U0<YQXqo:X:Tq3O9mLEj6TiykHAw?+3to+:tX?L?BMDtGbNc8sVQ_%qw<l^GpKBYQ?BArGptGbNX:sVK8o:&_GwmLEq6H:ykGiErTC+3GwdtEq4H:+:Er6JLTC^v4ZxU0<YQXqo:X:Tq3O9mLEj6TiykGiw?+3to+:tX?Z"
def te:FD:=F1 "0C=CeAusZj.KF*Ja0Ax?Iul*J_.Ax?Iul*Ja0Ax?Aul*J_.Ax?AulZ~QSmf~3v_Gj%:q0xevw+a;O?NSGuCoC.v+fkI4EmIvGWnk5JYQ>Y2<JYEmw>NvJLR8_7d_f8w@pC&tPZO1U7&tObO1U6oqbjZmUt^gblZmdMpC&tPJO1U7&tQZO1U6oqbkZmUt^gbiZmp&f8<e2QSqDrAf8w@p@,7PZPtU7,7ObPtU6nDbjwYUt^eblwYdMp@,7PJPtU7,7QZPtU6nDbkwYUt^ebiwY4UXH?8HzCoC.vwfkI4:IvGWnkEjJYNSjKJY:;Qxb6R8ijd_:^0V6pB&sPZGvU7&sObGvU6n>bjZlUt^fblZldMpB&sPJGvU7&sQZGvU6n>bkZlUt^fbiZlp&:^0e2QSEsErrA:^0V6p?&qPZTQU7&qObTQU6o&bjZeUtl1blZedMp?&qPJTQU7&qQZTQU6o&bkZeUtl1biZe4yA7JYUQjKJY9;Qx_45%yd_*+.sPZ.4Ob.3bj*UblfCdM.sPJ.4QZ.3bk*UbifCp&k*e2QSEqEprA*+.pPZ,eOb,dbj*Rblf9dM.pPJ,eQZ,dbk*Rbif94IN?L~3ClC%Gjfi4Hzv_;IYO3IWI3xee.+a9O?LGK8e85JY_5Y2EmJYw8QxNvJLR8_7d_*,+LPZ,wOb,vgP&vgRZmk&+LPJ,wQZ,vgQ&vgOZmvul2e2TKqDz:*,+JPZ.1Ob.0gP*TgRfBV:+JPJ.1QZ.0gQ*TgOfByAEjJYNSY29JY:9Qxb6R8ijd_+A+KPZ,UOb,TgP&ugRZlk&+KPJ,UQZ,TgQ&ugOZlvuoHe2TKEsErz:+A+IPZ.;Ob.:gP&rgRZek&+IPJ.;QZ.:gQ&rgOZe8UX?L~3v_Gj%:q0xevw+a;O?NSK8e8ElJY7ElY2<JY7w>EmHCR8Es2d_v+w@EtO%EtO&OXJyEwEyOr,<PZGxU7,<ObGxU6GvHL,:bjwpUt,:blwpdMEtO%EtO&OXJyEwEyOr,<PJGxU7,<QZGxU6GvHL,:bkwpUt,:biwpp&v+<e2QlEuEtrAv+w@ElO%ElO&GtJyEoEqOr,5PZT6U7,5ObT6U6TQHL,3bjwSO4,3blwSV:ElO%ElO&GtJyEoEqOr,5PJT6U7,5QZT6U6TQHL,3bkwSO4,3biwSyA7JYUQjKJY9;Qx_45%yd_*+.sPZ.4Ob.3bj*UblfCdM.sPJ.4QZ.3bk*UbifCp&k*e2QlEqEprA*+.pPZ,eOb,dbj*Rblf9dM.pPJ,eQZ,dbk*Rbif94IN?L~3ClC%Gjfi4Hzv_;IYO3IWI3xee.+a9O?LGK8e85JY_5Y2EmJYw8QxNvJLR8_7d_*,+LPZ,wOb,vgP&vgRZmk&+LPJ,wQZ,vgQ&vgOZmvul2e2MDqDz:*,+JPZ.1Ob.0gP*TgRfBV:+JPJ.1QZ.0gQ*TgOfByAEjJYNSY29JY:9Qxb6R8ijd_+A+KPZ,UOb,TgP&ugRZlk&+KPJ,UQZ,TgQ&ugOZlvuoHe2MDEsErz:+A+IPZ.;Ob.:gP&rgRZek&+IPJ.;QZ.:gQ&rgOZe8nO"
def ad8:FD:=F1 "0Bhv:Ybj.KALZIoA=6H@C>D3EbdfInT1P;dg>Zw"
def ad7:FD:=F1 "0C>AuAqOM^FIUMApn@;IQpn@:ym?2?+IQ6M;JyEb?2umEbzZ4j*?6>Qp;lwBS8HH9H,Ebj*NZQp>lwBK;xwym?2um6zZEbj*NZQp>lwBC;xwH,6j*uYQp4lwB;>xvJypn?+IQ3M;ym?2um6zZEbj*NZQp>lwB3;xwH,6j*uYQp4HLN^>xvJypnum3zZ6j*uYQp4HLJ9>xvH,Io@,i7uXQpEbHL24xuJp"
def ad6:FD:=F1 "0DLAtAqOM^FU4A=poC>D36HnA<?2?zEbRxQq"
def ad5:FD:=F1 "0DMB<ekM9KZ3VXBH^>6VXBHKAU4A<pn@8GUADGeIQEb?2@<GUADI.GUA<>?2@9GUADJ6Jf88Jp"
def bx3:FD:=F1 "0AuBdAt?cAmIVNYJSPzBOD7HexHVCdOOQdOTXAyCNKVGVHypWJ1_SO.lYw2pW*eEji4%p<J4EoHl+2<Eji4%pEmJ4q>+2f2GUpW*ewD%pEmJ4q>Q5J4ErisQ=JYQ=jdKguQmEp2nhEmwD%pEoJ4EsHlQ5J4EtisQ=JYQ=jdq&uQfeJ4ExisiiJYiijdW2eYg0I9s;%ERbHqB3&ag0z?RbE&*sE**4dhlKKTH6%EqNE.HqB7&a*4z?qNE.F0*sF1g0dh_9IRHHHAxixip2p2G*GzB7C8KBP3VCa>TXAyCN8GVHy@~:J1_SO.lYa@@~:*ewDy;EmJ4q>+2EmwDy;EoJ4EsHl+2Ela@@~:*e5i4y;EoJ4EsHlNwJ4EtisYNJYYNjdq&uQmEp2nhEo5i4y;EqJ4EuHlNwJ4EvisYNJYYNjdKGuQHSEpJ4EzisEp2JYEp2jdE%O1eYg0I9s;%Eq?HqB3&ag0z?q?E+*sE,*4dhTjKTH6%EimHqB7&a*4z?imF2*sF3g0dhF72IRHHHAxixip2p2nO"
def bx2:FD:=F1 "0BOB<AsXrBqdALoIVYmPjC3PjCHPj+NJRO7PjCHPja;PjCE?3pfvRPjBXJRKO?3BVPja;PjCF?3pfvRPjBXJRKO?3BVJRgFPjC5?3BC?3BDPjCHPjCEPjBXPjCFPjBFJRLf?3BVPjCJPjCJPjCJ?6d<J1g4J61JSIURPJ+QYu_HqETX&AGxmubxnubGU@bIJxn?6PvJiGoGaGcGUVEA%IX6GU@&JixmUiEbH;xKlkpMib@V>xKKoKj;L0vQQYu_8xz9PGWB29GUAGxmubxnubGU@bIJxn?6PvJiGoGaGcGUVEA%IXw2@&JixmUiEjH;xKlkpMa@@VElxKKopLEmHrIyC3u_HqETI@dyQYu_5JhQq"
def bK2:DT:=dD nU 0
def cz8:DT:=dD fd1 0
def cz7:DT:=dD fd2 0
def cz6:DT:=dD Vb 0
def cz5:DT:=dD Vb 1
def cz4:DT:=dD fd4 0
def cz3:DT:=dD fd5 0
def cz2:DT:=dD Va 0
def cz1:DT:=dD Va 1
def bK1:DT:=dD FY 0
def as3:DT:=dD FY 1
def cz0:DT:=dD fd8 0
def cy9:DT:=dD U' 0
def cy8:DT:=dD U' 1
def cu5:DT:=dD TD 0
def cu4:DT:=dD TD 1
def cu3:DT:=dD tJ 0
def cu2:DT:=dD tJ 1
def cu1:DT:=dD tJ 2
def ct9:DT:=dD tJ 3
def ct8:DT:=dD tJ 4
def ct7:DT:=dD tJ 5
def ct6:DT:=dD tJ 6
def ct5:DT:=dD tJ 7
def ct4:DT:=dD tJ 8
def ct3:DT:=dD tJ 9
def ct2:DT:=dD TC 0
def ct1:DT:=dD TC 1
def ct0:DT:=dD MI 0
def cs9:DT:=dD MI 1
def cs8:DT:=dD MI 2
def cs7:DT:=dD zQ 0
def cs6:DT:=dD zQ 1
def cs5:DT:=dD zQ 2
def cs4:DT:=dD zQ 3
def cs3:DT:=dD zQ 4
def cs1:DT:=dD zQ 5
def cr9:DT:=dD zQ 6
def cr8:DT:=dD TB 0
def cr7:DT:=dD TB 1
def cr6:DT:=dD TA 0
def cr5:DT:=dD TA 1
def cr4:DT:=dD Tz 0
def cr3:DT:=dD Tz 1
def cr2:DT:=dD ar9 0
def cr1:DT:=dD ar8 0
def cr0:DT:=dD Ty 0
def cq9:DT:=dD Ty 1
def cq8:DT:=dD Tx 0
def cq7:DT:=dD Tx 1
def cq6:DT:=dD Tw 0
def cq5:DT:=dD Tw 1
def cq4:DT:=dD Tv 0
def cq3:DT:=dD Tv 1
def cq2:DT:=dD Tu 0
def cq1:DT:=dD Tu 1
def cq0:DT:=dD Tt 0
def cp9:DT:=dD Tt 1
def cp8:DT:=dD Ts 0
def cp7:DT:=dD Ts 1
def cp6:DT:=dD Iq 0
def cp5:DT:=dD Iq 1
def cp4:DT:=dD Iq 2
def cp3:DT:=dD Iq 3
def cp2:DT:=dD Ip 0
def cp1:DT:=dD Ip 1
def cp0:DT:=dD Ip 2
def co9:DT:=dD Ip 3
def co8:DT:=dD Io 0
def co7:DT:=dD Io 1
def co6:DT:=dD Io 2
def co5:DT:=dD Io 3
def co4:DT:=dD ar7 0
def co3:DT:=dD ar6 0
def co2:DT:=dD ar5 0
def co1:DT:=dD ar4 0
def co0:DT:=dD Tq 0
def cn9:DT:=dD Tq 1
def cn8:DT:=dD ar2 0
def cn7:DT:=dD Tp 0
def cn6:DT:=dD Tp 1
def cn5:DT:=dD ar1 0
def cn4:DT:=dD ar0 0
def cn3:DT:=dD EZ 0
def cn2:DT:=dD EZ 1
def cn1:DT:=dD EZ 3
def cn0:DT:=dD EZ 5
def cm9:DT:=dD EZ 7
def cm8:DT:=dD Im 0
def cm7:DT:=dD Im 1
def cm6:DT:=dD Im 2
def cm5:DT:=dD Im 3
def cm4:DT:=dD aq9 0
def cm3:DT:=dD aq8 0
def cm2:DT:=dD To 0
def cm1:DT:=dD To 1
def cm0:DT:=dD Tn 0
def cl9:DT:=dD Tn 1
def cl8:DT:=dD Tm 0
def cl7:DT:=dD Tm 1
def cl6:DT:=dD aq7 0
def cl5:DT:=dD Tl 0
def cl4:DT:=dD Tl 1
def cl3:DT:=dD MH 0
def cl2:DT:=dD MH 1
def cl1:DT:=dD MH 2
def cl0:DT:=dD Tk 0
def ck9:DT:=dD Tk 1
def ck8:DT:=dD aq6 0
def ck7:DT:=dD aq5 0
def ck6:DT:=dD aq4 0
def ck4:DT:=dD Tj 0
def ck3:DT:=dD Tj 1
def ck1:DT:=dD MG 0
def ck0:DT:=dD MG 1
def cj9:DT:=dD MG 2
def cj8:DT:=dD Ti 0
def cj7:DT:=dD Ti 1
def cj6:DT:=dD Il 0
def cj5:DT:=dD Il 1
def cj4:DT:=dD Il 2
def cj3:DT:=dD Il 3
def cj2:DT:=dD Th 0
def cj1:DT:=dD Th 1
def cj0:DT:=dD aq3 0
def ci9:DT:=dD aq2 0
def ci8:DT:=dD aq1 0
def ci7:DT:=dD aq0 0
def ci6:DT:=dD ap9 0
def ci5:DT:=dD Tg 0
def ci4:DT:=dD Tg 1
def ci3:DT:=dD ap8 0
def ci2:DT:=dD Tf 0
def ci1:DT:=dD Tf 1
def ci0:DT:=dD ap7 0
def ch9:DT:=dD ap6 0
def ch8:DT:=dD Te 0
def ch7:DT:=dD Te 1
def ch6:DT:=dD MF 0
def ch5:DT:=dD MF 1
def ch4:DT:=dD MF 2
def ch3:DT:=dD Td 0
def ch2:DT:=dD Td 1
def ch1:DT:=dD ap5 0
def ch0:DT:=dD ap4 0
def cg9:DT:=dD Tc 0
def cg8:DT:=dD Tc 1
def cg7:DT:=dD ap3 0
def cg6:DT:=dD ap0 0
def cg5:DT:=dD Tb 0
def cg4:DT:=dD Tb 1
def cg3:DT:=dD ao9 0
def cg2:DT:=dD u4 0
def cg1:DT:=dD u4 1
def cg0:DT:=dD u4 2
def cf9:DT:=dD u4 3
def cf8:DT:=dD u4 4
def cf7:DT:=dD u4 5
def cf6:DT:=dD u4 6
def cf5:DT:=dD u4 7
def cf4:DT:=dD u4 8
def bz5:DT:=dD Ta 0
def cf3:DT:=dD ao8 0
def cf2:DT:=dD ao7 0
def cf1:DT:=dD ME 0
def cf0:DT:=dD ME 1
def ce9:DT:=dD ME 2
def ce8:DT:=dD MD 0
def ce7:DT:=dD MD 1
def ce6:DT:=dD MD 2
def ce5:DT:=dD S' 0
def ce4:DT:=dD S' 1
def ce3:DT:=dD S9 0
def ce2:DT:=dD S9 1
def ce1:DT:=dD S8 0
def ce0:DT:=dD S8 1
def cd9:DT:=dD S7 0
def cd8:DT:=dD S7 1
def cd7:DT:=dD S6 0
def cd6:DT:=dD S6 1
def cd5:DT:=dD ao6 0
def cd4:DT:=dD ao5 0
def cd3:DT:=dD ao4 0
def cd2:DT:=dD ao3 0
def cd1:DT:=dD ao2 0
def cd0:DT:=dD ao1 0
def cc9:DT:=dD ao0 0
def cc8:DT:=dD an9 0
def cc7:DT:=dD an8 0
def cc6:DT:=dD an7 0
def cb4:DT:=dD LW 0
def cb3:DT:=dD LW 1
def cb2:DT:=dD LW 2
def cb1:DT:=dD af9 0
def ca9:DT:=dD RW 0
def ca8:DT:=dD RW 1
def ca7:DT:=dD RV 0
def ca6:DT:=dD RV 1
def ca5:DT:=dD RU 0
def ca4:DT:=dD RU 1
def ca3:DT:=dD LV 0
def ca2:DT:=dD LV 1
def ca1:DT:=dD LV 2
def ca0:DT:=dD HF 0
def bZ9:DT:=dD HF 1
def bZ8:DT:=dD HF 2
def bZ7:DT:=dD HF 3
def bZ6:DT:=dD af8 0
def bZ5:DT:=dD af7 0
def bZ4:DT:=dD HE 0
def bZ3:DT:=dD HE 1
def bZ2:DT:=dD HE 2
def bZ1:DT:=dD HE 3
def bZ0:DT:=dD LU 0
def bY9:DT:=dD LU 1
def bY8:DT:=dD LU 2
def ZT:DT:=dD af6 0
def bY7:DT:=dD RS 0
def bY6:DT:=dD RS 1
def bY5:DT:=dD RR 0
def bY4:DT:=dD RR 1
def bY3:DT:=dD RQ 0
def bY2:DT:=dD RQ 1
def bY1:DT:=dD RP 0
def bY0:DT:=dD RP 1
def bX9:DT:=dD af5 0
def bX8:DT:=dD af4 0
def bX7:DT:=dD af3 0
def bX6:DT:=dD af2 0
def bX5:DT:=dD af1 0
def bX4:DT:=dD af0 0
def bX3:DT:=dD RO 0
def bX2:DT:=dD RO 1
def bX1:DT:=dD LS 0
def bX0:DT:=dD LS 1
def bW9:DT:=dD LS 2
def bW8:DT:=dD BG 0
def bW7:DT:=dD BG 1
def bW6:DT:=dD BG 2
def bW5:DT:=dD BG 3
def bW4:DT:=dD BG 4
def bW3:DT:=dD BG 5
def bW2:DT:=dD ae9 0
def bW1:DT:=dD ae8 0
def bW0:DT:=dD ae7 0
def bo4:DT:=dD LR 0
def bV9:DT:=dD LR 1
def bV8:DT:=dD RN 0
def bV7:DT:=dD RN 1
def bV6:DT:=dD ae6 0
def bV5:DT:=dD ae5 0
def bV4:DT:=dD ae4 0
def bV3:DT:=dD RM 0
def bV2:DT:=dD RM 1
def bV1:DT:=dD ae3 0
def bV0:DT:=dD LQ 0
def bU9:DT:=dD LQ 1
def bU8:DT:=dD LQ 2
def bU7:DT:=dD Er 0
def bU6:DT:=dD Er 1
def bU5:DT:=dD Er 2
def bU4:DT:=dD Er 3
def bU3:DT:=dD Er 4
def bU2:DT:=dD RL 0
def bU1:DT:=dD RL 1
def bU0:DT:=dD LP 0
def bT9:DT:=dD LP 1
def bT8:DT:=dD LP 2
def bT7:DT:=dD LO 0
def bT6:DT:=dD LO 1
def bT5:DT:=dD LO 2
def bT4:DT:=dD RK 0
def bT3:DT:=dD RK 1
def bT2:DT:=dD RJ 0
def bT1:DT:=dD RJ 1
def bT0:DT:=dD HD 0
def bS9:DT:=dD HD 1
def bS8:DT:=dD HD 2
def bS7:DT:=dD HD 3
def bS6:DT:=dD pu 0
def bS5:DT:=dD pu 1
def bS4:DT:=dD pu 2
def bS3:DT:=dD pu 3
def bS2:DT:=dD pu 4
def bN2:DT:=dD pu 11
def bo3:DT:=dD LM 0
def bS1:DT:=dD LM 1
def bS0:DT:=dD RI 0
def bR9:DT:=dD wz 0
def bR8:DT:=dD wz 1
def bR7:DT:=dD wz 2
def bR6:DT:=dD wz 3
def bR5:DT:=dD wz 4
def bR4:DT:=dD wz 5
def bR3:DT:=dD wz 6
def bR2:DT:=dD wz 7
def bR1:DT:=dD LK 0
def bR0:DT:=dD LK 1
def bQ9:DT:=dD LK 2
def bQ8:DT:=dD RH 0
def bQ7:DT:=dD RH 1
def bQ6:DT:=dD LJ 0
def bQ5:DT:=dD LJ 1
def bQ4:DT:=dD LJ 2
def bQ3:DT:=dD RG 0
def bQ2:DT:=dD RG 1
def bQ1:DT:=dD RF 0
def bQ0:DT:=dD RF 1
def bP9:DT:=dD ae2 0
def bP8:DT:=dD ae1 0
def bP7:DT:=dD ae0 0
def bP6:DT:=dD ad9 0
def bP5:DT:=dD Ep 0
def bP4:DT:=dD Ep 1
def bP3:DT:=dD Ep 2
def bP2:DT:=dD Ep 3
def bP1:DT:=dD Ep 4
def bP0:DT:=dD HC 0
def bO9:DT:=dD HC 1
def bO8:DT:=dD HC 2
def bO7:DT:=dD HC 3
def bO6:DT:=dD BF 0
def bO5:DT:=dD BF 1
def bO4:DT:=dD BF 2
def bO3:DT:=dD BF 3
def bO2:DT:=dD BF 4
def bO1:DT:=dD BF 5
def bo2:DT:=dD te 0
def bo1:DT:=dD te 1
def bo0:DT:=dD te 2
def bn9:DT:=dD te 3
def bn8:DT:=dD te 4
def bO0:DT:=dD ad8 0
def bN9:DT:=dD ad7 0
def bN8:DT:=dD ad6 0
def bN7:DT:=dD ad5 0
def F:List FD:=[nU,fd1,fd2,Vb,fd4,fd5,Va,FY,fd8,U',TD,tJ,TC,MI,zQ,TB,TA,Tz,ar9,ar8,Ty,Tx,Tw,Tv,Tu,Tt,Ts,Iq,Ip,Io,ar7,ar6,ar5,ar4,Tq,ar2,Tp,ar1,ar0,EZ,Im,aq9,aq8,To,Tn,Tm,aq7,Tl,MH,Tk,aq6,bJ6,aq5,aq4,Tj,MG,Ti,Il,Th,aq3,aq2,aq1,aq0,ap9,Tg,ap8,Tf,ap7,ap6,Te,MF,Td,ap5,ap4,Tc,ap3,ap0,Tb,ao9,u4,Ta,ao8,ao7,ME,MD,S',S9,S8,S7,S6,ao6,ao5,ao4,ao3,ao2,ao1,ao0,an9,an8,an7,LW,af9,RW,RV,RU,LV,HF,af8,af7,bx7,HE,bx6,bx5,LU,af6,bx4,nU,RS,RR,RQ,RP,af5,af4,af3,af2,af1,af0,RO,LS,BG,ae9,ae8,ae7,LR,RN,ae6,ae5,nU,ae4,nU,RM,ae3,LQ,Er,RL,LP,LO,RK,RJ,HD,pu,nU,nU,nU,nU,nU,nU,nU,LM,nU,RI,nU,nU,nU,nU,wz,LK,RH,LJ,RG,RF,ae2,ae1,ae0,ad9,Ep,HC,BF,te,ad8,ad7,ad6,ad5,bx3,bx2]
end
end Go.Proofs.YthicpeihkkokmaaGreatDoor
