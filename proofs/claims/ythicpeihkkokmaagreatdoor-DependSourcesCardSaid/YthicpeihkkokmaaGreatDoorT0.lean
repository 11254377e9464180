/- Functions as programs on data, and their checks. -/
import Derived.Test.YthicpeihkkokmaaGreatDoorChecked
import Derived.Test.YthicpeihkkokmaaGreatDoorA0
import Derived.KernelRfl
set_option linter.unusedVariables false
set_option linter.unusedSimpArgs false
set_option maxRecDepth 1000000
set_option maxHeartbeats 0
namespace Go.Proofs.YthicpeihkkokmaaGreatDoor
variable{α:Type}{l:List Char}
open Go Go.Ex Go.RowKit Go.T
noncomputable section
def C0:Option aE:=some ⟨.cells ([1116352408,1899447441,3049323471,3921009573,961987163,1508970993,2453635748,2870763221,3624381080,310598401,607225278,1426881987,1925078388,2162078206,2614888103,3248222580,3835390401,4022224774,264347078,604807628,770255983,1249150122,1555081692,1996064986,2554220882,2821834349,2952996808,3210313671,3336571891,3584528711,113926993,338241895,666307205,773529912,1294757372,1396182291,1695183700,1986661051,2177026350,2456956037,2730485921,2820302411,3259730800,3345764771,3516065817,3600352804,4094571909,275423344,430227734,506948616,659060556,883997877,958139571,1322822218,1537002063,1747873779,1955562222,2024104815,2227730452,2361852424,2428436474,2756734187,3204031479,3329325298].map fun n=> .int .u32 n),1,false,true,jS⟩
def gb1:Option aE:=some ⟨.cells [s [46,46],s [61,61],s [33,61],s [60,61],s [62,61],s [45,62],s [123],s [125],s [40],s [41],s [91],s [93],s [44],s [59],s [58],s [46],s [61],s [60],s [62],s [43],s [45],s [42],s [47],s [37],s [95]],1,false,true,jS⟩
def gb2:Option aE:=some ⟨.cells [s [97,102,116,101,114],s [97,108,119,97,121,115],s [97,110,100],s [97,114,114,105,118,101,115],s [98,111,111,108],s [99,111,109,112,111,110,101,110,116],s [99,111,117,110,116],s [100,101,108,101,116,101],s [100,111],s [101,108,115,101],s [101,120,105,115,116,115],s [102,97,108,115,101],s [102,101,116,99,104],s [102,108,97,103],s [102,108,101,101,116],s [102,111,114,97,108,108],s [104,97,115],s [105,102],s [105,109,112,108,105,101,115],s [105,110],s [105,110,116],s [108,97,116,101,110,99,121],s [108,105,110,107],s [110,111,116],s [110,111,119],s [111,110],s [111,110,99,101],s [111,114],s [112,114,101,118,105,111,117,115],s [115,101,110,100],s [115,105,110,99,101],s [115,105,122,101],s [115,116,111,112],s [115,116,111,114,101],s [116,97,98,108,101],s [116,114,117,101],s [118,97,114],s [118,101,114,115,105,111,110],s [119,104,105,108,101]],1,false,true,jS⟩
def gb3:Option aE:=some ⟨.cells [v,v,i 0,i 0,v,v,u,v,i 1,i 1,v,v,u,v,i 2,i 2,v,v,u,v,i 1,i 1,v,v,v,v,i 1,i 1,u,u,v,v,i 1,i 1,u,v,u,u,i 0,i 4,v,v,v,u,i 1,i 5,v,v,v,v,i 2,i 2,v,u,u,v,i 1,i 1,v,u,v,v,i 0,i 0,v,v],6,false,true,jS⟩
def gb4:Option aE:=some ⟨.cells [x,x,i 0,i 0,s [99,111,110,115,116],s [78],i 0,i 1,s [118,97,114],s [65],i 0,i 1,s [112,97,114,97,109],s [65],i 0,i 1,s [102,108,97,103],s [65],i 0,i 1,s [110,111,119],x,i 0,i 1,s [103,101,116],s [65],i 1,i 1,s [104,97,115],s [65],i 1,i 1,s [115,105,122,101],s [65],i 0,i 1,s [110,101,103],x,i 1,i 1,s [110,111,116],x,i 1,i 1,s [109,117,108],x,i 2,i 1,s [100,105,118],x,i 2,i 1,s [109,111,100],x,i 2,i 1,s [97,100,100],x,i 2,i 1,s [115,117,98],x,i 2,i 1,s [101,113],x,i 2,i 1,s [110,101],x,i 2,i 1,s [108,116],x,i 2,i 1,s [108,101],x,i 2,i 1,s [103,116],x,i 2,i 1,s [103,101],x,i 2,i 1,s [97,110,100],x,i 2,i 1,s [111,114],x,i 2,i 1,s [115,101,116,118,97,114],s [65],i 1,i 0,s [112,117,116],s [65],i 2,i 0,s [100,101,108,101,116,101],s [65],i 1,i 0,s [106,117,109,112],s [65],i 0,i 0,s [98,114,97,110,99,104],s [65],i 1,i 0,s [99,111,115,116],x,i 0,i 0,s [115,101,110,100],s [65,66,78],i 0,i 0,s [97,102,116,101,114],s [66,78],i 1,i 0,s [115,116,111,114,101],s [66],i 2,i 0,s [102,101,116,99,104],s [65,66],i 1,i 0,s [115,116,111,112],x,i 0,i 0],4,false,true,jS⟩
def gb5:Option aE:=some ⟨.cells [.int .u64 1,.int .u64 10,.int .u64 100,.int .u64 1000,.int .u64 10000,.int .u64 100000,.int .u64 1000000,.int .u64 10000000,.int .u64 100000000,.int .u64 1000000000,.int .u64 10000000000,.int .u64 100000000000,.int .u64 1000000000000,.int .u64 10000000000000,.int .u64 100000000000000,.int .u64 1000000000000000,.int .u64 10000000000000000,.int .u64 100000000000000000,.int .u64 1000000000000000000,.int .u64 10000000000000000000],1,false,true,jS⟩
def gb6:Option aE:=some ⟨.cells [i 0,v,i 0,x,i 0,v,i 7,x,i 0,v,i 7,s [116,114,117,101],i 0,v,i 7,s [102,97,108,115,101],i 0,v,i 7,s [110,111,119],i 0,u,i 7,x,i 1,u,i 7,x,i 1,u,i 7,s [104,97,115,32],i 0,u,i 7,s [115,105,122,101,32],i 1,v,i 6,s [45],i 1,v,i 6,s [110,111,116,32],i 2,v,i 5,s [32,42,32],i 2,v,i 5,s [32,47,32],i 2,v,i 5,s [32,37,32],i 2,v,i 4,s [32,43,32],i 2,v,i 4,s [32,45,32],i 2,v,i 3,s [32,61,61,32],i 2,v,i 3,s [32,33,61,32],i 2,v,i 3,s [32,60,32],i 2,v,i 3,s [32,60,61,32],i 2,v,i 3,s [32,62,32],i 2,v,i 3,s [32,62,61,32],i 2,v,i 2,s [32,97,110,100,32],i 2,v,i 1,s [32,111,114,32]],4,false,true,jS⟩
def gb7:Option aE:=some ⟨.cells [y 0,y 1,y 28,y 2,y 29,y 14,y 24,y 3,y 30,y 22,y 20,y 15,y 25,y 17,y 4,y 8,y 31,y 27,y 13,y 23,y 21,y 19,y 16,y 7,y 26,y 12,y 18,y 6,y 11,y 5,y 10,y 9],1,false,true,jS⟩
def gb8:Option aE:=some ⟨.cells [y 0,y 1,y 56,y 2,y 57,y 49,y 28,y 3,y 61,y 58,y 42,y 50,y 38,y 29,y 17,y 4,y 62,y 47,y 59,y 36,y 45,y 43,y 51,y 22,y 53,y 39,y 33,y 30,y 24,y 18,y 12,y 5,y 63,y 55,y 48,y 27,y 60,y 41,y 37,y 16,y 46,y 35,y 44,y 21,y 52,y 32,y 23,y 11,y 54,y 26,y 40,y 15,y 34,y 20,y 31,y 10,y 25,y 14,y 19,y 9,y 13,y 8,y 7,y 6],1,false,true,jS⟩
noncomputable def body(f:FuncId):Code:=((Tryz.prog.funcs[f]?).bind (·.body)).getD .skip
def sq:a0c:=[(45,[.i64,.i64,.i64]),(46,[.i64,.i64,.i64]),(49,[.u8,.i64,.i64]),(50,[.u8,.i64,.i64]),(59,[.u8,.u8,.u8]),(64,[.u8,.i64,.i64,.i64]),(65,[.u8,.i64,.i64,.i64]),(96,[.i64,.i64,.i64,.i64,.i64,.i64]),(97,[.i64,.i64,.i64,.i64,.i64,.i64]),(159,List.replicate 32 .u8),(160,List.replicate 32 .u8),(190,[.u8,.i64,.i64,.u8,.i64,.i64]),(294,[.u32,.u32,.u32,.u32,.u32,.u32,.u32,.u32]),(379,[.u8,.i64,.i64,.i64]),(380,[.u8,.i64,.i64,.i64]),(387,List.replicate 24 .u8),(410,[.u64,.u64,.u64,.u64,.u64,.u64,.u64,.u64,.u64,.u64,.u64,.u64,.u64,.u64,.u64,.u64,.u64,.u64,.u64,.u64])]
def iN(n:Nat):Int:= @OfNat.ofNat Int n instOfNat
def iM(n:Nat):Int:= -@OfNat.ofNat Int n instOfNat
def bN(n:Nat):UInt8:= @OfNat.ofNat UInt8 n UInt8.instOfNat
def cQ(n:Nat):xM:=cd (@OfNat.ofNat Nat n (instOfNatNat n))
def nN(n:Nat):Nat:= @OfNat.ofNat Nat n (instOfNatNat n)
def lN(t:DT):DT:=G3 (H0 (Jf C0)) t
attribute[irreducible] iN iM bN cQ lN nN
attribute[local irreducible] kal HK
structure FX where
 f:Nat
 n:Nat
 k:Nat
 rs:List ResultVar
 sg:io
 m:Nat
 hs:List (Nat×kg×Nat)
 ds:List DT
inductive Z where
 |n (_:Nat)
 |v (_:xM)
 |l (_:a0e)
 |q (_:a0g)
 |o (_:List (Option xM))
 |t (_:DT)
 |k (_:NK)
 |b (_:aE)
 |h (_:List aE)
 |e (_:List (Nat×xM))
 |m (_:kg)
 |s (_:io)
 |d (_:List (List (Option xM)×DT))
 |a (_:AO)
 |i (_:a0u)
 |r (_:List ResultVar)
 |g (_:List (Nat×kg×Nat))
 |f (_:List DT)
 |x (_:FX)
def zn(d:α):List α->Nat->α
 |[],_=>d
 |a::_,0=>a
 |_::t,n+1=>zn d t n
def zj(n:Nat):Nat:=bif Nat.blt n 47 then(bif Nat.blt n 39 then n+34 else bif Nat.blt n 45 then n+31 else 76) else bif Nat.blt n 91 then n - 48 else bif Nat.blt n 96 then n - 51 else bif Nat.blt n 123 then n - 52 else 77
def zi(c:Char):Nat:=zj c.toNat
def zs:List Nat->List Nat
 |a::b::t=>bif Nat.blt a 14 then zn 0 [42,0,673,520,523,534,528,521,525,531,527,526,529,533] a::zs (b::t) else((a - 14)*78+b)::zs t
 |[a]=>[zn 0 [42,0,673,520,523,534,528,521,525,531,527,526,529,533] a]
 |[]=>[]
def zc(s:String)(_:String.ofList l=s:=by exact rfl){y:a0g}(_:zs (l.map zi)=y:=by conv=>{lhs;reduce}):a0g:=y
def zp:List Nat->List (Nat×Nat)
 |a::b::t=>(a,b)::zp t
 |_=>[]
def zh(n:Nat):Nat->List α->List (List α)
 |0,_=>[]
 |f+1,l=>l.take n::zh n f (l.drop n)
def zf(e:α){x:α}(_:e=x:=by conv=>{lhs;reduce}):α:=x
def zR:List (List (List (Nat×Nat))):=zf (zh 18 14 (zh 18 240 (zp (zc ">1>1>2>4FZFZ1>51>8>1>7F^@+F^@uF_F_>3@+>:FdF^@v>2>=>2>>1>937Fh1>3@*FoFo>2>BFmDj>2>CFbFf1>ADt=1>;Fg>6Fj>6Dl8Fc>5DwDx9Fv1FnD.D~;:E0E1>@>6Fg>3>:1Fl>9F,F~4FzFa?B>7>5D*D+DyDzG1@,E3E4D,G4FiFuFj>3F^@,>3@&5F&FpFpG@G@FkFkE2G;>;?AG5F.1G2>3@.>2>I6<G:GIFa??GAG91@v>D>K>D>L@u@uFbFc1G0FtFc>6Fr>2><E7E8><@uFrGGD&G8E@EAFa?@>3@~FhG?F^@.G_EBE:E;E<E=EDEEF_G71>O>2>NGEE5FbF_GXE9GLGb@v@vF*GNFbF%FtGiF^@xGeECG=@vGhEFFqFqGKDr>3@%GQ>T>2>R1>Q>E>EGBGBGCGCGzGzFZF%Gd1FiF+G*FxGnGfFb>HFZFcGcH1>;?CFa?FBU@uC=@w11F^@w><@w>@FxFu@wE>E?H0?@GwEG>J@+D%G^>2>S><@vE6H4G8G<>7G0@uGp>W>?F+H:GV57DjGmHBFs@zFa?DG<GEFl>8F*F&H@GoG3>9GTFq5HVHYHNFa?J>_>M>a>bHPHZ>P@uAgAN>2>YGF6HG>?>MH8HcFaFy2FtF%GgHA21Fw?AG7??@xGR9G6FnH;4Dl=GS>;?EFs@%HUG3AnBSH7HxHtHyHzHI><@xBEC93FaD%Fy2GsGUHrH9GWHMGZFb>GGHHdGY>?>6G>Fw?EG&@.1H6Dj4I7HK5DwFw?CI3Fk>3@z>VGPF^@%H>>?HHGg4Gv?HH+F^@zF^@*I=H%C?@vD%D&EHEIFa?IG%><HD>?Fu@vGuHCG,G,G.G.G~G~HvD+I>I>>2>dFyFyHpAUDrF*G=@wHJFq>F@uF^@~>3ACG:>6>U@uFzF.G^G<IcHL>1>G>1>HFs@vHw>51HhFs@uGj?N>3A0D,G6F^@&GlE6>3B:>P@vIsHF1>^6H2IGISH.?GI:GD1Fi>X>XEJEKFf>7G%GYH3Fi>9HfC>@x3DjDrFyE>GDFa?MFa?OFw?KF+I~HT>G341HF>5?@Gr??22>6Fm>7G2>5??GJFqIJI&@&FsAYJBFw?PGHJC>2>JFbFZFiFi1Hi>F@yDjGvFr4G3>E"++zc ">F@v@vGR1>E>2HDGMIvGtGrD,F,GMICG4GlGDFkGUH?Gc1GyF*A%@%>3AS??<H2J^JaJbDj7G=@xIj?H>2>tGUGFGj?RIa>61GPB=JSGS>AG+G+IID*JEJlJp?DFnIHGqH~I^GYJhDrJsIe>3A1>63Dj;G&@~G7IDG9D%G>B6GpGRI2IZ><@zF^@yFa?TFbIhGoInE?GuENEOG>ACGADyHk?GEQERESETK8K9><@yJM>91FaFa?UGQ>g>3@yELEMFfHoGUHuH2H*I63IlIlKAK41>e1It@+@uFs@wGF9HmH?>@Ib9DtG;E5Gr?LHJGJ>3BI>c@yC<@yFs@xH_J:H&>?I8HuB7I5B8>6E4HQE9HQFl>EG3HfI5KZJ*KdK_E4KaE9KeK^Fw?QGF<F^A1FlFnHqDtIXK6If@u>3AT3H54DjGfHlIPIPIQIQIRIRITITK@K@KRJ,>3A2Hk?DKTHaFa?XGL>6IqGX><@%Dl4FvGNGaDlGk@,IVJWKGEPKIJ9>2>u>H>G@,>?F^A0Fa?LFlJ?FqGJF+IHGkA0IpFyL0D%4IYGj?aH>I?IdGyI+IWK:EUKqKy1F_>2>v>3BA>JL8=G6IwKfIwKg>;?K>F@x>XBx@yFxA8D:D&GaE1HjFZ>GGt9HTIgI%LQKhHRLSCELTD*LYL^1Jt>2>w@u@w<DrDrK%9LZDxHqD+KCE2HqE5GDE6E=E7HRE8IoE9JqE:JXE;IoE<J6E?IOFdH,FkLsG?L3GDIOGZH~GlI,GqIxGqL=GtJuGwK<GxJ@HEI,HML@HSIzHWI.HWJrH,IyH,J2I1LfI1L&I@LlIBIzIBM1I_M5IxLyIyL~J1LkJ1M;J2K3JVLpJvM:K0LgKMLvL1M4L6I0L?E>LII0LWMAL_L.LcI0Ld@wLhMHLiMGLjLmLnLoLqLrLxLzL%M@L*I.L,M=M2M7M3M8M6M>M9MBM<HSM?MVMCMKMLMMMNMOMPMSMQMTMUMaMWMbMYMRMZM^M_MeMcMXMdMhMfMgGLGVI*KNMiKc>64F^A3IU@.K;>?4FsFaIDH<>?DrGq2FqFfFfFxFrG5;H.JcI8G2I<<JzHKMuGs>3BD>3La>H>HC5BBECHCF&G9Ga=HlGeK1>7>3AU>3AV>3AW>3AX>3AY>3AZ>3A^>3A_@,MpE2E3Fa?^Fa?b"++zc "FbH6GM7GSG2IUN>JAL4>3B6>:G?>NKJD,D.Fw?WHaJQ>2>f>3A3>@G17IK424J;Fw?SGGGyGJGJGs?cHAGuHEJTI9JmJRKU>3BC>c@w74EFEGE_EaG7?@GdI_LFEVLGJ7MnHXNI>?NcEb>h?=8F.Fa?eFtMlF%??GQNkIkJdNhKi1H?>U@vDlIFD+2HXMsHaHeNXE0NtHL@vIMD*FaFi1FiGHFlLOFz;F%?IF+H*G6DrGODIH<>eJRH;J_>6JwKzJ%?ZKlH*NANuNPDjO9I<1Af>3BGG>BIGHN0GOACGk@~HmHhJG>7NjEcO<Bj1H71He>X@vF~IqGxJ<H&>VIm3I*JYK5>3K??=DGAi5;EBN12GTFxFmGNJoHo8IdGKKmN3NrG>>3@x@zK&@%GRAkBPCmA9DyH5E5HjE;N4FdHjFv5Fw?fGxGxG&A0H4HlH=H=HCJAHkJcJ>ObJkGZJyJmL+JHM&GtO7OX@v>fDxDyD&D*EWEX2FkGkA1Ia>3K??>KFKFL9KkNH1NfOxOoNg>3A4D*JgGvFxH6H7H:KnHQD+H_G2JeFxJ.>?KPE6KVNvO>O5P:P5>6KH>;?S>J@.A,B97DrD+D,E3G6GGGKGOAyGa9I+JOJZI;P=P@>7Fn?GHEA~BD3IN7D+=5E1K,E5HSFa?gFiGsG6DxGOB@GOCaHOHsHS1I:PXINK+J+O&K2O6K=?YKB3M+PKNbNFOMOPP?>?PcH3>F@w?iK*@vFxCAAUCAAV;FsFa?jFl>^FrDlF.6G=LRG>B;GMDjJN>SK5>6KsE@L5GkLAG1LHJ>Le9MkHsO1PF>F@%ASBYDrPZFa?kG0MvGOBTH=FqH&I?IeE2JjQ2LJIrM%P,N2JoNWEDN+PLO3HdOIE7P.Dr1H03NE=H5=Q;DwHODzD%D+JTE9HbEA2EdEeF^A2F.GKGM;GNHEGSH8GmP3GnE:HwH8I;7IGP<IjPiJ0JiJ4QSJFA2JfN&KHB@LD9LbJNODQGOVJeQEQFQV?lQ_Pw1Jn1LU1Lt1ME>8>G>U@w??Mo?DE4@xFxAVLwAeFrCHA^CuAyDMB7DWQm7Dz48;J;DtH~DxG9D%FkD,FkE8HRE9LLE:JqE;K7E<LLE=J6E>K7E?H3EHLuEHQ.EILwFa?mFcQ0FdMj2J6"++zc "FtQ^F+QnG3GFG3JrG?HRGT4GdOsGk@.GkA2GlH3GqH=H3LUH<JtH=JuHHR9HgA1Hi?_I1QuI1RCIBQ,IEIVIFIVIFMjJI?VJKG1JXRKJvMzJzMJKPRDKQPvKmO?KtKtKuKuKvKvKwKwKxKxK~P*L>QlLtM*LuQeM0MmM0R<MER^NBG0NQLBOUPSOZOZOnQ4O~IZP4I@PCQyPUOOPbQ:PnR0Q<Q&QDRoQPJ&QfR1QhHLQjRlQwRRQxJVQzQ%Q*Q+Q~RbR4R:R5R@R6P&R?R_RGRgRHR&RIR+RLR%RORvRPR~RTQ@RZR,RaRzRcR.RdRsRiS1RpRqRuRxRyS9S0S4S2S5S6S8S7S>S:S;S<S@S?S=SASB>3BH><@&>F@z@vHgA0REAdPpDXSI3FsDlDr:6DwPTEZE^GHSJHa3JFA1KoIMNDQqOBKrQBDxQcG+ReF*SCMmSLSXSPST><@*>F@&>fAS@wFxAABgAjBQ38Dt4F^A5F^A6Fr1FrMyG<GlGOCpGkKJHXGHIEDjIXH3IYFxI^>SIg>7IrKSJGIhJJIfJUGVKLFsKoI4L2@uM.>6NeO+SbMt1LE>3@,3Dl:GKE9KsFlHhFlKjFtF_F+KUHIJ&H_>5J8K>JL1SlHHT5GZ1G+>3B>>?@&@z>NE4J3E8J3E92E=J3E>HbEF2FZL7FiKEFm1GmNoH%ISI9N,I9O8ItFdJI?_JfTAJfTCK3GhK7SqKKSZLMQbLNTDLV>GMzQKN@RfO4PgO@GPP>P1PxA5QUPaSRTaS^TSSp:T;TWTETQTUTf1Fh@+IL728DlD,DjEfEgFa?oFs@yG?OcGOBnGSHiGmFcHO4HW>9HXJDIWNpIkKrJF@,JwJ=KbGFK~NmNCGvNiSGO_B9PyA0>6Fy>;?W>@K+>F@+@u>?@vI4@yGRAxQIByC8CwU6767Dx4L;8;:Gy92DwTIFiIKFlG2GYGPGbInGj?pH5KBH5NoH^E,H^E.H^E~H^F0H^F1H^F2HnMrI2R3ImJ8J8UOJYQoJ%?dK1N~KWPMK.>?LXHoLXN~MwMwOJGxQ1NpSd3T&SgT.JxU8N5UNUVUQDt><@+@u@x@xIMD?B84IN5TsD%NnE5HHFa?rFa?tFw?nFw?qF.JZG3FnG3QgGJGjGOB2GOOHGVHsGqHEG%HGHg@+Hi?V"++zc "HoJKI2KBJxDlK.J+NxJLN*NOOREHQ6SuQMSeQZTmRjJ7SE>?U?RNUf@xUjFh1Gi1Od>3@w>;?Q>F@*>F@,>X@~??Iv?w3@uIMCmA:323NM7OQDjGH:7:JZ<NZDrKODtK*5:DzK0DzKkD&NnD+G<D,OkD~F~E2GsE6NVE=Q9ECOeEEPdELOmEYRSEZR7E^R*EhV3FZ>HFa?s2J~FiG>FiIEFl>5FyJWF+H;G3G0G3KjG?HjGMDrGWV?GZVVGuRAGxJHGxL<H3OdH;OkH<GPHEQNHSVUI<OQI@VNIA@*IFTYIiVPJ@JHJ@NUJHNUJyN,JyO8J%?hJ.P^J~IVKCVyKlRkK,J&L:VHL<UYL<V*L+OlMJOmM+QiM,>3NVP9NZW;N^>3NyVTO4W@OJOrORIJOaT6OeV:OfPQOfPYOiOlOiV,OjW:OrWIOtHXOtVxO.RrP;2PR3PWRmPeVoQ?WQQHS*QdVYRQWERnVZSoVCTvVMUPKYURS3V2W5V@VtVAWBVJVwVOWTVXK:V^WNV_VaVdVrVfWHVpWJVqV+VsWVVvWlV%WGV&WeW1U,W3WdW4WqW71W8WsW9WKW=WjW>WcWAWaWDW_WFWrWMWYWRWoWSWpWUK<WWWfWbWuWgI;WhWiWkX0WmVWWnWzWvW+WwX2WxX4W,W~W.X1X3X6X8Wt1HB>3A;>;?P>i@w?GFs@wGR@wIMASH<ATBsDl;E9G6EYSOFa?YFmImFu@xG:GVGJHXGMJKG%H&HKK=HPQ=HUHWH^EjH^EkH^E+HlIOHn4ICMxIb3JUK2LEJJNLHeNMXBNNP0NqQTOFWyOaQ8O*O*O.XFPVILRMVLSHIAT>VzT?@,T*U+UtX:W%NwXEE:XHFm>j?=?xHe@yI4@%K&@*UzAbPICiGP8R;;FaDr2Dt2DyD%FZIgFlGFFlJnFyNwF*4GHU^GOA,GOXvGQXpGT7Gr?@HOGGHSNWHaSnHn<I6U_ICFxIkTkJ<FkNFXeN_SQN%@xOCNOOHAwPsV1T:XTU5YAUxYCX9KjX^S,Y6GhYEY=1>M13>J@~>JA0@yS+A:X<7SmDjPD9G>DxD&Dz2D~E0F^A7G0GJG=@&GGJZGJSxGM4Gj?*Gy9H<QYH>>VHNOWH_>AHoDjI5AhIL@yIi2IiUkJ4NaJ=E4J.I?KnY8Kp>6"++zc "N2HENG>3O^VEQJIYR8MrSiYVSj4T4>7T~H=XXYdYL>?YM>?YkJi1O,1RJ>2>x>6GT>6SV>F@~>U@x>c@z@yLKArGPDjE1Dl2;8;KQ;L;DtDxDtPA5KDDwLDDyPADzKDD&D.D&QrD+KDD.E2D.PND~QrE3PNE42E6RwE9PPEAV0FZM~Fa?&FlG+FlKLFyG?G3>^G=@zGOBFGTIlGtONH=TeHO8HQ3HTL7INIbIWGPIXZ8I^>YI_J9ImJ0IpM&J0ZbJAELJNUBJOTiJP>9JPJ:JQS%KDZ:KKHjKcSYL91LAXWM*RwNK:NKPmNm3NxFrOKJJOpO2PEGPPG@zPQT3PdLFPeYHQ5ZTQpZ^RJZpSNUpS.GITRZ+T%SKUAUbUFUaUcZoUvZ4V7>?Xj@vXwYZY56Y>QYYPZxYjZzY+ZHZ1HLZ<YSZ?Z@ZBZCZJTpZUZ~Zc^BZj^:Z%^;Z,Dy^1Ud^<Zm^C^H1F%1Ih1JY>3A7>3A9>5?I>B>?>FA0>HXm>I>?>SJk@xLK@zLK@,Xf@,YD@~I4@~IAAKKX75:26:<IXDr5=25JUD%H5D*2E<2E=2E@2EC2F^A4Fa?+Fa?~FmK>FmLbG1@.GKL2GMDlGSG0GTXKGVG5GZPHG^NJGoP0H0??HONTHTM~Hb^kIAA1IL@%IL@&INFxIU@~Id6I*H?J;Y:J<R2JO@zL52LC4NGO=N%XrOE^yOKXYOg_4Oj@uO,PlPJPkPJPlSVLDSzOuT1HwVSN?XUHvX~_=YBYoYcLPYg>6Yl_EYt@&YxVeZO_FZS_N^ISY^J?@^W^X^ZA0^^AL^qPh^s_R^+_D_;V6_G_B1GJ>3BJ>5?H>8St><@,>i@y?VG>?YDt@0He@uT+@wIAA2>6A8^NAQQAAVQAAlBRB0>6BK_9Dj26QW9FaDwXGDyG>DzG6D~E1E32E4E<E5HbE6G6E6GaE6HbE7NSE8JgE9EAE9J3E;G6E;HbE;J5E<NSE=G6E=HbE=JgE>2E>G6E>J4E?GaE?T@E@G6E@J5EAOhEBG6EBHbEBLMEBT_ECHbECJ4ECaAEDTJED_.EE2EEG6EEHbEFOhEG2EGLNEGT_EHHbEHaMEII&EITJEJ2EJHbEJQREK2EKL4EM2EP2ER2FbGi2Q8FfG7FfNdFvI;F*GA"++zc "F*WPF.GyG66G>_nGOAQGaa1GgQaGj@2GkA3GuGwH4ajH5U&H7XcH<SsHCIJHHE<HIGEHOG5HbTBHbaKHlGuHnDlHw_aI9I6IJTPIUA0IWY2IbFmIfOuIkZ7Ik^bJPG0JdQTJfT@KGQRKfaIKgaSK,HUL:_tL;XVLHFZLM_&LMa4LNa0LNa?LXNdN1a&N4QaN5T^N5apNEUZNSP1NYLRNYPjNYQkNYScN^KSNbZeN&_eO@UyOWYyO_B6Q9TOQOTBQOZGQQ_yQWBKT8J8TOXnTPa7TTbRTTbVTb_sTbbLTcVjTc_LTgbQTgbWU1IiVQN?XPSyXb_WXoKYYIODYWIuYe@vY~bNZdKY^FX,^f^z^jas^lbA^mSh^&bi_:^6_Oba_Yb9_h@x_kaE_laQ_qBL_uD%_xb<_z_*_+bX_,b>_~a2a3a8a5bba6ana9a<a:a;a=a@a>aCaBaUaDbxaFaHaGbPaJaLaNaXaObyaPb4aRb@aTc7aVEQaWbKaYc@adboaib&arc?avb7awamazT^b5cAb6cBb;c1b=bqb?Q=bCTobMbObSbpbYcDbZbzb^bTb_Zlbcc2bucTbvZ=b*b+b,c>b.c0b~c3c4c6c5c8c9c^c:c;c<cJc=cdcCblcEcIcKcXcLcZcQcbcUcYc_cgcaccchcjcickcmcecnclcocp1AL1NH1Ss>3A<>3A=>FA1>Q>6>c@x?vOv@xNi@yIM@&GR@+Hg@.Hg@~HgA0^,AMIAAdJjBxC73PE777TG4Fa4Fi4UW82;66Dr9Pz=DwDw2DzD+D+NJD.D*D.2F_H62Fr2Hm2R2FiYwFnU7F+U7G3JnG:TzG>BHGF;GHXCGIUCGJHsGSFnGSH?GSLOGVGGGZ^4GaPMGaUiGm^%GqIIH<Z_HO=HTX&HW>^H^F3HeYvHm>EI6T8IKd6IL@*IYOTJ<dGJD9JI?uJKOTJPJ?Jk^DKSIrKY3KoT+KzNNK.I?L2@xL>@yMqd1Mt^YO2>FOC>AOgOGOp_VOyYnO+OEPVGPQ>??QvIITZ_HTjdgTydVUhabUqGAUrd3VcDjVhe0X@BeXQF^XRF^Xg:XiPfYGPuY*PkZf^8^o<_Tdw_dBR_fd%_%E7aZ?@bte<cFZNcOGPcVUMc+Akc,@,c~d0d=e3dKdIe2PH171W2>3@v>3Ad"++zc ">3B=>FA3>GWL>R@.??;?^d8@1G>@ueR@yX>@zN_@,Pf@.IAA5>6AJBUAX@*A^@,AcP8AdUUB2Y.B4XkBWAW7D&7bD47;Dx:5:GH62<HO<Hn<Pz<agDr<DrDtDrDxDrG5DrU99ZYDwU9DxKDDxVFDzDxDzOwDzU:DzViDz^0D*VFD,U:D.DjE@VREDQXEJWCEOEPEWRSEXR7EYR*EfSOFa?ZFa@7FhZnFiNVFrdSFvGAFweCG1A3G3G+G3KLG4IqG68G=@*G?^gGTDwGTeuGUU%G_RAGa5GlHAGm>7GodsGr?IH5FcH6>;H?3H@FxHGTwHIE2HQdFHRJ0HRNaHWHfHkQiHn;HpBgHrIBH*^dI8V<I@WOI@X5ICMkICXJIEDzIENZIFP;IKE9ILA2IpWOIpX5IpdkJ4QsJ7W&J;5JDU>JFA0JP>QJUTzJWY1JwGVJxI9KE2KMfpKQezKVP~KhGOL7WLL:ewLCG5LH>7LVM~MxG5M*VRM,N^NCYXNR6NRDxNecsNfRrNsIENydHO?OcOnfIOpTqOqLROqPjOqQkOqScOsTeOy2Oz@zP9QNPPfLPYVlP_NNPgVlQ?UZQZI;Qdf9QtDrQtDzQtD+RBSwRQWCRURURVRVRWRWRXRXRYRYRhRhRkfdRnf;S3V4SNgBSnYKT4FZT=>3TRW2TXeMTXevTZg2UMekUhJLUnJ0UrgcUsX7U~_iV4IZV9eXV9eYV;V;V>H_VBZ3VkftW0geW0gfW6fNW6g4W?B9WXLGWXNgW^g&W&fwW*LPX7grXa;XhA2Xl>GY0GPYb_CYpNJZ;gTZAgUZDgVZaFzZyfkZ*eq^Ah3^V@*b8ejctg>dmZId*YFd,f*eAeheBPIeQf7eZe^ec@~eiAeerQpe&g<e,d@e.fxf07f1g=f2gAf8axf:g?f<hUf=f>fBfRfC8fPgXfZH>fc_PfghXfmhTfogPfuf~fvJig0hBg9hIg;fTgCgjgIhigMh1gNh>gQh^gZgYg^hng_hogahpgbhqgdhVgkhfglh?gnY3gqhSgsh9guN+gvLBgwhrgzhwg+hth0gth@HWhCBZhGhLhJh%hWgRhZgShai2hchlhdhEhgh_hji6hsi1hufMh&i3h*f3i4i:1NO>3A6>3B;>;?n>JA1>N@~>R@~>U@y?dbn@z@z@%NL"++zc "@,Hg@,iB@~>6@~YzA1>6A3@zA8F^A9_XAK>6AiBOBDI4BPPIC@AXCBAQ7G6:He:afDr4DtTrDzThD+J3E6GXE<TpF^iNFa?dFa@5FiI6FlbjFrHsFwXqFyGDF*5F*OGG3_?G6DlG6E2G>B7G>iPG?J9GAh7GHefGSTMGTMvGZGyGaD,Gb>6GmJ>GyV8G*>6H1HFH<RFHLeFHWKjHeT9Hn9HnPmI?X.IA@,ID?MIL@zIL@+IOEHItG?ItJ9J0K>J4d;J5D*J5MrJF@~JJNzJJP6JKa,K2>6K=@:KYSfKbJ?LCJQLCNTLJSDMoShN@NaNsFqOWQLO~>GP_X_Q7jLR=@%RjZXS_>?S&FkTdahUe>?UlibUoMrW^jQXM_6XdXdY7HOY;heYOcvY^N*YuicY,Iu^5iI^TW*_1a*_23_bj2aoJ=aqTHb0j;cWaycw_Kcyggd+X%e;i^e=S,eHiseWjeepjqf@7g%>Hh2jfh5Q3hAjth+^*h~V5i<i.iFjCiOjaiiili+cfi,iKjHIrjIjpjJLBjOXyjcj,jijsjlJijuk2k5jnk6jT1>41@x1Ig>3BE>3YO>6Fk>Mi@>RA0>VLE>c@*>k>4>m?@?Hd7@45@8PR@yK&@%>c@&N_@*OF@,Oz@.iC@~kBA0Y%A1JxA2R>A6KXA7MqA>ZrAEjbAue4BBk>BEHgB_kXC9GWC@GWCGASCGGWCNGWCUGWC_GWCgGWDMILDN>FDPGP3Dt3I<3Ii3ZW7Dt7FvDjDlDjGS4P7DlJ3DlOSDlSm8IY;2;UW:ZV6ZQ6gD<O1<knDrO:DrO;DrZkDrd_DtZMDt^G5O:5O;5OzDwD%DwN.DwYTDxY9Dy2DyGDDyGrDySvDyk;DzIIDzO:DzO;D&JDD+O:D+O;D,O0D.GaD~D+E1^3E22E2lHE3OyE+UGE,UHE.UIE~UJF0UKF1ULFa?VFa?uFa?yFa@6Fa@;Fai0FbIgFkOhFqHXFtH6Fu@zFy^7F+iTF~E2F~GMG0lZG1A1G1LaG2UbG6DyG7kGG8JTG8j<G9J5G=@yG>B=GFDxGFD+GHC7GM6GMF^GMLAGM^>GM^?GNIIGO@xGO@yGOB=GOJOGPG9GQ>lGTGWGVPDGWCnGWk_GWkaGWkcGWkdGWkeGWkfGWkgGa7Ga<GaE1GalBH5_A"++zc "H5ljH9F2H9lLH9lMH9lNH9lOH9lPH9lQH=dRHED,HLXAHO9HRQsHXHXH^E*HeZWHg@*Hi?GHjFkHmTMHmfWHnDtHpA,HuWZHubUH+?II6^pI9KEI;VmI@Z5IEDtIEONIUA2IWLPIeVkIiJ<IlGZIolFJ5_vJ5d>J7IZJ7R3J7^EJGIgJGU&JI?,JJKWJOkhJOkiJS@9JUFxJj6JjDtKIFdKLIiKTZ2KWDjKWUiKYS~KilaKpN6K%QCL2@vL>@&L>kNLJYqLeKOMkGGMlmdMt@zMx6M,O=N7N8N9N:N;N<NDXCNl6OBJdOFeeOKI+O^JQP2JLP9GnP;FyPBlwPG@+PJk^POmgP_UwPtU@PudoPykRP+RtQ1l+Q5m^QClvQvmER8DxR;SxR=@yRBLPSUY&Sy@+S~2T2JdT<leTlE0TllJTqU2Tu>^TxY&U4c*UFnIUGMDUGMFUHMDUHMFUIMDUIMFUJMDUJMFUKMDUKMFULMDULMFUTFxUXF%UXnpUcUaUu>FU.gWU~edVI5VQE2Vc3VgkIVhZwX=e1X@B*XNhHXSMDXSMFXgk8XhkTXiZuXtj3XuFzX%O0Y<Y<Y@iLYUmfYsg8Zh>EZqIiZrkVZtnR^2nY^Emj_>j+_Zn<_gYN_jk?aae*aeKOa%bhbd7bmj:brYubwS+b%m:c._Sd2YRdBo<dYk%dxn~eSZ&ebkOet:fAQofFdPfVlhg@lKghOVgm@+gyoPi5YFiRkZiooUipO5jFdujN^MjVo=jzU3k0kQk:l*k<kjkFl>kHmKkSA3kUA8kWUdk,k.l1>El3l4l5ojl6oMl8jhl9iel<oil@lAlClDld^@lllElmo3m>MIm?MIm@MImAMImBMImCMImDP4mPXqmXZkmeD~mi^GmldLm*o^m.@.m~B<nEO0nSDlnuato6O0o:olo?k+oB9oFJ0oI^hoLnXoNokoToRoZBFoej&omp7oooyoqn1ouoxovp:p4mb1>:1>?1>n1Fm1Fq1HO1St>3A:>3B8>66>7O,>8X&>:H1>F@.>HZK>U@z?@HZ?HDw?vlx?.Tj@3iW@<G>@z^9@%N_@&bE@&mL@+@wA0>6A1HgA3AMA=YrAaO%B8W<B9BJB9IrB?BNBgBECNB<DHAj3>23Fi3GH3I63I9Dj8DjG5DjGGDjHsDjJ84J~4e5"++zc "Dl7DlGH838Hm8TG;H@:QW6P76Sv<M%9kpDtp35Dz52DwJgDxH5DyGMDyGtDzJoD%DzD%D*D*J3D+E8D+idD,D+E0a^E0cRE0lkE2G6E2HbE2f?E2hxE3NSE4E5E4GaE4JgE4UlE5G6E5L5E5a^E6cSE72E:2E;i_E<G6E=OhE>PxE>QQE?cGE?qbE@H%EAHbEI2EhEiEjEkElEmEnEoF_P3Fa@>FbSt2G>2N?2NT2PBFke6FmGTFqSkFs@+FtnqFu@yFu@%Fu@&Fu@*Fxp,F*XOG8D,G9HEG=@%G>BCGHpsGI>6GJSkGLJ=GOBLGOBbGTDjGTDlGVSUGZGKGaDzGkA4GkA5G%H>H5HJH5KyH=Y^H>TwHIHUHIeGH_U0HeNlHnDjHpBFHpB+HsSfHvbEI8>;I9eNI=otIA@.IKD%IKE8IKqOIjp^IqGnIrbJJ0LBJ0UDJ3qGJ4q^J57J54J5qFJ7_@J>iUJEBEJIX?JN>YJPG2K;TwK=pdKKbgKLKVKW3KXA3KbJ:Ki6Kk1L5qJLCrJLPT7LbSwMJ>?MxHsN@rVNQF+NioJNqfaNqgpNvcPNyT3NzVBN*FhN.dfO2GPO2PhOA@uOAA;OIcMOLDlOTe%OYB;OYBHO^_UP<qgP>q>PCqRPGTiPHFdP^><Psp6Pt8Pud&QAqfQM_mQOr%QQQbQQqMQRqeQUfzQaqLSDKSSFH_SSU4S_>VS_I?SeT6Si1Skq8S*OET1cGT9kAT<>^Tn9Txk3U<1U<2U=KOUBenUlcMUoDlV0rSV7rhVgp_VujxW<BEW?B8XGq6XJGGXO^iXOqYXP__XbsBXcq+XnrYXok4XsJQX*DxX.I;Y7TtY;mHY?^PY?^SYN@,YRALYUm9Yba.YfdiYqB7YsiyZLrW^K>7^LOP^RiE^n3^tGv_7cR_7cS_S_<_mrD_wnw_wsib1jdb3qUb3snb:J>bBcqbBcrbfkMbfpgbgnTcHcqcHcrcNdCcNt7cPsCczU.c%2dDs9dWq*d^T9datHdd1dvgKeDr_eOr~fUDjfYJLiHhKiQsPiYT0iat=i%k9joIukJ_UkvjYlIrClctDmnH+n3rxn@sHo8tWoKXuoatYp1rppV_@pkA2plsAq:SWq;DwqEqNqIscqPqSqVqXqZtbq_qaqcqdqhsaqiqjqkql"++zc "qmsmqqt<qstCr3qorBH&rKt3rRE1rXtfrgJ.rirjrzakr,tTs2tms8tss:tosDt:sEtpsFtisGPasRt>sZtzs^qWsgBMsju0sktlslu7syt&t2txt5t%t6tKt9tNt?u4t@u=tAu<tBuCtEuBtStvtUuFt^u9tnuGtqtrtttutwuEt*uJt,uDu1tZu2uIu3uLu5uQu;uOu?uUu@uNuAuVuHuXuKuSuPuWuRuZu^u_uauT1JN1fs1j>>3A5>3BN>3_j>3o2>5?J>5?^>67>6Dj>6Fi>6GD>6Hs>6Mv>6Yi>7GF>7H8>?BM>FA2>FA4>GTF>GTV>GZK>HTF>HTV>M^O>N@,>N@.>P@y>VXY>yH^?GqB?Hkt?O4?Z4?_Yi?hb%?zp?@AG>@vDj@wLK@xdv@zPf@z_c@%XZ@&LK@&al@&i;@*I4@*g*@*r<@+KX@+XM@+i9@+oW@+p5@,i9@~J=@~J+A1@yA2FkA2iAA5MqA6P8A6^MA8BcA;H9ACH9ADBnAKH9AOJjASH9ASjWATI4AUHgA^H9A_XkAcI4AdHgAh^xAqB^AzALB>bJBNKXBOHgBOIrB^AMBiGPBiYhBleUBrB,BsB~BuC5BvC0CFARCIAtD2A5DFve3Dw3Fz3HQ3He3Hv3Jg3gJ7Dl7Fi7Sg7_0DjG?Djpy8G68VG;Dr;e5;jj:HO:Iu:Pz:X;:fe:q16Gt6IN6J,6K*6O:6O;<Fa<2<Iu<J~<KQ<X*<hzDr=DrH5DrL9DrL:Drhz949=9Q79SW9d&DtFaDtG5DtH@DtKDDtUADth.=I;5hy5ko5r=DwDzDwhyDwpJDxO:DxO;Dx^7Dx^_DyFtDyI6D%FuD%v~D&KDD&fqD&hMD&nvD*I8D*^_D*hMD*ixD+DjD+5D+E0D+T:D+emD,GaD,PWD,fGD.Z5D.fGD~VmE0YQE1D~E1E6E1NyE1dZE1emE2^3E3f^E3x5E4beE5E7E5eDE6_5E8fqE;2EBKsEIl=EKr;Ec>2EpEqErEsEtEuEvEwExEyEzE%E&E*E+E,E.E~F0F1F2F3F4F5F6F7F8F9F:F;F<F=F>F?F@FAFBFCFDFEFFFGFHFIFJFKFLFMFNFOFPFQFRFSFTFUFZ>7F^AUF^AgFav8Fclq2GJ2GM2GZ"++zc "2H92L32Nn2Ve2lUFfxfFiGJFiTXFimuFlSyFnPlFqI@FqIpFrG5Fs@&FvJRFyUEF&J&F+PkF+vpF+vsF,V.F,V~G3RFG64G6<G8GTG>BMG>BNG>_oG>vXG?xzGJLeGKdEGLKzGMFiGMhOGPwbGSU0GT8GT;GTw,GV4GYUyGZPPG^JTG_KOGaDrGax<Gfe>GmH6GtQJGtfyGtnAGxHsGyeEH3fsH5HoH5J>H=x+HJJ@HJyNHK>?HOx2HRVDHRXDHWlpHWn%H_GFH_H8Hi?,HiX?HjxvHn7HnK4HnyIHpvoHuU_I2NdI4phI9J5I:beI;TKI;TLI@fyI@i7IAviIENsIEi7IEx1IFH9IFHXIIJ5IInsIXr6IZdQI_1I_x*Ifc&IkexItSiIvfhI+eJJ4XDJ4d<J5wQJ8FaJ9hQJ=qKJEB;JGHoJGYfJI?GJI@CJKFxJMKLJPU%JXfnJ_KpJ_N6J_N7J_N8J_N9J_N:J_N;J_N<J_N=Jds_JiwrJj9JkS%JktOJxw~JyeNJ+vFJ,jEJ~ONJ~mNJ~rcK1VbK2i>K;I?K;kCK>e~KIZaKKP~KMGJKOz3KQPBKQiqKQy2KRdQKXswKXvPKi8KnPSKnz?KpN7KpN8KpN9KpN:KpN;KpN<KpN=KsGuL6H9L;^>L=zjL?xpLAMkLEY2LV>HLVL7LVg3MoH9MobrMsv4M,KSM.S&N0:N3JDN3itN6N7N6N8N6N9N6N:N6N;N6N<N6N=N7N9N7N:N7N;N7N<N7N=N8N9N8N:N8N;N8N<N8N=N9N;N9N<N9N=N:N;N:N<N:N=N;N=N<N=N?V.N?V~N@w4NGSDNGk1NKd5NQm%NRDrNRDtNR5NRDzNRD&NRD+Ndx@NeJ9NlYaNmVDNqrvNs4Nw?%NxYvNzN%O0hNO0hRO3ppO6NNO=_^O>%iOA@zOA@%OA@*OAv;OAvIOCFhOCTMOEd~OFsNOGf_OL8OMpuONiSOSIlOSXKOvV.OvV~OwV.OwV~Owy<Oyr&P2yWPBTKPBTLPEP+PTTNPUGPPYfjPb%.Pqd4PqeEPrFmPtJePuZvQ5zRQ>?IQ>?LQCxlQHz*QJJeQLd?QXfnQpikR=v9R>@%R>v@RfwJSHY%SKvCSMj~SUfbSWfXSh1SzSGT1j7T3j*T7j4TF>GTF>HTNI;TV>GTV>HTYfjThNeT%ku"++zc "T,YhU;hOU;y~UEflUEhDUTr9UeJ+Ug@&UmFkUnz4UpD&Usi8Uus;U*flU*hDU*hbU.tJV6vRV8oGV8&?V=RtV=SSVbL7Vbg3ViziVjFqW<BLWZbUXIZ.XNv5XZT0XlL7X*rwY0^~YINjYJJ:Ym&6YnypY.wYZ2HaZ9^?Z9^@Z9k~Z;%RZ>*6ZA%UZD%WZE*4ZF*5ZIfDZsmOZve?Zv&:ZyoYZ*wp^0vJ^2f6^Ai8^Lvw^TeO^iqT^pFm^uDr^uwI^wwq_8vy_Kz=_XoA_^>3_goHa_pbaawoa+Uea~z1bdPAbh*IbsR>bwzfdA&>dDmvdMKSdOw>dhffdjx:dr*Ydte7d~zbe8*be?nZeGubeKrOeLzgeVI2eghQe+&_e~zYf4ztf5&^f_lYfryhf.%^f.*>g5d4g7Xmg:rUgLy7gOJ=givkgozcgo*Jg*&Ig.ZXg.^*h=_>hYKlhY&+hb&mhkimhvhvh,tgh,xti;vAiVVGiZX?in%Mizvfi*Hsj6mRj8%Yj=vZjAx>j^jrjvw.jyN.kY*xkbx?kmr1kzUSk&*hl0USl;o4lG*DlbNTlfr2mFodmGUSmInymSp>mZ&bmmxkmq^emsG>n2JVn99nGksnN+RnQ%kn.tVo1Q3o9eIo@t4oQUSoSzNob*Lonyio.wep=*HpEh:pFhPpHh;pIh<pKsOpanxpo+Dpx+Ep.^nqD%fqx?JrAPrryY_r+&Ms0gJsUz^sWjmsr&XstY_sx*2tFjktM&EtPU@tan=t+ZZu>j0uMxBudx8uhz6uk&GuqIpus+Futw=uuyru*zIv1yPv6&hv:@xvDvHvE@,vG*CvN&,vO,8vQA7v^v_vb+4vcvdvmyzvq+0vz*+v&+7w1*Kw3;w7w@w<yKwBwCwHwtwN+&wOwdwXq<w_*Bwa%SwcQJwfwgwi%Twjxowk*ownwxwuygwz%Vw%D.x6Ogx7w+x9yHx;,dxCxDxExFxGxHxIxJxKxLxMxNxOxPxQxRxSxTxUxVxWxXxYxZx^x_xaFXxeASxq,Qxyfhx%zdx&+6x,nBx.h;x~I;y=,@yA,4yD*ZyJU1yL&vyTHsyY&2yf,xym,2yn,vyohNyszSytyqyx+ryyA8y*+1y.z5z2zJzP&ZzT+gzZ*Xza%ezu%,zw,bz++:%JN=%Kow%Lh<%PGT%X.1%gbs%jIr%n&j%oFv%r&o%s*i"++zc "%v,+%zp0%%h:%&nM%*hP%~%+&0hR&4*A&B&a&C,O&D.J&F,=&H,A&Q+8&W.U&Y,M&iTu&p*O&q.L*1._*?O2*E.b*F,X*Gdy*R+p*S,^*UJi*^.M*crQ*e.Y*f,**g+=*k,B*mv+*y+2*&,P+3hk+5.g+?,D+@yF+ALP+K,c+N.Z+SlV+Y&l+^fH+dx3+eD%+hey+meg,1,f,6,J,7.u,9.9,:.2,?.a,CAV,EAe,F,&,H,I,Lig,N.?,S,w,V.7,Y+z,g,h,i,j,k,l,m,n,o,p,q,r,u.W,.~6.5.e.:+w.<T,.=~I.BD1.G.w.N&O.X~K.c*N.d,3.j~N.k.v.p~>.q*s.&vj~2~A~3~;~4**~5,G~7~G~:~V~B~C~D~E~F,s~H&P~Uw*~X~b~Y~_~c~d~g~i~h~f"))))
abbrev ZZ:=List Z->List Z
def zo:List (List ZZ):=[[fun s=> .l []::s,
 fun| .o a::s=> .o (none::a)::s|s=>s,
 fun| .v a:: .l b::s=> .l (a::b)::s|s=>s,
 fun| .n a:: .q b::s=> .q (a::b)::s|s=>s,
 fun| .n a::s=> .v (.int .i64 (iN a))::s|s=>s,
 fun| .k a:: .l b:: .t c::s=> .t (.op a b c)::s|s=>s,
 fun s=> .q []::s,
 fun s=> .o []::s],
 [fun| .o a:: .t b:: .d c::s=> .d ((a,b)::c)::s|s=>s,
  fun s=> .d []::s,
  fun| .l a:: .n b:: .n c:: .l d:: .d e::s=> .t (kal a b c d e)::s|s=>s,
  fun| .k a:: .l b:: .t c:: .t d::s=> .t (.br a b c d)::s|s=>s,
  fun| .n a::s=> .v (cQ a)::s|s=>s,
  fun| .q a::s=> .v (.string ⟨⟨a.map bN⟩⟩)::s|s=>s,
  fun s=> .v (.slice none 0 0)::s,
  fun| .n a:: .v b:: .e c::s=> .e ((a,b)::c)::s|s=>s],
 [fun| .q a:: .l b::s=> .t (.ret a b b)::s|s=>s,
  fun| .n a:: .q b:: .l c::s=> .t (.jump a 0 b c c)::s|s=>s,
  fun s=> .v v::s,
  fun| .n a::s=> .v (.int .u8 (iN a))::s|s=>s,
  fun| .b a:: .h b::s=> .h (a::b)::s|s=>s,
  fun s=> .t .stop::s,
  fun s=> .h []::s,
  fun| .o a::s=> .o (some v::a)::s|s=>s],
 [fun| .o a::s=> .o (some u::a)::s|s=>s,
  fun s=> .v u::s,
  fun| .n a::s=> .v (.pointer (some ⟨a,0,none⟩))::s|s=>s,
  fun| .l a:: .n b:: .n c::s=> .b ⟨.cells a,b,true,false,c⟩::s|s=>s,
  fun| .a a:: .n b:: .n c:: .n d:: .n e::s=> .b ⟨a,b,Nat.beq c 1,Nat.beq d 1,e⟩::s|s=>s,
  fun| .t a:: .f b::s=> .f (a::b)::s|s=>s,
  fun| .n a:: .n b::s=> .v (.iface a (cQ b))::s|s=>s,
  fun| .k a:: .l b:: .o c:: .t d:: .t e::s=> .t (.aV a b c d e)::s|s=>s],
 [fun| .n a:: .l b:: .t c::s=> .t (.note ⟨.own a,b,J⟩ c)::s|s=>s,
  fun| .q a:: .l b:: .l c::s=> .t (.ret a b c)::s|s=>s,
  fun| .n a:: .n b:: .n c:: .n d::s=> .v (.slice (some ⟨a,b,none⟩) c d)::s|s=>s,
  fun| .l a::s=> .v (.tuple ⟨a⟩)::s|s=>s,
  fun| .v a::s=> .a (.own a)::s|s=>s,
  fun| .n a:: .m b:: .n c:: .g d::s=> .g ((a,b,c)::d)::s|s=>s,
  fun s=> .e []::s,
  fun| .e a:: .h b::s=> .m ⟨a,b⟩::s|s=>s],
 [fun| .n a:: .n b::s=> .n (a*300+b)::s|s=>s,
  fun| .l a::s=> .v (.agg ⟨a⟩)::s|s=>s,
  fun| .n a:: .n b:: .n c:: .r d:: .s e:: .n f:: .g g:: .f h::s=> .x ⟨a,b,c,d,e,f,g,h⟩::s|s=>s,
  fun s=> .f []::s,
  fun s=> .g []::s,
  fun s=> .r []::s,
  fun| .l a:: .h b:: .n c:: .v d:: .h e::s=> .s ⟨a,b,c,d,e⟩::s|s=>s,
  fun| .n a:: .r b::s=> .r (.tmp a::b)::s|s=>s],
 [fun| .n a::s=> .v (.map (some a))::s|s=>s,
  fun| .n a:: .n b:: .l c:: .d d::s=> .t (HK a b c d)::s|s=>s,
  fun| .n a:: .l b:: .l c::s=> .v (.func (.func a) ⟨b⟩ ⟨c⟩)::s|s=>s,
  fun| .i a:: .v b::s=> .a (.jV a b)::s|s=>s,
  fun| .i a:: .v b::s=> .a (.r9 a b)::s|s=>s,
  fun| .n a:: .n b:: .r c::s=> .r (.cell a b::c)::s|s=>s,
  fun| .i a:: .v b::s=> .a (.gM a b none)::s|s=>s,
  fun| .v a:: .o b::s=> .o (some a::b)::s|s=>s],
 [fun| .n a:: .v b:: .v c:: .l d::s=> .a (.qa a b c d)::s|s=>s,
  fun| .k a:: .l b:: .v c:: .t d:: .t e::s=> .t (.sw a b c d e)::s|s=>s,
  fun| .n a:: .q b:: .l c:: .l d::s=> .t (.jump a 0 b c d)::s|s=>s,
  fun| .v a::s=> .a (.maps a)::s|s=>s,
  fun| .n a:: .n b:: .n c:: .n d:: .n e:: .q f:: .l g:: .l h:: .q i:: .l j:: .l k::s=> .t (.pick a b c d e f g h i j k)::s|s=>s,
  fun| .t a::s=> .t (lN a)::s|s=>s,
  fun s=> .t .stop::s,
  fun s=> .t .stop::s]]
def zw(f:α->Z)(l:List α):List ZZ:=l.map fun a s=>f a::s
def zq:List (List ZZ):=zo++zh 8 20 (zw .v [.pointer none,.int .u64 (iN 8),.int .u64 (iN 16),.int .u64 (iN 24),.int .i64 (iM 1),.int .u64 (iN 256),.int .u64 (iN 1),.int .i64 (iN 9223372036854775807),.int .u64 (iN 3),.int .u64 (iN 64),.int .u64 (iN 65536),.int .i64 (iM 9223372036854775808),.int .i64 (iN 4294967290),.int .u32 (iN 1013904242),.int .u32 (iN 1359893119),.int .u32 (iN 1541459225),.int .u32 (iN 1779033703),.int .u32 (iN 2600822924),.int .u32 (iN 2773480762),.int .u32 (iN 3144134277),.int .u32 (iN 528734635),.int .u64 (iN 0),.int .u64 (iN 13),.int .u64 (iN 17),.int .u64 (iN 32),.int .u64 (iN 4294967296),.int .u64 (iN 7)]++zw .i [[.u8,.i64,.i64],[.u8,.i64,.i64,.u8,.i64,.i64]]++zw .k [.bin .add (nN 0),.uT,.bin .eql (nN 0),.ld,.bin .lss (nN 0),.uU (nN 1),.jf,.mv .u8,.cP (nN 4) (nN 1),.Hs,.bin .sub (nN 0),.bin .shr (nN 0),.bin .geq (nN 0),.bin .add (nN 3),.tI (nN 0),.qK (nN 0) (nN 3) true,.uU (nN 3),.bin .gtr (nN 0),.bin .eql (nN 3),.xW (nN 3),.bin .eql (nN 2),.vk (nN 1) (nN 0) (nN 1) false,.ky (nN 0),.cP (nN 1) (nN 1),.bin .neq (nN 0),.app (nN 1) (nN 16),.Ik (nN 0),.tI (nN 3),.uU (nN 4),.cP (nN 3) (nN 1),.xW (nN 4),.bin .quo (nN 0),.cP (nN 4) (nN 2),.tI (nN 1),.qK (nN 0) (nN 1) false,.B1 false,.app (nN 3) (nN 24),.tI (nN 2),.cP (nN 1) (nN 0),.app (nN 4) (nN 56),.mv .i64,.tI (nN 37),.app (nN 4) (nN 32),.bin .leq (nN 0),.bin .rem (nN 0),.xW (nN 2),.bin .neq (nN 3),.app (nN 1) (nN 24),.app (nN 7) (nN 72),.uU (nN 6),.app (nN 1) (nN 1),.cP (nN 7) (nN 1),.vk (nN 6) (nN 0) (nN 6) true,.vI [.u8,.i64,.i64] false,.H4,.tI (nN 4),.tI (nN 5),.uU (nN 2),.xW (nN 1),.bin .mul (nN 0),.cP (nN 6) (nN 1),.qk (nN 1),.app (nN 3) (nN 64),.vI [.i64,.i64,.i64] false,.EN,.xW (nN 6),.DF [.u8,.i64,.i64],.uB [.u8,.i64,.i64],.mx,.app (nN 3) (nN 32),.app (nN 6) (nN 48),.cP (nN 3) (nN 0),.qk (nN 2),.cP (nN 1) (nN 5),.app (nN 6) (nN 112),.cP (nN 1) (nN 3),.cP (nN 2) (nN 1),.app (nN 2) (nN 24),.bin .shl (nN 0),.mv .u64,.HT,.app (nN 1) (nN 8),.cP (nN 1) (nN 8),.vY,.qk (nN 3),.app (nN 3) (nN 40),.bin .xor (nN 0),.cP (nN 1) (nN 2),.cP (nN 1) (nN 7),.cP (nN 3) (nN 2),.cP (nN 6) (nN 3),.vk (nN 4) (nN 0) (nN 4) true,.qK (nN 0) (nN 7) true,.n5 (nN 1) (nN 1),.ky (nN 1),.vI [.u8,.i64,.i64,.i64] false,.uU (nN 7),.xW (nN 7),.DH,.AU [.u8,.i64,.i64],.DG [.u8,.i64,.i64],.DE [.u8,.i64,.i64],.DC [.u8,.i64,.i64],.mn,.n5 (nN 3) (nN 64),.ky (nN 2),.Ea,.app (nN 3) (nN 72),.bin .and (nN 0),.F4 (nN 64),.F2,.vI [.u8,.i64,.i64] true,.cP (nN 1) (nN 4),.cP (nN 1) (nN 6),.cP (nN 2) (nN 0),.cP (nN 3) (nN 3),.cP (nN 6) (nN 2),.Ef,.uB [.u8,.i64,.i64,.u8,.i64,.i64],.n5 (nN 1) (nN 16),.n5 (nN 1) (nN 24),.n5 (nN 1) (nN 8),.n5 (nN 4) (nN 56),.n5 (nN 6) (nN 112),.qk (nN 4),.qk (nN 7),.HU,.strOf])
def zx:Nat->Nat->List Z->List Z
 |0,_,s=>s
 |f+1,x,s=>bif Nat.ble 666 x then(match zn (0,0) (zn [] (zn [] zR ((x - 666)/324)) ((x - 666)/18%18)) ((x - 666)%18) with|(a,b)=>zx f a (zx f b s)) else bif Nat.ble 520 x then(match s with| .l a::s=> .l (cQ (x - 520)::a)::s|s=>s) else bif Nat.ble 221 x then .n (x - 221)::s else zn id (zn [] zq (x/8)) (x%8) s
def zr:List Nat->List Z
 |[]=>[]
 |x::t=>zx 99 x (zr t)
def zF:List Z->FX
 | .x x::_=>x
 |_=>⟨0,0,0,[],⟨[],[],0,u,[]⟩,0,[],[]⟩
def zD:List Z->DT
 | .t x::_=>x
 |_=> .stop
def mkF(x:FX):FD:=bC1 body x.f x.n x.k x.rs x.sg x.m x.hs x.ds
def F1(s:String)(_:String.ofList l=s:=by exact rfl){y:a0g}(_:zs (l.map zi)=y:=by conv=>{lhs;reduce}){x:FX}(_:zF (zr y)=x:=by conv=>{lhs;reduce;delta iN iM bN cQ lN nN}):FD:=mkF x
def D1(s:String)(_:String.ofList l=s:=by exact rfl){y:a0g}(_:zs (l.map zi)=y:=by conv=>{lhs;reduce}){x:DT}(_:zD (zr y)=x:=by conv=>{lhs;reduce;delta iN iM bN cQ lN nN}):DT:=x
def dD(f:FD)(k:Nat):DT:=f.rF.getD k .stop
def nU:FD:=F1 "0BUAAn>+HKW;Y8KMxiHRkxO1P~_r?.;FiTnDt6Ns5xw=w9"
def fd1:FD:=F1 "0C?@~@yN_NLgDe?TqV=P6JCBMGtdRH:GZ3K%GKG6DzNsD%KnZP"
def fd2:FD:=F1 "0C=BD@&_cC~NLk&reJLJkQXnZH_FnH:GZI_GUH8<H=HMKnFdJXFiFyDzFkNyFlX=6H=JD<IEHMKnFdJXFiFyDzFkNyFlH8wG.@J~Hnd?.@~LoY~Li5X9H8wG.@J~Hnd?.@~LoY~Li5X9>9>^"
def Vb:FD:=F1 "0C>A5n>+HsK^6>?@%jGTqUyU5C~pXbklgpTFkxiIkDj3ViNTdHmMikPn7D,GMRN@~JxF,YpFl>QFxm+NTePNTIu"
def fd4:FD:=F1 "0C<B=@&_cC~NLk&reJLJkQXnZH_FnH:GZG?JhwEHMKnH=Hk??H=DzNsLUFkr&Fig@o_OyKnJD6FiJDwGg@o_d*H=JDXzz7o.DtpJ~ej*~ej*H=JDXzz7o.DtpJ~ej*~ei<n^"
def fd5:FD:=F1 "0BVCo@*>i@%B9NLGKgDrexwJkUqTqgxHfH=T;IxIXI,o_FyIyOUIzo_FyD+GDOUFlHfGtJDTjViGZ2YwHrOUH.?cIXQDH3H=nAI7MJGDQ<1H=nAE8GDQ<KcJ~JDTjViGZIxSqyMIyOU1yMD+GDOUFlHf.6_P.6_PJ~JDTjViGZIxSqyMIyOU1yMD+GDOUFlHf.6_P.6^ISCMiZP"
def Va:FD:=F1 "0A%AKsp+HsK^6I?YQTqUyT,V>bklgpTFkGZ&~6JDXyJDwEHMYQKkJh9L9H3m+L@ePL@rPH2BV@zL0D&93gh>7yblkE0lV7E9ING1@~JxE:PPG3>QFxm+YQpPPDH3m+YQpPPDIu"
def FY:FD:=F1 "0AYA9s7&NT?pi>?@%OKr>JO@+JJbkM.J=FkOBeoltAS4H9DlFa@tSfRM;K*Dj:JUGbJ=GKi&Gkpi1DjIu"
def fd8:FD:=F1 "0AX@,tXyaqu3Y3Iu"
def U':FD:=F1 "0AZAUpfntY?u+U3@yHGI?p&r6PG@xP+bklgk@2JLIk7GtL1I<7Xx?&q0J3iXTn<g1DrRM_r@BkkT*G1iJPOp&yeHmU%FiFa@B3:T*G1iJGKp&Ga8I<7:ZL87J36y1TnDrg19RMwU@B3=T*G1iJI;p&T*XW6p&i&S%YKIu"
def TD:FD:=F1 "0A^Adsp+HSSXjU3+_QXTqI+HpC1Z0KWw?lgk@GKxiTxZLNaUDDt1FZG7?D^bG6DwHRDx4lifQitD%F^AKGr?.q=D&JqD+4G6D,rcDzdRJ^_2DzD*I_2GURFF,E0^o3E9JUG1pjE:HOE;PPTu>E>QFxS%QXYKQXIu"
def tJ:FD:=F1 "0A>Cw@*X>ACZttJLPIfN%,<I4@yHgv<AJIA_TzWNlGOA<GPe7%mGDO@dhe8U2%d,<I4@yHgv<@*iC^5@+g5GOA<GPe7L>@%Oz@&FkgmTi@%e8^~ff&rXAXrjz@v>?BAI4BBIABCQ3e7tMFkgmTiJ+vne8j5ffP+^=XAodBMHgBNIABOQ3e7++oWPGvne8j5ff^.mRSaiD~WBbMqBcP8Bd.oPG~apZ~WB&MqB*P8B+.oPG~a^=XAodBMHgBNIABOQ3e7++oWI+@v@u@vvne8j5ff^.mRSaiD~WBbMqBcP8Bd.oI+@v@u@v~apZ~WB&MqB*P8B+.oI+@v@u@v~aKWVGef4JS@q_pDlHnZ6Tn3g1;z7:Y46Fa?GKFGDpM@vG:GbS&FiI:y9FkIzDry9FkVg?o3g1;z7:Y4w?GLS&Fzy9FkG3HhK~HRkqy1GMJ~DlH^89TnDtKKHn=IiJI@=DrGJqn65t1GLf+4DxNlDwJI@=DrFqqn65t1GLf+4DxNlDwH@GLInGbM.J=2n:Fk&~DlI<Dj6t0klDj<HRDlDjO1sUToJDDtIlNAw2Gt=K0=KhTnw2GtDwK0DwLZDlDjliTnDzToP~D%TN5YSFa@F:D*PtIYK2NNJ=D,MyD+T<J?DjIYK2Tz=GGm7&zGbM.InJwulFkXyF.m7&zGbM.InJwulFkwEF.TxN@J8LB;PzAZ@+U=Tr?V9UmkoY^JeGLP0InJwJx=Dj5Fzrm3qyK2JwS&73kxFzFksV:g6HuGt4K04KhTn6g1=y;5JEBMDwY4Dxl_GoX_InO6S&J8HOOv2N.GyKOFkZM>QI5B;V1Yo++1_HN.a~.0DyFiXx@6,UZQ.~TNo_H=xnF&+xDzJEBID%Y4D&qzobyBOw2nvDyT2Z7.0qAxn,Uq~.~TnDrg1Dxy;Dy+xD%Ga:GaDtitD+mqXz,aHnD~Hm~JG&A7XN@=IiFkKH.sE0fOE1&fE:%0^i%1E=+TE>~1rTE?fOE@UmE;EI&TEJe@EKhhcwf,EMSMEL,%E;e@E=hhX<f,E?SME>Fl~JD.O3.sD.fOE0&fE9%0x=%1E<+TE=~1PPE>fOE?UmE:EH&TEIe@EJhhcvf,ELSMEK,%E:e@E<hhpRf,E>SME=G3HhKrk3:g6HuGt4K04KhTn6g1=y;5JEBMDwY4Dxq&GoX_InO6S&J8HOOv2N.GyKOFkZM>QI5B;V1Yo++1_HN.a~.0DyFiXx@6,UfK.~TNo_H=xnF&+xDzJEBID%Y4D&Fu@+obyBOw2nvDyT2Z7.0qAxn,UG=@+.~TnDrg1Dxy;Dy+xD%Ga:GaDtitD+mqXz,aHnD~Hm~JG&A7XN@=IiFkKH.sE0fOE1&fE:%0^i%1E=+TE>~1rTE?fOE@UmE;EI&TEJe@EKhhcwf,EMSMEL,%E;e@E=hhX<f,E?SME>Fl~JD.O3.sD.fOE0&fE9%0x=%1E<+TE=~1PPE>fOE?UmE:EH&TEIe@EJhhcvf,ELSMEK,%E:e@E<hhpRf,E>SME=ZP"
def TC:FD:=F1 "0B;AA@zX>CB&nSwXA^UA2I4A3HgA4LCIlmNGOCBGPG5jPGOCB^.U5CBSaT7?F3dXZ.M.Mnd:DlHOFk%_w:B;@~YafSmMabPnepXLdLDzG5DyKbcyG5jP1MyIu"
def MI:FD:=F1 "0AdAU@%^9y+*jn=O_C:j?c&@%LK*jKXAAMqABP8ACK.>VI+O_C:GPT0R=@,KOGOC:IL@,U5CB^QUTjSFmSUUnNaakDlb:G7?F8GHAdA0<NDAdA0DrY46H@^rM.yB6q=9F.FkFvJMjoa~N@XDLB=PzB;@~K6fSmMqBPnDrD+YsG:Jw^wD.T0D,KOKbybsYlV3=JUIn>65HODwIu"
def zQ:FD:=F1 "0A@BZ@*X>Ay&nSwN%,<PfA9I4A:HgA;*MTZnz4%lGDPE^.n&Sa%d,<PfAKI4ALHgAMrqTZnz4%lm,FkPE^.n&^~rI&rXA^U~9LCnz4+ZL>@%PEYhn&j5rI^.rHSa^=XA^U@+Pf@,Yz~9IAAmKXAnMqAoYmnz;m,Oz@*R>@+ZwiY9h7Dral@~FkZR^~n&dhrIj6rHIL@~HpB~^QiDmF^Ueb~9IAB0KXB1MqB2Ymnz;OA@&L>@*Oz@+ZwDrR>@.al@~ZR^~n&dhrIj6rHIL@.HpB~IL@~JOBI^QpZmF^UebA2Yz~9IAB0KXB1MqB2P8B6UUB7V5B8sMnz<p5R>@~Zw=alA1r<A2ZRGPr=A3GOBIIL@,n&IL@.rIIL@~rHILA1HpB~frJOBIILA3HpBLuwKW7INGLS&7Z6pzFkNqs+:s,Hi@=6GJqnw5XLy:J=wV9UD:pQHi@=6Fqqnw5XLy:J=wV9ZiDlHVS&Dl^a4Sf;FkXa6I8RFP%Fa@F:DtPtIYGoNNJ=5My=Zi8&zUCS&8es4F.FkXaw;<qyG:O6dPM.GV<U>Myd<Fkf%Mn+ZL>@%1Myj_=Q>?FDwTN5DyDxlUDtDzGM8lnP_i>UwD&F.YaD%Zi9l_G:UC%hM.GV9^eaeDtFkstG6=fQqzGLP0UC%hM.^wI;2oCFkTNVKe@=&9G:UCufJ=DwPq5k7DyI8Hi?XFkD%GHAdA0D&GSRFDzG8^oDxD,lsq~jN^NdUD~^cI;D.KbU%DxUmDwq@8ZQGLIn%h^MUwD%^cq<Iu"
def TB:FD:=F1 "0ChA@peSz@xmLIA@+ZurkdWr9&g?zDlfJ&g?%iXGHChA2;NDChA2<J;Dr9NCDtJUJx=Dj5Vj7Iu"
def TA:FD:=F1 "0CiAApeSz@xUzj3ZurkyeOS2dWJx2DjSU&g?zDlfJ&g?%iXGHCiA3;NDCiA3<Gr@5PA9JUJxDtDj=G3J?v.r8Iu"
def Tz:FD:=F1 "0CkA9eantY?ykLCMyGOCBSamyFx2Z6JLNqN@;DjLBw:CkA4YaGr@5kkXLFx=^_MyjEpwGTw9"
def ar9:FD:=F1 "0D2A1e_OHB9czSQcui~Dlucyakmiv2FyFqJDSKA:iv2FyFqI6F^A;3Gj@L3Mv2ydyd.I,5Ps%O,5r0&x>6xgzvzvIplo%NJjxgIpdM*%JjFixuG>APunxur0z,nLAMnLARnLAH&;AN&;APZ&AdoOADoOAcZ&AcoOAeZ&AeeSQ5H=K5NGg,Q5FiK5n5Jj^KFZHJ7dQUt@L3Mv2ydyd.I,5Ps%O,5r0&x>6xgzvzvIplo%NJjxgIpdM*%JjFixuG>APunxur0z,nLAMnLARnLAH&;AN&;APZ&AdoOADoOAcZ&AcoOAeZ&AeeSQ5H=K5NGg,Q5FiK5n5Jjk=FZHJ7FqHsGJsT"
def ar8:FD:=F1 "0ClA1e_OHAfczSQcuHexw1;ucyakmGTUYFqJDSK@,GTUYFqI6Gd3GjX:M~ZKzeNUXlM~TFzeJ@XlM~zyzeL<XlM~TVzeGx&*ZK,~NU&*TF,~J@&*zy,~L<&*TV,~Gxh6pYy%NUh6u%y%J@h6>Hzyy%L<h6u&y%Gxh6uzyUNUh6uxyUJ@h6>GzyyUL<h6uyyUGxGJsT"
def Ty:FD:=F1 "0D1A?YrCnh8CnMtth_IP6CnAAKqO7Djy0L1INJxd:J,nV~MA7~<"
def Tx:FD:=F1 "0D1A?YrCoh8CoMtth_IP6CoABKqO7Djy0L1INJxd:J,nV~MA8~<"
def Tw:FD:=F1 "0CmA;YrCnh8CnMtiH@._IT7ID?ZiVDjdXU+n;~MA7~<"
def Tv:FD:=F1 "0CmA;YrCoh8CoMtiH@._IT7ID?ZiVDjdXU+n;~MA8~<"
def Tu:FD:=F1 "0C7AIXsVECjh8CjMtXt_IUTJ=n;gpGHCjAE4m<?z,KlrA;:m<?%k*lrA;9jj=J,mhmhig"
def Tt:FD:=F1 "0C7AIXsVEC8h8C8MtXt_IUTJ=n;gpGHC8AC4m<?z,KlrA<:m<?%k*lrA<9jj=J,mhmhig"
def Ts:FD:=F1 "0C7AIXsVEC;h8C;MtXt_IUTJ=n;gpGHC;AD4m<?z,KlrA=:m<?%k*lrA=9jj=J,mhmhig"
def Iq:FD:=F1 "0C3AJXsi~NMC4H<rsOuC4dxSH_INzOuC4pAJ.>VnJOuC4pAP8A=UUA>V5A?sLU2myupOBb24X;q5GVF.deYW+%;_Q:XI^wSMdeJ?JKJ=;k7q9C4AFVKyQ6JedU5zQkwUwwF"
def Ip:FD:=F1 "0C3AJXsi~NMC6H<rsOuC6dxSH_INzOuC6pAJ.>VnJOuC6pAP8A=UUA>V5A?sLU2myupOBb24X;q5GVF.deYW+%;_Q:XI^wSMdeJ?JKJ=;k7q9C6AGVKyQ6JedU5zQkwUwwF"
def Io:FD:=F1 "0C3AJXsi~NMC:H<rsOuC:dxSH_INzOuC:pAJ.>VnJOuC:pAP8A=UUA>V5A?sLU2myupOBb24X;q5GVF.deYW+%;_Q:XI^wSMdeJ?JKJ=;k7q9C:AHVKyQ6JedU5zQkwUwwF"
def ar7:FD:=F1 "0CnA:pe.^vv4zUURk*O?9r@HTIhLVURk*O?9r@LXVbKRlXLVKRPo"
def ar6:FD:=F1 "0CoAU@%^9.^vv4zUO7<P*NKDtDlNw?MLL5HnDwIiMs?hDxliJ5DzOSGJNw?hDxliHnDz%yK1LVIZlXVbO7<P*NKDtDlNw?dLL5UpDwX,?MDxliHnDzIiMs?hD%G6D&j<OSGJNw?hD%G6D&HnD*%ylXLVIZPo"
def ar5:FD:=F1 "0C8AH@%^9.^ClA64H5pY>Hj%&tj%&Sj%&Rj%g7j%zzj%&Vj%&Uh+ZXZK>HjX&tjX&SjX&RjXg7jXzzjX&VjX&UW^V4pY>Hjw&tjw&Sjw&Rjwg7jwzzjw&Vjw&Ug%uz>HjM&tjM&SjM&RjMg7jMzzjM&VjM&UOoLGZP"
def ar4:FD:=F1 "0C;As@&^9.^ClA64H5pY>HW%*.&uH5u%^R?%SNGaDyJDYT*.TFeVH5>H*w?zSNGaDyJDYT*.z%H5u&^R?zSNGaDyJDYT%bD%G6L_JDNv*.TVeVH5uz^R?h^FFy*,&uH5ux^R?hbn?%p?*,TFeVH5>G*w?hbnv7*,z%H5uy^R?hbnv7%bD+G6,aJDD~2*,TV*lpY^R?d^FFyg~>H&uI2u%s~?%p?g~u%*l>H*wiEv7g~>Hz%I2u&s~v7%bD+G6,aJDD~2g~u&*luzs~,;Fyg~>G&uI2uxs~,;X,?%D*G6D+ixJDdCg~ux*l>G*wiE,;X,?zD*G6D+ixJDdCg~>Gz%I2uys~,;X,?zD*G6D+ixJDdC%bD~G6E0m9JDlIg~uyeVPo"
def Tq:FD:=F1 "0CjA5peIfvBeK_IT7ID?ZiVDjdXupn;rv4PzCkA4IdGSX=6ywXLJ=<Kbbj"
def ar2:FD:=F1 "0C4A9eao;KW7JDp.SoChA2krX=DlF^AKSoCiA3krX=8IFSoC7A;Djr@db"
def Tp:FD:=F1 "0C6A?eao;Ifsv@,I4c.@~_8S~r5SFIfsu@,I4c.@~_8S~r5SFP6N0KqNdw07Z6J0yj7fY7Z6J0nVfafJO?;aoOT6HsI2s%6HsUAC7A<Dlr@nVfafJPtdi:HsHXIu"
def ar1:FD:=F1 "0C:@%@xN_o;P6C7A=Djr@Po"
def ar0:FD:=F1 "0C9A<eao;y_7IiNKDj>2>,^vyeKKrGOSGJrGFi^vyeKVrG%yHXIu"
def EZ:FD:=F1 "0BSAxkLntsvA3I4A4HgA5*M&1IfsuA3I4A4HgA5*M&1NzsvAAI4ABHgACrq&1NzsuAAI4ABHgACrqPEnJsv~8*vnJsu~8*vP+^=sv~8IAAeKXAfMqAg*0U2^=su~8IAAeKXAfMqAg*0U2P6N0KqNdw07d:pzyj7fY7d:pznVs+;^KJ>z~aos4I2s%e%Fl>O?p;k=J>z~aos4I2s%e%rmDlFuQkXD24SfNqs+;^Ks%<G5UD;k=s%<G5ZiDlFuLRXD24Sfh4M%z~yRN06H5YfJeOTwVI2Yf&8wVJ7Yf&89G5rm8l_FxsXHs3h4d.Dj&8e%Zi8qzFxsXHs3h4M%z~H5Nd6q%n4U>G5yj6q&n4U>G5KbG2C3A?G5LGT2b2;X;6q&n4XyG5b1Fqj_q9N0wLOVYXru5PqI2OVfKru5PqjEDjZQOT<Pqj_<d.8fKru=PqdnDjq~OT<PqIu"
def Im:FD:=F1 "0BTAQpfntN%@,I4c.@~rq&1%dA=I4A>HgA?*vnJN%A=I4A>HgA?IAADKXAEMqAF*0U2mx_0DjZ6Fm4h4I8H8<FiTv<xcHXXLs4Zi8fYsXHs3h4X;6XIn4XyG5rfC3A@G5LGT2Tkheq9C9AIVKH5Q^ru5PqzQDjdi<PqIu"
def aq9:FD:=F1 "0AzA2eaU.RBj@BRBCJLyRBSAJJLyRBTAKJLr?2I2HJI@J7HJFdJ7HJGtPo"
def aq8:FD:=F1 "0B^@+tXP6HdFmdTDj%yPo"
def To:FD:=F1 "0AgA6s7&N@&VzZu&cHRJ8inKi7XwSx;GTjd"
def Tn:FD:=F1 "0D3A6YrCqePRBPh_CCqeP1o0&cZLJ8UDDl^KG7?B7zh:nP6UDDlk=G7?B7zh:nP6t8"
def Tm:FD:=F1 "0CrA6YrCDePRBPh_CCDeP1o0&cJ4J8JiDlQ>?M7afzh<id7O1Ki;9nPDtSxDrt8"
def aq7:FD:=F1 "0CB@*tXH_j93JQPa7KHD3AOJ0dTNQ^vPo"
def Tl:FD:=F1 "0CFA8v=B~*3THSstLPhIfna+_FyIl2GOB~JJno7J0p8fiq2GTNlGJJUn4b1FyIlMvIu"
def MH:FD:=F1 "0CGAB@%_cBL*3THSstLPhIfnatRQ3ijr5j?natRKXA4MqA5P8A6dtijr5Sano7J0&KY_Dl_Q8tQU<deG0ijFq.l:fi63GTGyGJo79dnXVw9"
def Tk:FD:=F1 "0CCA8v=BF*3THSstLPhIfna+_ijZRJJno7J0p8fiq2GTNlGJJUn4b1ijFqIu"
def aq6:FD:=F1 "0CAvMkDNLGJGK.fgxFnelGZ2<H5_3GJGqI2_3FqGqPo"
def bJ6:FD:=F1 "0CAvMkDNLFqGK.fgxFnelr:H5_3GJGqI2_3FqGqPo"
def aq5:FD:=F1 "0BWADkKiGGK.fgxGF^aNKesHn6z_ihDl<6jKihDl<6Hn:z_GZjKGZHn:z_GZjKGZIu"
def aq4:FD:=F1 "0C@A2n>6.fU2y_:z_JL6NljKJL6NlIu"
def Tj:FD:=F1 "0BXAHiG*@&svBeKjGdy@.KWw0U9xiNqs+9^KG7?Ls>mt+L5H5a_@9l:VGiUD.Dtm;.+ra.+Us_3nNFl>O?p9k=G7?Ls>mt+L5H5a_@9l:VGiUD.Dtm;.+ra.+Us_3nNKbH?NTIu"
def MG:FD:=F1 "0BYAn@&NL*@&sA0I4thjGdy@.r*@wI4^Uh5I4AEeWrtAF>4@w>?AGQ3QXr.OgGOB+GPFvGO@+uvmx_0DjesGZXa9&=G>BAT=W?B@mtL:DwPvL:Dx=+LOcI*>A@wK+DjFm2NyOgI2_3NyKbH?NTIk4H=I6H=4K04FvGHCCAT:DwSv_@QXFdDwUE.AU*.Ada_AQXFdDwUE.AU*.AJM>5@Ekx3L5DwTyPaOgKHCrAPF&dTl:F+PlQXmZH5&5I2&5KlPkQXmZH5&5I2&5ZP"
def Ti:FD:=F1 "0CHA%@&XZGyOGF*15*@uvSS@xI4^V@%PfthIAA3Q3QXr.OgZRGPDwU:r5uwKWDtPZ5Dtd?GZYa=TxfbliGHvt=DzSv_A.VE6JVfD&kE6JVfDdarb8Dzm;.VE7D~OIfD&kE7D~OIfDJ7G7pb4GHvlD.Dzm;.V*=&k*=ra.V*=&k*=Tu>5?L*_NGdp>3BBrUmtb8AQ>6L:DzDwL:D%H+?LD&PvpKI_Fd1CsAl8=7Og^hQXDxFt_3qTPo"
def Il:FD:=F1 "0BZCG@*NL6*@U2SSZ3AfI4AgHgAhjGr.9kkZR^QNzgyBBI4BCHgBDjGr.KO3ZR^QRtgy@.I4@~PfBBHgBCIAiRBJKXBKMqBLYmUqr.QPZRGP4GOBIeUT7v36Ji<&=G>+oJjDrlbGZQ@a_@EYT6GHCCATD,DrSv_AYpIEwLp=x=gLeyI2p=x=gLeydarbDxDrm;YpIEwL~0I2~0raYpIEwL~0I2~0HWQg_3YpKbHhb2=&=y5T=s&Q6zKb8AQ>6L:Dz5+L^ga_@EVDVGvtE35Sv_Af^IE5UEjAEAE9PwKOU*jAEAE9PwKOdarbwwm;f^IE5UE.yU*.yraf^IE5UE.yU*.yHWQg_3f^rmwWIbFvqr93+u=_Q5XIK+DjFmI;qrKOJPH?NTj_Dx&=loNGg,Q6O=Jj5L:D&G>AQ>6L:D*DyL:D+PvGM3Q:D.KQD,D~lbUqE0H5a_@ENQ8L5OjHKDyK=?VE:KHkbE;l=_ArTIEOc~SQg~S>9tgrTIEOc~SQg~S>9>9Qg_3rTJMJ?3IYIbHODxF.PHIu"
def Th:FD:=F1 "0A&AI@%X>CVtFaqtLSwXAZ3A8I4A9HGI?FyHjGOCVGPYQO2V>P6vgJLGSpWelJLYBT~HjDlKqI*pWBXAYUqFt>7pWBYAZOUFtNdUiZ.>6ZGbeUsI*pWBXAYUqFt>7pWBYAZOUFtNdUiZ.>6ZGbeTuHh73Y*BZA_YQ7FtHo7GvXWDzKnFlG0T0wF"
def aq3:FD:=F1 "0DPA4v=B~Z2%ccutLj@vlI9r?FyIlMvI2J>vtNaSvHJNlGJmkHJNlFqZP"
def aq2:FD:=F1 "0DVAF@%mw%ccuTHj@vlI9r?YiI2J>vtNaSv>7dNKVZSG?GTkxmkrbJ8r?KK2I2HJIlFddb"
def aq1:FD:=F1 "0DXA7O^ddLbj@DPAbJLSv>7U08KVGTG?GT2mkHJFdPo"
def aq0:FD:=F1 "0DWiMkD>c@+>c@,NxSjG5cuSjP+rE8%xFzR;HjIu"
def ap9:FD:=F1 "0DQB7@&mw>c@%ZtOGMyaqSjSaP6DUAgFr;NBU0<%xGKXUIiGTIiHjUM@yGTIiHjXUKKGTZlXUKVGTZlXUHQGHDVAcPpJGJ>QqDrDl9ReOgYt@*S^IiSZYtA3Zq:eIA4Zq:eI@,ZqKKeIA9ZqKKeIA:ZqKKeI@&+aA5+aA6+aA7+aA8o9cVo9_OS^IiSZ_LS^IiSZVjIiHjPo"
def Tg:FD:=F1 "0DUAO@%mw>c@%%ccuSjSwXAXr@&^S+CUvApSaIfXAXr@&^P+CUvApSamyFxIlHsdEsVw:DQAfN.YaNBU05%xPOHnNQmQDtmrDtHOl7luFxDtHOl7HnkkJUMxl7luMxl7KbG03HjsVw:DQAfN.YaNBU05%xPOHnNQluFxDtHOl7luMxl7KbG0IlZOIu"
def ap8:FD:=F1 "0DFARspDxzMUBTy^8^4^cGAdyA4P6DPAbFrDxSv>7KNDz^xmkJ>vlDjq?pUelPHG?q?n2HSI2n2HSJ7rb3q?pUelPHG?q?+VI2+VJ7pUels<q?+VI2+Vn^"
def Tf:FD:=F1 "0DGANiGOvzM.iA5sKoJQ3TyQX^4L@dyA7KWDyZYQv2^xsVD&PzDQAfN.G8NJNBO,elL@E1E0H5I*GFD~3e>.tFl_?.tJ7I*GFD~3e>.tFl_?.tHW>EKNLDGqD%Iu"
def ap7:FD:=F1 "0DHANv>Qv1JozM.iA9P6kbQCSvpUPks<^g~TUs~THW>8FZSt_?s<^g~TUs~Tn^"
def ap6:FD:=F1 "0D4BS@&XZQvJoVutO.iA9H_lpIi.hIis.T:E<D+UkE=HAIOZeX*D+KKs.T:E<D+UkE=HAIOZeFlO,eljVMlYHI2MlYHnOKK.hKVe>ocimocyZKV.hKVe>ocimocyZqw.hIie>ocimocyZTos.^xKKUkwysqHQs.^xKKUkwysqHvGHCCAT9l=pUPks<Oc~OJ7~OG3>8FZSt_?s<Oc~OJ7~OyZxx^Lpu^xG5QCFiNnwysqFs@*s.^xYjwyFl>@shPHIu"
def Te:FD:=F1 "0CsARiGDxzM.iA4SS@%ykLCTyNT^4GqdyA6KWDxZYOv2^xt.D%t;PLDrKQ<E0Y*iTGqE1UEDrN*JYD4AkPDE;gLyEFtOMCsAlXTJAD.FtOMCsAlL4XeD~FtKBjAEpV3uMHWQgMlNTgLJMKNNTGqIu"
def MF:FD:=F1 "0A*AFpfo;y+*jOKnCj?c&*jrlMqA4P8A5K.>VnCSamxINjSI9&KY_Dl_Q8tQU<dejo.lw;kl29*trnDto7=I<Fi9KEFiZsFirn=o75I<H=9KEH=ZsH=rn5o7DwI<LWKEGtZsGtrnDwo7DxI<J~9KEJ~ZsJ~rnDxo7DyQcU%wAvxs*DxauDyz>wA35s*QBG5Dxz>wA3=s*5auDwz>wAkks*=au5dnXVw9"
def Td:FD:=F1 "0D8A6YrD9ePRBPh_CD9eP1o0&cJ4J8JiDlQ>?d7afzh<nPDrt8"
def ap5:FD:=F1 "0DRAJiGwTs@Z0P6Hd<9dTDtHmmMKVDt_5wKfQIKDwU~A0l.5I3;9dT=HmmMKK=_5^dGaDwIKDxU~A0l.DwI369Tr?GTo5_5DrDwGaDxIKDyU~A0l.Dxdb"
def ap4:FD:=F1 "0DIAbv>ikVuGZ_Vs@uvH_JYD6Aqiw5l^mvz:mc=R2,0KKz:mcFiR2,0KVz:Iidj,0Toz:HQdj,0HQThy&DRAoN2NXDtl^NOpjOIQNZNHvI3D+iZ?G9E0_5_vGaE2IKE3hxE2xs@&I3D+iZ?G9E0_5_vGaE2IKE3hxE2xs@*I3D+iZ?G9E0_5_vGaE2IKE3hxE2FlmM9dju>Po"
def Tc:FD:=F1 "0D6iMNLwTs@Z0SS@%ykjGKOL2A0XfA0YDcxKWe*KO2iw%_5g6JYDIApNTHUG9Ft^%RN@~YlHEG<N?KbKNYYIu"
def ap3:FD:=F1 "0D7AJspwTZf^&L2@.Xf@.YDZ0KW9HnXzyG1KN=iwrdA>djwKfQIKDwFifQThZnvur:59FtHBE2I6E2DxFa@OE2DxE3i=iLq.G<E4Zh>^"
def ap0:FD:=F1 "0CtCM@*XZacVuGZ_Vs@uwH_ycA@djDrDyr;rPr+roD6Aqr:Dz5l^mvI3E1+9A;,ep9E8ZNKKI3E2+9A<,ep9E8ZNKVI3E2+9A=,ep9E8xs@yrdA?.n+vvuatE7Dwl^FhsOD7ArzrEDDxYwHuEPE9Fa@OEPE9EEi=A7>6NbJAKGEQZh>9KLHQrdA?.n+vvuatE7Dwl^ycA>D&_5GhGaEFIKEGFiGaEFI6EFE9Fa@OEFE9EIi=A9>6zrEJZhKLHvL5D.JF@.PaacKHD8AnD.E6Gr?DD~E7G6E8fQI3E9HtycAAE7E;E:R2E5E<GaE=IKE>p9E=G3Sy@&HRYUG6_%5rQFiI3E7HtycAB2E:E9R2E5E;GaE<IKE=p9E<xs@*rdAC.n+vD7AratE7DxYwHuEEE9Fa@ZEEE9E:i=A6>6E;axEDEFZhnTI3E1+9AD,e+vD7AratE8DxYwHuEFE:Fa@ZEFGfi=A6>6axGhEGZh>9Sy@,rdAE.np9E7i=_iHIGlPo"
def Tb:FD:=F1 "0CIiMNLwTs@Z0SS@%ykjGKOL2A0XfA0YDcxKWe*KO2iwt.5b:>7JYCtAsNTHUG9IIFt^%RNvKE6HIGlKbKNYYIu"
def ao9:FD:=F1 "0B_AG@%_cDPXZF*VuiwPVreFrJkYYPVcxH_Fh>2>.1vuGZ6DtFk=l^j9s1O3CJAzD.K1NdDtH3x0s1QKD,s11x0D.QKNJlXNdDtH3x0s1QKD,s11x0D.QKNJZP"
def u4:FD:=F1 "0A+Bt@*_cCiNL9OpGyPVreFrJkYYPVZ0sKZ3v<ANHgAOIAAPQ3q0Nl3GD%mLehFF*ZRdhJO@+cxr*U4Z3v<AeHgAfIAAgQ3jh.KhF57DwZRj6Zg@,Zg@.JO@+eURtoXyVkPyVpCLCYYhFopY1J&ogD&lzfrmoA3mpA8RtoXrtkPrtpCLCYYhFopY1q.ogNJlzfrmoA3mpA<RtoX^5kP^5pCLCYYhFopY1G9NXoglclzfrmoA3mpA@^=oXyVkPyVpCIABKKXBLMqBMYme4hFDyOzA5R>A6Y1G^ogD,lzILA5moA6mpA;^=oXrtkPrtpCIABKKXBLMqBMYme4hFDyOzA5R>A6Y1yEogF~lzILA5moA6mpA?^=oX^5kP^5pCIABKKXBLMqBMYme4hFDyOzA5R>A6Y1Q4ogKPlzILA5moA6mpACT7v39JiDtX;7INGLS&9U:2J0HsFkLew^JPHhKrZLNaUD5s,U%DwK*6DyJUy:GVD%IdDz^cUD5pQU%DwK*6DyJUy:GVD%IdDz^cZiwWGLM.M.GbJxDtq=q0NlGDYa=n_DxI8GFDzKVRMDyK*DrD&lu^zf+D+OWD*F*I;RMDyK*<D&luGLP0Inf+D+_2D*IXI;JP>5?D63PT1oh@voh@vJ:DwpM@xG:KzX_z.or.Kl;Y<Fq1or^cl;Y<FqJPoh@woh@wJ:DwpM@yG:KzX_z.or.K+JGx1or^c+JGxJPoh@xoh@xJ:DwpM@zG:KzX_z.or.K+JY<GxFq1or^c+JY<GxFqT<HhJdfaY_D*_QD+qzP_GVPBqrdZf%FxopYY1GAYY+uD~_QE0q%P_GVF~qrUxNJf%FxopYY1GAYY+uE3_QE4q&P_GVqQqrUxG<E2f%FxopYY1GAYYj_D.M%HdDyD~FbkE@unDVSoVq~nFEAHHHlE@J&KPGJJMRFG^lRD.UmDzD~RMD,lRE1UmD%E2&9zVpRYlUqK6E0E3G^D,j_E2M%HdDyE3FbkE@unDKPoVYXnFEEzrEDJ&GnJTGJE1HTkE@vnDKPoVYXnFEEzrEDq.GnE0GJJMHi@JyElRE2UmDzE3JI@HF~lRE5UmD%E6PtlnzVpRJ=E8UqK6E4E7Iej_E6M%HdDyE7FbkE@unDGnoVfKnFEIHAj7J&E;GgG<E2GJqQHTkE@vnDGnoVfKnFEIHAj7q.E;GgF~N?GJE5HTkE@wnDGnoVfKnFEIHAj7G9NXE;GgG;GJJMHi@hQ4lRE6UmDzE7JI@<KPlRE9UmD%E:PtZQzVpRJ=E<UqK6E8E;IeGlIu"
def Ta:FD:=F1 "0Cv@+e_OHAySQ1Z_T9JNH_X=SKAEGTFyHj2I6F^AF3Gj@L3FyHjqpB8g:sII5Au>6xm_o_JxmBE_9YqBB_J2Fis>_JxmBC&x>6HjVeB<Su_JJHlo%N_JJHdM*%_JxmBCIr>3B<T~JHr0z,T~JHG>BB_^LJ_MB9giBK_MBBW<B9YxFiJ*>3B9>3B9_MBH*PB7_MB:>3BF_MBCIr_MBAKS_MBAIr_MB<KS_MB<IrYxFiJ*g,_MBDO=_MBHSu>3_o_JFiqpBE_^KS_JH=qppqQ6dp_JFiqpB?*PkY_JJ<ipO=NGsfeT_JFiqpB8M,sI>6Hj2dMIrg,Yg>3Ai>3Au>6J<J*i?dpO=I5Ai>3Auun2*_n5IrI5Ai>6H=2PsSupSeTYg>3Aiun2*_se>6HjHmF_HJPWsT"
def ao8:FD:=F1 "0CwA3ea+*JJy_SKA>Y3GJHnSKA?Y3GJHnSKACr7GJHnSKADr7GJivIu"
def ao7:FD:=F1 "0CuA<@z*3HOJQzLGOBiPG@xZfm+GOBiILJ+@xLPH_HuFmNmFmI<NQmVSjKNGJDlJPHuFmNmFmayDjmVSjKNGJ8JPHu^pSjKNFq8T<>E>^"
def ME:FD:=F1 "0CJBY@*N_czSQcuTHJNSz@w>4U3c*A5HgA6LCduGOBiXMJO@xj?@uI4@wHgc*@%>fCu1JQpLA>I4A?IAA@Q3L2@yGOvnJO@xSFrkNCFiFa@nDj_pdXS.FxnU4NqI6KrK>KrY,XLa,TkZi3H@IbVDZ64TxN@J8LB8g6HuT&K~ieXyI6K~K>K~9GHCvAw;fSGFPmAAGMDw<Y9I<DzDyivj1AEY9NKD%OSMvY9IKD&q@D*os7qHp;lGpBE1E2D+nbf6E6E5nrf6E4E1p2.%l2.%+frPq@D&osPND*p;dBpBF~D*nbTlE5E4nrTlE3E0p2p@l2p@onGFPmABGMDw<Y9I<DzDyivj1AEY9NKD%OSMvY9IKD&q@D*os7qHp;lGpBE1E2D+nbf6E6E5nrf6E4E1p2.%l2.%+frPq@D&osPND*p;dBpBF~D*nbTlE5E4nrTlE3E0p2p@l2p@+fI<DyDwivj1AEY9NKDzOSMvY9rPDwGMD&osPND*p;dBpBF~D*nbTlE5E4nrTlE3E0p2p@l2p@+fIKDzDwGMD%os7D*D&p;D,D&pBYUD&nbwvE4E3nrwvE2D~p2D,D&^2D+Z5E0^3wvD~l2D,D&^2D+Z5E0^3wvD~on>9G+>EJ:pyFzNmFzUo;OS7GJY3FqJP>^"
def MD:FD:=F1 "0A_AlkL+*SwN%v?A@I4AAHgABg53ZwG53jP2GDJWXf@%JOA.SaNz@&IM@,LKAVI4AWHGI?DjNTKOd,R=A0GOCeILA0HpCicxP6vgJLy>kuJgq1A&AaJLfSU06OSJg6dX^rM.Mn<dEFkG3Hhb2:M%A*AmGyTr?V9Um;DtXLdL5G5=rm3pM@wS.GbS&^aG53jP2GDGDGD1^aG53kxGDGDGDIk73F+A+AvDjNTKO7gh>7RFGAFa@_=E2NCIYG:InJxE4q.G<E3Vg?Y=i&TyHm5Hm>^"
def S':FD:=F1 "0COpmCPszCP+.U5CBt_@od5IlmNtISUk3DlPzCPA~n:fSmTn0mr=HO5tc"
def S9:FD:=F1 "0BipmBjszBj+.O_C:t_@pd5IlL3tISUUnNaakDlt;BjB0NlGyGmxbmTacmrDyHODztc"
def S8:FD:=F1 "0B6pmB7szB7+.HpBLt_@Yd5ijtIp8M%B7B1NlNBmTGymr9HODttc"
def S7:FD:=F1 "0B4pmB5szB5taOKPGBIt_@md5FktI&KY_Dl1FcG2B5B28GSmT;mrw86tc"
def S6:FD:=F1 "0B2pmB3szB3+.rHt_@Yd5ijtIp8M%B3B3NlNBmTGymr9HODttc"
def ao6:FD:=F1 "0CP@*e_CB&nj@COA&4^uPpPo"
def ao5:FD:=F1 "0BjiMX>C:ZtG5d^xw1P+P6COA&4NDBiA*DlNDBiA*8^uFrPqdb"
def ao4:FD:=F1 "0B7A0e_BLZtd^SjrrPieoGHBiA*kr>QJxOA@y8YKFzPo"
def ao3:FD:=F1 "0B5@&e_BINx3d^3ucP6B6A+3^u7Po"
def ao2:FD:=F1 "0B3A0e_BFZtd^Sjrr@8lUeoGHB4A,kr>QJxOA@y8YKFzPo"
def ao1:FD:=F1 "0AbA5@zX>Ay&nJJT7@gqnq0Fa@8Fa@F;VGB2A.4GS>QJxL>@zOz@&61SfSMPo"
def ao0:FD:=F1 "0A.@z@xN_HaGJLbI^H_G0.I>6Iu"
def an9:FD:=F1 "0A.@z@xN_HaFqLbI^H_G0Ps%O>6Iu"
def an8:FD:=F1 "0DMA:O^i~DlLbSFP6vv3zU~ZHTIhLV~ZLXVb~ZLXLV~ZZP"
def an7:FD:=F1 "0D?A&kLU.RBj@vv3zU~k>8IhLV~k>8IgVb~k>8IgLV~k>9>^"
def LW:FD:=F1 "0A,ADiGDjdonHLPsKeKoaYPjYj?VBA4I4A5HgA6teSFbkIbJd23Nqdl4K5JjGMRN@.J=TkGa3H@IbnUeoryfJdl4Xx?y;PtIY^rJ=<:DlRMFs@,lSQsi=iJ;DlIu"
def af9:FD:=F1 "0D@A:@zNLI9donHmn4aymOirFmI7MJK=@HDjG>XuFm8Y@iJF.FlTMirFmI7MJK=@HDjK5Irk1O%iSFm8%py&ptF.4%qL9J9GKG&A1n*GyY@_iKOdb"
def RW:FD:=F1 "0C+Bx@*XZp*Vu^DnH&s^U@yu,U3eLQ3JQOA@y8SmGPPq7LeGOC:s;@y_6pXKW8Fa@l66FyGa8IN^rGbS.>6<8XyihF.sVeMGSmTDxJUGo>6DyHODzLDo8dNIi*u*~@y@yK=@e:ONoKo2Dto5POT%;KK*tKEFiZsxr*~@%@%K=@f:agYRB2O%d2DtG>o2=o5I;ZMdNKV*uh=o>G>pqQ6dpJj:agYRB2uiDto5POT%Pm@y*uh=OjsbB>i?zK%wFzDt%proptPO<JGNdDrJDDymOQHJ9F&G&A3XNeBIaIrk1O%iSF&Dz%p^m1ptIIDr%qShJ9G8G&A6n*q,Y@A7>6F,HWTMQHJ9F&G&A3n*F&DzY@A4>6IIHW>EdNHQ*uh=OjsbBLeTT=Q6zK%wFzDt%proptPO<%qQHJ9F&G&A3n*F&DyY@A4>6QCHW>EdNHvPx@.@uy6O3CMBF3y6iu*~@&@&K=@IdMIrg,Jj:G>AQpTiqsxuiDto5POR8Pm@&1>P@wJ~yXG6_r?.3N+CMBF=y6iu*~@&@&K=@IJ*i?dpO=mtONB9M,msiq5G>ALuiDwo5OvR8Pm@**tL:*_n5IrzKL:DtONd2KEFiZsFiL:POThy&D@B:FzDwDrY@pjOvZMGFPm@+L:PsSupSeTJj:L:9ONd2*tL:FvThy&D@B:Fz5DrY@pjF&T%Pm@,muh=OjXN_dBHKSseui9o5FvFlNOiJFzIu"
def RV:FD:=F1 "0CNAA@zNLDjdonHLPSSA0I4thtesJJ?v.GaDjZYDjZ6J8t.8b:>7JYC+B;HsF.Yaz8RNvK5FvKb^ODlN*KNQsIu"
def RU:FD:=F1 "0BhA@@zXZDjVu^DnHLPSS@&I4XtteSFmxZYI92FmXa8M%CMBF:y6iuirHsJz@uj+G>BDN^Jj;iq<G>ALO%iSHsDrOCfAptKO6%qKkJ9POG&A2n*w^z8RNA3J=DzOvTu>EKNHsIu"
def LV:FD:=F1 "0B0BA@&XZp+Vu^DnHSFSS^UA8I4A9HgA:jFR=@xkvGPq2;ZRjYSar*AbI4AcHgAdtesJTMirFmJzsb+oJjDj%wFm8z8:FidX^rInMnwEd;kqT2b2:I8KjIir1DrG?iu+<o>y5+UpnvhO%tdHstkPOU<VkKKHnDrN+A.B5iu+<o>y5+UpnB7M,M,LJO%tdHstkPOU<G3G2A.B6iu+<o>y5+UpnB7M,M,LJO%tdHstkPOU<VkKVmu+<Ojsb_o+UAaIaKSs&Q6>3XuHs9p35FvU<L;JKr49MyZiq5^r>6F.2Hs+u81FcGFDjHmJYBhB=Hs;z9IYG1vK<SML;DjQ::iuirHsJzsbBKIrO=SDT=g:ms%wHs<z89N*fABhB=ey;JGG7?I5xrKkJ9d>G&A2n*=F&z9IYfFJ=D%G9Tu>E^ODlxrirQsI:K=hHQs;Y@iJSMPo"
def HF:FD:=F1 "0AaA*kLntY?LKA?I4A@HgAA*MZwTyjP:Sm^._6V=NzY?LKAOI4APHgAQrqZwTyjP:Sm^._6&rUgAeI4AfHgAgteSFP6vgJLy>kuFydlFkYBJjdl8H+?y3dl;ONBP>6RMFs@,lSGKm7ING:NNulU>pzDrFinVs+6^KJ>A.B5GSj8i*F.o>s>Jj<ONtdF.tkG5POG3>O?p6k=J>A.B6GSj8i*F.o>s>Jj<ONtdF.tkG5POJMJ:DlH@K+Dles43NlXa6M%PL9GSj8i*F._>@&@&K=@IG>BAT=W?B@Jj<ONAP>3AeJjDrK5LJNGdpsfugmtG>XuF.=z9IYdLDxG5I;JMJ:8&z>68esF.Xa8I8JYB0B>HsPqz9JeG1vK9LeKb^ODlxrirQsI:K=hHQs;JGNd:I6^aFa@^:<GTDrZh>^"
def af8:FD:=F1 "0A?A=ea+*j@A_A%JLOCU08OSJg8GHAaB?JLNDAbB4JLaZ@cXx?uFk9GHAcBGDtFtMwa_?YU=;=QKT:N4Dli&JF@.Hm^ln^"
def af7:FD:=F1 "0@+A7ea>i@xACZtaqv%PWH<LPP6A>@.FrizA@A1MyizA?B@U=OCU0DtOSJgMyGT9Mydb"
def bx7:FD:=F1 "0C5A7peH_V<3FyHXFa@1VDrZFsB6Uo7FsBOGHCXBH3Gr@AVDDjKiJ*i?dpO=NrJ*LJ>3BLYqBNSDNrJ*g,NrJ*O=O=giBKIrSDOYB7M,M,LJOY+oOYpoBJbJOYpqQ6dpOYB9M,OYB:k1OYB:>3BMT=sISDs5%Os5SupSeTs5p6s5V1s5n5NGLJLJOYB=%NOYB>i?OYB>>3kYLJT=IrSDOYB>N^OYvhOYBANGdpsfugOYBAT=W?B@OYBCz,OYBC&xOYBDN^OYBDsfIrOYBDO=OYBEO=Ir>3BKT=W<BJSDs6Irg,s6T=sfIrs6*%s6KSses6KSn5IrNrO>s&Q6Nr.IOY_oOYBKIrO=SDT=g:OYBLeTT=Q6NhUoDjI_lT3Hnkq^vlT3HXZM>^"
def HE:FD:=F1 "0BRAxkLntN%AEI4AFHgAG*vP+%d@&>dL8AEI4AFHgAGIAA_KXAaMqAb*0GQ>o&dV>RtN%@&>dL8AEI4AFHgAGIAA_KXAaMqAbP8AgUUAhV5AisMP%d4GQ>o><vL^QKW4HnZ6TvNuHXm7JD8ywGaDjJD;xdHXdXFx4^aFrh4X;<Ga6dkywHnXyTvDrGtHX1Hcm8H@^rGV<XzG5FkrfC3A>G5LGT2TkmHY_Dr_Q9XIXJG5KO2QIZi<JDDrywXLOT9Pqk7=Q>@jDt5GJlsJeshDzP%DydnkwG:Uw=n0Iu"
def bx6:FD:=F1 "0A~@z@x^9H_i@2kl3F^B9I<3G?GMpw,tm&n6n7n8N=s&pS>3pqi?>3B<eTgiB?>3B@LJ>3BBN^se>3BFO=sI*PBK>3BL>3BMug>3BOJ=r7t0H=t0H=PtH=,tJ_z@zAzBzCzDzEzFzGzHKpz@Kpm&zkzlzmznzozpzqN6zAm&N6%2%3%4%5%6%7%8N7zBzk%2N7n6%9%:%;%<%=N8zCzl%3n6N8%>%?%@%A%BN9zDzm%4%9%>N9n7%C%D%EN:zEzn%5%:%?n7N:%F%G%HN;zFzo%6%;%@%C%FN;n8%IN<zGzp%7%<%A%D%Gn8N<.CzHzq%8%=%B%E%H%I.C>6Nar8sT"
def bx5:FD:=F1 "0Bg@*tXy_7G?Uo2kl3F^B9I<3G?GMpw,tm&n6n7n8N=s&pS>3pqi?>3B<eTgiB?>3B@LJ>3BBN^se>3BFO=sI*PBK>3BL>3BMug>3BO>6J0R;t0H=t0rAH=,tJ_z@zAzBzCzDzEzFzGzHKpz@Kpm&zkzlzmznzozpzqN6zAm&N6%2%3%4%5%6%7%8N7zBzk%2N7n6%9%:%;%<%=N8zCzl%3n6N8%>%?%@%A%BN9zDzm%4%9%>N9n7%C%D%EN:zEzn%5%:%?n7N:%F%G%HN;zFzo%6%;%@%C%FN;n8%IN<zGzp%7%<%A%D%Gn8N<.CzHzq%8%=%B%E%H%I.C>6kqy?T<>E>^"
def LU:FD:=F1 "0CMAr@&K&_U&N@zIAAJI4_TK;>VSFNzU4@*IMAfHgAgIAAhQ3JQL2@yGOCnYh_6SFrkrGOSFyrGFiyXy0r8lT7JDNQlT7GamU8FiNA>2>%;J5Dl:JP>5?y7GamU<Fi^nd<GM29dWJ=Fv2dWJ=2DlOBK~HRS~fJlT;IK>2>%DjJDSMJP>5?y;Pt<t1J=iY9I<DjdeH82DjGM2DjFa@N88IlFa?iyXafdl:<lTwD?.pwGawW^r>6kp2DryXfJdlFkXx?yXx?.pwm8H@Ib7Le2:TxfbfJdlDlH+?y3dl:Xx?y;GMPy@~GV9<L1I6Z6Fa@^Fzy@JP>^"
def af6:FD:=F1 "0Ac@,e_BySQ1Z_iwUxSlucH_O,pp>2?2>2?5>2>~>2?4>2?0>2?3>2?6>2?1jZjZjZjZ>2?73qx?oxA>*P~EdIKF^A^EeUoEfxhEfxdGMEgIFFa@NEgEhIlI6Ei2K>Ei2FsBUFa@?xA>&e:vaEle:vYEne:vWEpe:vUEre:vTEtXRz&EvXRyvExXRxjEzz;EmEoEqEsEuEwEyE%lSEjE&.>B8.HE*+sE+MIC4n,C6n+C8ozC;ndC=ncC?o%CBnfCDneCFo&CInhCKngCMo*CPnjCRniCTo+CWnlCYnkC^o,CbnnCdnmCfm=dcMICidcMFCkdcMDCmH9F3l,C5GWC7m0C:GWC<GWC>m1CAGWCCGWCEm2CHGWCJGWCLm3COGWCQGWCSm4CVGWCXGWCZm5CaGWCcGWCem6ChGWCjGWCll~GWCojEEfIFFa@NTmIlI6Eh2K>Eh2FsBUFa@?xA>&e9vaEke9vYEme9vWEoe9vUEqe9vTEsXQz&EuXQyvEwXQxjEyz;ElEnEpErEtEvExEzlSEiE%.>B7.HE&+sE*MIC3mJMFC5mJMDC7H9E*XSMIC:n,C<n+C>ozCAndCCncCEo%CHnfCJneCLo&COnhCQngCSo*CVnjCXniCZo+CanlCcnkCeo,ChnnCjnmClm=l,C4GWC6GWC8m0C;GWC=GWC?m1CBGWCDGWCFm2CIGWCKGWCMm3CPGWCRGWCTm4CWGWCYGWC^m5CbGWCdGWCfm6CiGWCkGWCml~Kb>9>^"
def PA:DT:=D1 "ujE+MIC4n,C6n+C8ozC;ndC=ncC?o%CBnfCDneCFo&CInhCKngCMo*CPnjCRniCTo+CWnlCYnkC^o,CbnnCdnmCfm=dcMICidcMFCkdcMDCmH9F3l,C5GWC7m0C:GWC<GWC>m1CAGWCCGWCEm2CHGWCJGWCLm3COGWCQGWCSm4CVGWCXGWCZm5CaGWCcGWCem6ChGWCjGWCll~GWCo1"
def aW3:DT:=D1 "ujEkF^vaEle:vYEne:vWEpe:vUEre:vTEtXRz&EvXRyvExXRxjEzz;EmEoEqEsEuEwEyE%lSEjE&.>B8.HE*+sE+MIC4n,C6n+C8ozC;ndC=ncC?o%CBnfCDneCFo&CInhCKngCMo*CPnjCRniCTo+CWnlCYnkC^o,CbnnCdnmCfm=dcMICidcMFCkdcMDCmH9F3l,C5GWC7m0C:GWC<GWC>m1CAGWCCGWCEm2CHGWCJGWCLm3COGWCQGWCSm4CVGWCXGWCZm5CaGWCcGWCem6ChGWCjGWCll~GWCoFl"
def Pz:DT:=D1 "ujE*MIC3mJMFC5mJMDC7H9E*XSMIC:n,C<n+C>ozCAndCCncCEo%CHnfCJneCLo&COnhCQngCSo*CVnjCXniCZo+CanlCcnkCeo,ChnnCjnmClm=l,C4GWC6GWC8m0C;GWC=GWC?m1CBGWCDGWCFm2CIGWCKGWCMm3CPGWCRGWCTm4CWGWCYGWC^m5CbGWCdGWCfm6CiGWCkGWCml~1"
def aW2:DT:=D1 "ujEjF^vaEke9vYEme9vWEoe9vUEqe9vTEsXQz&EuXQyvEwXQxjEyz;ElEnEpErEtEvExEzlSEiE%.>B7.HE&+sE*MIC3mJMFC5mJMDC7H9E*XSMIC:n,C<n+C>ozCAndCCncCEo%CHnfCJneCLo&COnhCQngCSo*CVnjCXniCZo+CanlCcnkCeo,ChnnCjnmClm=l,C4GWC6GWC8m0C;GWC=GWC?m1CBGWCDGWCFm2CIGWCKGWCMm3CPGWCRGWCTm4CWGWCYGWC^m5CbGWCdGWCfm6CiGWCkGWCml~Fl"
def bx4:FD:=F1 "0CXA7YrCah8Can3HG>VPhbkJxHm>M>5?yklHOFa@1Fmj=B6jWBOXkj=AhjWA~Xk.x.xj=AhjWA~Xk.x.xY3Iu"
def RS:FD:=F1 "0B9AMiGEcOpGy&.GODgPuOpGy&.GODg>FAqSS@vGYI?bsGODg>FAqYePjEciw&.&~3JDEd2TnxA>*P~EeI6xdEfGj@bEf3Le&.1nq?.3EgFa@@EgGMEcFWGMTmHnFYxd1>q>APjFVVnBkVnBlVnBmVnBnVnBoVnBpVnBqVnBr~j_0FV^8~jT<H?bsIu"
def KG:DT:=D1 ">APjFVVnBkVnBlVnBmVnBnVnBoVnBpVnBqVnBr~j1"
def JO:DT:=D1 ">APjFV^8~j1"
def RR:FD:=F1 "0B@iMmwSQNMBBpPjkLPa.BB1THo0bk>6HO3SUG63G67I<%Q;NSDlJgJ5%QXxv2Xx?ZiXJ4<4JiDrfi9XwGJJUHNJP__ktXx?ZiXm8r^Drm%_rv2_r?ZDtG6=J454JiDwfiwhD%JPQ0Iu"
def RQ:FD:=F1 "0B@iMmwSQNMBppPjkLPa.Bp1THo0bk>6HO3SUG63G67I<%Q;NSDlJgJ5%QXxv2Xx?diXZL<4UDDrs,V<9^7=UDDrpQV<9^7=JP__ktXx?diXm8r^Drm%_rv2_r?dDtG6=ZL54UDDws,V<whDzUDDwpQV<whDzJPQ0Iu"
def bg1:DT:=D1 "V<whDz1"
def RP:FD:=F1 "0B@iMmwSQNMBopPjkLPa.Bo1THo0bk>6HO3SUG6H+?OK~J3,KG67KiSMR;YZ<ivIu"
def af5:FD:=F1 "0B?A>@z&&OGVKsd^QH_>O@T8HeT0pOQ>@Dd>Ut@TDxHeVKpOQ>@DX%GJFa@k;HesY_Z1>@P&OwsT"
def af4:FD:=F1 "0AiA?v=AUZ2NL:Jkh2>SddJkDlNEn:RmUeP^_bJ+V=ya7Hmj92u6Fku:2GKN5*Vty*VqvFlP>v*rZHmj92u6Fku:2GKN5*Vty*VqvVgj46f?k*J497JiDtX;5L5Dxu65u:QvN5oED%tyoED%qvKb>5j46f?<P*J5ko_7u6Fku:2PON5oEDwtyoEDwqvVgj4=f?5G6DwJ4Dx7JiDyX;D%L5D*u6D%u:q,N5oED.tyoED.qvKb>^"
def af3:FD:=F1 "0Ak@.@y&&sdgxH7prr:p+,,IXGAPo"
def af2:FD:=F1 "0Aj@.@y&&sdgxH7prSkp+T0,,IXGAPo"
def af1:FD:=F1 "0AlvMNLJkjxSaH_H7OaSkKKTjV2VIKKTj,,lxZP"
def af0:FD:=F1 "0AnA;@z&&OGVKsd^QH_H7prSkp+T0QMpr=GND%F&DyVKQMpryEE0sY,,E1IqE7db"
def RO:FD:=F1 "0AoAYv>U=sdpXSSAOI4APHgAQ_8NEIdRmS_P^&dgxGF:HQOFuYR8:HvOFuYR8:xxOFuYR8:FskMuYG3J:Q=U>Sk%_Drg6H7AoBTPDikdYJKr4D+Q8KbU1PDIu"
def X':DT:=D1 ">euYG3"
def LS:FD:=F1 "0AJBJ@&NL:Jkjx&s^YSH_8NEIdRmS_P^&dV>r*@zYz^YXhB7KXB8MqB9Ym;NEU=Rm><@.s=vLGPw^4OvGOC:>FA5KW:PZSM2Skt.Drb:>7H7iQPDDtSv.mmk.mKbU1PDY;N@QsLBDzg6H7AoBToCHEdYkwGoUwE4G<N?=K6KbH7eeoCDxQMeeDzHENJDydYJKr4E6VSGlZP"
def bg0:DT:=D1 "H7sNcFFl"
def bf9:DT:=D1 "H7Wy_W"
def aW1:DT:=D1 "KLub1"
def aW0:DT:=D1 ">eiQPDDtSv.mmk.mFl"
def BG:FD:=F1 "0@~B6@&Y>1I^HDGPhmIWJNSzUgA7HgA8LCQ?2IlJ<RmH&P^K;J+SFNzUgADI4AEHgAF_8NEIdRmS_P^&dV>RtUg@zI4@%LKADHgAEIAAFI4AMKXANzW8Mp_1QI&3VKZROO><A0s=A1J+uv^=Ug@zI4ADHgAEIAAFI4AZKXA^MqA_Ym;NEU=Rm><@.s=vL^QiDHLUg@zI4ADHgAEIAAFI4AZKXA^MqA_P8AeUUAfV5AgsM<NEIXRm><A1s=A2J+eUH_P>v*JPHc1HcNSv*INGIXWJ<GDMs?M7idDjy0L1INGIIbSf2GDNqFa@44HeToDjHmGJXLr4;TkNSv*H@K+FkJ<VDIlJ<HsMs?M8LB;PzAbB4U=eE5H@K+I;2VDIlJ<HsKbHhb2DrX;DtXIG1@~Z.umFmq=GGF*GKJPH7AKB+PDNB>@UCJw>6VKT2K~Fa@4=HeIiS~_Z^tJeGoyBDxNlGyKODw5GaDtqy^rGbGVDtd?NlGKPO+%=_Q5l_MkG5I;2oCdn3IYK+d_oCk7DxI8P><JgrND&p<OwpGE3nwG3__wD?lD&G6D*NSD+JgrND,p<NJpGE6VSGlG3H8VDrND,p<NJpGE6VSGlG3__i_p1J53E0rNE1p<E1E2pGE:n@G3__i_E1ioJ4E3H+?ME4G6E5OhE6rNE7p<GXpGE@T1G3>5PiE7E6PxA2AEDyQ;E8otE9p<E9E:pGEBE;HlG_JMJ?8lnP&Dx^cI;Iu"
def ae9:FD:=F1 "0AtA7s7rE33.FOSY,.FFiI<quY,JDquFiGTHm>^"
def ae8:FD:=F1 "0AuA7s7rE33.FOSY,.FFiI<quY,JDquFiGTHm>^"
def ae7:FD:=F1 "0ASA9O^HeFrOGG5RBP+P6AtBWJ8NDAuBXv,NDAuBXp%y>;OS;ZqOS:NK6OS6GT2db"
def LR:FD:=F1 "0ALA?n>NMAMH<Jkhmmau8maa.AMMtT?@~U3jyent+IWLEP+UTGLjSJ82HOn_;I8RFT0WPDrJUGLNN>69HODtFzf%K+s07FzpNFzIu"
def RN:FD:=F1 "0AqA6O^v%TtRBJJSzUgphg5GOAUP+nonUTth4rLXqG5OGT01r7XLs4t8"
def ae6:FD:=F1 "0ArATkKkK@&SQHeTt1X^cuTHJJSz@wS+c*+_N.GOAUSanonUDlTtIkI9GMI9Fa@@:H^6>2>zP~<J43DrJiwROgN.&AVmGvOTDxMyINMxDrN.KbH8b2:Q7GyN.GSKLOSDjGJr7FqKbG0DjFqIu"
def ae5:FD:=F1 "0ALA?n>NMARueVuhmZZa*l%OOH&J+SFu8ZZa*l%OOK;J+SwOuARuepLT?A1U3jyen+~a*l%OOU,LESaUTK2jSnUTtn_:rL@3;HeGypOTNGyWP9XX>3edDtd_N.XXf+9N.f%jBOz@u7N.pNN.Iu"
def Jp:FD:=F1 "0ALA?n>NMAVueVuhmZZMyGOAhJJu8ZZIdGOAhSaa.AVuepLT?A0U3jyen+~QIGOAhLEV>UTGojS3^aHOMyn_DrI8dNIij.HQ&JfeKKj.To^aj~feKVj0HQmQ:TNcfYyj1@yj0IimQ:TNcfj0KVmQ:TNcfYyfeHQj.Hv&JfeHvj.Hv&Jj1@&j.Hv&Jj1@*j.KK^aj~j1@+j.KV^aj~Yyf%Go>6L>@u7OWpNOWIu"
def ae4:FD:=F1 "0A8Absp4Jkhmmau8IWSw@wYz@zY%@%iAT>>fAP1fzj>SRpLA4I4A5HgA6_8bD+~JQGOALGPm_l%GPal@%GOAKOOSEJ+^.IWV=Nz@wYz@zY%@%iAT>>fAP1fzj>SR1I?hmZZJQGOALGPm_l%GPal@xGOAKOOK;J+XMIWSFRt@wYz@zY%@%iAT>>fAP1fzj>SRpLAQI4ARHgAS_8bD+~JQGOALGPm_l%GPal@%GOAKOOSEJ+^.IWV=H_HcdXGoO6InS&HsdEGDXa6rLpcP%pOXL*zDtGGGHArB_4P%K1G7@4iWP%_ZTNP%PR;DwXLP_>3A8J=DyG5Dx5lXU&*z5GGKb>A@wgO>6GG&~4JDd:Ga4IK;if4:Im4w;4IK9FiFa@s4wU@3DjHeGy1FkfQXIP_>3edI;dE=DlT<GcGdL9QHcsBaPpTsU1QIT2b26rLpcP%pO&9*zDtGGGHArB_4P%K1G7@4iWP%_ZTNP%PR;Dw&9P_>3A8J=DyG5Dx5lXYfJe*z5GGKb>A@wgO>6GGIu"
def P6:FD:=F1 "0A;@.kJJQHePDVuhmmau8IWgxGcGdZnALBbSkFt>7U1IXPo"
def RM:FD:=F1 "0A7A4O^v%TtgW&eI4Xtg5ahP+nonUTth4rL_fT0OGG51GTGJXLs4b1FqIu"
def ae3:FD:=F1 "0AeAAO^HeFrOGG5RBP+rEJ8I<J8^vNKv,I<v,^vI<p%^vIu"
def LQ:FD:=F1 "0AAAMXsv%TtgWUgXjU3@%^P+CahI+HpAQSaIfUgXjU3@%^S+CahI+HpAQSaP6A7BeJLr?3yjPMlgk@Sf2TtT2KrY&:M%AeBfN.GyH5>7RFN.WPDtTNGyPRPOGMPyA2Y~N.I2>7RFGyWPDtJUG1pj=HO5N.KbRFN.WP:i&%m16n_:I8RFGyWP9GMT.>6Dtd_N.JPcyS%YKIu"
def Er:FD:=F1 "0ABASpfo;y+eLOKnCj?c&.rK.>VnCSaRtc&v?@*^P.rUUA;NiA<V5A=sLnCGPP%GOC1Z0Rtc&v?@*^S.rUUA;NiA<V5A=sLnCGPP%GOC1Z0mxINjSI9&KinGa8tQsXi&gg.lw;3XIXJMyU>GydnXV:b0KE6Zs6KiDt<lslnsh=P%lsJesh=P%z><K*kks*=au5b0KE6Zs6lslnsh=P%dn;IYg8DtIu"
def RL:FD:=F1 "0B<ABv>n:VuS%~PPuzL~PU2SSA8I4A9HgA:LCdunQ8%lm,UuXMZg@yZg@%T,^~T,V=H_>;?q;FyRM;K*3<Gaw?oSpTU>DrPWGaw?jBy9Hs%_6g6GcNeZnB<BiGGn0TIRNA2X_ufJ=Dz=K6Kb>@jBGGIu"
def LP:FD:=F1 "0AfBY@*NL8zL~PPuzL~PP+SSvBeKLCdunQ8%lm,UuXMZg@yZg@%T,^~T,V=r*hAI4eKIAA2rlMqA4YmjPOA@&6L>@+Oz@,UuGPsrGOB9^.Zg@&Zg@+T,IL@,T,eUKW8INjBU<dEHst.6b:NdwWlfZ.UCGVDtd?GGP%POJP>@jBGGY;N@QsLBDxg6FhS*1B<BiaeG9IITIkwG:X_ufi>UwqKF*I;KbKLFie;DxThGdMod+;Dyi%oGOEDzHEV6oAJ=E2G<fHH=.,Gt.,I@m8.*<~@MoKkOEPqD%Dr~QIpyG.*Dr~@L9MoOEQID%~QIFThsQF.y8~RfHFdn.y8V8k9G3FhsQae~RZP"
def aV9:DT:=D1 ">5?VVLk8tVG3"
def aV8:DT:=D1 "KLFie;DxThGdMod+;Dyi%oGOEDzHEV6oAJ=E2G<fHH=.,Gt.,I@m8.*<~@MoKkOEPqD%Dr~QIpyG.*Dr~@L9MoOEQID%~QIFThsQF.y8~RfHFdn.y8V8k9G3FhsQae~RG3"
def LO:FD:=F1 "0ACAE@%_cB2%c1Z_ih1Swna^VeLQ3GDFqGDUuGP+Z;m,Oz@*UuYhZg@zZg@&T,dhT,U2Nzna^V.rdtGDFqGDUuGPR=@&%m<p5Uu^~Zg@*Zg@,T,IL@.T,Z0mxINZ.M.M.z.KrZ6GDFqGDTxfby1yGHVInf+4DrU>_2i&+Z;m,Oz@*1_2.lDtfi=3ctsQU=9U?;IYG:X_ufi>^wD*d~L;;IYK2Jw^wDxU=9dnICK2f+DtU=9Iu"
def RK:FD:=F1 "0AEA8O^i~DlLbSFIfU4o1Zumy>6K~8p8fiq2nP6t8"
def RJ:FD:=F1 "0AFA7O^ddrsU4o1ZuP6ABBhFrY4DlIN>6G52T2KrfbinKiq2nP;GTjd"
def HD:FD:=F1 "0ADAdkK@%NxT9FzLbP+IfU4&eREIAA2rlzWn:O@U2NzU4&eUz^,KXA2MqA3P8A<UUA=V5A>sMn0O@^QRtU4&eUz^,KXA2MqA3P8ANUUAOV5APsM<w59O@Z0KW8_0DlFksXJLIkK~HRkqy1J46H+?dOXH@OTDrp+PO2n:Y3k7=fi5VGSdv.36J;6Sr3Dyp*Dzn0L;6SrGZDyn0ZiDrXIg8Dr^e<KOb0ZLd;UDDts,V<=VGSd7J~esJ;q7vxp*DxP%L;q7GZDwP%UDDtpQV<=VGSd7J~esJ;q7vxp*DxP%L;q7GZDwP%dn8GvOTHsDt<w59Iu"
def bf8:DT:=D1 "G2Sd7J~esJ;q7vxp*DxP%Fl"
def aV7:DT:=D1 ">AQkGZDwP%1"
def pu:FD:=F1 "0@,CS@*N_+*Sw_:@z>>>?AAHgABLCMyO@SaNzbt>?AKIAALKXAMzWNlDjcO&reFeAATP8AUdtT04eHVKY0^Q^=eFh~SEI?Gy4eHF*Y0cxiDpDAwjRAxjUAyofGJ.8iDpDAwjRAxjUAyofFq.8pZpDB6jRB7jUB8ofGJ.8pZpDB6jRB7jUB8ofFq.8>U@%pDBWjRBXjUBYofGJ6D%nsA7>U@%pDBWjRBXjUBYofFq6D%nsA7>U@&k0j&C1jRC2jUC3k:uwKWw0FkZ6JLNqX~J~_pJ;z<:U9MyFlJ:q5lgJxFkF.2G5IkK~J4kqJi6X;DrXIr4DlI9XzNlP%f%Jxm+pNa~X~FiJyJ;;JeK+=au5sYUAABBhVKY4=qyP&PO2sYT2:;HR8:G65X~TdNDACBkF*DwJG>HFZJ>vVGyKrDyY4D+l_jBDxY5PB2JZG9OwHTLVFZJ>vVGyKrDyY4D+qzjBDxY5PB2JZG9OwHWJ?DjIYa,Hs5Gyy,.;ybdATd+BZQ..rfvVF*KrDzY4D*q%K2dUG82dZT2ex.;ybdATd+Bq~..rfvVF*KrDzY4D*q&K2dUG82dZT2ex.;lqFimmTddA+BYX..VmYXK2l.D~dZrfU^H=_pTr@iH=_pTdTdH=_pf@PNGawl@+oS>6D*TlGGD%dCGqD&T2ex.;lqFimmTddA+BfK..VmfKK2l.D~dZZiwl@,K2dUD%^hGqD&y,Und<akD&t;AEBlX.D+Grv3E1JiE2M%AFBmKPD,NDU^mYTr@KTdmYTdyumYyujvE8VmG=@+G1A5dP>6E7E9YQE:GqD%K<>EJ:wl@.GodUII2acy,Und<akD&t;AEBlX.D+Grv3E1JiE2M%AFBmKPD,NDU^mYTr@KTdmYTdyumYyujvE8VmG=@,G1A5dP>6E7E9YQE:GqD%K<>EJ:wl@.GodUII2acy,Und<akDyt;AFBmGAD&NDU^Gt_pTr@KTdGt_pTdSpD.Gt_pSpD.jvE0VmG=@.G1A4GIiy_vYQE2acJMJ?:lnMkMyDyacIu"
def Hm:FD:=F1 "0A<B9@&>c@%NxT9DlrFYaRBZ0If@zIM@&I4eLQ3LDGOAkpXKWDlINS.k@DlXz%Zn_9I8GFDlIifEIE+yKKfEJ~q3jmKVmQIEHn=8cWJUMxZ=ayTomQFiHn=8_YFl>;eCGtq3cWfEGtq3jmHQfEI@+yHvfEI@+yxxfEI@+yFs@*fEH=q3jmqwfEGtq3cWJUMxZ=b13Iu"
def PT:FD:=F1 "0AT@~tXT7?oFmGMJdTneor8Iu"
def Pc:FD:=F1 "0AvAKXsHeJLOGIdRBV=rES~I<S~^vNK78I<78^vNKJyI<Jy^vI<4:^vIu"
def Bk:FD:=F1 "0AUAY@%Y>1I^NIz0JNy+tRn=eJj?@zIM@%u+@uT>^PtRrlu,@y>?A4P8A5dtVIGOAkz0YheJcxNz@zIM@%u+@uT>^StRrlu,@y>?A4P8A5dtVIGOAkz0YheJcxUTjSFmSUFa@QNaGj@RDlLHHB3H@S.M.FxFkTt3Xz%ZJPfXa~I6XDGj@MXDLHfW@PHeK6OGU=H<Hi+nD*&@+MD+auD,VIGHAvBtU=K6H5>7Hi?vVInxD+JIpaVcNJ&@fFr2D~auE0VII2>7Hi+nD+Ys+MD,auD.VIZMHi?vVInx^fInY~a~I6XDGj@MXDLHfW@PHeK6OGU=H<Hi+nD*&@+MD+auD,VIJI+nD*&@+MD+auD,VIT<J?ICS.HNIu"
def KV:FD:=F1 "0A:Bc@*K&THI^NIz0Ph&NT?pi>?@%OKr>eJJJbkM.J=FkHm>MJ:klHsI<eoFa@QJ8Gj@R8LHH0?oPm@+GM=qwTn5qwGMIiDwdO:Gtn9wGGSlpIi*an9wMY4wU@XD*H=Fa?.XzD+JI@BFkD,JIc%qCD&2D.e6D~JUKzJ=F~nOKKdOwM+WH=TrtGl?qtD*f&PBnOKVdOwM+WGtJ;FiD&JItGQCD*qtD+f&NJnOTodOwMTrtGQCOye6D&f&G8sqHQ*aTrc%qCY<e6D&f&G8sqHv*a+WIEJ;FiD&JIc%D%YTD*qtD+f&NJnOxx*a+WJ~Trc%D%YTD&qtD*f&PBnOqwdO9IEJ;FiD%JItGYTD&qtD*f&PBFlHitGDzY<e6D%f&OwJMj9GkpiO3AUBukr>@S.>68Flj9GkpiO3AUBukr>@S.>68Po"
def LM:FD:=F1 "0@.A>s7SzeLZurkm7NKI9HXm7INJ=Dlp8Q>?OJ8Ji6Q>?F8Fw@dHeP%OGDtF.1HXSx=T<bj"
def Ge:FD:=F1 "0@&AVXsddrs@%IMv?vBAFu,@v>?AGIAAHQ3IdTZ6jgQ1UyeJNpUeTw_bIWpXP6@*C>yR@+BAFrTsP>8JgSo@~BV8NBG2@,BoQIJGNdd7@XDwIEFa@rNQDxGHA:Bv4G?Tr?sDzDyGaD%INZ.KzUC>6=II2oCTuQgIZT2KrI6NaGj@MNaLHH6NHI_ZnA;BdJZK6izA<BrId3F*K6ND@.Bwd@yQICK2GVD.IdJoJ,HWG+bj"
def wz:FD:=F1 "0AKB5kLNLJkW*I^HDGPhmIWSaSS^UA3P?I?3jgPW&3gKm_IUA3nK@~K.SEl&OOK.P^S_J+j5*T*TIWV>>UAUHLVB^UA3PfA5>II?3jgPW&3gKm_IUA3nK@~K.SEHeGy19l&OOK.s=vLj5a+><A0a+><A0IWcx>UAUHLVB^UA3PfA5>BI?3jgPW&3gKm_IUA3nK@~K.SEl&OOK.P^S_J+j5*T*TIWV>NzUgAK>J@,I?R=@ujgnKA1HGH>l&zxH&a+K;IWO&><GpJOSF>UAVHLUgAKLKAM>II?R=@ujgnKA1HGH>HeGG61<l&zx_ba+><@.IWO&><GpJOZ0>UAVHLUgAKLKAM>BI?R=@ujgnKA1HGH>l&zxH&a+K;IWO&><GpJOSFRtUgAqu+U3ArHgAsLCS%Mp_1Q1zxH&a+K;IWsJHc1HcINlfKzZ.M.UCUwFk8U<FkYJ>p@x@&A3@w@xgOGVMy5IXGK1Sk5IXGK1gOl.1r:YJRFGyPR85INzVdsUwDwF.FvYJ>:roApC:8Jm@yS.P0%hIn>6Dr6GK<Fl>M>p@%@wAK@z@%K2TzDt%ZHspNDt%ZHs1K2JwUw1ihYJ>O@UDrHeG5H<H6RFPqPRd>Fa@DDt5DxGj@U9HePqH<H6RFG5PRD%N&@DDzD&D+qyK2f+DyD,T<>MJ:3q%^rUCJxd:HsNqI6ZdI8>O@W4rFH<xb>:roApC:<GS>O@WDlrFH<xb>:QH1ApC:DtJ;DjN*u.MpFa@V6rF1Dr1u._1Fa@V9rF1=q%GoJ=GAKb>9G+>Eu.MpFa@S41u._1Fa@SDlG*^riyS%sWSf;Iu"
def LK:FD:=F1 "0BrAX@%.zdroH@*_<Nz*Q@*KX@+zXsJJ?7n?TxtQ4Ns3YJX=q0KEDls3&<DlTG6OL6Q7NlP%QLXzIKDlU@DlTG5OL5mzs3mzK>S~F&DyKE=K>D*=l?IKDlSrD+TtD,SWJ?XV=X+J?XV8Iu"
def RH:FD:=F1 "0CSAy@&ssjrJJKoNi@wHg@xIAsw_<YePjpz7YJ>5?+H=4^tFiJ587Ns3GM8FiI<;7s?KE:OL:d.p%GM9TGDtOLDtQ7Gyw^QLDxxh8FiGMmWDzOLDzd.DjDyKED+OLD+Q7JoJTQLE0xhI9PtDyPtDyKEE3OLE3d.mWE7OLE7dqE1K>3E1qQE6KEE2K>E;E2E8E9E:_0E<HODy&LX+J?mWDyOLDyd.p%KED*OLD*Q7l?dAQLD~xhI9s?s?KEE2OLE2d.mWE6OLE6dqE0K>3E0KPKEE1K>E:E1Gn_0E;ZV&LX+>9JnJ?mW:OL:d.p%KE9OLwRGyOg&AGMI9s?s?KEDzOLDzd.mWD+OLD+dqDxK>3DxJoKEDyK>E0DyJT_0E1ZV&LX+>^"
def LJ:FD:=F1 "0BsAc@%.zKoNi@xS+Xt>4U3@,rO_<Nz@uNi@xS+Xt>4U3@~YcLErr?IJdIKd8NADlH=INOTQsYJLOrwCSB.J8JdfUY:DlZVVg?IDjdiDlYJLO_pGMHOGMHOKEDls3KY*WNldfwPGyF+CSB.XzJdtPSr=^_X+G+fXIu"
def RG:FD:=F1 "0BvAE@%.zKoNiXtYcLErr?Idm4IkHOI6bm*WG5I6j:<DjPqNCU@z<VK&LIu"
def RF:FD:=F1 "0BtAj@&.zdr@*IA@+LK@,KX@.zXGP8UvAPP+T7?IJdr^IFFa@@4GHCTC<4Gr?b+q;H=NC:IK6Gva,Qs<DlFlfXYJ>5?bDjJ~^n;H=NC:lsFis_<Y*CUC=8JGG7?I4>2>zFa@aeyP~=J55DjIK5DjNCDwNCDwKEDyOLDymzs3mzK>S~l?KEDxK>D.Dxq,t1IbD~TtE0wSJ?^_NC5KEDxOLDxmzs3mzK>S~J&KEDwK>D,DwG^t1IbD.TtD~wS>9fXIu"
def ae2:FD:=F1 "0C.ACkK@,>c@.j^TyYGGP4lyPh>STHr>ZZ4lyJJH_HubmsojbKNJd391KNHOJ8X+>^"
def ae1:FD:=F1 "0CWALkK@~ssTyYGGPDllyPhyCZZDjlysJJYC.C2PpfSJYC.C2:;46fSJYC.C298<DtfSKNGAdb"
def ae0:FD:=F1 "0CVA5@zkDY77TyYGGPDjlyPhyCZZDjlyrr?Iv.NCN*JYCWC3J8v,DjNBKNNlPo"
def ad9:FD:=F1 "0BuAf@&kD>c@+j^e=THr>maT7?IJdNA+qDlFiNC8NA+q:H=NC6NA+qDrGtNC9r^IFr^xc^LCVC43kxNBJYCVC45<DwNBJYCVC4DyDtDzNBJYCWC3D&=DxqDNBGFD.KMD+FiD,HnD.I_NsD+H=D,NsNvD,TuJYCWC33;<XzNBGFDwKM=Fi5HnDwI_Ns=H=5Ns^e5FlH?<Fi3Iu"
def Ep:FD:=F1 "0BwBf@*kDj^YGJNyCmadroH,>zXSFNz*Q,>zXSFRt*Q,>Mq@.J.kCP+^=*Q,>Mq@~J.kCP+H_J?7n?OBDlIEH@rujK3TxI6UP&<4TG6OL6Q7NlP%QLXzHnKrNsGJmUJdI<=xcjKmU4U@4TGDwOLDwKY&yQvKE5K>wwJoIKeoJ5D.H=IKksw&D~IKylD~+tw&E0^tP2D,TtE0SWJ?LAMx=DlX+GFKrNsGJmUJdI<8xcjKmU4U@4TG:OL:KY&yGyKE;K>OQF*IKeoJ5DxH=IKksDwPWDyIKylDy+tDwPWDz^tP2QB4DzSW>MLOq48%u&<q4<OL<Q7PqVKQL^eIK8U@q4DwOLDwjD%ujDK>SfQvKE5K>wwJoIK8P7w&D.SW^Oyl5+tihDw^tn?DwX+^Oyl;+tih:^tn?:Ik8DjKE8%u&<q4<OL<Q7PqVKQL^eIK8U@q4DwOLDwjD%ujDK>SfQvKE5K>wwJoGM8Prw&D.SWJ?Dln?5X+J?Dln?;Iu"
def HC:FD:=F1 "0BxA~@&>c@,ssYGJNyCIWJJdrYNhK_<Nzo@hK_<Rto@hK_<H_mS*Wt~NCU@z<tj>M>AScsSoDZdk4FuQkJLPtdiwPX+>AQksSoDUPk4IK4JeMx9JDI9Nsw2WZp>F*dfDy4GAnGY:Dz7IISW>9JnX=I9Nsw2WZp>t~nGY:tj>^"
def BF:FD:=F1 "0ByC9@*>c@,>c@.sse=THr>IWJJdrYNt4Nz+bRt+b^=+biDHL+bH_mS*Wt~NCU@z<tjkAa%bmsoXLOTwPtQX+>AScsSa%WZsoJDoD&yF*mVDy7GA%aGJDzSW+QF*dfDy4GA+XDz7IISW^OLAMx9X+X=oDWZT83MymVDr7T0%aGJwS+Qt~+Xtj>M>ALRsSa%bmsoPt&8wPl_FxJLX+>A@zFxsSa%WZsoJDoD&yF*mVDy7GA%aFqDzSW+QF*dfDy4GA+XDz7IISW^O4ZQMx9X+X=oDWZT83MymVDr7T0%aFqwS+Qt~+Xtj>^"
def te:FD:=F1 "0BEBm@*ssjrJJ*d^S@.>Iu~*d^P@.>Iu~*d^S@.>Bu~*d^P@.>Bu~YePjT9~^vrFrNBdNySw8+,8NPLeF+BwC66HOfVH?=I2Fcn%5ImPOdq9Im=wRN2IIQL^hdJ=+OpI*:P2N?TL*:SrN?TKowbGZFU;^@bIZFd9pI*:P7N?TL*:PrN?TKowbHZFU;^@bFZFp~=mGdzPjqHrM=+OpF,WP2OwTL,WSrOwTKnMbGwsU;^>bIwsd9pF,WP7OwTL,WPrOwTKnMbHwsU;^>bFws4TudNH2BwC6w8fVH?<I2Fcn%DrImLejDIm<8Q7acQLl:dJ<ZVUSpH*9P2F,TL*9SrF,TKnBbGZEU;^?bIZEd9pH*9P7F,TL*9PrF,TKnBbHZEU;^?bFZEp~<ZVdzPjqCrM<ZVUSpE*7P2OvTL*7SrOvTKp0bGZ>U;k~bIZ>d9pE*7P7OvTL*7PrOvTKp0bHZ>U;k~bFZ>4y^6ImSMjDIm:8Q7^c5&AdJ+G~?P2.TSr.SbG*qbIf5d9~?P7.TPr.SbH*qbFf5p~kzdzPjDyDxrM+G~=P2.4Sr.3bG*nbIe+d9~=P7.4Pr.3bH*nbFe+4HW~^BtC1FrfU4H2vr8HONBHfySet+,:NPKOJDe15Im^ddq=ImwKQ7N2IIQL^hdJ+I+lP2.ESr.DgF*<gHZFky+lP7.EPr.DgG*<gEZFw6l0dzScqHzO+I+jP2.RSr.QgF*pgHf4UW+jP7.RPr.QgG*pgEf4y^DrImLedq:Im<:Q7acQLl:dJ+c+kP2,zSr,ygF*;gHZEky+kP7,zPr,ygG*;gEZEw6oQdzScqCzO+c+iP2.PSr.OgF*8gHZ>ky+iP7.PPr.OgG*8gEZ>;Tu~^vrFrNBdNySw8+,8NPLeJDe1DtIm6Dtdq9Im6wR=GNQLD%2dJ6+OD&O:D&O;NJJ5D,D~O0,_P2F~TL,_SrF~TKF,GM,ZbGx4U;,ZbIx4d9D&O:D&O;NJJ5D,D~O0,_P7F~TL,_PrF~TKF,GM,ZbHx4U;,ZbFx4p~6mGdzQkD*D&rM6+ODtO:DtO;F&J5DwDyO0,TP2QCTL,TSrQCTKOvGM,RbGwmL;,RbIwmUWDtO:DtO;F&J5DwDyO0,TP7QCTL,TPrQCTKOvGM,RbHwmL;,RbFwmy^6ImSMjDIm:8Q7^c5&AdJ+G~?P2.TSr.SbG*qbIf5d9~?P7.TPr.SbH*qbFf5p~kzdzQkDyDxrM+G~=P2.4Sr.3bG*nbIe+d9~=P7.4Pr.3bH*nbFe+4HW~^BtC1FrfU4H2vr8HONBHfySet+,:NPKOJDe15Im^ddq=ImwKQ7N2IIQL^hdJ+I+lP2.ESr.DgF*<gHZFky+lP7.EPr.DgG*<gEZFw6l0dzLRqHzO+I+jP2.RSr.QgF*pgHf4UW+jP7.RPr.QgG*pgEf4y^DrImLedq:Im<:Q7acQLl:dJ+c+kP2,zSr,ygF*;gHZEky+kP7,zPr,ygG*;gEZEw6oQdzLRqCzO+c+iP2.PSr.OgF*8gHZ>ky+iP7.PPr.OgG*8gEZ>;n^"
def ad8:FD:=F1 "0ApvMY7jrJNKWH+@@7GHBFC;DjdRH*VDNadSDlZP"
def ad7:FD:=F1 "0BF@*@y^9H_LOpv?;H^pv?:rZ>2>+H^7LIJ5Dj>2v0Djzsd7i0>6DlP~8ltA^;GT:H9DjlWMnP~DlltAS8y@rZ>2v07zsDjlWMnP~DlltAK8y@H97lWumP~4ltACDly?J5pv>+H^3LIrZ>2v07zsDjlWMnP~DlltA;8y@H97lWumP~4GMMoDly?J5pvv03zs7lWumP~4GMIFDly?H9H+i0ulP~DjGM24r8Iu"
def ad6:FD:=F1 "0CT@&@y^9T7@@pxBFC;7Gr@?>2>zDjR;Po"
def ad5:FD:=F1 "0CUADpfNLJk3UvAPZf7UvAPJNT7@?pv?8Fa@GFmH^Dj>2?<Fa@GI9Fa@?Dl>2?9Fa@GFzNs;;Iu"
def bx3:FD:=F1 "0@*Al@&>c@uHaLbI^P6AWC?GmxbU0d:NKd:So@~BVJgFbH0pcYiN*lYwDpc*rDrh.&79HnDwGt+P9Drh.&7=HnqA+PexFapc*rwZ&7=HnqAPFHnDzifU>Im9o~Jo%tmInWny=wZ&7DwHnD%GtPFHnD&ifU>Im9o~q,%tfQHnD.ifq=Im5o~VSOGmcH<+>QvG&A;&%Hm>evSQvE2+;E3YiFidTE7Hm+>qQE6G&A?&%FiKHvSqQE6E8+;E9mcdT^jHXGTGJ&w&wnWnWG3G2A?B@JLOCU0^aSo@~BV;FbH0@3<HeYiN*lY_r@3<He*rwZyO=HnqA+P=wZyODwHnD%Gt+PDt_r@3<He*r5h.yODwHnD%GtN3HnD&if^eIm=o~q,%tmInWnyDw5h.yODyHnD*GtN3HnD+if^eIm=o~JT%tGaDxHnE0ifDx2ImDxo~E1N?OGmcH<+>l?G&A;&%Hm>evSl?E4+;E5YiFidTE9Hm+>iaG&A?&%FiKHvSiaE:+;E;mcdTE?2HXGTGJ&w&wnWnWn^"
def bx2:FD:=F1 "0AWAD@%X>AyczK&YBO%B;O%BPO%+oIaNGO%BPO%_oO%BM>3pnvhO%AdIaJ_>3AbO%_oO%BN>3pnvhO%AdIaJ_>3AbIag:O%B=>3AK>3ALO%BPO%BMO%AdO%BNO%ANIaKp>3AbO%BRO%BRO%BR>6cui~Fz1I^H_j9PsuoG&D_XN@Jy3ury4urFa?cHQy4>6OyIiFyFiFkFaX?A1Hj7Fa?,Iiy3T~DjGDFa?_lok@d7?VDlFa?_J*Jx8KHvgPsuo;y>:OSVh2:Fa@Jy3ury4urFa?cHQy4>6OyIiFyFiFkFaX?A1HjwD?,Iiy3T~DrGDFa?_lok@_r?VwU?_J*pT=G*I5B;uoG&D_HKdFPsuo5J<Po"
def bK2:DT:=dD nU 0
def cz8:DT:=dD fd1 0
def cz7:DT:=dD fd2 0
def cz6:DT:=dD Vb 0
def cz5:DT:=dD Vb 1
def cz4:DT:=dD fd4 0
def cz3:DT:=dD fd5 0
def cz2:DT:=dD Va 0
def cz1:DT:=dD Va 1
def bK1:DT:=dD FY 0
def as3:DT:=dD FY 1
def cz0:DT:=dD fd8 0
def cy9:DT:=dD U' 0
def cy8:DT:=dD U' 1
def cu5:DT:=dD TD 0
def cu4:DT:=dD TD 1
def cu3:DT:=dD tJ 0
def cu2:DT:=dD tJ 1
def cu1:DT:=dD tJ 2
def ct9:DT:=dD tJ 3
def ct8:DT:=dD tJ 4
def ct7:DT:=dD tJ 5
def ct6:DT:=dD tJ 6
def ct5:DT:=dD tJ 7
def ct4:DT:=dD tJ 8
def ct3:DT:=dD tJ 9
def ct2:DT:=dD TC 0
def ct1:DT:=dD TC 1
def ct0:DT:=dD MI 0
def cs9:DT:=dD MI 1
def cs8:DT:=dD MI 2
def cs7:DT:=dD zQ 0
def cs6:DT:=dD zQ 1
def cs5:DT:=dD zQ 2
def cs4:DT:=dD zQ 3
def cs3:DT:=dD zQ 4
def cs1:DT:=dD zQ 5
def cr9:DT:=dD zQ 6
def cr8:DT:=dD TB 0
def cr7:DT:=dD TB 1
def cr6:DT:=dD TA 0
def cr5:DT:=dD TA 1
def cr4:DT:=dD Tz 0
def cr3:DT:=dD Tz 1
def cr2:DT:=dD ar9 0
def cr1:DT:=dD ar8 0
def cr0:DT:=dD Ty 0
def cq9:DT:=dD Ty 1
def cq8:DT:=dD Tx 0
def cq7:DT:=dD Tx 1
def cq6:DT:=dD Tw 0
def cq5:DT:=dD Tw 1
def cq4:DT:=dD Tv 0
def cq3:DT:=dD Tv 1
def cq2:DT:=dD Tu 0
def cq1:DT:=dD Tu 1
def cq0:DT:=dD Tt 0
def cp9:DT:=dD Tt 1
def cp8:DT:=dD Ts 0
def cp7:DT:=dD Ts 1
def cp6:DT:=dD Iq 0
def cp5:DT:=dD Iq 1
def cp4:DT:=dD Iq 2
def cp3:DT:=dD Iq 3
def cp2:DT:=dD Ip 0
def cp1:DT:=dD Ip 1
def cp0:DT:=dD Ip 2
def co9:DT:=dD Ip 3
def co8:DT:=dD Io 0
def co7:DT:=dD Io 1
def co6:DT:=dD Io 2
def co5:DT:=dD Io 3
def co4:DT:=dD ar7 0
def co3:DT:=dD ar6 0
def co2:DT:=dD ar5 0
def co1:DT:=dD ar4 0
def co0:DT:=dD Tq 0
def cn9:DT:=dD Tq 1
def cn8:DT:=dD ar2 0
def cn7:DT:=dD Tp 0
def cn6:DT:=dD Tp 1
def cn5:DT:=dD ar1 0
def cn4:DT:=dD ar0 0
def cn3:DT:=dD EZ 0
def cn2:DT:=dD EZ 1
def cn1:DT:=dD EZ 3
def cn0:DT:=dD EZ 5
def cm9:DT:=dD EZ 7
def cm8:DT:=dD Im 0
def cm7:DT:=dD Im 1
def cm6:DT:=dD Im 2
def cm5:DT:=dD Im 3
def cm4:DT:=dD aq9 0
def cm3:DT:=dD aq8 0
def cm2:DT:=dD To 0
def cm1:DT:=dD To 1
def cm0:DT:=dD Tn 0
def cl9:DT:=dD Tn 1
def cl8:DT:=dD Tm 0
def cl7:DT:=dD Tm 1
def cl6:DT:=dD aq7 0
def cl5:DT:=dD Tl 0
def cl4:DT:=dD Tl 1
def cl3:DT:=dD MH 0
def cl2:DT:=dD MH 1
def cl1:DT:=dD MH 2
def cl0:DT:=dD Tk 0
def ck9:DT:=dD Tk 1
def ck8:DT:=dD aq6 0
def ck7:DT:=dD aq5 0
def ck6:DT:=dD aq4 0
def ck4:DT:=dD Tj 0
def ck3:DT:=dD Tj 1
def ck1:DT:=dD MG 0
def ck0:DT:=dD MG 1
def cj9:DT:=dD MG 2
def cj8:DT:=dD Ti 0
def cj7:DT:=dD Ti 1
def cj6:DT:=dD Il 0
def cj5:DT:=dD Il 1
def cj4:DT:=dD Il 2
def cj3:DT:=dD Il 3
def cj2:DT:=dD Th 0
def cj1:DT:=dD Th 1
def cj0:DT:=dD aq3 0
def ci9:DT:=dD aq2 0
def ci8:DT:=dD aq1 0
def ci7:DT:=dD aq0 0
def ci6:DT:=dD ap9 0
def ci5:DT:=dD Tg 0
def ci4:DT:=dD Tg 1
def ci3:DT:=dD ap8 0
def ci2:DT:=dD Tf 0
def ci1:DT:=dD Tf 1
def ci0:DT:=dD ap7 0
def ch9:DT:=dD ap6 0
def ch8:DT:=dD Te 0
def ch7:DT:=dD Te 1
def ch6:DT:=dD MF 0
def ch5:DT:=dD MF 1
def ch4:DT:=dD MF 2
def ch3:DT:=dD Td 0
def ch2:DT:=dD Td 1
def ch1:DT:=dD ap5 0
def ch0:DT:=dD ap4 0
def cg9:DT:=dD Tc 0
def cg8:DT:=dD Tc 1
def cg7:DT:=dD ap3 0
def cg6:DT:=dD ap0 0
def cg5:DT:=dD Tb 0
def cg4:DT:=dD Tb 1
def cg3:DT:=dD ao9 0
def cg2:DT:=dD u4 0
def cg1:DT:=dD u4 1
def cg0:DT:=dD u4 2
def cf9:DT:=dD u4 3
def cf8:DT:=dD u4 4
def cf7:DT:=dD u4 5
def cf6:DT:=dD u4 6
def cf5:DT:=dD u4 7
def cf4:DT:=dD u4 8
def bz5:DT:=dD Ta 0
def cf3:DT:=dD ao8 0
def cf2:DT:=dD ao7 0
def cf1:DT:=dD ME 0
def cf0:DT:=dD ME 1
def ce9:DT:=dD ME 2
def ce8:DT:=dD MD 0
def ce7:DT:=dD MD 1
def ce6:DT:=dD MD 2
def ce5:DT:=dD S' 0
def ce4:DT:=dD S' 1
def ce3:DT:=dD S9 0
def ce2:DT:=dD S9 1
def ce1:DT:=dD S8 0
def ce0:DT:=dD S8 1
def cd9:DT:=dD S7 0
def cd8:DT:=dD S7 1
def cd7:DT:=dD S6 0
def cd6:DT:=dD S6 1
def cd5:DT:=dD ao6 0
def cd4:DT:=dD ao5 0
def cd3:DT:=dD ao4 0
def cd2:DT:=dD ao3 0
def cd1:DT:=dD ao2 0
def cd0:DT:=dD ao1 0
def cc9:DT:=dD ao0 0
def cc8:DT:=dD an9 0
def cc7:DT:=dD an8 0
def cc6:DT:=dD an7 0
def cb4:DT:=dD LW 0
def cb3:DT:=dD LW 1
def cb2:DT:=dD LW 2
def cb1:DT:=dD af9 0
def ca9:DT:=dD RW 0
def ca8:DT:=dD RW 1
def ca7:DT:=dD RV 0
def ca6:DT:=dD RV 1
def ca5:DT:=dD RU 0
def ca4:DT:=dD RU 1
def ca3:DT:=dD LV 0
def ca2:DT:=dD LV 1
def ca1:DT:=dD LV 2
def ca0:DT:=dD HF 0
def bZ9:DT:=dD HF 1
def bZ8:DT:=dD HF 2
def bZ7:DT:=dD HF 3
def bZ6:DT:=dD af8 0
def bZ5:DT:=dD af7 0
def bZ4:DT:=dD HE 0
def bZ3:DT:=dD HE 1
def bZ2:DT:=dD HE 2
def bZ1:DT:=dD HE 3
def bZ0:DT:=dD LU 0
def bY9:DT:=dD LU 1
def bY8:DT:=dD LU 2
def ZT:DT:=dD af6 0
def bY7:DT:=dD RS 0
def bY6:DT:=dD RS 1
def bY5:DT:=dD RR 0
def bY4:DT:=dD RR 1
def bY3:DT:=dD RQ 0
def bY2:DT:=dD RQ 1
def bY1:DT:=dD RP 0
def bY0:DT:=dD RP 1
def bX9:DT:=dD af5 0
def bX8:DT:=dD af4 0
def bX7:DT:=dD af3 0
def bX6:DT:=dD af2 0
def bX5:DT:=dD af1 0
def bX4:DT:=dD af0 0
def bX3:DT:=dD RO 0
def bX2:DT:=dD RO 1
def bX1:DT:=dD LS 0
def bX0:DT:=dD LS 1
def bW9:DT:=dD LS 2
def bW8:DT:=dD BG 0
def bW7:DT:=dD BG 1
def bW6:DT:=dD BG 2
def bW5:DT:=dD BG 3
def bW4:DT:=dD BG 4
def bW3:DT:=dD BG 5
def bW2:DT:=dD ae9 0
def bW1:DT:=dD ae8 0
def bW0:DT:=dD ae7 0
def VW:DT:=dD Jp 0
def av4:DT:=dD Jp 1
def av0:DT:=dD P6 0
def bV3:DT:=dD RM 0
def bV2:DT:=dD RM 1
def bV1:DT:=dD ae3 0
def bV0:DT:=dD LQ 0
def bU9:DT:=dD LQ 1
def bU8:DT:=dD LQ 2
def bU7:DT:=dD Er 0
def bU6:DT:=dD Er 1
def bU5:DT:=dD Er 2
def bU4:DT:=dD Er 3
def bU3:DT:=dD Er 4
def bU2:DT:=dD RL 0
def bU1:DT:=dD RL 1
def bU0:DT:=dD LP 0
def bT9:DT:=dD LP 1
def bT8:DT:=dD LP 2
def bT7:DT:=dD LO 0
def bT6:DT:=dD LO 1
def bT5:DT:=dD LO 2
def bT4:DT:=dD RK 0
def bT3:DT:=dD RK 1
def bT2:DT:=dD RJ 0
def bT1:DT:=dD RJ 1
def bT0:DT:=dD HD 0
def bS9:DT:=dD HD 1
def bS8:DT:=dD HD 2
def bS7:DT:=dD HD 3
def bS6:DT:=dD pu 0
def bS5:DT:=dD pu 1
def bS4:DT:=dD pu 2
def bS3:DT:=dD pu 3
def bS2:DT:=dD pu 4
def bN2:DT:=dD pu 11
def VV:DT:=dD Hm 0
def au4:DT:=dD Hm 1
def au3:DT:=dD PT 0
def au2:DT:=dD Pc 0
def VI:DT:=dD Bk 0
def au1:DT:=dD Bk 1
def an4:DT:=dD Bk 2
def am3:DT:=dD Bk 3
def al8:DT:=dD KV 0
def al3:DT:=dD KV 1
def bo3:DT:=dD LM 0
def bS1:DT:=dD LM 1
def ai5:DT:=dD Ge 0
def Z0:DT:=dD Ge 1
def bR9:DT:=dD wz 0
def bR8:DT:=dD wz 1
def bR7:DT:=dD wz 2
def bR6:DT:=dD wz 3
def bR5:DT:=dD wz 4
def bR4:DT:=dD wz 5
def bR3:DT:=dD wz 6
def bR2:DT:=dD wz 7
def bR1:DT:=dD LK 0
def bR0:DT:=dD LK 1
def bQ9:DT:=dD LK 2
def bQ8:DT:=dD RH 0
def bQ7:DT:=dD RH 1
def bQ6:DT:=dD LJ 0
def bQ5:DT:=dD LJ 1
def bQ4:DT:=dD LJ 2
def bQ3:DT:=dD RG 0
def bQ2:DT:=dD RG 1
def bQ1:DT:=dD RF 0
def bQ0:DT:=dD RF 1
def bP9:DT:=dD ae2 0
def bP8:DT:=dD ae1 0
def bP7:DT:=dD ae0 0
def bP6:DT:=dD ad9 0
def bP5:DT:=dD Ep 0
def bP4:DT:=dD Ep 1
def bP3:DT:=dD Ep 2
def bP2:DT:=dD Ep 3
def bP1:DT:=dD Ep 4
def bP0:DT:=dD HC 0
def bO9:DT:=dD HC 1
def bO8:DT:=dD HC 2
def bO7:DT:=dD HC 3
def bO6:DT:=dD BF 0
def bO5:DT:=dD BF 1
def bO4:DT:=dD BF 2
def bO3:DT:=dD BF 3
def bO2:DT:=dD BF 4
def bO1:DT:=dD BF 5
def bo2:DT:=dD te 0
def bo1:DT:=dD te 1
def bo0:DT:=dD te 2
def bn9:DT:=dD te 3
def bn8:DT:=dD te 4
def bO0:DT:=dD ad8 0
def bN9:DT:=dD ad7 0
def bN8:DT:=dD ad6 0
def bN7:DT:=dD ad5 0
def F:List FD:=[nU,fd1,fd2,Vb,fd4,fd5,Va,FY,fd8,U',TD,tJ,TC,MI,zQ,TB,TA,Tz,ar9,ar8,Ty,Tx,Tw,Tv,Tu,Tt,Ts,Iq,Ip,Io,ar7,ar6,ar5,ar4,Tq,ar2,Tp,ar1,ar0,EZ,Im,aq9,aq8,To,Tn,Tm,aq7,Tl,MH,Tk,aq6,bJ6,aq5,aq4,Tj,MG,Ti,Il,Th,aq3,aq2,aq1,aq0,ap9,Tg,ap8,Tf,ap7,ap6,Te,MF,Td,ap5,ap4,Tc,ap3,ap0,Tb,ao9,u4,Ta,ao8,ao7,ME,MD,S',S9,S8,S7,S6,ao6,ao5,ao4,ao3,ao2,ao1,ao0,an9,an8,an7,LW,af9,RW,RV,RU,LV,HF,af8,af7,bx7,HE,bx6,bx5,LU,af6,bx4,nU,RS,RR,RQ,RP,af5,af4,af3,af2,af1,af0,RO,LS,BG,ae9,ae8,ae7,LR,RN,ae6,ae5,Jp,ae4,P6,RM,ae3,LQ,Er,RL,LP,LO,RK,RJ,HD,pu,nU,nU,Hm,PT,Pc,Bk,KV,LM,nU,nU,nU,nU,nU,Ge,wz,LK,RH,LJ,RG,RF,ae2,ae1,ae0,ad9,Ep,HC,BF,te,ad8,ad7,ad6,ad5,bx3,bx2]
end
end Go.Proofs.YthicpeihkkokmaaGreatDoor
