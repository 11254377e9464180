/- Functions as programs on data, and their checks. -/
import Derived.Test.YthicpeihkkokmaaGreatDoorChecked
import Derived.Test.YthicpeihkkokmaaGreatDoorA0
import Derived.KernelRfl
set_option linter.unusedVariables false
set_option linter.unusedSimpArgs false
set_option maxRecDepth 1000000
set_option maxHeartbeats 0
namespace Go.Proofs.YthicpeihkkokmaaGreatDoor
variable{α:Type}{l:List Char}
open Go Go.Ex Go.RowKit Go.T
noncomputable section
def BV:Option aG:=some ⟨.cells ([1116352408,1899447441,3049323471,3921009573,961987163,1508970993,2453635748,2870763221,3624381080,310598401,607225278,1426881987,1925078388,2162078206,2614888103,3248222580,3835390401,4022224774,264347078,604807628,770255983,1249150122,1555081692,1996064986,2554220882,2821834349,2952996808,3210313671,3336571891,3584528711,113926993,338241895,666307205,773529912,1294757372,1396182291,1695183700,1986661051,2177026350,2456956037,2730485921,2820302411,3259730800,3345764771,3516065817,3600352804,4094571909,275423344,430227734,506948616,659060556,883997877,958139571,1322822218,1537002063,1747873779,1955562222,2024104815,2227730452,2361852424,2428436474,2756734187,3204031479,3329325298].map fun n=> .int .u32 n),1,false,true,jN⟩
def gb1:Option aG:=some ⟨.cells [s [46,46],s [61,61],s [33,61],s [60,61],s [62,61],s [45,62],s [123],s [125],s [40],s [41],s [91],s [93],s [44],s [59],s [58],s [46],s [61],s [60],s [62],s [43],s [45],s [42],s [47],s [37],s [95]],1,false,true,jN⟩
def gb2:Option aG:=some ⟨.cells [s [97,102,116,101,114],s [97,108,119,97,121,115],s [97,110,100],s [97,114,114,105,118,101,115],s [98,111,111,108],s [99,111,109,112,111,110,101,110,116],s [99,111,117,110,116],s [100,101,108,101,116,101],s [100,111],s [101,108,115,101],s [101,120,105,115,116,115],s [102,97,108,115,101],s [102,101,116,99,104],s [102,108,97,103],s [102,108,101,101,116],s [102,111,114,97,108,108],s [104,97,115],s [105,102],s [105,109,112,108,105,101,115],s [105,110],s [105,110,116],s [108,97,116,101,110,99,121],s [108,105,110,107],s [110,111,116],s [110,111,119],s [111,110],s [111,110,99,101],s [111,114],s [112,114,101,118,105,111,117,115],s [115,101,110,100],s [115,105,110,99,101],s [115,105,122,101],s [115,116,111,112],s [115,116,111,114,101],s [116,97,98,108,101],s [116,114,117,101],s [118,97,114],s [118,101,114,115,105,111,110],s [119,104,105,108,101]],1,false,true,jN⟩
def gb3:Option aG:=some ⟨.cells [v,v,i 0,i 0,v,v,u,v,i 1,i 1,v,v,u,v,i 2,i 2,v,v,u,v,i 1,i 1,v,v,v,v,i 1,i 1,u,u,v,v,i 1,i 1,u,v,u,u,i 0,i 4,v,v,v,u,i 1,i 5,v,v,v,v,i 2,i 2,v,u,u,v,i 1,i 1,v,u,v,v,i 0,i 0,v,v],6,false,true,jN⟩
def gb4:Option aG:=some ⟨.cells [x,x,i 0,i 0,s [99,111,110,115,116],s [78],i 0,i 1,s [118,97,114],s [65],i 0,i 1,s [112,97,114,97,109],s [65],i 0,i 1,s [102,108,97,103],s [65],i 0,i 1,s [110,111,119],x,i 0,i 1,s [103,101,116],s [65],i 1,i 1,s [104,97,115],s [65],i 1,i 1,s [115,105,122,101],s [65],i 0,i 1,s [110,101,103],x,i 1,i 1,s [110,111,116],x,i 1,i 1,s [109,117,108],x,i 2,i 1,s [100,105,118],x,i 2,i 1,s [109,111,100],x,i 2,i 1,s [97,100,100],x,i 2,i 1,s [115,117,98],x,i 2,i 1,s [101,113],x,i 2,i 1,s [110,101],x,i 2,i 1,s [108,116],x,i 2,i 1,s [108,101],x,i 2,i 1,s [103,116],x,i 2,i 1,s [103,101],x,i 2,i 1,s [97,110,100],x,i 2,i 1,s [111,114],x,i 2,i 1,s [115,101,116,118,97,114],s [65],i 1,i 0,s [112,117,116],s [65],i 2,i 0,s [100,101,108,101,116,101],s [65],i 1,i 0,s [106,117,109,112],s [65],i 0,i 0,s [98,114,97,110,99,104],s [65],i 1,i 0,s [99,111,115,116],x,i 0,i 0,s [115,101,110,100],s [65,66,78],i 0,i 0,s [97,102,116,101,114],s [66,78],i 1,i 0,s [115,116,111,114,101],s [66],i 2,i 0,s [102,101,116,99,104],s [65,66],i 1,i 0,s [115,116,111,112],x,i 0,i 0],4,false,true,jN⟩
def gb5:Option aG:=some ⟨.cells [.int .u64 1,.int .u64 10,.int .u64 100,.int .u64 1000,.int .u64 10000,.int .u64 100000,.int .u64 1000000,.int .u64 10000000,.int .u64 100000000,.int .u64 1000000000,.int .u64 10000000000,.int .u64 100000000000,.int .u64 1000000000000,.int .u64 10000000000000,.int .u64 100000000000000,.int .u64 1000000000000000,.int .u64 10000000000000000,.int .u64 100000000000000000,.int .u64 1000000000000000000,.int .u64 10000000000000000000],1,false,true,jN⟩
def gb6:Option aG:=some ⟨.cells [i 0,v,i 0,x,i 0,v,i 7,x,i 0,v,i 7,s [116,114,117,101],i 0,v,i 7,s [102,97,108,115,101],i 0,v,i 7,s [110,111,119],i 0,u,i 7,x,i 1,u,i 7,x,i 1,u,i 7,s [104,97,115,32],i 0,u,i 7,s [115,105,122,101,32],i 1,v,i 6,s [45],i 1,v,i 6,s [110,111,116,32],i 2,v,i 5,s [32,42,32],i 2,v,i 5,s [32,47,32],i 2,v,i 5,s [32,37,32],i 2,v,i 4,s [32,43,32],i 2,v,i 4,s [32,45,32],i 2,v,i 3,s [32,61,61,32],i 2,v,i 3,s [32,33,61,32],i 2,v,i 3,s [32,60,32],i 2,v,i 3,s [32,60,61,32],i 2,v,i 3,s [32,62,32],i 2,v,i 3,s [32,62,61,32],i 2,v,i 2,s [32,97,110,100,32],i 2,v,i 1,s [32,111,114,32]],4,false,true,jN⟩
def gb7:Option aG:=some ⟨.cells [y 0,y 1,y 28,y 2,y 29,y 14,y 24,y 3,y 30,y 22,y 20,y 15,y 25,y 17,y 4,y 8,y 31,y 27,y 13,y 23,y 21,y 19,y 16,y 7,y 26,y 12,y 18,y 6,y 11,y 5,y 10,y 9],1,false,true,jN⟩
def gb8:Option aG:=some ⟨.cells [y 0,y 1,y 56,y 2,y 57,y 49,y 28,y 3,y 61,y 58,y 42,y 50,y 38,y 29,y 17,y 4,y 62,y 47,y 59,y 36,y 45,y 43,y 51,y 22,y 53,y 39,y 33,y 30,y 24,y 18,y 12,y 5,y 63,y 55,y 48,y 27,y 60,y 41,y 37,y 16,y 46,y 35,y 44,y 21,y 52,y 32,y 23,y 11,y 54,y 26,y 40,y 15,y 34,y 20,y 31,y 10,y 25,y 14,y 19,y 9,y 13,y 8,y 7,y 6],1,false,true,jN⟩
noncomputable def body(f:FuncId):Code:=((Tryz.prog.funcs[f]?).bind (·.body)).getD .skip
def sq:Cf:=[(45,[.i64,.i64,.i64]),(46,[.i64,.i64,.i64]),(49,[.u8,.i64,.i64]),(50,[.u8,.i64,.i64]),(59,[.u8,.u8,.u8]),(64,[.u8,.i64,.i64,.i64]),(65,[.u8,.i64,.i64,.i64]),(96,[.i64,.i64,.i64,.i64,.i64,.i64]),(97,[.i64,.i64,.i64,.i64,.i64,.i64]),(159,List.replicate 32 .u8),(160,List.replicate 32 .u8),(190,[.u8,.i64,.i64,.u8,.i64,.i64]),(294,[.u32,.u32,.u32,.u32,.u32,.u32,.u32,.u32]),(379,[.u8,.i64,.i64,.i64]),(380,[.u8,.i64,.i64,.i64]),(387,List.replicate 24 .u8),(410,[.u64,.u64,.u64,.u64,.u64,.u64,.u64,.u64,.u64,.u64,.u64,.u64,.u64,.u64,.u64,.u64,.u64,.u64,.u64,.u64])]
def iN(n:Nat):Int:= @OfNat.ofNat Int n instOfNat
def iM(n:Nat):Int:= -@OfNat.ofNat Int n instOfNat
def bN(n:Nat):UInt8:= @OfNat.ofNat UInt8 n UInt8.instOfNat
def cQ(n:Nat):xM:=cd (@OfNat.ofNat Nat n (instOfNatNat n))
def nN(n:Nat):Nat:= @OfNat.ofNat Nat n (instOfNatNat n)
def lN(t:DT):DT:=F0 (GV (Ie BV)) t
attribute[irreducible] iN iM bN cQ lN nN
attribute[local irreducible] kal Dn
structure FX where
 f:Nat
 n:Nat
 k:Nat
 rs:List ResultVar
 sg:ia
 m:Nat
 hs:List (Nat×jV×Nat)
 ds:List DT
inductive Z where
 |n (_:Nat)
 |v (_:xM)
 |l (_:C3)
 |q (_:Es)
 |o (_:List (Option xM))
 |t (_:DT)
 |k (_:NK)
 |b (_:aG)
 |h (_:List aG)
 |e (_:List (Nat×xM))
 |m (_:jV)
 |s (_:ia)
 |d (_:List (List (Option xM)×DT))
 |a (_:AO)
 |i (_:JI)
 |r (_:List ResultVar)
 |g (_:List (Nat×jV×Nat))
 |f (_:List DT)
 |x (_:FX)
def zn(d:α):List α->Nat->α
 |[],_=>d
 |a::_,0=>a
 |_::t,n+1=>zn d t n
def zj(n:Nat):Nat:=bif Nat.blt n 47 then(bif Nat.blt n 39 then n+34 else bif Nat.blt n 45 then n+31 else 76) else bif Nat.blt n 91 then n - 48 else bif Nat.blt n 96 then n - 51 else bif Nat.blt n 123 then n - 52 else 77
def zi(c:Char):Nat:=zj c.toNat
def zs:List Nat->List Nat
 |a::b::t=>bif Nat.blt a 18 then zn 0 [1,41,662,508,511,522,509,519,510,513,515,723,512,517,516,3,514,520] a::zs (b::t) else((a - 18)*78+b)::zs t
 |[a]=>[zn 0 [1,41,662,508,511,522,509,519,510,513,515,723,512,517,516,3,514,520] a]
 |[]=>[]
def zc(s:String)(_:String.ofList l=s:=by exact rfl){y:Es}(_:zs (l.map zi)=y:=by conv=>{lhs;reduce}):Es:=y
def zp:List Nat->List (Nat×Nat)
 |a::b::t=>(a,b)::zp t
 |_=>[]
def zh(n:Nat):Nat->List α->List (List α)
 |0,_=>[]
 |f+1,l=>l.take n::zh n f (l.drop n)
def zf(e:α){x:α}(_:e=x:=by conv=>{lhs;reduce}):α:=x
def zR:List (List (List (Nat×Nat))):=zf (zh 18 13 (zh 18 222 (zp (zc "B0B0B2B4JNJN0B50B8B0B7JODrJPJPJODiB:JT?DrJODjB2B=B2B>0B936JW0?DqJcJcB2B@JRJUB2BBJa8AHiJY0JZB6JXB60B;JSB5HkHlHtHu4<HvHw7JiB?B6B:0J_B9JpJr@:JX?JQCAB7B5Jq9HqHrHyHzHsJwHmHnJZ?JODs?DpJdJdK1K1JyDsJ^J^HxJ+0Jb5JoB;CBJ&JxJjBCB2BI?Dt0JuK8J.JfJSJRJSK4K=0BC0JtB2B<H*H+JhK:JQC?0DjBDBKHpJ*I4I5JQC@JWK0BDBMKLI6DiDiJODtH.H~B6Jh>=I0I1I8I9JPJ%K6H%KFH,B<DiDjDj?DuJfKXKPI70BPKWI:B2BOJsK?JeJeJPJN?DoJODl0BQBEBEK2K2K3K3KjKjKR0B2BNJRJnJjJbKBKaKlJlKZKSJRBGKNKqJQCFJRKiFIDiG1DkJnC@KCDkB2BRB?JlJODkI2I3DiK_KeI;B;CDHoKKH&KwJ*J,00B7JtK7K&KOBTKUHfK%K+JsJoJ,K6JgDnK;DjKuKT5K,J_B8LB5LCLEJNJSJvB9JQCCB;CEJQCJBJDrKDJeL=LFEWEBK9>B<DjB<DkJk2BXBAJfJnB^BLB_BaKVL1JbK*J%C?687JzHiKAL>JvEbFGKyLcL7JgLaLdLfLe203JQLQBAF9F,5HkHoJk2KbK@LYKz;L:KGDlKQK>LOB6J~JRBFKfDtBLL4LvL284LsJ^JmCB?DnL6KVCHLiI<I=LzLg0LGG3DjJODqJQCIB2BbDoHr<9JmCDKcL3KnKnKoKoKpKpL&L&JODoK^BA0BSHfJsL9JeJkJk?E7B2BdK4B6DiJQLrEIJODuJ.HoB<DlDjK.K;DkKCDjKKJ,KdCNLbB5B0BFB0BGJmCEBWKJHsJzJgDiKYH&?E.>KtHpHqJODpJgDjL.M40K.BHDiLnCGLxK50JYI>I?LLBAJUB7KvJYB9LPG2DlHfJkI2K5JQCMK7MkLDBF3822JmCKJODnL;B<B7Ju34BVDiMxLTBUBUK<JeLRBAL,MfDpJgEMM+K?HoJQCPK>M,JmCO0BZJRJNJYJYB2BJL;K^0LwKHMXKkKsBEB9B5C@BHDjJwKYK@K~KN0EoDoB2LL"++zc "?EGC?=HsJpKtN@NCNE?DvMOCHB2BtK5J^K@K9KsC?MBB6F1N9Jh4KABCKmKmN0NNNRCC0JQ?DwJbM0KgLoNKHfNWMM86KfDu0KJBHDmJ%L+J~E&B5C?IBICJQCRJRMQLuM@0Be8@I3KcJ~E7LUCGIEIFIGIHLAJlNnNoB63K_KQL<JsKOBg?DmI@IAJULZJvN:K;DlK@LJKtLkMUMUNwNeB?MDDjKQKdCTLhK~B6JaJODmK8HmKsCLL9K<?F=G0DmJQCUL~LJMbK^E*LtE+B6HzL@H,L@JvLPJ+H%KH4LtO;NcOBO=HzO>H,OCO<JgDkK9=M>MJKBB6B;CK4JgJ_JbM?O3?EHBSME3KxJmCSKSLXL_AM8M8M9M9M:M:M;M;NGNUNvNvO5NhC=B<J_BELUCCMVKF?DxDrDiKM<MyDiN+IDOIMaB2BuBGBF7AJQCLJeK<JiM.K7M0M5JxMZJkN6MFNqIIOQO^0BEB2Bv?F5BcDm<4HiJzLVN;M>MEM_ODM_OEDmJlHpKMHwLSK97Kk7LDMPLWNAMANJOFLIO~HqB2BwDiDkDsBAHfOb7P6HlL_HrN%HxL_H%K5H&I1H*LIH+MTH,NSH.N>H~MTI0MoI3M7JNBFJTLmJ^PHK0P5K5M7KGLoKYMiKeNyKgMcKgOpKhM%KkNXL5MiL:OoL?MeLHMjLHNVLRMSLmMdLmMmLqP;LqPTL*MeL*PYM<PAMGPbMcPOMdPWMlP@MlPhMmNkN=PENYPgNfP<O0PLOfPaOjLpOrI2OwLpP2PnP7PVP8LpP9DkP=PuP>PtP?PBPCPDPFPGPNPQPPMjPRPmPUPjP^PcP_PdPePkPfPoPiL?PlQ1PpPxPyPzP%P&P*P.P,P~Q0Q8Q2Q9Q4P+Q5Q6Q7Q<Q:Q3Q;Q?Q=Q>BHDlBSMJMhN,Q@O?B64BJP:HfKgJQL+KrDsL8BABUFlD+G.JODwJUJU2JeKH8LnNFM6=MzQLN^L2QHKbQMG9QTQW?F8BGBGF%F6I7L3KH6LXKPL~JuNgB70O:?EI?EJ?EK?EL?EM?EN?EO?EP4MKJRLGKMHiMCDtMR3M*Oh0JN?E&JQC_JnCIKTJqKdCZKrDvMIBA?QXB?Jy6M2484NLJPMvJQCYJmCQK:L<K<K<KbCbL1Kc"++zc "L5NDLyNPN8O7B2Bf?F7B:K042I:I;IPIQLW3LWM3MKJlOtIJOuMpQFLMR>IRB<DmJ_NdJfQDJnC?RDOR?DyDsQq<M1Hr2JjJuJmCXJ&@LMQIMCRLR6Hv0K~BcDkHqJQJQCdJQCeJ_OKJzHfJ%C@K7LkKIH=KuOYN8K*NBB6NbCWOMLkQvRMQ+8RhM6?F;JmCfJ~F=K>Q^L<7N3B7P1JgREIS0KyBUDjJrMVKhMrL8BeMN3MhN?N7NZNl?H;EY5@HnHoHxHyI6Q_2KDJoMHLZ9M.MYRJJ~?DlB<DoBNOeE^FDGaD,9JxHmKxH%LSH~QbJODvJTLSKRMGKfDvKhKhKwLXL0L0L3M*LUNFLZ8MvS8N_KGNjNPNuO_OTQpPSN4QSKkRfSKS6BABVDjIKILKAJuLhLwM5@MB?NuC>N*N*OALAOdRKR;0RBSQSGRCSPLTB<DnDjBfDlRNHqNIJSKy2J^KOBhK&ONL@HrL%OLO@H&RFBARmReSdSjB6NiB;CQDnOyEsE,3Jg6HfHrHsHyJzJODyKIEmKM7NtLlSpSsB7JbCGL5EGFMEuF8HwOcH%L?JYKbJzHlKIF4KIGQL?0LVJuLxT5MIBWMLOJNTCVNsSVNx3NzJlQVS+QcS,R=QsRyR&T>Kv0Q~CiRXDjJlG5EIG5EJ646HrJPB7JQCjJh<JjLJJ~E~K;O.KAL4KrDwL^JqNlB6OSI4OiKrQCJTR^Sz=HfHfT9JQCgJtQPKBQxL0JeMMHxNMTaOxMWR5I8ROS.RuH*RwLOS0MYTYHfDjMg@JgHiKxHiThHrNDH,LNI52ITIUJ_BZJx>K?L5KZH.K%SfLbL4Ll6L.SoMOTDN5DxN<BRNHRWNiF4OqRoQeN<RrTrTpTqT+CkU1TT0NQ0P00PJ0PrB8BFBHDkC?SxCCHzDlJlEJPMEUJhG<EOGiEmHAE*HKU>3ML6Hn@NLALoHi5HoJ^HsJ^H+LIH,O%H.NSH~NmI0O%I1MoI2NmI3KvI<PKI<UQI=PMJQClJST^JTQA2MoJfS1JvNVJ.L5K0LIK7U?KRSMKYKvKgL0KrDuKrDxKvP0L0NXL6UZLqUFLqUhL*UPM1MAM1QAMqN~MtMAM~UoN>UmNYQRN^PwNzT_O4TSO@UiOTRnOUOUOVOVOWOW"++zc "OXOXOZOZOzTWPJQUPKU6PXQEPXUbPrQzQnJyQoJtR<QyS2T1S4S4SETbS_M@SiM<SwUJT<TfTKUSTgUMToV<TyMHU7UTU;V:U=V@UHUwUIN=UKULUNUOURU~UWU_UXUdUYUuUcU,UjV5UkVIUlVKUnVHUrVCUsVNUxTmU+VLU.VGV0VMV1VBV7VPV=V>VAVEVFVXVOVSVQVTVUVWVVVaVYVZV^VcVbV_VdVe?Ds?F<BHDoETTLHLVj3RS49<HfHiLlHkT2HlHmINIOJsJvK>VkN5DwN.DnSRUBT3SJU4KmV3VsVfQEVnVzVtVwBHDnBfEGDjLjDkJlEZFE39:KUA4Jh0J,KYKD4KIFHKIGdL2NTLMK>M?KvMWO6N3MQV,QK0OsBJDtH,OSJODxJ_OHJhRQJxKUK7O7KrOeL7MHMPB7MbBRMwO8OgMgW5L6WFKG?F2BVDkDvLjHzMnH+MnH,2I1MnI2LNI:2JNOkKIE7LVB5LgM4LyRZLyRgMIMSNHWSNHWUNkKWNmW;OGV&OgM=O+U3O,WVPIBFQRTuQaLAR0V4R@NORdTBS=QNSXKTSqSeTUD%T&T:VuWuV*WgW@BAWNWlWPLTWQDwWWWeWjW&0BL62:>HsHtIVIWK0S:KH@KIFbL8O:N5DsNAQJOaK9OzRYR?R9SOV.SSQ,SY?TM3WYKJ0KmB6JkDmKQDvNrElWEFmF+GkXC3<6>6Hl4RG9<Hs8JYM2Ja0JuXEKxNxKxRILHB9LKIsLKItLKIuLKIvLKIwLKIxLMN1LuUVMNMwMwXZN?U@NbCcNgQwOPCGOPC^P3LZP3QwQOQOQ&B6RbBHRvKhShC=V2XBX8W3XNQdXYXeX_AB?OJBHDpDiDlH3E+HoRHH%L6JQCnJQCpJjQ*JmCqJvJbJvU8JxNtK<KdKIRtLuNxN17NpJaNr<R.I<TdW<TwW0U0X0V8MpXsDl0KX0S;?DkB;COB;CXBUDuC?MXCt3DiBADnT;GaD.326R*4LA4ML:6=R8AJ_5:HnNfHnQNHpRHHrJ,HsSBHxKbH&R4I1TeI7S<I9T@I@SDIMUvINUaIOVJIXY5JNBGJQCs2O2JYJ~JYMtJ_B5JgDmJkNJJmCmJvOHK0LSK7K*KAOK;Y=KGYRK^KJKcUgKdCo"++zc "KgL5KhN4KhOnKvS;K*SBL5TvL?YQM1WpM6R*M<YKM^YMM%N4M%R3N4R3NaMyNbChNjRZNjRgN%YyO2MAOMV9OcMHOmYGOnXjOnY%O*CaPSSCPwSDQVU:QY?R4SlR8Z:R:?RTYPRdZ?RvSLR.L,S5NsS7WHS<Y9S>T0S>T7S?WqS@Z9SASCSAY*SFLASLZKSNLMSNYxS^V?Sn2TAYlTRVxU5YUUtZEV;YVVlZSW:YBWBZHXXYJX^O9XaVRY4Z3Y>YtY?ZAYAZCYHYvYLZYYTNqYWZPYXYYY_YrYbZJYnZIYqY&YsZUYuZnYwZGYzZgZ0ZfZ2ZrZ50Z6ZtZ8ZMZ<ZlZ=ZeZ@ZbZDZaZFZsZOZZZRZqZTNyZVZhZWZdZcZvZiLlZjZkZm^1ZoYSZpZ%ZwZ+Zx^3Zy^5Z,^0Z~^2^4^7^9ZuBiDkDiMgDkKQDkMgEGL88LAH,JzIMVrJQCVJaMNJgDlJi5JtJeK:KUL=TjL>LHLKIZLKI^LKIrLXM7L^4MD3N7Q,OsNaO&UCR9^@RsZzS7TiSWSWS^^CT4MuWmY1X+^;Z&RR^BH.^EJaDi6ERS&GYKJ9W6@JQHf2HfOlJNMPJ_LwJ_NQJkRRK<WrKI^fKOBjKaB6KrDtL?R5LWWGL%=M3L@MRXmP4M3Qs^YRpQ*RtEkRzUqTNY3TkDlWM^OXA^&^:OH^UW?^tKW^.^zBHDrDmW>DnRVDoOy8K>@RG7J~HlHpHuHvJQCxJRQ~J^MrJfTJJoU^JtK<K9OLK:>K:NtKBKTKD6KdCyL8KJL8T~LRBWLtEXMNMqM^2M^XuMq_MN7XJON^vOOB6OPCaQtJnQtK+Qu?RcOdSbBASrX9TX7X@L0Yp_3^g^o0N:0SZ0UpB6KDB;CSBcDnDlMgDmQGEfKJ@O4HfN&AHlASu5N&HmSuHnN&HpHtHpUDHrN&Ht8HtHxHtTIHuUDHyTIHz2H&VDH,S~I5Y2I72JNQZJ_K9JkK0JyDtJyDuKDMUKGS%KIF:KkR%L0WyLDOkLRMFLVBCL^9L^_DLjDrM?_lMGMaMLMDMZQSM*I@N6VvN<YmO?V%OGLSPZ4QUVDQn^QR?T~RP:RPTlSbMSShO_SyKJT0WCT@OtTA_2Tca6UAa>UpaHVpXzW8aCWfaUW%M&X6^dX7StXPXlXnXpXoaIX,_k"++zc "Y7BA_OaQ_e_&_m_n_p_;_r_s_u_w_+X1a7aXaAalaRaeaVHmaZaWafaEamaq030K+0N?B5CIBG^aBHDqBRN_BVDlDjM=DlQGDqa=Ds^ZDs^~DuM=DuM&D+FSEeFO65@2=M?Hf5Hn2HoKxI02I12I42I?2JQC%JQC&JQC*JRKXJ_RqJaO8JhJqJhJ&JvBZK4NUK;DnK;DpKAJtKCDlKGKUKH<L<OlLDQZLNb:L^R2L%StMCDuMLJlMbBbMhK~MrUUMuDoOi2QCK0QJa+QQLAQuRkS@DiSZTGSkDoS*TFS*TGT8^ST;B<W9CaWALbWhSc^qO_^+_S_>b1_CDp_KQB_LB6__Yaa0bba3bqarV%azLTa~DvbNbhbYa,0E@0K<0MQB2Bx?F>B5CHB8WIBHDsCVAC^J~DiX:DkM&DxB6EETnEJTnE_FFEvB6F?b^3L@<2>T,7JQA2Hi2Hk^DHmJ~HnJzHoHpHq2Hy2HzI0H%LNH&JzH&KMH&LNH*R1H+NIH,I5H,MnH~JzH~LNH~MsI0R1I1JzI1LNI1NII22I2JzI2M~I3KMI3WRI4JzI4MsI5RlI6JzI6LNI6O+I6WtI7LNI7M~I7ccI8W^I8cLI92I9JzI9LNI:RlI;2I;O,I;WtI<LNI<coI=MfI=W^I>2I>LNI>T%I?OhIA2ID2IF2JUJ%JUR_2TiJiLlJtaFJvBEJvKmJz>J~c6KMcOKTJ&KVU2KcKeKrDyKwd4Ky^WL3L,L6I0L7K6LNWTLNcmLQMFLXKcLbb+LyMRL,WdM26MCDvMFbjNHWRNZUqN+T%ODckOEcuOcL>Omc?OqKUOvN;O+cHO+cRO,cNO,caP3R_Q_dBQbU2QdWsQdd8R1SeR7O.R7TER7U<R7V~R:O6R=aBRWb.RY3TeWcTxWTTx_%TzcET*SHT,F?W44WKMwWc^bWdcUWidgWidmWvc>WvdcWwbmWwc,W*dfW*dnX<DzXqM^YNR,^KRq^Vbv^cO9_PO9_aRr_,dUao^nb9d:b;d9b?C@bOd+brdsc1Dlc3cgc4csc:F@c@HocDdPcFcIcJdocKdRcMcPcQcVcSducTd7cWcZcXcYc^cbc_cecde0cfe5chcjcideclcncpcycqe6crdHctdTcveFcwIEcxdbczeOd2e9d<dK"++zc "d=d5d@WsdIePdJeQdOe@dQd,dSTjdWYddhd~dpeRdqe7drdjdveAd%Rqe3dte:e;e<eMe=e?e>eBeCeEeDeGeHejeIeJeKeWeLeoeNeVeXegeYeieaemedehekeqelenereteseuewepexeveyez0WJB<DpBADpBHDvBNDuBiDmC+Y^DtLjETNMFlF*3Sy668Y04Xf92>37TCHiHkHlJ.HtHqHuHwH&KFJOD&JQC.2Lh2UUJWS=JY_@J^RlJaQeJbXDJvNQJ~F<K7XDK<JqK=^rKAJbKAK~KGacKIDrKMUCKMYFKUbwKiJSK%RIK,VgL8WJL8bSL;MILD^kLHBZLKIyLWfHLhBEMDJaMRWKMrfDMyScN6N.N_apO6MWO93OANpOgX:O*CGO*CrQKa.QtRIR@JhRAJaRpBCSg_RT4KJT8NaVgK=VoKKW7XkW,dCX5fQX>bkXtc+X%f4X*K8Yef+^>FU^LJO^MJO_1T*_BN2_dTFa:DjaDa<b>=bEO1bxFNb~FFcGH*efSkf;f,fE0fJfIfXOYfcU9f&X=f*S%060R;0Z1?Dj?ET?F1B;CmB@BABFZNBHDuBIBABODtBPCZBQB6BcDlC?@CY4DigIDm^<DnQGDpRVDsWxD%B6E>FIELDqEODsEsMuEx_fEz^^FKEK6Hp:5:K>>SH=L^=TC=bP=d1HfAHfHlHfXG7a@Hk2HkXGHlN&HlYDHnHrHnMYHnXHHnYiHna^HqYDHsXHHt2I4YOI8T.I>ZBICIDIKUvILUaIMVJIVVrJQCWJRTJ2JhJYR4JfKiJhfPJiK8JjgRJwMVJz9J~gWK0b7K4KTK9TlK@XdKAXcKDHkKDgnKLUgKM5KYL1KsCIKuNGKuX<KxJSK,JlL7HxLHLPLIMqLUU:LYL*L^HiLhTVLkb5LrFWM1SnM2H,M<ZQM<^6MZX~MZZQMZ^6MpZ*MtHnMtR8MuDqM~VmN3ZLN5DvNJ^pNL5NO0NrLyO0hYO4gqOFfROkZNOmgoO*C^P4gkPIQZQUYOQYR:QabGQr2Q.>Q.HlRBV?RTfFRcSYRnS:S?MaS?g;SEh>SIO.SITESIU<SIV~SMWySg2SkgfSlTvS~hAT7YhTBYhTQDnU0LlU5h0UEHfUEHnUEHrUtZBUyUyUzUzU%U%U&U&"++zc "U*U*V6V6V9hSV;h2VRY6Vph.WO?WfZ1Wng?WngmWoX4X>hqXL4XOYEXtNOXyc2X%iJX&^8X.YEX~2Y6M@Y8gUY8gVY:Y:YghcY,iLY,iMZ4hGZ4hsZ>E,ZXOuZXRCZ_ifZ*hdZ.QB^8iY^=_j^_BF^wfC_AW~_Jbi_oi@_tiA_xiBa?M5aPh_aTgiakiobXh~dLgee~Y@f7_*fv_0fwhkg<S&gGi0gHg.gjUAgrh%gvgxgwhlgy6gzh&g%h+g~d?h1h*h3j;h4h5h9hJh;9h@ichBj:hHiChQbshTj>hahohfi<hhN~hpi*hwj2hyhMi1iOi6jKi8_Gi:imi;iyiEiDiFjPiGjQiHjRiIjSiKj<iPjHiQiziWisiXj9iaROibh=idjYihjVili_i%LHj=i>j@jTjBi?jDjfjEi.jFjOjIjCjLjjjUjdjWhFj_jgjag&jijn0Q*?Dz?E~B;D3BHDyBJDvBJDwBODuCcd.DmMFDmMgDnDnDoP4DoRVDqfxDqgQDrLjDvB6DwB6E?B6EYFCF8M=FDS&G4ELG6EE6Jz4JQ<@9@@9@>:Kx:L<:Nt:d0>:=JQHf4HfJ&72AhE5HoHmHoHrMnHx2I0X1JQD02KGJ_KmJ_g5JkK5Js5JvbaJzHxJ~E*J~k2K0MaK<LMK>gbKATVKDQPKMHsKmBEKqK.KsC@KxZLK~3LHOHLVK9L+CMM7I<MqO8MsHqMsOLMuDmMuDnMuDrM&j,M~THNTD4NaT6Nib0O9W1OAJjOaNdOqf:OxVhPZJ&PZR2QKDnR0THRUJeRUMtRcdwS_BFT?dMTP^iV8a8WGasXvkLYfOLZ_l2^Afe^X^X^uL^^*@_=Mq_QjGadDsayZ.fBjef^Vvg4W?gSl3gYj.ieBGinl>jbbMjpkfjtM3jvBAj&krj~DskdO1kqN~kyMWk*Qyk.?l0l1lCl=0B40Dl0Ki0M30MP0TJ?F9B<DqBHDwBJDuBODvBQJlBWOsBcDqBkB4BmC@CHk9C~5Dl<DmMuDqRsDtjxDulaDwNrDxUfD&Q%D*SmE2aLE9kvEif~F6lYF9LjFPltF,;G4;G;EGG;;GB;GI;GP;GW;HAMuHBBHHDKJ3M63M^6A6Ji8^I464Jz<Mn<R~@Xf:2"++zc ":a;>bF=R^=c8HfRiHfRjHfhU5Ri5Rj5TQHkHoHkSTHkb6HlU^Hl^xHm2HmK5HmKsHmW=HmlSHnRiHnRjHpN1Hr8HrRiHrRjHsRaHtKMHuHrHuJrHvYIHwabHxm^HySgHzH%IrXRIsXSItXTIuXUIvXVIwXWJQC^JQCcJQCrJQD1JRMPJ_aaJfLGJh>Jk_bJrHxJrKHJsK8Jv^HJ%lgJ*kkJ.MsJ~F1K7k6K;DqK>F*KD;;Gb;lx;ly;l%;l&;l*;l+;l,KHJOKHagKHahKHaiKIDlKIF1KIN.KIljKMHwKMmRKOBlKdD7KxbdKzIxKzmcKzmdKzmeKzmfKzmgKzmhL0fOLGlHLIVmLJZ^LJdlLKIqLMLMLSJ^LT^?L^7LhnILiCILjDqLln5LyQrL%8M3VoM3dkM=DpMCDxMMYgMRbAMTmWMUKGM^MrMpM@MpUVMpanMsf<Msf?MtAMtR%M~3M~k=N3MPN7kBN9D2NM>NMANOW+NaO&NpNON.l.N.l~O9XFOJKGOOQfORmqObR+OvJtOx_WP1M^P1OGPZX6QBWZQDncQQiTQYRkQgQhQiQjQkQlQ&fNRAbCRsgaR+n6S5BASHRbSSNZSlKZSnJkSvn7S*lwTcnkT*fjUGnhV2lnViWzVlf%W7n>W8l@W9j0X2o8X3_4X?^HXKmZXKm_XPoEXQBZXRPqXRPsXSPqXSPsXTPqXTPsXUPqXUPsXVPqXVPsXWPqXWPsXgJnXgobXka9Xng@XoXlXyg_Y;gDYNHxYcf1YeaO^>Fq^FTZ^NPq^NPs^eM5^lNZ^sDo^w3^%k1_<ni_XQx_cBEaKM^aLlraYlpa_oOanngb@DobQdDb_lJbyo9c0_5c&gsd>oddAd&dx6d*kje4W>e8n=e+BAe,kpf2buf3_:f>o%fWm=fYXMfqozgBo7gJaSg^llgl:h:S1hNoehig:huX3iRY+ippAjh_0k4lvkIRakTk,kURekoLrl4o&lPD*lRi+lTm0l_BAlfmOlhosloDylqD+lsXpm?3m@mAmCmDmEpVmFp<mHkxmIHsmJkMmLMrmMpUmPmQmTmUman_msajmwmVmxpKnBPvnCPvnDPvnEPvnFPvnGPvnHSinX0nbHunfmnnmN~nopwn&pLn+F0oDRaoGp1oMLMogd;ouRaoypXo.pY"++zc "p07p4Mqp6cBp;oNp>pWp?_?pDU@pJF:pZp%p^plpanypgpkphp,pypi0B:0Bn0Je0L^?D&?E+B68B7SZB8^kB:KqBG_.BNDsBVDmC=MIC@LFCHHkCz:C,W,D5J~DleeDmi=DoBcDpdXDr^VDsTQDtM&DwLjDyEAE1_ZEQSUE+Z;E,F>E,MWF3FBFWF9GBF0H<EZ3B23A3K>3Ly3MR6RS8Jq8J&8Mw4Kx4Np4O24f.<6<K><KD9MK9Qr@L0:T,>W==Qc7OG7SH7m4ApE5Hn52HkNIHlKxHlMHHmKHHmKkHoHqHqMnHrH+HrmjHsHrHvc*HvebHxJzHxLNHxh6HxjXHyR1HzKMHzNIHzXvH%JzH%OiH%c*H&ecH*2H.2H~kJI0JzI1RlI2TUI2TzI3eTI3rNI4LgI5LNI7I8I=2IXIYIZI^I_IaIbIcJOD%JQCuJQD8JRWIJSK9JSXq2J~2KH2R22R,2SvJYJQJ^JQJ_n.JaKDJeWDJfocJjJWJlqoJqW1Js^JJxbLJzHmJ*HsJ~F7K9HlK<WDK>qdKCDnKD8KGL<KIF@KIFRKMHnKT4KTX;KaNGKiSfKrDzKrD%KxO^L7L>L7eSLITHLhi&LrFrLygALzpfL~_gM2HoM2H+M2r@MOqLMVKZMWdaMYKHMnr9MpbcMqYoMs6Ms4Msr8Mvk7M&DsM&DtM~rKN0F9N5DuN7k<N<BbNTqPNaSaN.DrO1AOaN;Oir<OvNdOygCO&YFPZrqPwBAQCMaQJDiQJDjQN0QtQwQzqRQzqVR<K7RNe_RTWCRbKJRbU9RueZRx<RzhRR+HpR+MYS3E~S3F<S5MSSFftSOp9STffSorSSqr1SvHtSwrBS%JTT8N6TNpzTnrRTwc5TxsiTzU3Tzr>T%rQT&hjU2r=UeD~VhO6V+LVW0WHW7aNWAeTWDq%WLa%X2MKX4QBX?BZXF2XveZY2s@Y7sRYcqMZ;F9Z>E+^Dqz^Jb8^JrI^Kb*^RlO^TJl^Wrr^bsM^clQ^u^P^,gM^,gP_5Ds_6aJ_:E@_<n<_IlE_Jfh_QnJ_WE*a2O1aGRSaYDxauR&awjyb<3b=sFbKLAbWebbWecbubeb%N2c5s6cCoicCtHdFrEdFtNdVe%dVe&dXthdifUdzlkdzqT"++zc "eUe%eUe&e^g,e^tme_s~eeqQf@tqfA0fSrpfVsyfZhmf_t,foJgfr8fst>g=sIgEslhK8k3t;kDW2kKs5k&svlBN2lioImrtynY0nsgLntLin~u;o>t4owu:o*trp:^epusWqFbcqUs.qWDuqXDxqYs,q,Vyq.Hkr7r?r;tDrArCrFrHrGJvrJuArLrMrOrPrUtBrVrWrXrYrgtprhtxrxras1tMs?HwsDuEsgDtsmuNswu7sxuUs%uPt0tot1uRt2uJt3T:t8eSt:tttAuQtGFAtIuctJuMtVu_tguYtkuCtlt~tnu3tuuhtvuptwuvtzuut%uGt&uxt+X;u6u^u<umuOuyuSuTuVuWuXuwuau+ueu8ufu%ugu.uiv2ulusuov1urv7utv8uzv6u*v9u,v4v0v3v:v=v<v5v>v?0BA0N<0WI0hb0ir?FB?opB5CJB5CYB66B6>B6JYB6J^B6JqB6K5B6KGB6QPB6_NB7K9B7L4BAFABFWXBFWkBF_.BGWXBGWkBW^SBeb0ByLKCGsqCHm8CWm7Che8Cvq2C,3D;J~Dii7DkQGDlRVDlSODmsYDnMFDnP4DnWxDnf0DoKQDojoDpd6Dpg1DpjoDqigDqs2DrNsDrQ%DriSDrjmDrubDsLjDsjmDuB6DuNsDwDmDxJ^DxLrDxjwD~KzE7KzE>_7E?KzECNMEGKzEGl5EHM=EILjEOKzEP^^ESM=ETLjEXa4EnE@F2daFBQ%FCLjFCMWFOEAFYKJFYkmF_juFfFsFgFuFiF%FjFvG:EFG=EhGxD%H:wA3M53NI3i76W38K08KA8qk<8<MG<R09Jz9X=9_8@Kk@K,@N3@f.@lL:L^:L%:N2:TC:qu>2>KC>Nh>Nz>RX>Ri>Rj=2=N2=O4=_~=j^HfHiHfKxHfOmHfj^747Hi7T?7VyAN&Aj15jZ5m35s3HkHnHkL%HkjZHkq=HlRiHlRjHl_bHlb2HmJfHoMYHowVHpN&HpO4HphZHpj3Hpk@Hqb2Hqj3Hqk_HrHvHrWMHrghHsKMHsTRHsc~Htc~HwHuHwRTHwYIHwghHxabHyhPHyxSHzdyH%H*H%g=H&bUH+hZH~2I6OSI=mNI?r,ISB2IdIeIfIgIhIiIjIkIlImInIo"++zc "IpIqIrIsItIuIvIwIxIyIzI%I&I*I+I,I.I~J0J1J2J3J4J5J6J7J8J9J:J;J<J=J>J?J@JAJBJCJDJEJFJGJHJIJOEIJOEWJQCaJUrb2K<2Kz2RH2Ya2mlJWMGJYK<JYKMJYWnJ^KhJbTGJeM<JeMZJiN8JjJtJjTVJkiUJpY.JpY~JuiVJv_TJyQXJz4J*KDJ~FAJ~FBJ~c7J~w8K0yBK7TFK7wKK7wNK;DoKAY<KBO1KBOdKBXhKCDmKCDoKD@KDxNKGS~KHJYKIEIKIgdKJx4KKNDKLOlKM6KMxZKSg6K^L;KaOYKhJqKki^Kko?KlB6KvhbKxL9K%rcK,MDL0OAL2BAL4=L9M%L9ykL<e1LHU8LHohLHrwLIYCLIk:LJXmLQMSLSy>LVJbLVKyLVL4L^J&L^xPLlW_LlWaLxdyLyMsL%6L%NeL%yhM1KzM1LMM24M3S9M3_^M<i^M<jkM?r+M@fMMXhWMYY.MYY~Maj7MqQyMsr6Msw,MtRUMtjkMuDpMwJQM&wDN0E~N>heNBOONBQfNBQgNBQhNBQiNBQjNBQkNBQlNBQmNM7NZYfN_u4Nd6NgYZNhkwNjgANpz3O0K<O2R%O2nOO2sNO4kVO4yIO5fMOARAOIa?ONT1ONzQOOQgOOQhOOQiOOQjOOQkOOQlOOQmOR9OR>OSKcOjKzOlzJOpzqOry8O&3O&8O*D<PIBGPIOkPIhrQBfhQCfAQIvdQQMKQQNzQQY0QYO6Q^k>QfQgQfQhQfQiQfQjQfQkQfQlQfQmQgQiQgQjQgQkQgQlQgQmQhQiQhQjQhQkQhQlQhQmQiQkQiQlQiQmQjQkQjQlQjQmQkQmQlQmQn_FQoK9QpN1QpkYQuVhQulNQ%tSQ.HfQ.AQ.5Q.HnQ.HpQ.HrR0zHR<n%R@W4R@dkRFlcRGahRPf6RRCwRU4RYYCR_6R_xbRaj4Raj8Rkb&Rm%tRpTVRsukRwqaRx9RyqfRzl;R%k5R+y4R,Y.R,Y~R~MUR~kXS0zlSJDoSaTkSa^=SgsjSrgCSvW_SvWaSvyZSxKzSyViT2Z7T3KJT7h^T<zfTOJaTPgtTczhTte1Ttf5T.heUAkRUeviUev*UfDoUfvtV4wyVqY.VqY~VykeW6WrWAkiWClGWXBFWXBGWZkhWkBFWkBGWo0Wot.Wph^W%lI"++zc "W+N;X2y:X7m9XIj5XIzDXOi,XcJgXdwrXiDsXwq*XxJ^XzHpX&jlX.i,YIyEYZOkYZhrYizpY+ScZ7LlZ;F@Z^dl^Tr~^_Ok^jKx^yW2_9ag_9ai_9aj_=zN_?y;_F_*_NJj_Rz@_UCL_f&l_hLW_o%__q&x_t%c_vxQ_vxU_x%e_y&y_z&z_~shaGwSaM&CaNvnaPpIaTxCa^v,a_*5akjlauwRavz_aygEa%j%a*sKb8rDbAJabHHfbHwxbIfybzB7b&?c0p5c8igcAzIc%qOc&xBd3xDdEDrddhVdiXidxSud&*He2Ufe4%^fKO6fVn,fgxXfn*Zg0&Ig8oLgNLugTWogcj7gdw2gu&bg*%kg+&ah8J^h<iZhLqBhONOhXpNhg*phv^ahxsBhz%ohz*Ui9yNiNwFiVzkiZjAija8ijbMirfGixb_j?OMj?*9jA*yjMjMjNkSjcuFjcy<jrOYjz*<k8_8kGJgkay+kbJqklw:kzf5l7x_l9lAlKsLlM<lu*slzxam2rym<XbmBXbmX*@mzR2nKq1nNojnPpQnQXbnZnTnj&cnpc=nqJ~n*tjo0CIo1N=o2T=oxg>o~tipBXbpF*dpP*Spc+Kpsx8q0*Gq8iuq9j6q;ivq<iwq>t*q_+?qi+@qqJhqrb<qv9q+fUr3xArZ0rkv@rnCJro+jsCj5sf&Hso_Hst*csz%*t9+4t=^rtU&~tY_HtaWbu5XLu9s*uqL%u~xdvDxVvI&JvQMZvS+AvTwmvUzOvbyove&ivhEGvjDlvsvvvu*qvw,4vxv%vyb,vzDsv&*?w1ybw3+~w;w<w>*~w?w@wHzBwL*+wW*Jw^yPw_wcwa@wd&^whwpwj,FwswtwwxFw&+uw*x7x0q~x2*>x3%ax5X2x6Hox9x:x<%bx=y1x@xHxGz:xJ%dxKHtxT^GxWygxY,Zxexfxgxhxixjxkxlxmxnxoxpxqxrxsxtxuxvxwxxxyxzx%x&x*x+x,JLy70y?hWyCo@yDivyFLlyO+2y^+ryc,;yid>yl&oyvJqy*&;z4,oz5j4z6+&z9,szEo:zFj6zG&FzKzizLzAzj+Xzo*Yz*%rz+&4%5,.%6,D%TQm%U,Y%lKD%q,*%uMW%w+k%xe2%z,t%%n?%+pj%,iw&0xM&6+n&7j8&8+*&=*=&DiU&E,J&GJi&KnU&Liu&S+5&X.F"++zc "&Y,<&_,H&gTZ&jXQ&,.M*A.Q*B,T*C,C*DXi*FWb*O,6*P%s*Q+d*R,V*_.<*as>*gwU*hwJ*v*.*x,K*,,A+0jN+1.S+9,>+;ye+<QB+D*4+H.N+VkH+W&k+Ygp+bgc+i.E+q,7+%,_+,,B+..e,0,&,5.c,:.O,=EJ,?EU,@,u,GkP,I.3,L.H,N.B,R.Y,a,b,c,d,e,f,g,h,i,j,k,l,w.w,~.R.1~7.6Gw.:.h.>&O.THr.U.f.X.y.Z~:.^.g.mwE.r...t~0.u~>.v*I.&.x.,~B~1~2~3~4~5,m~6&P~C~H~D~G~I~J~L~N"))))
abbrev ZZ:=List Z->List Z
def zo:List (List ZZ):=[[fun| .o a::s=> .o (none::a)::s|s=>s,
 fun s=> .l []::s,
 fun| .v a:: .l b::s=> .l (a::b)::s|s=>s,
 fun| .n a:: .q b::s=> .q (a::b)::s|s=>s,
 fun| .n a::s=> .v (.int .i64 (iN a))::s|s=>s,
 fun| .k a:: .l b:: .t c::s=> .t (.op a b c)::s|s=>s,
 fun s=> .q []::s,
 fun s=> .o []::s],
 [fun| .o a:: .t b:: .d c::s=> .d ((a,b)::c)::s|s=>s,
  fun s=> .d []::s,
  fun| .l a:: .n b:: .n c:: .l d:: .d e::s=> .t (kal a b c d e)::s|s=>s,
  fun| .k a:: .l b:: .t c:: .t d::s=> .t (.br a b c d)::s|s=>s,
  fun| .n a::s=> .v (cQ a)::s|s=>s,
  fun| .q a::s=> .v (.string ⟨⟨a.map bN⟩⟩)::s|s=>s,
  fun s=> .v (.slice none 0 0)::s,
  fun| .q a:: .l b::s=> .t (.ret a b b)::s|s=>s],
 [fun s=> .v v::s,
  fun| .n a:: .v b:: .e c::s=> .e ((a,b)::c)::s|s=>s,
  fun| .n a::s=> .v (.int .u8 (iN a))::s|s=>s,
  fun| .n a:: .q b:: .l c::s=> .t (.jump a 0 b c c)::s|s=>s,
  fun| .b a:: .h b::s=> .h (a::b)::s|s=>s,
  fun s=> .t .stop::s,
  fun| .o a::s=> .o (some v::a)::s|s=>s,
  fun| .o a::s=> .o (some u::a)::s|s=>s],
 [fun s=> .h []::s,
  fun s=> .v u::s,
  fun| .n a::s=> .v (.pointer (some ⟨a,0,none⟩))::s|s=>s,
  fun| .l a:: .n b:: .n c::s=> .b ⟨.cells a,b,true,false,c⟩::s|s=>s,
  fun| .t a:: .f b::s=> .f (a::b)::s|s=>s,
  fun| .a a:: .n b:: .n c:: .n d:: .n e::s=> .b ⟨a,b,Nat.beq c 1,Nat.beq d 1,e⟩::s|s=>s,
  fun| .n a:: .n b::s=> .v (.iface a (cQ b))::s|s=>s,
  fun| .n a:: .n b:: .n c:: .n d::s=> .v (.slice (some ⟨a,b,none⟩) c d)::s|s=>s],
 [fun| .k a:: .l b:: .o c:: .t d:: .t e::s=> .t (.aQ a b c d e)::s|s=>s,
  fun| .q a:: .l b:: .l c::s=> .t (.ret a b c)::s|s=>s,
  fun| .l a::s=> .v (.tuple ⟨a⟩)::s|s=>s,
  fun| .n a:: .l b:: .t c::s=> .t (.note ⟨.own a,b,J⟩ c)::s|s=>s,
  fun| .v a::s=> .a (.own a)::s|s=>s,
  fun| .n a:: .n b::s=> .n (a*300+b)::s|s=>s,
  fun| .n a:: .m b:: .n c:: .g d::s=> .g ((a,b,c)::d)::s|s=>s,
  fun s=> .e []::s],
 [fun| .e a:: .h b::s=> .m ⟨a,b⟩::s|s=>s,
  fun| .n a:: .n b:: .n c:: .r d:: .s e:: .n f:: .g g:: .f h::s=> .x ⟨a,b,c,d,e,f,g,h⟩::s|s=>s,
  fun s=> .f []::s,
  fun s=> .g []::s,
  fun s=> .r []::s,
  fun| .l a:: .h b:: .n c:: .v d:: .h e::s=> .s ⟨a,b,c,d,e⟩::s|s=>s,
  fun| .l a::s=> .v (.agg ⟨a⟩)::s|s=>s,
  fun| .n a:: .r b::s=> .r (.tmp a::b)::s|s=>s],
 [fun| .n a::s=> .v (.map (some a))::s|s=>s,
  fun| .n a:: .n b:: .l c:: .d d::s=> .t (Dn a b c d)::s|s=>s,
  fun| .n a:: .l b:: .l c::s=> .v (.func (.func a) ⟨b⟩ ⟨c⟩)::s|s=>s,
  fun| .i a:: .v b::s=> .a (.jC a b)::s|s=>s,
  fun| .i a:: .v b::s=> .a (.rk a b)::s|s=>s,
  fun| .n a:: .n b:: .r c::s=> .r (.cell a b::c)::s|s=>s,
  fun| .i a:: .v b::s=> .a (.gA a b none)::s|s=>s,
  fun| .v a:: .o b::s=> .o (some a::b)::s|s=>s],
 [fun| .n a:: .v b:: .v c:: .l d::s=> .a (.pG a b c d)::s|s=>s,
  fun| .k a:: .l b:: .v c:: .t d:: .t e::s=> .t (.sw a b c d e)::s|s=>s,
  fun| .n a:: .q b:: .l c:: .l d::s=> .t (.jump a 0 b c d)::s|s=>s,
  fun| .v a::s=> .a (.maps a)::s|s=>s,
  fun| .n a:: .n b:: .n c:: .n d:: .n e:: .q f:: .l g:: .l h:: .q i:: .l j:: .l k::s=> .t (.pick a b c d e f g h i j k)::s|s=>s,
  fun| .t a::s=> .t (lN a)::s|s=>s,
  fun s=> .t .stop::s,
  fun s=> .t .stop::s]]
def zw(f:α->Z)(l:List α):List ZZ:=l.map fun a s=>f a::s
def zq:List (List ZZ):=zo++zh 8 19 (zw .v [.pointer none,.int .u64 (iN 8),.int .u64 (iN 16),.int .u64 (iN 24),.int .i64 (iM 1),.int .u64 (iN 256),.int .u64 (iN 1),.int .i64 (iN 9223372036854775807),.int .u64 (iN 3),.int .u64 (iN 64),.int .u64 (iN 65536),.int .i64 (iM 9223372036854775808),.int .i64 (iN 4294967290),.int .u32 (iN 1013904242),.int .u32 (iN 1359893119),.int .u32 (iN 1541459225),.int .u32 (iN 1779033703),.int .u32 (iN 2600822924),.int .u32 (iN 2773480762),.int .u32 (iN 3144134277),.int .u32 (iN 528734635),.int .u64 (iN 0),.int .u64 (iN 13),.int .u64 (iN 17),.int .u64 (iN 32),.int .u64 (iN 4294967296),.int .u64 (iN 7)]++zw .i [[.u8,.i64,.i64],[.u8,.i64,.i64,.u8,.i64,.i64]]++zw .k [.bin .add (nN 0),.sj,.ld,.bin .eql (nN 0),.tY (nN 1),.bin .lss (nN 0),.iO,.kS .u8,.dB (nN 4) (nN 1),.Gm,.bin .sub (nN 0),.bin .shr (nN 0),.bin .geq (nN 0),.bin .add (nN 3),.sB (nN 0),.pD (nN 0) (nN 3) true,.bin .gtr (nN 0),.tY (nN 3),.bin .eql (nN 2),.uu (nN 1) (nN 0) (nN 1) false,.bin .eql (nN 3),.wa (nN 3),.kj (nN 0),.Hb (nN 0),.sB (nN 3),.bin .neq (nN 0),.tY (nN 4),.wa (nN 4),.dB (nN 1) (nN 1),.bin .quo (nN 0),.dB (nN 3) (nN 1),.dB (nN 4) (nN 2),.sB (nN 1),.app (nN 1) (nN 16),.pD (nN 0) (nN 1) false,.AV false,.kS .i64,.sB (nN 2),.dB (nN 1) (nN 0),.app (nN 4) (nN 56),.sB (nN 37),.app (nN 4) (nN 32),.bin .leq (nN 0),.bin .rem (nN 0),.wa (nN 2),.app (nN 1) (nN 24),.bin .neq (nN 3),.app (nN 1) (nN 1),.app (nN 3) (nN 24),.uu (nN 6) (nN 0) (nN 6) true,.GX,.sB (nN 4),.sB (nN 5),.tY (nN 6),.wa (nN 1),.u5 [.u8,.i64,.i64],.bin .mul (nN 0),.tY (nN 2),.app (nN 3) (nN 64),.dB (nN 3) (nN 0),.pR (nN 1),.DH,.tI [.u8,.i64,.i64],.mx,.app (nN 3) (nN 32),.pR (nN 2),.te [.u8,.i64,.i64] false,.dB (nN 1) (nN 5),.dB (nN 1) (nN 3),.dB (nN 2) (nN 1),.wa (nN 6),.app (nN 2) (nN 24),.bin .shl (nN 0),.kS .u64,.GM,.dB (nN 1) (nN 8),.dB (nN 6) (nN 1),.u4,.pR (nN 3),.app (nN 1) (nN 8),.app (nN 3) (nN 40),.bin .xor (nN 0),.dB (nN 1) (nN 2),.dB (nN 1) (nN 7),.dB (nN 3) (nN 2),.uu (nN 4) (nN 0) (nN 4) true,.ko [.u8,.i64,.i64],.n0 (nN 1) (nN 1),.kj (nN 1),.app (nN 6) (nN 112),.Cz,.zV [.u8,.i64,.i64],.Cy [.u8,.i64,.i64],.Cw [.u8,.i64,.i64],.Cv [.u8,.i64,.i64],.n0 (nN 3) (nN 64),.kj (nN 2),.C2,.app (nN 3) (nN 72),.bin .and (nN 0),.EO (nN 64),.EM,.dB (nN 1) (nN 4),.dB (nN 1) (nN 6),.dB (nN 2) (nN 0),.dB (nN 3) (nN 3),.C6,.tI [.u8,.i64,.i64,.u8,.i64,.i64],.n0 (nN 1) (nN 16),.n0 (nN 1) (nN 24),.n0 (nN 1) (nN 8),.n0 (nN 4) (nN 56),.n0 (nN 6) (nN 112),.pR (nN 4),.Dx,.strOf])
def zx:Nat->Nat->List Z->List Z
 |0,_,s=>s
 |f+1,x,s=>bif Nat.ble 654 x then(match zn (0,0) (zn [] (zn [] zR ((x - 654)/324)) ((x - 654)/18%18)) ((x - 654)%18) with|(a,b)=>zx f a (zx f b s)) else bif Nat.ble 508 x then(match s with| .l a::s=> .l (cQ (x - 508)::a)::s|s=>s) else bif Nat.ble 209 x then .n (x - 209)::s else zn id (zn [] zq (x/8)) (x%8) s
def zr:List Nat->List Z
 |[]=>[]
 |x::t=>zx 99 x (zr t)
def zF:List Z->FX
 | .x x::_=>x
 |_=>⟨0,0,0,[],⟨[],[],0,u,[]⟩,0,[],[]⟩
def zD:List Z->DT
 | .t x::_=>x
 |_=> .stop
def mkF(x:FX):FD:=bv3 body x.f x.n x.k x.rs x.sg x.m x.hs x.ds
def F1(s:String)(_:String.ofList l=s:=by exact rfl){y:Es}(_:zs (l.map zi)=y:=by conv=>{lhs;reduce}){x:FX}(_:zF (zr y)=x:=by conv=>{lhs;reduce;delta iN iM bN cQ lN nN}):FD:=mkF x
def D1(s:String)(_:String.ofList l=s:=by exact rfl){y:Es}(_:zs (l.map zi)=y:=by conv=>{lhs;reduce}){x:DT}(_:zD (zr y)=x:=by conv=>{lhs;reduce;delta iN iM bN cQ lN nN}):DT:=x
def dD(f:FD)(k:Nat):DT:=f.qP.getD k .stop
def oK:FD:=F1 "1FIE5Sr+UO&@^vO0kNLIb3R^TZc;C,@JYXwA>RU5bCHiwk"
def fd1:FD:=F1 "1G3DuDmRVP4SHX3g8X3axT6M,FAKkfOK&KG3ObKUJzHnRUHoONbD"
def fd2:FD:=F1 "1G1F8Dpf0GupFsQNON_T.oLy~K&KGMGK@yuL0L:ONJTN>JYJkHnJ^RTJ_Y;>L0N1=MtL:ONJTN>JYJkHnJ^RTJ_yuO2.4O2L%gt.4~8pI~8jh^:yuO2.4O2L%gt.4~8pI~8jh^:B9BZ"
def T3:FD:=F1 "1G2D%Sr+Ut<DnqIDjBADok%X3L;LQXAGuBHDtg7yGvKJ^kNN783YiR2fFXckRTK6HsbZa2NrJp_AJ_lbscR2gFR2N2"
def fd4:FD:=F1 "1G0F1Dpf0GupFsQNON_T.oLy~K&KGK0NKwuL:ONL0LUC?L0HnRUP0J^sjJjK~MtpMSgONN1>JjY;=O2k,pMfvL0N1c<zPpsAq=~KlG~KlGL0N1c<zPpsAq=~KlG~KjpoQ"
def fd5:FD:=F1 "1FJGcDqBiDoE,P4KUSHX3sQbCN_X*X3b,LVLPL0WNMcM?MipMJkMdS2MepMJkHrK5S2J_LPKkN1W,YiKG2_@LYS2LnCbM?ToKvL0o?LvPwK5Tg0L0o?H+K5TgO?O2N1W,YiKGMcW;ymMdS20ymHrK5S2J_LP.0bs.0bsO2N1W,YiKGMcW;ymMdS20ymHrK5S2J_LP.0bs.0arVfQ@bD"
def TZ:FD:=F1 "1EoE?_7+Ut<DnqIDjMSm5X3L;LQvrE,b,g7yGvKJ^KG&Z>N1^iN1wuL:m5QNNK7S=KvscOogFOos=KtFJDnJiK?Hp73h:B7OPD=J*NDHvJQDJ6H,MLa2NrH.S~Jvlbscm5qA^IKvscm5qA^IN2"
def EK:FD:=F1 "1EMD,&5WhV.DnBNDrDkBADoT8L;LRsTNag7Q&O1J^SSm6n4EG4Kz<JQDhW1ht@RX8:SXKaO1KUynKrDrDk08N2"
def fd8:FD:=F1 "1ELDsvmz1rl3_GN2"
def TY:FD:=F1 "1ENEIj+pG^,qIY@Dmy,qnr+fiDlVig7yGvM2NON76KkOfM66^hC&qtMnkAXw=omHfhtc;D@qhWma2B6UGqnz8LhXdriD@3:Wma2B6KUqnKM9M66:b=96Mn>Jz=XwHfom7htAJQD@3HiWma2B6LlqnWm^Q>qnynsbasN2"
def Ss:FD:=F1 "1EOET_7+UWLDnqIY@.WT.X3N6LrFwgOO&>MLyGvMKUkN^Rb=THYoAQtJ%CCkBJzHkLIHlm7HmhIkYHoJOE?KsC,r0HpNSHrm7HssNHnfON@Oq>HnHqMG2K@_TJpHvb>3H,SXJyk0H.L^H~S~XQBElbsbT.asT.N2"
def sC:FD:=F1 "1E2GkDq^<E7fst.QBMyTk,3M=DmLjvpE>M&E?Q%E@RFMSS9KIE0KJg0UeDqK5WYhgg1_4&2,3M=DmLjvpDqjxadDrkzKIE0KJg0QzDoTQDpJ^iSbVg1zMhXaxWz^?DmM=lRe~DjBAF5M=F6M&F7Wbg0sfJ^iSMuNswIg1knhXVibt^?pQFALjFBM&FCWbg0+oiSfiwIg1knhXbVLrEsXrqJ~AFRSmFS_YFT.sfi~FBVDn~AFpSmFq_YFr.sfi~Fbt^?pQFALjFBM&FCWbg0+oiSN6DjDiDjwIg1knhXbVLrEsXrqJ~AFRSmFS_YFT.sN6DjDiDj~FBVDn~AFpSmFq_YFr.sN6DjDiDj~FO&_8gb4N9Df82<L%c9XwStDlTZ@zP:kc>JQCGN*K5q?DjK4KaXhJYLxKU*lMeHfKU*lYcCnStDlTZ@zP:kc>MLyVM5KU*lJvLwOzLI8<Jz=KHO2<LK97XwAOGL%HiM^O*D6HfK<r_>5tfKBNUr.HlS9HkO*D6HfJer_>5tfKBNUr.HlS9HkK,KBNGKaQ&O12S9>J^&Z<M68>tdm18=LIwZR^Xw7YdN1AJgMEC_wYKkHiNfHiOFXwwYKkHkNfHkP6wZrtXwHnYdTZHoZ75_;JQDA:Hq%7hLRKO1HsRQHrX?Nd8MKRcO1HiK:yf*KKaQ&OYvJJ^^iJxyf*KKaQ&OYvJJ^wuJx^RR0MwQy@TCENDrk?KAXd7Xxm3OANzKB+3NrHi85M5sV3yWRcXh63b3M5J^tK:lXLJKk4Nf4OFXw>omHiy_5N0FAHkkcHlrzKuRK+3OdXhMwL^Vq2STbLJ^kOBQLtE~Y3_S+o0bkSTsP,yHmJY^hD1,PbF.nZ7pML0y6Jo.PHnN0F=HokcHpyXpPr.MY2k@5Hm^lk<,yr5y6,PyR.nXwHfomHly_Hm.PHoKM:KMAkYHrnpc<,XL%HuLh.5KfD*W9D6M^J^Ni.bHvhDHw&hH.%Wb8%XI1+LI2.qsAI3hDI4XxH~I=&qI>g9I?jJE1hnIAW.I@,rH~g9I1jJD~hnI3W.I2J_.5HtRw.bHthDHv&hH,%Wx^%XI0+LI1.qS~I2hDI3XxH.I<&qI=g9I>jJE0hnI@W.I?,rH.g9I0jJD.hnI2W.I1JvLwQ,lO:lXLJKk4Nf4OFXw>omHiy_5N0FAHkkcHlKCDqKuRK+3OdXhMwL^Vq2STbLJ^kOBQLtE~Y3_S+o0bkSTsP,yHmJY^hD1,Pm%.nZ7pML0y6Jo.PHnN0F=HokcHpKCDrpPr.MY2k@5Hm^lk<,yr5y6,PK;Dr.nXwHfomHly_Hm.PHoKM:KMAkYHrnpc<,XL%HuLh.5KfD*W9D6M^J^Ni.bHvhDHw&hH.%Wb8%XI1+LI2.qsAI3hDI4XxH~I=&qI>g9I?jJE1hnIAW.I@,rH~g9I1jJD~hnI3W.I2J_.5HtRw.bHthDHv&hH,%Wx^%XI0+LI1.qS~I2hDI3XxH.I<&qI=g9I>jJE0hnI@W.I?,rH.g9I0jJD.hnI2W.I1bD"
def Sr:FD:=F1 "1E~E5Dn^<G6&WY+^?a&DxM=DyLjDzPZMUnOKIG6KJJ&orKIG6bVXAG6XrWZCF3fTfyQ&QFf9<L^J^Rz%fwlE~DuRoh7Xcc+TK@HlbZg:HnJ&HmOagSJ&or0RQN2"
def Lt:FD:=F1 "1ETEIj+aJMyvl+=s*vrF.sSvlDoQG+=Q%E5SmE6_YE7S5BWN6vrF.KJW2^sDsOlKIF.MuDsXAG6e.^TXhJ^JaX;_=THn?<lUJ%CF9K>ETDv=SRETDvHfkc>K,a1Q&r.>r07JxJ^Jic.lBsPR0k:QyHiTCE~DuO3h7XcsqTKHfHrt=bEd3HtW2HsOlOaOPD=:bLJQDJ3HiSXNGB65L^HkN2"
def yP:FD:=F1 "1E4FNDq^<Em&WY+Tk,3WxD,M=D.LjD~*:X>ok4UeDoK5SybVolXr&2,3WxE?M=E@LjEAs^X>ok4UeDoQzDpJ^SybVolzMs9axWz^?a&.%PZok4^sDmUeDnQzDoSykmolkns9bVLrF:Xrbt^?a&DrWxDspS.%M&EaQ%EbSmEcaMok@QzDpTQDqUfDraOkD7KIEsKJHfd6DuJ^a5zMolhgs9pNF:MuDuLrFue.qJnPa&g^.%M&EvQ%EwSmExaMok@UeDpQzDqTQDraOHfUfDtd6Dua5zMolhgs9pNF:MuDtLrFuMuDuN.F=e.BVDnnPa&g^DxpS.%M&EvQ%EwSmEx_YE&o;E*p7E+lZMSok=ubUfDuaOHid6Dws2Dxa5KJs3DyKIF=MuDsolMuDts9MuDuLrF:MuDwLrFuMuDxN.F=MuDyLrF@BHDzO&6MLyV6c9qjJ^Rzte:*LOPD6>K<r_@HfbZyUsUJ&7Yo:vCOPD6>Jer_@HfbZyUsUJ&7dN<K,KuXh<m;4W1@J^^*>L~_T_^JQDA:A%7KuRKO15RQHidN9*Ks0Xh9wn4JxJ^^*:_V=yWbEOdK=s0Q&KT=kFRQ>HfJ^OvBQQF^sDmUeDnQzDo0RQl<Hi_UCFHkZ75HmHlmlAHnKH9K;Dm_XqBQxHpJxRoHodN7rzK4yjSYQ&KT7c=JxL<AJ^tYJzHihIyXKBjryjSYQ&d3Ll2rsJ^Z7^jg9Hi%8K4s0?D%O1HkTt5pxHmL~OPCdJ^HoK>ETDvHpKA_THnJ*b>HlHsKH>yRlPD,vPHub4LlHtOaXdHlXxHkr49bFKBOYX<D*QxHob4q~N2"
def Sq:FD:=F1 "1GXE4tTWhDlnTM&Drfxz.fSr~&%Cv<h?&%CwkAK>GXDx@SRGXDx=NLHf7QaASXNrHi85JvJt6N2"
def Sp:FD:=F1 "1GYE5tTWhDla=sKfxz.z8R~2fSNr28X;&%Cv<h?&%CwkAK>GYDy@SRGYDy=KsD0Su7SXNrA8HiJvzby@<N2"
def So:FD:=F1 "1G^D,_6pG^,+JPZRQKIG6XrsZJl2c9NORzR0@8QywlG^DzRoKsD0qhQQNpHib2RQkw3y@wk"
def ak6:FD:=F1 "1GxDwgXRtE,gTR?e*M3hm<vBz1m2k^2JkJeN1StD.k^2JkJeMRJOD~3KdDF3QP2y.y..;++TN%Z++rv&rB6y2z,z,MZmy%YNMy2MZfK*wNMJYy=J~EDvLy=rv%:oBEAoBEFoBE<&AEB&AEDaSETp@E8p@ESaSESp@EUaSEUgJTcL0NlQuiiTcJYNlo3NMbzJNL96fMX+DF3QP2y.y..;++TN%Z++rv&rB6y2z,z,MZmy%YNMy2MZfK*wNMJYy=J~EDvLy=rv%:oBEAoBEFoBE<&AEB&AEDaSETp@E8p@ESaSESp@EUaSEUgJTcL0NlQuiiTcJYNlo3NMlWJNL96JeJqK<t?"
def ak5:FD:=F1 "1G_DwgXRtEVgTR?e*M3bC0@vBz1m2KDXjJeN1StDsKDXjJeMRKR3Kd^;QZ_.zmR3^_QZWXzmM%^_QZ%1zmOn^_QZWkzmKh&u_.,xR3&uWX,xM%&u%1,xOn&uWk,xKhiqqHzCR3iqvYzCM%iqBG%1zCOniqvZzCKhiqvXywR3iqvVywM%iqBF%1ywOniqvWywKhK<t?"
def Sn:FD:=F1 "1GwE3_ZGbitGbQKuIbnT6GbE5OQRf8yHOfMLNrf9Nhoq~9D*.*"
def Sm:FD:=F1 "1GwE3_ZGcitGcQKuIbnT6GcE6OQRf8yHOfMLNrf9Nhoq~9D+.*"
def Sl:FD:=F1 "1GaD~_ZGbitGbQKv+DtbnWZL+CWk88fTY1o=~9D*.*"
def Sk:FD:=F1 "1GaD~_ZGcitGcQKv+DtbnWZL+CWk88fTY1o=~9D+.*"
def Sj:FD:=F1 "1F*E=_7X9GZitGZQKa*bn^TO1o=l;K>GZE9qpmvCv,Em&D~k>mvCwm>m&D~7lLHiNhnenekP"
def Si:FD:=F1 "1F*E=_7X9F+itF+QKa*bn^TO1o=l;K>F+E7qpmvCv,Em&E0k>mvCwm>m&E07lLHiNhnenekP"
def Sh:FD:=F1 "1F*E=_7X9F~itF~QKa*bn^TO1o=l;K>F~E8qpmvCv,Em&E1k>mvCwm>m&E17lLHiNhnenekP"
def Hh:FD:=F1 "1Fyw6&VR9FzL8Qe&pFzfqW%bnSaScFzq4SbBWoFScFzq4_YE1o;E2p7E3lZBW_4sZvNSSdG4_VweKTJxfd_B+v@at:bId3W.fdNd^AO1@pxq&FzE:&vLZwqvP5zdqwQxwv"
def Hg:FD:=F1 "1Fyw6&VR9F&L8Qe&pF&fqW%bnSaScF&q4SbBWoFScF&q4_YE1o;E2p7E3lZBW_4sZvNSSdG4_VweKTJxfd_B+v@at:bId3W.fdNd^AO1@pxq&F&E;&vLZwqvP5zdqwQxwv"
def Hf:FD:=F1 "1Fyw6&VR9F.L8Qe&pF.fqW%bnSaScF.q4SbBWoFScF.q4_YE1o;E2p7E3lZBW_4sZvNSSdG4_VweKTJxfd_B+v@at:bId3W.fdNd^AO1@pxq&F.E<&vLZwqvP5zdqwQxwv"
def ak4:FD:=F1 "1GbD.tT.LwQ4zcXam>Rn7s4LDMQPIXam>Rn7s4P3YZO5mmPIO5Ts"
def ak3:FD:=F1 "1GcEIj+aJ.LwQ4zcRf=TWRPA<RRCMO%5L%HkM^QIChHlrtMsHnR~K<RRChHlrtL%Hn%~NgPIM@mmYZRf=TWRPA<RRCcO%5XzHk^nCMHlrtL%HnM^QIChHoJzHpkkR~K<RRChHoJzHpL%Hq%~mmPIM@Ts"
def ak2:FD:=F1 "1F+E<j+aJ.LG_D&qpqHBGlF&mlF&RlF&QlFhvlF%2lF&UlF&Tjba8_.BGl6&ml6&Rl6&Ql6hvl6%2l6&Ul6&TZ_Y6qHBGlD&mlD&RlD&QlDhvlD%2lD&UlD&TievXBGk~&mk~&Rk~&Qk~hvk~%2k~&Uk~&TSGOubD"
def ak1:FD:=F1 "1F~EggZaJ.LG_D&qpqHBGZ&*%&nKxvYawCwVpKMHmN1b6*%WXgNKxBG*rCvVpKMHmN1b6*%%3KxvZawCvVpKMHmN1b6%mHoJzP7N1RN*%WkgNKxvXawChaoJk*z&nKxvVawChd.Cwq2*zWXgNKxBF*rChd.vf*z%3KxvWawChd.vf%mHrJz,XN1Hu2*zWk*eqHawCcaoJkikBG&nLuvYtcCwq2ikvY*eBG*rjyvfikBG%3LuvZtcvf%mHrJz,XN1Hu2ikvZ*evXtc,1JkikBF&nLuvVtc,1^nCwHqJzHrk_N1g,ikvV*eBF*rjy,1^nCvHqJzHrk_N1g,ikBF%3LuvWtc,1^nCvHqJzHrk_N1g,%mHuJzHvn<N1kKikvWgNTs"
def Sg:FD:=F1 "1GZD%tTMyDqM=lKbnWZL+CWk88fTvNo=%f4TCG^DzOqKAY;>z<bZO1=Oag5"
def ak0:FD:=F1 "1FzD,_6u2O&6N1qrW:GXDxwXY;<JOE?W:GYDywXY;9M1W:F*D~8s4fa"
def Sf:FD:=F1 "1F&E3_6u2MytRDsM=f2DuaGXFr*V+MytQDsM=f2DuaGXFr*V+T6Q^OQ%pbR6c9MqLu%phO6c9MqoqhRh?Rn@KxSFY0>JqLusu>JqJ_JuF*E0<s4oqhRh?QQft:JqLMN2"
def aj9:FD:=F1 "1F.Dovku2T6F*E18s4Ts"
def aj8:FD:=F1 "1F,E0_6u2kg6M^RP8B2B,KDkXz8OGnWR~K<nWJj_BLMz8^FnW%~LMN2"
def DV:FD:=F1 "1FGElgZpGtRDyM=DzLjD%*:&:MytQDyM=DzLjD%*:&:SatRE5M=E6LjE7s^&:SatQE5M=E6LjE7s^SyoFtR.z+:oFtQ.z+:VibttR.zM&EUQ%EVSmEW*;_4bttQ.zM&EUQ%EVSmEW*;_4T6Q^OQ%pbR6f9qjLu%phO6f9qjoqte@bzMv%;SFY0kELusukEJ_BPCo@lWMv%;SFY0kELusukEsV<KCU<<b34W1Rzte@bzsu=J&Yo@lWsu=J&dN<KCO.<b34W1l:Qc%;MvQ^>KxSFT=JaAJ&LuSF&?AJ&MpSF&?7J&sV9rzJl9b3Jq3l:u1&?kEdN9yXJl9b3Jq3l:Qc%;R_woDpJlmpkFJ&LuR_woDqJlmpkFJ&OaJuFyE3J&Ou^ldG@_VwoDqJlmp^iJ&Ov^Hl<q&Q^w%S1bGJlbB5TtLuS1m%JlbB5Ttkw8bFJlJa=Ttl<=fr9m%JlbBHiTtsX8yRJlJa=TtN2"
def He:FD:=F1 "1FHEEj+pGTkDsM=f2Dus^&:&2E1M=E2LjE3+:oFTkE1M=E2LjE3M&E8Q%E9SmE:*;_4z~bR8c9Ja4l:L~yuJj^HN1=x.LM%9kEdN9hO9b3Jq3l:_VwoU<mp^iJ&OvJuFyE4J&Ou^lXJjGq&F,E=&vS1T=bB5Ttzd8ft=TtN2"
def aj7:FD:=F1 "1EnDx_6iRksFFF7NOKxMvFGE>NOKxMvFHE?NOyp2LuL9M<MpL9JTMpL9KkTs"
def aj6:FD:=F1 "1FODrvmT6LOJaYj8%~Ts"
def Se:FD:=F1 "1EWD&&5WhV.Dpkp&tLIMwJz<OR6^gWr@KDtj"
def Sd:FD:=F1 "1GyD&_ZGegFX4U9biGegF0p8&tb=MwYo<bzJ%CA6zy:&N>Yo<lWJ%CA6zy:&N>+N"
def Sa:FD:=F1 "1GfD&_ZG8gFX4U9biG8gF0p8&tM~MwN~<_UCM6d0zykCCc6R^OR@7&NAWrHf+N"
def aj5:FD:=F1 "1G6DqvmLVsa3NAT:6NiGyECMqYjR<KDkXTs"
def R':FD:=F1 "1G:D+vqFu*0XMWJu=U9My*E.WJkMU2KIFuNatL6MqX;+>s<93KDS9K<fmmpn*JkMUQPN2"
def Ls:FD:=F1 "1G;E6Dof0F@*0XMWJu=U9My*Ev+uHWbkQr*sS*Ev+uHQ%DzSmD%_YD&stkQr*XrtL6MqX;s7_H<at9*ok;fdJtkQJesPM~k:N~:s<f:KDL<K<oK7sX+ewk"
def R9:FD:=F1 "1G7D+vqF:*0XMWJu=U9My*E.WkQa5NatL6MqX;+>s<93KDS9K<fmmpn*kQJeN2"
def aj4:FD:=F1 "1G5w0ldP4K<KUo<g8&fy~ggKG2=KxbTK<KgLubTJeKgTs"
def bC6:FD:=F1 "1G5w0ldP4JeKUo<g8&fy~ggbJKxbTK<KgLubTJeKgTs"
def aj3:FD:=F1 "1FKE8qSj*KUo<g8&fkgm;RPwnL%>zgbB<=>k+bB<=>L%:zgKGk+KGL%:zgKGk+KGN2"
def aj2:FD:=F1 "1G4DxSrhuRbg8XiDrkg:zgNO>S9k+NO>S9N2"
def R8:FD:=F1 "1FLE<j*o<*VDqWLDqM=lKk%XiDtO&6bRXGkNRzte7bzJ%CLs+nr+E5Kxc%D2mK_8k7HtAn@.osE.oX&bTpcJ_BPCo7lWJ%CLs+nr+E5Kxc%D2mK_8k7HtAn@.osE.oX&bTpcOaK~R2N2"
def Lr:FD:=F1 "1FMEbDpP4o<*VDqWLDvM=uIk%XiDt&3DkM=a&taM=E9gQs_E:B4DkBAE;WbT.sk^GKIFrKJJifRBHDxz~bR8>kN^*7&.J~F5WOZ>F4nrOmHkTSOmHlHi+ES:MhBCDkOJ8Ja2RT^GLubTRTOaK~R2N74L0MRL04Nf4JiK>G7EH:HkW=bcT.JTHkXO.8X..8f_bdT.JTHkXO.8X..8c.B5D?b33OiHkX5T:^GNiGfEDJoYjmKK7TGT.njKx&>Lu&>OMTFT.njKx&>Lu&>bD"
def R7:FD:=F1 "1G<EoDp^yL<lVJs05o<*VDxWLDlM=gYDoWxuIM&DyWbT.sk^Ga5KJHkXHr*BHDzO&AT95AgtKGRoHi^Rs7rtK>wOHiHnW=bd.G_FH&N=*m_FH&N=h<f_sJ9Hnn@.G_FH*HuRu*m_FH*HuRuh<MpJ%qO4K>wGHtHnn@.G&**m&*h<sE.G&**m&*h<XQB5CL*^Qufk?F6sBnrdLEEB6OmHnHkOmHoLiCLHpTSq>MGJT0GgE_9Hi6^GcBT.HlJfbTrDTs"
def Hc:FD:=F1 "1FNG;DqhuRb*VDrWL_jEVM=EWLjEXk%sk7qha5e.SaipF6M=F7LjF8k%skOl3a5e.WzipDtM=DuWxF6LjF7M&k4F>Q%F?SmF@aMX*skTya5KJ4KIF=juWZCP4>N~=&.J~+cNMHfmzKGTmc%D?b6>K>G7EHHsHfW=bd_AMtw%q0x^i9gpLuq0x^i9gpf_sJHlHfn@_AMtw%.pLu.psE_AMtw%.pLu.pyybT_AOaLwdGHi&.yLWOtZTdz^dLEEB6OmHn5+Eb7c%D?YC_8wOHy5W=bdhPMt5XOl7I5H,TTOlX.l7I5H,TTOlf_sJHr5n@hPMt5XO.jX..jsEhPMt5XO.jX..jyybThPsVAyrJirf73+pHiat5bIOJ8JaLlrfOlOvK~R2l<Hl&.myQuiiTdRkNM5OmHpJ~EEB6OmHqHmOmHrTSKH3TfHtO4HsHumzX*HvKxc%D?R<9OiS@L2HmNTC^H.NilzH~mNbdsAMtS:~?U8~?B9uFsAMtS:~?U8~?B9B9U8bTsAc.Nd3MKMDL^HlJxS%N2"
def R6:FD:=F1 "1EpE=Do^<GJ*ffYu=Y+^?_jD+M=D,y,JkLSKIGJKJm5&fT6wBNOKAqGggNO^+X@LS<OQMhqGFLEMX*JfB7qGFMENS2JfR_YFfyB6_%dyX&MhqGFLEMX*JfB7qGFMENS2JfR_YFfyB6_%dyXQLw63_dFNEPm56JfLZ6LA^QHnONJ_JtW2wv"
def aj1:FD:=F1 "1HDDzvqFu_h%ie*u=kswGLyypJkMUQPLuMvwOTHW=L9S9K<nnL9S9JebD"
def aj0:FD:=F1 "1HJE:_7_h%ie*XMkswGLyyp_NLuMvwOTHW=B7hCDla3K0KDb3nnsJMwypOG2LuL9MUJTfa"
def ai9:FD:=F1 "1HLD*Sr%iQeksHDERNOW=B7Y<9^FKDK0KD2nnL9JTTs"
def ai8:FD:=F1 "1HKDyDnldBcDrBcDs%hJ&e*W4ViLVY<9%.M5W6LSN2"
def ai7:FD:=F1 "1HEE*DpOy_hBcDo%hM3RQfYW4XrT6HIEWJh@QoY<=%.KUL%4M^KDM^LSSkDmKDM^LSL%4OGKDaFSkDlKDaFL%4L@K>HJESTLN3MvUBHf<7V3^GJv_CDqV*M^V&_CDyaK:g>DzaK:g>DsaKOGg>D,aKOGg>D.aKOGg>Dp+RD%+RD&+RD*+RD+oxefoxbrV*M^V&bmV*M^V&JtM^LSTs"
def R5:FD:=F1 "1HIEC_7_hBcDo%ie*W4Y+^?DmnZgP+wSTX,EdXrMy^?DmnZgM+wSTX,EdXrsZJlMUJqh8tKwlHEEVSTRoQoY<5%.UGL%R<L%AAfmAL^mGznAL^mGL%qhfmJhmGznJhmGOaJt3LStKwlHEEVSTRoQoY<5%.UGL%R<znAL^mGznJhmGOaJtMUa0N2"
def ai6:FD:=F1 "1H:EF_7P4HlzaYmX5a<acb4K8XiDzT6HDERJhHlW=B7N,Hna4nnMvwG8r2qEggS%K0r2o1L?Luo1L?MpsJ3r2qEggS%K0r2+PLu+PMpqEggs&r2+PLu+PoQ"
def R4:FD:=F1 "1H;EBj*Vqza.VD%t<p9WbX5T.acOoXiD*O&Hma@f=2a4tKHpTCHEEVSTJ*W~QoSZggOoHwHvKxMhK9Hu3g6.dJ_ba.dMpMhK9Hu3g6.dJ_ba.dLHBEN,OqL<KgHoN2"
def ai5:FD:=F1 "1H<EBDo^yf=0x>za.VD,T6lzR+W=qETFs&b7~@X&~@LHB8JNWIbas&b7~@X&~@oQ"
def ai4:FD:=F1 "1GzFGDp^yr3MY_Iu4.VD,kgHlM^~<M^tbWMI0HrXuI1L1M7aB_~HrOGtbWMI0HrXuI1L1M7aBJ_SZggl4QD_2LuQD_2JvrwOG~<^Fg6pOkSpOy%^F~<^Fg6pOkSpOy%JgDr~<M^g6pOkSpOy%Ydtba4OGXuxI_~HlL@tba4OGXuxI_~HlJgDoK>G7EH7mNqETFs&S:~;Mp~;JvB8JNWIbas&S:~;Mp~;y%JgDpauqfa4J&R+JYRHxI_~HlJgDqtba4_OxIJ_N,a4N2"
def R3:FD:=F1 "1GgEFj*Hlza.VDzWLDo+JPZX5R2acKgXiD&O&Hla@Vq2a4.?HolUMvS.HfO4=Hv_dk6KgHwXOHfJjN?GzE^^IH~i9ydJfRyGgE_^OM*HtJfRyGgE_Oh^YHuJfNxl7IdY5u~yyQDR2i9c.N,R2KgN2"
def Lq:FD:=F1 "1EqE:j+u2Myvl+=T8fiDrsSvl+=Q%DySmDz_YD%S5BWfiDrXrz~MLXhJ^LyX;s7_H<at9*ok;fdlBsPM~k:N~:_Vm127*tzzAoKHiM6JY7QrJYddJj_g>HioK5M6L07QrL0ddL0zz5oKHkM6P2QrKkddKkzzHkoKHlM6O27QrO2ddO2zzHloKHmU4&e3Hk+tHlz2HmOv&e35+tHkz2HlOv&e3Hi+t5z2HkOv&eqh+tHiz25sX+ewk"
def R2:FD:=F1 "1G+D&_ZG,gFX4U9biG,gF0p8&tM~MwN~<_UCc6d0zy=&NHf+N"
def ai3:FD:=F1 "1HFE>j*+htsgOT6LO=7YjALhXc^FAbUwzhIM2HkXyk0bJ5Ls@7YjHiLhXcOGHibUb5KMHkM2HlXyk0bJHkLs>7hEYd5bUHfHkKMHlM2HmXyk0bJHlfa"
def ai2:FD:=F1 "1H=ERDo^ykR_IbJbwtsBHDxLVN?G&Eer&5mon,fondHiUU+zq*fondJYUU+z7^FfoM^fg+z7YdfoL@fg+z7L@0,nHFEcJoJ.R6AmoQ*k0RuTvo*LsHrkG7HvbUf?KMHxM2HyjXHxb@DpLsHrkG7HvbUf?KMHxM2HyjXHxb@DqLsHrkG7HvbUf?KMHxM2HyjXHxJ_Xc7fguqTs"
def R1:FD:=F1 "1G&Dyvo+htsgOWLDo+Jk%OlQJDv^ZDv^~l^O&gsOlkNL<Rz%f5lXN?H=EdR2L>J.JfJNRI^At^HzL5J,R,OaN,_EN2"
def ai1:FD:=F1 "1G*w6P4+haDbOQJDt^ZDt^~gOO&7L%c<KMHf0N,Hir&u0E2fgwzhIM2HkJYhI0g@wPbJ57JfJNK+HxMRHxHlJQDIHxHlHyjqk1U^J,Hz_cBZ"
def ai0:FD:=F1 "1GhGADq^ymt_IbJbwtsBHDzLV&dE4fgHfHmr,s=rosdG&EebJHn5mon,LsHw+6D~,^p+H+rkLsHx+6E0,^p+H+b@DlLsHx+6E1,^p+H+b@Dmu0E3.a+mwPd;H*HkmoJWt*G*Efz%I8Hl_@LJIDH,JQDIIDH,I9jqD*B6R=M*N+IE_cB9P1L@u0E3.a+mwPd;H*Hkmo&dE2HpbUKWKMI:M2I;y9I:MRI:H,JQDII:H,I=jqD,B6z%I>_cRqDoOiHtN5DtT:mtNiG+EbHtH&KsCCHuH*JzH+hILsH,La&dE5H*H~H.UUH%I0KMI1M2I2p+I1JvRqDpLI_<JzcG5s>ROLOH*La&dE62H.H,UUH%H~KMI0M2I1p+I0b@Dqu0E7.a+mG*Efd;H*Hl_@LJI9H,JQDQI9H,H.jqD&B6H~d?I8I:_cRqDrLsHw+6E8,^+mG*Efd;H+Hl_@LJI:H.JQDQI:KSjqD&B6d?KWI;_cB9RqDsu0E9.ap+H*jqc2L7KYTs"
def R0:FD:=F1 "1G=Dyvo+htsgOWLDo+Jk%OlQJDv^ZDv^~l^O&gsOlkNL<.?5lUB7N?GhEgR2L>MHHpJfJNRI^At^H&L7KYOaN,_EN2"
def ah9:FD:=F1 "1FPE;Dof0HD^yJs_Ir&T4sQJhN__ET4l^LVJWB2B.0wPKG>AJ^Himosat5RwG>EnHtNgR_AKvxOt5TuHst50xOHtTuW~mmR_AKvxOt5TuHst50xOHtTuW~bD"
def ue:FD:=F1 "1ErFhDqf0GYP4q+L<T4sQJhN__ET4gOt<_jvpEBLjECM&EDWbqtS93K5UeDqTXi~Jsa5hgsTl^&3a%_jvpEULjEVM&EWWbkx.Ii~56Hka5kosTMuDssTMuDtsTjuWzpHytlmytq7PZ_Ei~p_^pMHpRHpn;DxnvDynwD+WzpHs_lms_q7PZ_Ei~p_^pU^pRW~n;DxnvDynwE0WzpHadlmadq7PZ_Ei~p_^pJ.R6pRmrn;DxnvDynwE4btpHytlmytq7M&F?Q%F@SmFAaMf~i~HmTQD%UfD&^pKKpRHsn;D%nvD&nwD~btpHs_lms_q7M&F?Q%F@SmFAaMf~i~HmTQD%UfD&^pydpRJrn;D%nvD&nwE3btpHadlmadq7M&F?Q%F@SmFAaMf~i~HmTQD%UfD&^pTbpRO@n;D%nvD&nwE7WZCP47N~A_V6MLyV7XH2MqJqJ^TXVoOvLwQ,b=THYo5*LXdHkRX>HmSXyUKTHoOqHnb4Yo5vCXdHkRX>HmSXyUKTHoOqHnb4dNAK,KBQ&Q&KaNrAr0qtS9K5RoHi^RlMHlL~K9Hn^FhtHmRXHfHpOAMKKujrNUKTHrdMHqJsLlhtHmRX=HpOAMKKB+3KTHrOq>HqM?LlOvB5CCf:T20pTDjpTDjN;Hkq?DlK4dwQ&Xhpb.IpeJ^Je0pbb4peJ^JeOvpTDkpTDkN;Hkq?DmK4dwQ&Xhpb.Ipe&&0pbb4pe&&OvpTDlpTDlN;Hkq?DnK4dwQ&Xhpb.Ipe_?&&Je0pbb4pe_?&&JeX?LwNZhR_HHqatHryX_XKTSvrfKgcAOvlbp__E0K8_E+pHuatHvKCDp_XKTJrrfYpW~Ovlbp__E0K8_E+pHyatHzKCDq_XKTmbrfYpJ,HxOvlbp__E0K8_El<HtQcLOHmHuJRleDioAmYpCyRovI5L6LXI4MHO@K<c._TKKmiHtXxHnHuhtHsmiHwXxHoHx%8*n?D.O1HzX*O3HvHyKKHsl<HxQcLOHmHyJRleDioAO@pCbGovI9z%I8MHKZNDK<HwLDleDjoAO@pCbGovI9z%I8U^KZHvK<c.OPDEydmiHxXxHnHyO*DCJrmiH%XxHoH&QQK;Dm*n?D.O1H+X*O3HzH*MMl<H&QcLOHmH*JRleDioAKZpCm%ovI=L1kiMHH~KVJ,HxK<mbLDleDjoAKZpCm%ovI=L1kiU^H~KVJrR,K<H%LDleDkoAKZpCm%ovI=L1kiJ.R6H~KVJ+K<c.OPDZTbmiH&XxHnH*O*D5O@miH,XxHoH.QQbF*n?D.O1I0X*O3H+H~MMKYN2"
def RZ:FD:=F1 "1GjDrgXRtEmR?0bShmN<LVY;StE9KDJkLS2MRJOE:3KdDF3JkLSrdE+hxt6LtEiB6y5c7boy5F9b^_WF6bo2JYs+boy5F7&rB6LSYaF0W<boN4my%YboN4fK*wboy5F7MW?F0X@N4rv%:X@N4J~F6b&OxbpE,iNF?bpF6Z;E,__JYNc?E,?E,bpF<*ME*bpE.?F:bpF7MWbpF5O6bpF5MWbpF0O6bpF0MW__JYNciibpF8RkbpF<W<?c7boJYrdF9b&O6boL0rdqbTdfkboJYrdF3*MluboMrkURkQutFgKboJYrdE+QYt6B6LS2fKMWii_L?EY?EiB6MrNcjsfkRkLtEY?EivL2*^o3MWLtEYB6L02TNW<qCgK_L?EYvL2*^tEB6LSLhJPL9TRt?"
def ah8:FD:=F1 "1GkDy_6*fp=NakgStE2_GK<bPE3_GK<bPE7r%K<bPE8r%K<k^N2"
def ah7:FD:=F1 "1GiE0Dn*0L^NAN_sbKIFYfiDlaDscKIFYMuNsDlQBLVLJJaRYJaM6R<naW4N,K<<OvLJJaRYJaL%wZnaW4N,K<9OvLJbAW4N,Je9X?BEBZ"
def Lp:FD:=F1 "1G>FMDqRVgTR?e*XMN<WhDkB4Y@j%D%LjD&PZQJDlKIFYf^N.DlsSDiM=DkLjj%DoBfGi0NAvAE2M=E3M&E4WbQJDmKIwIN.DlV+z.QariDc882fTVgJlt@4RzMRQ,O8Q,b%bZfeXJdN3yrYCc94^RR0MwQy9lXLJX8OzkM^iMROzO8Oz7K>GjEk@h7hCE5KHHk=^xM6HnHmk^L%TlE9^xRPHoR~QP^xM2Hpr4Hqpd6r:p.mXq6HwHxHroP_vH&H%of_vHzHwpv.laa.l+7s=r4HppdTIHqp.f>q6JrHqoPXKH%HzofXKHyHvpvq3aaq3kahCE6KHHk=^xM6HnHmk^L%TlE9^xRPHoR~QP^xM2Hpr4Hqpd6r:p.mXq6HwHxHroP_vH&H%of_vHzHwpv.laa.l+7s=r4HppdTIHqp.f>q6JrHqoPXKH%HzofXKHyHvpvq3aaq3+7M6HmHkk^L%TlE9^xRPHnR~QP^xs=HkKHHppdTIHqp.f>q6JrHqoPXKH%HzofXKHyHvpvq3aaq3+7M2HnHkKHHopd6HqHpp.HsHpq6_<HpoPmSHzHyofmSHxHupvHsHpa_mSHwHvabmSHuYIaaHsHpa_mSHwHvabmSHuYIKmN:kaN;qkM5RYM5Yf@R~6K<_GJeOvBZ"
def Lo:FD:=F1 "1EPE_gZ*fp=Y+TkDpQGE4M=E5LjE6kz3aOJ&3or2K5NJ^ZDoN.EtXrSaDpMgDsQGEJM=EKy,8R2Olfw^sDvKIGUMuDvLrGYl^T6wBNOySm9NIquEpEQNOh7Y<>R~NI>fTa1Q&QF=*lJvLwdG:QcEqEaL<KAXd7Xx@AbZg:5J&HisV3q?DkVgKaXhm;J&3or2K5K5K50m;J&3b3K5K5K5N763K7ErEj8R2Ol6h:B7_TK8JQDSHiHxQaMKK4NGNrHzU^J,HyYcCVHiynX5Lh5LhBZ"
def RY:FD:=F1 "1GCqZGDtXGD+yXAG6u?Ddf6MUnOu&lO<TCGDEuS9>h7nLTXOlfmHiL^5uB"
def RX:FD:=F1 "1FYqZFZtXFZ+yvrF.u?Def6MUP5u&_=THn?<lUMvFZEvS9L<K%B7nLmtfmHmL^HnuB"
def RW:FD:=F1 "1E&qZE*tXE*+yLrF@u?DPf6kQu&+>QcE*EwS9QonLL<fm7L^AuB"
def RV:FD:=F1 "1EzqZE%tXE%u9T8fiF=u?Dbf6J^u&s7_H<0JSJuE%Ex9KAnL@fmwi>uB"
def RU:FD:=F1 "1ExqZEytXEy+yLrF:u?DPf6kQu&+>QcEyEyS9QonLL<fm7L^AuB"
def ah6:FD:=F1 "1GDDqgXG6&WksGCEp4bHTLTs"
def ah5:FD:=F1 "1FZDyDn^<F.R@bCfZbC0ViT6GCEp4SRFYEq<SRFYEq9bHJhTtfa"
def ah4:FD:=F1 "1E*DvgXF@fsfZW4o0TDm6K>FYEqwXBQNrUeDm9asM5Ts"
def ah3:FD:=F1 "1E%DpgXF=R@3fZ3vBT6E&Er3bH6Ts"
def ah2:FD:=F1 "1EyDvgXF:fsfZW4o0C+mlm6K>EzEswXBQNrUeDm9asM5Ts"
def ah1:FD:=F1 "1ERD%Dn^<Em&WNaWZDYr_qtJQC+JQDA@_8ExEt4KABQNrQzDnTQDp>0W1W.Ts"
def ah0:FD:=F1 "1EtDnvkLWK<QeMbLVJt.;B6N2"
def ag9:FD:=F1 "1EtDnvkLWJeQeMbLVJtTN%ZB6N2"
def ag8:FD:=F1 "1HAD.Sr&V<QeV+T6wQ3zc~ELDMQPI~EP3YZ~EP3PI~EbD"
def ag7:FD:=F1 "1H3EpgZiRkswQ3zc~MB8MQPI~MB8MPYZ~MB8MPPI~MB9BZ"
def KI:FD:=F1 "1EsE8j*8fjoCQBt<lKn~Dl6oIsS^=DzM=D%LjD&u@V+g7MDNZ23Rzfp4NlNMbZa1O1XJKM3yrt@m6soh?fp4^hCu@%7a1O1=:<htJgDsmkVmjqv.@<N2"
def Z5:FD:=F1 "1H4D.voLyfjoCnt4L%<hVkWJaLvPwNTDC8J~^eJa9^%v.JxJ_TVkWJaLvPwNTDC8NlMWlNSUk5Ja9Rp,nqeJx4%vS=MaKUKfDwoJL<^%c2Olfa"
def QP:FD:=F1 "1GrFlDq^y8K:_IapoCaxWLa&DmBNDtY@DuLjDvM&DwWbNAUeDm9W8KJTt6TXKIF.fiDrkmVvBHDtO&9JQDa>>JkKM9MLa1KaVgB6=9^ibBJxtKg?KAnLHlSXKuB6HmL^HnOqL<owK9@M^*u**DmDmNTDW:R%p:opAotUGX7@OG*tQrJYddyA**DoDoNTDX:d1_:ExSUf3AJ~opHiotLlkOhCDl*uixo,J~qbTdfkNM:d1_:ExvGAotUGX7TlDm*uixS@tCF2jsz^%&M5ARpJWsdqeUG=N3R_HfN1HmhVWBMaJoKfDyW9g<MBMWlNSUk5JoHnRpJWJODz0qecAHf%vrZMaJ*KfD&oJru^%D*B6JpLHTVWBMaJoKfDyoJJoHn^%DzB6cALHBEK9@L@*uixS@tCF@gKWOTdz^%&M5ARpJWsdqeUG=%vWBMaJoKfDyoJJoHm^%DzB6R+LHBEhCDoTUDtDiyMRwGAF:3yMkZ**DpDpNTDDfKMWiiNM:J~EEvKkVtUvGAotUGJvhCDpM>DkO2y&Jzc;vgROGAF:HiyMkZ**DpDpNTDDNcjsfkRknrR%E,QYnqkV5J~E@vGHkotVqJvhCDq*tOm*^o3MWz^OmAR%f3QrJYddJYOmUG0,nH4E.M5HkHf^%k0VqkOhCDrOmTNW<qCgKNM:Om7R%f3*tOmJi0,nH4E.M55Hf^%k0JoX7TlDsOIJTixS@W9b~F<O6tEvG7otJiJ_Q*v.M5N2"
def QO:FD:=F1 "1GBE5vo8fjoCQBWLDvM=uIu@t7zby98a@8c9Mw.?9lUB7N?GrE~JqJxRohit^5JiOaav<JjN,VmN2"
def QN:FD:=F1 "1FXE4Dn^y8_IapoCQBWLDpM=a*u@V+z~a@Ly2Ja^*9QcGAF::yMkZkWJqN^DilJJ~F8R:NM@kV=J~E@SUk5JqHfRpg@qeOl>%vQNMaUGKfDxoJVohiJyDyO1HnVqXQBEN,JqN2"
def KH:FD:=F1 "1EvF5Dp^yqm_IapoCV+WLa&D+M=D,LjD.PZNA^sliW8KJ93@a5l@Xr&3ERM=ESLjETu@t7TVkWJaN^tC+cNM8%&Ja9N3LZ:JYfTa1NGQFwuk=8<^ldG:L~OHM^ryHfK0kZ+8o,yL+Mq^wCSUuDJquLUGk;YgOGL%HfROEtE%kZ+8o,yL+Mq^E*QYQYOxSUuDJquLUGk;JvJuEtE&kZ+8o,yL+Mq^E*QYQYOxSUuDJquLUGk;Yg^FOIJT+8S@tCc7+MEQMBO6tZTd?^eJq7pE5Ji9_9^AyT7RQdNwea1B6Jx2Jq+p90rb8LhN?FXF1JqwfSFMKt^=W.RG8Tf:kZkWJqN^tCF?MWRkVhWOhxnq%&Jq=N3LZ7Jjg@FXF1gpwfJ%CI5yAQNMaf<KfDxoJHiJoN3SFMKJyDyO1HoJ.XQBEav<yAkWVmLxNTj0Vm@^%v.W.Ts"
def GA:FD:=F1 "1EQEqgZpG^,QGE3M=E4LjE5*:aOX5or:W8bVVvaxSa^,QGECM=EDLjEEs^aOX5or:W8bVVvaxWz_iEUM=EVLjEWu@V+T6wBNOySm9JkfpJ^^+NMfp9LiCu3fp@R%FDB6htJgDsmkKUyfMLK4RKvJkFqjHfJYoqte>bzMvEtE%KAbXkbJxo,s+NM=R%uDJxuLJ&UGJvBPCo>lWMvEtE&KAbXkbJxo,s+NM=R%uDJxuLJ&UGc.N;<K,OJ<wn43S9^*>QcS.7KAbXkbJxb_DpDpNTDDJ~F5WOZ>F4NM=R%ED?EUNMHfNlOxQufktFvFnrJ~^eJxHiN3SFMKg:HlJ&Llc.N;9*KB69wnJx^*9L~N?EvF2JqTtN3SFNzt^7TXOaav<yAkWVmLxNTj0VmwfR_:MRm;JQDR:=KDHf_cBZ"
def Z4:FD:=F1 "1E3E1_6*fp=ksEPEoNORpY<9R~NI9K>EQF3NOSREREzNOb?DV^hCrJ^7K>ESF;AJfQOc%CVk?@HiTuWMQb<ynN5DtLh_,oQ"
def Z3:FD:=F1 "1DrD*_6BiDlE7fsfY3M3TRL8QBT6E2DtJh_>E4DwRQ_>E3F4k?RpY<AR~NIRQKD7RQfa"
def bo9:FD:=F1 "1F%D*tTLV_g3JkLMfBYCsGJgE&Yf6JgFCK>GLF<3KsD;YC8ORNcjsfkRkRJNcOx?F@_WFBVhRJNciiRJNcRkRkiNF?MWVhS3E*QYQYOxS3+cS3q_F>daS3qbTdfkS3E,QYS3E.lNS3E.?FAWOt6Vhsr%ZsrW<qCgKsrpzsrY3sro3QuOxOxS3F1%YS3F2jsS3F2?luOxWOMWVhS3F2R:S3wCS3F5QufktFvFS3F5WOZ>F4S3F7%:S3F7&rS3F8R:S3F8tFMWS3F8RkS3F9RkMW?F?WOZ;F>VhssMWiissWOtFMWss*wssO6tEssO6o3MWRJRmtZTdRJ.;S3c7S3F?MWRkVhWOhxS3F@gKWOTdRDYf8MGr^3nWqvkXr^3LMkOBZ"
def Gz:FD:=F1 "1FFElgZpGTkE9M=E:LjE;+:Vi&2DpBdP:E9M=E:LjE;M&EPQ%EQSmER*;KOBoB<,8WzTkDpBdP:E9M=E:LjE;M&EPQ%EQSmER_YEWo;EXp7EYlZMS_^f5KOBoB<v~e.O&4L%c9XXRMLMyfN19z<KM8N1@x~LMfTJl4:h8l:_V=KM>X~z<L%^iXXHfKkLMM>DiKM=K,a1KT=c<J&J^OvJuFyE2J&Ou^lXJnJ_HHfat7bIK4d3Ol2WEdN=N1Hfz<%97TtpxHi_UD^A5K<KHwqMDKGHn_^HmsXqwK4QxHiTXOlN2"
def bo8:FD:=F1 "1EuDnvkaJLVgL2m13JOE,M63K0KH3ri,2nzo4o5o6QmtZqC?qbjs?F0gKiNF3?F4Ox?F6R:tE?F:Rkt6*MF??F@?FAvF?FCO1r%tdL0tdL0QQL0JQ,2NBzRzSzTzUzVzWzXzYzZOOzROOnzzrzsztzuzvzwzxQfzSnzQf%<%=%>%?%@%A%BQgzTzr%<Qgo4%C%D%E%F%GQhzUzs%=o4Qh%H%I%J%K%LQizVzt%>%C%HQio5%M%N%OQjzWzu%?%D%Io5Qj%P%Q%RQkzXzv%@%E%J%M%PQko6%SQlzYzw%A%F%K%N%Qo6Ql.7zZzx%B%G%L%O%R%S.7B6THKD<t?"
def bo7:FD:=F1 "1FWDqvmkg6K0Yf2m13JOE,M63K0KH3ri,2nzo4o5o6QmtZqC?qbjs?F0gKiNF3?F4Ox?F6R:tE?F:Rkt6*MF??F@?FAvF?FCB6MqW6tdL0tdysL0JQ,2NBzRzSzTzUzVzWzXzYzZOOzROOnzzrzsztzuzvzwzxQfzSnzQf%<%=%>%?%@%A%BQgzTzr%<Qgo4%C%D%E%F%GQhzUzs%=o4Qh%H%I%J%K%LQizVzt%>%C%HQio5%M%N%OQjzWzu%?%D%Io5Qj%P%Q%RQkzXzv%@%E%J%M%PQko6%SQlzYzw%A%F%K%N%Qo6Ql.7zZzx%B%G%L%O%R%S.7qD+gX?BEBZ"
def KG:FD:=F1 "1GAEfDpsYWhV.DnM&E>M=E?Q%E@RFBWV+Saa%DqMgEVLjEWM&EXWbX6DmKIGbkmVvV+z.nWR~JknWJYy&yHKD<r^6N1R<r^6KMnS9JYQvB2B%@Ms<:OvB5Cu6KMnS=JYb<>HfKH27fSO1Ji2fSO12<SSOzLIXFh?r^@M2B2B%8N1W.OvB5Cu@QQ=tfO1kD7M68fdL428KH28JQDH99JgMECiy&d0fp:kCCukCvgy9AK,a1B6m42Hfy&h?fpJ^^hCu^hvgy9=yr6TX2:^Rs7h?fp<LiCu3fp:^hCu@OAMKa2KT7=OfMRc9JQDRM5yYOvBZ"
def Z2:FD:=F1 "1ESDsgXFmR?0bSr&YpW5vBLVSZqaB2C2B2C5B2B~B2C4B2C0B2C3B2C6B2C1l8l8l8l8B2C73rnCnxcB*TZITM2JOEOIUYfIVreIVx~KHIWM1JQDHIWIXMUMRIY2O8IY2JgFIJQD9xcB&g3w=I_g3w9Ibg3w7Idg3w5Ifg3w4Ih^M&9Ij^Mz;Il^My3In%0IaIcIeIgIiIkImIomkIZIp.2E+.=Iq+lIrPvFzooF&onF+pmF~oSG1oRG3pnG6oUG8oTG:poG=oWG?oVGAppGDoYGFoXGHpqGKo^GMoZGOprGRoaGTo_GVnAfbPvGYfbPsG^fbPqGaKzIym*F%;F*m,F.;G0;G2m.G5;G7;G9m~G<;G>;G@n0GC;GE;GGn1GJ;GL;GNn2GQ;GS;GUn3GX;GZ;G_m+;GckwIVM1JQDHX0MUMRIX2O8IX2JgFIJQD9xcB&g2w=I^g2w9Iag2w7Icg2w5Ieg2w4Ig^L&9Ii^Lz;Ik^Ly3Im%0I_IbIdIfIhIjIlInmkIYIo.2E*.=Ip+lIqPvFynMPsF%nMPqF*KzIq^NPvF.ooG0onG2pmG5oSG7oRG9pnG<oUG>oTG@poGCoWGEoVGGppGJoYGLoXGNpqGQo^GSoZGUprGXoaGZo_G_nAm*Fz;F&;F+m,F~;G1;G3m.G6;G8;G:m~G=;G?;GAn0GD;GF;GHn1GK;GM;GOn2GR;GT;GVn3GY;G^;Gam+J_N:BZ"
def Ja:DT:=D1 "vHIrPvFzooF&onF+pmF~oSG1oRG3pnG6oUG8oTG:poG=oWG?oVGAppGDoYGFoXGHpqGKo^GMoZGOprGRoaGTo_GVnAfbPvGYfbPsG^fbPqGaKzIym*F%;F*m,F.;G0;G2m.G5;G7;G9m~G<;G>;G@n0GC;GE;GGn1GJ;GL;GNn2GQ;GS;GUn3GX;GZ;G_m+;Gc0"
def aN3:DT:=D1 "vHI^JOw=I_g3w9Ibg3w7Idg3w5Ifg3w4Ih^M&9Ij^Mz;Il^My3In%0IaIcIeIgIiIkImIomkIZIp.2E+.=Iq+lIrPvFzooF&onF+pmF~oSG1oRG3pnG6oUG8oTG:poG=oWG?oVGAppGDoYGFoXGHpqGKo^GMoZGOprGRoaGTo_GVnAfbPvGYfbPsG^fbPqGaKzIym*F%;F*m,F.;G0;G2m.G5;G7;G9m~G<;G>;G@n0GC;GE;GGn1GJ;GL;GNn2GQ;GS;GUn3GX;GZ;G_m+;GcJ_"
def I9:DT:=D1 "vHIqPvFynMPsF%nMPqF*KzIq^NPvF.ooG0onG2pmG5oSG7oRG9pnG<oUG>oTG@poGCoWGEoVGGppGJoYGLoXGNpqGQo^GSoZGUprGXoaGZo_G_nAm*Fz;F&;F+m,F~;G1;G3m.G6;G8;G:m~G=;G?;GAn0GD;GF;GHn1GK;GM;GOn2GR;GT;GVn3GY;G^;Gam+0"
def aN2:DT:=D1 "vHIZJOw=I^g2w9Iag2w7Icg2w5Ieg2w4Ig^L&9Ii^Lz;Ik^Ly3Im%0I_IbIdIfIhIjIlInmkIYIo.2E*.=Ip+lIqPvFynMPsF%nMPqF*KzIq^NPvF.ooG0onG2pmG5oSG7oRG9pnG<oUG>oTG@poGCoWGEoVGGppGJoYGLoXGNpqGQo^GSoZGUprGXoaGZo_G_nAm*Fz;F&;F+m,F~;G1;G3m.G6;G8;G:m~G=;G?;GAn0GD;GF;GHn1GK;GM;GOn2GR;GT;GVn3GY;G^;Gam+J_"
def bo6:FD:=F1 "1GLD*_ZGQitGQk&LQBWU9g7NrLhBLB5Cum1L^fBJaklE&l5FC^^klEXl5Eu^^.i.iklEXl5Eu^^.i.i_GN2"
def QM:FD:=F1 "1E,EAj*ISSHL<_aREKIHWdiL<_aREKIHWBHEeWLDjK^MSe2KIHWBHEea:TEISr&_aRE&Z3N1IT2XwxcB*TZIUMRx~IVKdDUIV3=QHL5_3RE0ocvgIWJQD:IWKHISJKKHX0L%JMx~0BqBCTEJJYkF^YkF_YkFaYkFbYkFcYkFdYkFeYkFf~ObRJJa<~OX?K~e2N2"
def JD:DT:=D1 "BCTEJJYkF^YkF_YkFaYkFbYkFcYkFdYkFeYkFf~O0"
def IN:DT:=D1 "BCTEJJa<~O0"
def QL:FD:=F1 "1F4DySr_hX9F6qAp=%4F60XMp8g7B6L^3X;Jz3Jz6M6%g@R1<NIMs%g^hvc^hCWkAM~=4N~Hfs<7_b5Ovb*m8^hCWkAKM=sHHfn%c;vcc;CWAJzHiM~54N~Hks<x;HoOvT^N2"
def QK:FD:=F1 "1F4DySr_hX9FdqAp=%4Fd0XMp8g7B6L^3X;Jz3Jz6M6%g@R1<NIMs%g^hvc^hCckAb==4YoHf*L_g7_bHiYoHfvC_g7_bHiOvb*m8^hCckAKM=sHHfn%c;vcc;CcAJzHib=54YoHk*L_gx;HnYoHkvC_gx;HnOvT^N2"
def aW3:DT:=D1 "_gx;Hn0"
def QJ:FD:=F1 "1F4DySr_hX9FcqAp=%4Fc0XMp8g7B6L^3X;JzLiCPOzMn,EJz6ORW.W6^o=k^N2"
def Z1:FD:=F1 "1F3E2Dn&wlV^jtWe.LVBPDL9M3W2q@_UD>f<X+DLHlM3^jq@_UD>kIK<JQD_@M3:bLby0B?T_MYt?"
def Z0:FD:=F1 "1EYE3vqEI_hP4:N_inBRnYN_<RSS9>VxDrbfDsNsaxz16Lhsa2ujJ^un2KUQd*WuZ*WrmJ_SqwTsGLhsa2ujJ^un2KUQd*WuZ*WrmYckh>h6m>M~76N~A_V5OiHluj5unf=Qdp3HouZp3HormOaB5kh>h6=TWMsm3bWujJ^un2UGQdp3HkuZp3HkrmYckhHih65JzHkM~Hl6N~Hm_VHoOiHqujHounruQdp3HtuZp3HtrmOaBZ"
def ZY:FD:=F1 "1E^DtDm&wtWb,z0qcbJqmyqM?K8Ts"
def ZX:FD:=F1 "1EZDtDm&wtWb,z0qcWDqmW2yqM?K8Ts"
def ZW:FD:=F1 "1E_w0P4N_lEXrz0S7WDOGW,Y4k@OGW,yqM.HpbD"
def ZV:FD:=F1 "1EbD~Dn&wlV^jtWe.z0qcWDqmW2TwqcHiM.JoHm^jTwqcydHv:bLyqHwMVH*fa"
def QI:FD:=F1 "1EcEMDo^yk?tWBHDtWLECM=EDLjEEt_OqVxDqbf,8kg:L@Rsv;K9:JgDoRsv;K9:JgDpRsv;K9:Jglkv;N;TjkFWDRz%fHflXKyEcFH^IkRfW^AyTHrTiOaXq^IN2"
def WZ:DT:=D1 "Bev;"
def KF:FD:=F1 "1E>F>DpP4:N_lEaxWLa.W%t_OqVxDqbf,8&3DnpSa.aYE*Q%E+SmE,aM@RSk?VxDtbfv~KJVo4VqKIF.BHD%O&:T9W.2WD.?HflUB7Kyk3^IAW=._nn._OaXq^I_QR0VmQyHnlXKyEcFHrsL5fWqwLBJqHzJ,R,HiO3OaKygarsHlTwgaHnL5W~HmfW^AyTH&mYKYbD"
def aW2:DT:=D1 "KyukJ_"
def aW1:DT:=D1 "KyZzbv"
def aN1:DT:=D1 "n.v@0"
def aN0:DT:=D1 "Bek3^IAW=._nn._J_"
def AE:FD:=F1 "1DuE&gZR?0MbLLKJp&N<Wh_iD*LjD+PZVl2MUMrT3NuqKT;RFNsV+Sa_iE8M=E9LjE:t_OqVxDqbf,8Wz_iDnM=DoQGE8LjE9M&E:M=EAQ%EBRFMS9QqbQWE&<^ja5SJDvbfDwNsBHDxbt_iDnM=E8LjE9M&E:M=ENQ%EOSmEPaM@RSk?VxDtbfv~e.qJLT_iDnM=E8LjE9M&E:M=ENQ%EOSmEP_YEUo;EVp7EWlZMS=RSM?VxDwbfDxNsjuLVSqwTOvBSDiM>DiR1wTMLK=^QMrK5QICM6mj8yHOfMLK=MDW12K5RzJQC~4M3Yd8LhK<bZyT@XJR1wTK,OJ_?YCMUMrJqQICM9Qy@TCEREzk?e1LCOJLl2YCMUMrJqOaLwdGHf_VAbIa2fyqDJar0K:JsKUOvKyE?Fr^IQoB?yjB6^j^lOzJQC~HiM3M^XFbybKNzLB4HlS9bLHk5KMAyWa1KaKTAgtS9KUUG+vHiat5rz_FJ&Ll2rssX3MKOJhUrspxHlL~Sq=NIs;Hpp~MYq:HyoiJvb*kCCkHpJzHqR1HrNIs;Hsp~W~q:H&mYKYJvL4YCs;Hsp~W~q:H&mYKYJvb*kJpuMs3Hvs;Hwp~HwHxq:H.o>Jvb*kJHwkTM~HyLiCMHzJzH%RlH&s;H*p~KFq:I4WAJvB5TDH*H&TUDxE9HmThH+pfH,p~H,H.q:I6H~LXKLc.Nd9K;DmT_Hlb4LlN2"
def ZU:FD:=F1 "1EhD*&5LVY<33.9R~b%.9JjL4rlb%N1rly@LhBZ"
def ZT:FD:=F1 "1EiD*&5LVY<33.9R~b%.9JjL4rlb%N1rly@LhBZ"
def ZS:FD:=F1 "1EGD,Sr%hM3J&X4ViT6EhFKMwSREiFL6<SREiFL89yS@R~@aKR~:RP>R~>KD2fa"
def ZR:FD:=F1 "1E@E3SrP4R9EAL8N_p&QBYmqlf%a9XkMIMF%4EAk&i++wql+sOsVi^TyVJ^Mw2L^^RlM@L~_TW2Y^3HfSXKBRKB67L^AM5OvBQOJUe^dM50JaM5N2"
def ZQ:FD:=F1 "1EeD&SrR?M3^PX4NaWh_iDpnTkzyaVitLt@^Pl:L~lHJ&lVW20r%%9kE+N"
def QH:FD:=F1 "1EfEHqSqSDpR?M3^P0^Ue*XMNaWhDkW>j%.WSTyaXrtLt@<^PN7LyKHLyJQD::LK>B2BzTZ=nlHfN~w.^GST&@KHHfY0HlRQbRJhHfSTOaL4dG:T?L<STKAP1R~8K<r%JeOaJt8JeN2"
def QG:FD:=F1 "1E@E3SrP4R9EF0sO_Ip&KJdDn9NuqKNsV+Ymqlf%a9XkMIMFKJdDn9SJDmNs&pEF0sOvADnBNDwY@+wql+sKJdDn9&1NsOsXr^ThLXhJ^t@^P^RlM:L~B;Cz@M3L<q@Z7L<Y^37SXhL?g_AhUSTSXRcKT7STOvBQhLB6TQ^dST0JaSTN2"
def Dj:FD:=F1 "1D+ER_7P44N_p&QBYmqlf%a9XkMIMFY+DkpSDnlIDojwe,BfED0hjsOVuvADzM=D%LjD&t_+sKJNAKIE@KJn^n9KJd6DoKIE?SJDpNsbVMFaxSaDkpSDnlIDojwe,BfED0hjsOVu0MSp&KJNAKIE@KJn^n9KJd6DlKIE?SJDmNsf^MFV+WzDkpSDnlIDojwe,BfED0hjsOVuvAEEM=EFLjEGt_+sKJNAKIE@KJn^n9KJd6DoKIE?SJDpNsbVMFaxLVBSDifTKuNUOdNGXhJqh8K5^*>L~B;qNz?q@bZh,sUK:K>EfFP4_^NgJ%C~:z?byZ7_^Y^@HkbZ_X?D+O1HmJ&Hl5mmZLh,O15K:OaBCDkh,B6K:&Z4N1f9KM4M2@TM4:MN4:_V4M27riDg4AJQCz8M3L<0J^hIbI_X?g_Llh8Hi<X?KNKRS=WBbxFQTLJRJPrcWE^ldG>L~B;qNz?q@%8h,sUK:K>EfFP4_^NgJ%C~:z?byZ7_^Y^@Hk%8_X?D+O1HmJ&Hl5mmSFNzh,O15K:OaBCDkh,B6K:N2"
def bw:FD:=F1 "1DoFSDqOy%hM3J&X4ViMy_iDpQGDqM=Dry,qmKIERKJ9QqbQt9DoMFaNDpMFaxSaDpMgDsQGDtWxF:i+F;LjF<aGdDMCDwW7KJSTyaKJW2yaOsaNDsMFaNDtMFgOT6DqG2KxMvDrF5JhJRJPJSSq:NIW:DuFJ:QoB:MGWqg;^Ge1,Q2LMMLVgyjB6HkJYJ&f=yyM@J_BLN;m1XGdCJYnl=N~Hf_UCPJaN~5T?L>HmTPb6M~JaN~Hose6JYnlHsN~HtT?KKmYTPkKLMWmKuNrHy8K:kO^HkOB5Cg8KMLiCnTXnl7N~A_UCg4KMLiCnVqnlHnN~Ho_UCg<KMLiCnW~nlHuN~HvL~i&S9KfD%bgVoktS9HzblH%VoYjH,s8f@KfD,bgKKktf@H.blH~VoYjI3s8KVI2KfE1bgHwR,ktKVI2I4blI5KKYjI9s8I6rTKfE5bgHwR,ktI6rTI:blI;VoYjb;JmDGI=ptrjCzI=ptfGI@q5I<fzI=I>JQf1IAI@KMIBgB?E9fNNe2I<fzI=I>q5I<fzI=I>LMJvB;DGI7ptrjCzI7ptfGI:q5I6fzrTJQf1I;I:KMI<gB?E5fNL,2I6fzrTq5I6fzrTJvB;DGI1ptrjCzI1ptfGI4q5I0fzI1I2JQf1I5I4KMI6gB?E1fNI6_,I0fzI1I2q5I0fzI1I2muc~BELwNZMR_PL~TVWqMa4Hf7KfD%bg^Gkt4Hf7HkblHlSTYjHphVWqMaMHKfD,bgW2ktMHHqblHr^GYjHvhVWqMaNDKfE1bgW2ktNDHwblHxSTYjH&2%7RcO1H*HydMmbLMJvNd8MKRcO1HwHsdMJpmuc~g5"
def vA:FD:=F1 "1E?E%gZP4N_Z.MbLLKJp&XrWLa&DyW@MS3o+TR&<i=n^MCDyoHDuS5e+n:&1bfDqNskn*T*TMFb,BVEILT^=a&DyWxD%BIMS3o+TR&<i=n^MCDyoHDuS5e+M3L<07n:&1bfv~kndEDvdEDvMFl^BVEILT^=a&DyWxD%B@MS3o+TR&<i=n^MCDyoHDuS5e+n:&1bfDqNskn*T*TMFb,Sa_iE?BJDsMS^sDio+oHDwLQLRn:Os^qqKdEjzSVB<K_N.V+BVEJLT_iE?QGEABIMS^sDio+oHDwLQLRM3_D0=n:OsbjDsdEDtMFSVB<K_N.gOBVEJLT_iE?QGEAB@MS^sDio+oHDwLQLRn:Os^qqKdEjzSVB<K_N.V+Wz_iEeqIY@EfLjEgPZsbQqbQW7Os^qqKdEjzt7BSDiM>DiMLJyDwOdfyQ&s0QxJ^9k;J^W+BpDlDpDyDkDlh,KTRQ5M?KU0WD5M?KU0h,B6bJ0bJW+_TL<Y^95ML*nSYQxHkJxJiW+B:sdEdF.9NPDmVgjrNUSYNGB6Hf>KU=J_BLBpDoDkE?DnDoRcsUS9RoJq0JaAS9RoJq0RcQx0bBW+BPDMHfM3J&L8LG_TTtY^f<JQD>A5HlKdDM7M3TtL8LG_TJ&Y^HoRWD>HnHpHryWRcKTHmHsX?BLN;3KCDpa1s0Nrf9JqRzMR_PL~BPDO4z>L8JNB7B:sdEdF.=KABPDO<z>L8JNB7B:WB0EdF.ANL8JjBSDmQqJQDN>z>0HfM>DmbQJQDN7z>0HiKCDpKuO1K8J_N:kaBSDmQqJQDK4M>DmbQJQDK<Kla1^rsbk;0W1@N2"
def Ky:FD:=F1 "1FfELDo.kfnp5DqbeSa*NDqQ%Dr%jt7zbnu^R*o4RU3W+Y;qtQr<snse<X=>Rx>T?S9_^TPc<M2<XL<X=5Rx5nxsnnxO8XFJoHmQrHiO8HqHispM2<RAHr^PHsVyNd+eHi^mNd+e9N2"
def QB:FD:=F1 "1GGEmDptPlANaOgSODkLjDlM&tSbea:TEqj6W+B5C%L04bKJjOK96RU3KH9JjL4@6QQqx:Rx:u19KH7X=ARxAT?L<VoTPHlre9JYKHnVHnRxHnu1HmQrHrRxHrT?x>NDTPHvreLyQQHmQQHmQrHyRxHyfrnVH*RxH*flHwO83HwmbH&QrHxO8H~HxH+H,H.bRI0L^Hm&M^mNdnVHmRxHmu1qxHqRxHqT?spszTPHureLyQQ9QQqxHxRxHxfrnVH&RxH&flHvO83HvO@QrHwO8H.HwKZbRH~a;&M^mB9NQNdnV:Rx:u1qx7Rxw.L<^G&@KHLyQQ9QQqxHnRxHnfrnVHrRxHrflHlO83Hlx>QrHmO8HvHmNDbRHwa;&M^mBZ"
def Kx:FD:=F1 "1FgESDo.kOgSODlW>a*B4Y@DssLbeSaDiSODlW>a*B4Y@Du_KOs+ONZz=JYQv<L0bRJaVmW+OKshGGFtMwNZhKqq<a;YcCI8ft<W+OK8reL^KHL^Qr<snO9*XS9ffw+L<K7GGFtc<NZu5RAHib2^mKmkeN2"
def QA:FD:=F1 "1FjE9Do.kOgSOa*_KOs+Of74N7L^MRd**XJ&MRkj=8TtQaXL8Np^j&MN2"
def Qz:FD:=F1 "1FhEZDp.kfnDqM&DrQGDsQ%Dt%jKJ9X,EDViWZCINZsHM1JQD:4K>GHG04KsC_+fqyQa:M2>LAfeVm=<J_keW+B5C_8O2b<qyQa:KH>JjgL<=_dGIG19N3J%CI4B2BzJQDTgpTZHiMs58M258QaHkQaHkQrHmRxHmnxsnnxO8XFspQrHlO8HtHlrutfMDHu^PHvw~Ndb2Qa5QrHlRxHlnxsnnxO8XFMHQrHkO8HsHkKKtfMDHt^PHuw~B9keN2"
def ZO:FD:=F1 "1GtE7qSDsBcDtl9X5_1KJ4n8U9BRXML;a9KJ4n8NaLVLJd*tOkvN,NZ370N,L^Mw^mBZ"
def ZN:FD:=F1 "1GKE@qSDutPX5_1KJ<n8U9,vKJ8n8t7N?GtFxTLh7N?GtFx:@4>h7N?GtFx79=Ah7N,K8fa"
def ZM:FD:=F1 "1GJD%Dnld^u6X5_1KJ8n8U9,vKJ8n8+O6JYQaJjN?GKFyMw6wZQoN,S9Ts"
def ZL:FD:=F1 "1FiEVDpldBcDrl9g4XML;a9+ONZQv+f<JYQa9Qv+f:L0Qa>Qv+fHfKkQa7sHM1sHx.auGJFz3b3QoN?GJFz5=HkQoN?GJFzHmAHnQoN?GKFyHpHiHlr6%VHtO0HrJYHsL%HtMGRUHrL0HsRURNHsXQN?GKFy3@=c<%VHkO0HiJY5L%HkMGRUHiL05RUc=5J_K~=JY3N2"
def Dh:FD:=F1 "1FkFVDqldl9_1N<,vQBfnp5,9%jV+Sa*N,9%jV+Wz*N,9SmDtSblcVibt*N,9SmDuSblcViLVzbnuSS<MthObBk+3^RMRX^se4X=>Rx>T?S9_^TPc<L%Q,RUK<nSNZM6Hix.k+nS4iTX=HkRxHkO9&sf=Qr5O8HrkHMYM2m6MsHtL0z=T=xLHuM2z7HuysTOxLHvbKNpHs^PHvVyNdQnJlJhHi<^mK9Q,RUK<nSNZM69x.k+nS4iTX=:Rx:O9&sL<Qr@O8R*JsM2m6MsHlL0z=T=HkTRHmM2z7HmysTOHkTRHnbKNpHk^PHnVyBLOK9TMW1%ysewb=Rx=T?Tt^jTPc=M29XLwbHkRxHkku%ykuO8W1f=Qr5O8HrkHMYM29T=xLHtVyavz75ysTObBHkbKnuHk^mavz7qyOATObB:bKnu:N798Qr9%ysewb=Rx=T?Tt^jTPc=M29XLwbHkRxHkku%ykuO8W1f=Qr5O8HrkHsC9TOxLHtVyNd<nu5^mNd<nu@N2"
def Gx:FD:=F1 "1FlEuDpBcDstP_1N<,vNafn_5uHbeSao~uHbeWzo~uHbeLVnK*XudQaXL8NpuKBLBCV~u>p2_PlQKCU<NOQQftw+^mBCU<u>p2X^lQz=T=Jh7N1LyRUwYZ^q1JsffHm4K8o2NpHn6cAVyB9NQY;LyRUwYZ^q1udo2NpuKBZ"
def AD:FD:=F1 "1FmF,DqBcDsBcDttPg4XML;a9Nafn_5tiSa+SWz+Sbt+SqJLT+SLVnK*XudQaXL8NpuKBLgLdAd*tO%9w+*o^mBCV~u>dAZ^tON1p2&sJsnaHm6K8%nK<HnVy+FJsffHm4K8+QHn6cAVyavQnJlJh7^mY;p2Z^WK3RQnaHf6W2%nK<w~+Fud+QuKBLBCO.u>dAd*tOQQ&?w+rzJlNO^mBCDnJlu>dAZ^tON1p2&sJsnaHm6K8%nJeHnVy+FJsffHm4K8+QHn6cAVyav4bFJlJh7^mY;p2Z^WK3RQnaHf6W2%nJew~+Fud+QuKBZ"
def sd:FD:=F1 "1F9FaDqtPlANa*bgPDtBIv^*bgMDtBIv^*bgPDtB@v^*bgMDtB@v^a:TEns~=wMJh%VqyyQwi+x9Q+TXK7FkF&>L^hNK~HiLuJSoh5MNUGfl7MNHiw.S0HpTPcBfLHi+Iq<*6NpR,Wa*6RAR,W_pjdZ_zXIajd__zf8q<*6T=R,Wa*6TOR,W_pjd^_zXIajdY_zqsHinQfuTEr:s:Hi+Iq9,SNpMYWa,SRAMYW_o:dZxEXIahd_xEf8q9,ST=MYWa,STOMYW_o:d^xEXIahdYxE4XQK9@KtFkF&wihNK~=LuJSohHfMNTXkuMN=9T?mtTPmKfL=a;Xbq;*3NpJpWa*3RAJpW_o@dZ_yXIaid__yf8q;*3T=JpWa*3TOJpW_o@d^_yXIaidY_yqs=a;fuTEHoHns:=a;Xbq8*1NpVqWa*1RAVqW_nUdZ_qXIagd__qf8q8*1T=VqWa*1TOVqW_nUd^_qXIagdY_q4yz>MNW.kuMN:9T?b45&@fL+B.~Np.DRA.CdZ*kd_g+f8.~T=.DTO.Cd^*kdYg+qsm<fuTEHmHls:+B.+Np,%RA,zdZ*id_guf8.+T=,%TO,zd^*idYgu4LHBL~=FhFwJhhK4KtwM9L^QoLPL0yQgl+x:Q+OlN1gD5MNb5flHiMNwzT?S0HpTPcBfL+C+aNp.ARA.@i3*8i5_zm:+aT=.ATO.@i4*8i2_zwgmBfuV~r:ze+C+^Np,,RA,+i3*ji5g*Xf+^T=,,TO,+i4*ji2g*yzHfMNTXfl:MN=:T?mtTPmKfL+T+_Np,qRA,pi3*7i5_ym:+_T=,qTO,pi4*7i2_ywgpBfuV~HoHnze+T+ZNp.KRA.Ji3*2i5_qm:+ZT=.KTO.Ji4*2i2_q@XQBL~=wMJh%VqyyQwi+x9Q+TXN1gDAMN>Afl7MN>w.HiK?TPHo2fL>+IHpRiHpRjW~MsHsHuRa,WNpJrWa,WRAJrW_JpKH,UdZxRXI,Ud_xRf8HpRiHpRjW~MsHsHuRa,WT=JrWa,WTOJrW_JpKH,Ud^xRXI,UdYxRqs>nQfuU<HqHps:>+IARiARjJoMsHkHmRa,ONpR+Wa,ORAR+W_VqKH,MdZx?RG,Md_x?XfARiARjJoMsHkHmRa,OT=R+Wa,OTOR+W_VqKH,Md^x?RG,MdYx?yz>MNW.kuMN:9T?b45&@fL+B.~Np.DRA.CdZ*kd_g+f8.~T=.DTO.Cd^*kdYg+qsm<fuU<HmHls:+B.+Np,%RA,zdZ*id_guf8.+T=,%TO,zd^*idYgu4LHBL~=FhFwJhhK4KtwM9L^QoLPL0yQgl+x:Q+OlN1gD5MNb5flHiMNwzT?S0HpTPcBfL+C+aNp.ARA.@i3*8i5_zm:+aT=.ATO.@i4*8i2_zwgmBfuO.r:ze+C+^Np,,RA,+i3*ji5g*Xf+^T=,,TO,+i4*ji2g*yzHfMNTXfl:MN=:T?mtTPmKfL+T+_Np,qRA,pi3*7i5_ym:+_T=,qTO,pi4*7i2_ywgpBfuO.HoHnze+T+ZNp.KRA.Ji3*2i5_qm:+ZT=.KTO.Ji4*2i2_q@oQ"
def ZK:FD:=F1 "1Edw0^ulAN<O&LiD:6K>F:F~8fOLkYCTHfP<bD"
def ZJ:FD:=F1 "1F:DqDmRVaJLVOKqgC;LKqgC:sGB2B+LK6OwMs8B2va8z&4l?B6<TZ9n4EO@KD:Kz8l?QFTZ<n4EG9yYsGB2va6z&8l?QFTZ<n4E?9yYKz6l?qDTZ4n4E7+gMsqgB+LK3OwsGB2va6z&8l?QFTZ<n4D~9yYKz6l?qDTZ4KHSx+gMsqgva3z&6l?qDTZ4KHM1+gKzLiC.jevJTZ8KH24KD<N2"
def ZI:FD:=F1 "1GHDpDmRVaJWZD:qiF:F~6KsD9B2Bz8W6Ts"
def ZH:FD:=F1 "1GIE8j+P4N_3X,EDaD6X,EDN<WZD9qgC8JQDBJaLK8B2C<JQDBLyJQD9<B2C9JQDBM5RU@@N2"
def bo5:FD:=F1 "1DqE_DpBcDiLWQeMbT6EKG3K%B7Y<f9RPf9W:DuFJNIN3JnqNM3&+fGkCqN*&Hfj1&B7L%HkKk+G7Hfj1&BHiL%r5+GHfkCqN*&x1&BHiL%r5SzL%HnTMkFMN7nRx>vEnNp*ojHix1&B,QKkSzL%HpTMkFMN7nRruvEhIL%HtTMr0MN5nRmYlVndL8i&f=KfD~bg_NLhv_f=HxblHy_NJYYjH*s8mbH&KfE3bg&+v_mbH&H+blH,ndYjb9LMKDK<mumup*p*JvJuE3F4NORpY<m;W:DuFJwfJnCz=M3&+fGc;Cz=*&x1yxHiL%r5+GHix1yx,QKk+GAc;Cz=*&5j1yx,QKkQpL%HpTMc=MNHinRruvEnNp*ojHk5j1yxHmL%HqKkQpL%HrTMc=MNHinRNDvEKMHlL%HvTMHl2MNHlnRHwR,lVndL8i&spKfD~bg_NLhv_spHzblH%_NJYYjH,s8f@KfE3bg&+v_f@H.blH~ndYjI32LMKDK<mumup*p*oQ"
def bo4:FD:=F1 "1EKE8Do^<EmgTOyLW^+SUE~SUFDSU+cMBQuSUFDSUc7SUFA?q^wCSUETMBNB?ERSUc7SUFB?q^wCSUETMBNB?ERMBhxSUF1?E??E@SUFDSUFASUETSUFBSUEBMBOO?ERSUFFSUFFSUFFB6e*M3hmM50MbLVsaTNvOKfHPW9DEyJvRyKvRJQCbL@yKB6SgM^JkJYrjCGJgDwLS6JQD=M^yJX@8K5y0myvMk9C^<y0NcNr9NiwBTNvO@yS:R~Ye2:JQDEyJvRyKvRJQCbL@yKB6SgM^JkJYrjCGJgDwLSkCD=M^yJX@HfK5y0myvMc;C^Ay0NcvKHiKlLtE~vOKfHPL2fCTNvO5MrTs"
def bD2:DT:=dD oK 0
def cs9:DT:=dD fd1 0
def cs8:DT:=dD fd2 0
def cs7:DT:=dD T3 0
def cs6:DT:=dD T3 1
def cs5:DT:=dD fd4 0
def cs4:DT:=dD fd5 0
def cs3:DT:=dD TZ 0
def cs1:DT:=dD TZ 1
def bD1:DT:=dD EK 0
def al1:DT:=dD EK 1
def cr9:DT:=dD fd8 0
def cr8:DT:=dD TY 0
def cr7:DT:=dD TY 1
def cn3:DT:=dD Ss 0
def cn2:DT:=dD Ss 1
def cn1:DT:=dD sC 0
def cn0:DT:=dD sC 1
def cm9:DT:=dD sC 2
def cm8:DT:=dD sC 3
def cm7:DT:=dD sC 4
def cm6:DT:=dD sC 5
def cm5:DT:=dD sC 6
def cm4:DT:=dD sC 7
def cm3:DT:=dD sC 8
def cm2:DT:=dD sC 9
def cm1:DT:=dD Sr 0
def cm0:DT:=dD Sr 1
def cl9:DT:=dD Lt 0
def cl8:DT:=dD Lt 1
def cl7:DT:=dD Lt 2
def cl6:DT:=dD yP 0
def cl5:DT:=dD yP 1
def cl4:DT:=dD yP 2
def cl3:DT:=dD yP 3
def cl2:DT:=dD yP 4
def cl1:DT:=dD yP 5
def cl0:DT:=dD yP 6
def ck9:DT:=dD Sq 0
def ck8:DT:=dD Sq 1
def ck7:DT:=dD Sp 0
def ck6:DT:=dD Sp 1
def ck4:DT:=dD So 0
def ck3:DT:=dD So 1
def ck1:DT:=dD ak6 0
def ck0:DT:=dD ak5 0
def cj9:DT:=dD Sn 0
def cj8:DT:=dD Sn 1
def cj7:DT:=dD Sm 0
def cj6:DT:=dD Sm 1
def cj5:DT:=dD Sl 0
def cj4:DT:=dD Sl 1
def cj3:DT:=dD Sk 0
def cj2:DT:=dD Sk 1
def cj1:DT:=dD Sj 0
def cj0:DT:=dD Sj 1
def ci9:DT:=dD Si 0
def ci8:DT:=dD Si 1
def ci7:DT:=dD Sh 0
def ci6:DT:=dD Sh 1
def ci5:DT:=dD Hh 0
def ci4:DT:=dD Hh 1
def ci3:DT:=dD Hh 2
def ci2:DT:=dD Hh 3
def ci1:DT:=dD Hg 0
def ci0:DT:=dD Hg 1
def ch9:DT:=dD Hg 2
def ch8:DT:=dD Hg 3
def ch7:DT:=dD Hf 0
def ch6:DT:=dD Hf 1
def ch5:DT:=dD Hf 2
def ch4:DT:=dD Hf 3
def ch3:DT:=dD ak4 0
def ch2:DT:=dD ak3 0
def ch1:DT:=dD ak2 0
def ch0:DT:=dD ak1 0
def cg9:DT:=dD Sg 0
def cg8:DT:=dD Sg 1
def cg7:DT:=dD ak0 0
def cg6:DT:=dD Sf 0
def cg5:DT:=dD Sf 1
def cg4:DT:=dD aj9 0
def cg3:DT:=dD aj8 0
def cg2:DT:=dD DV 0
def cg1:DT:=dD DV 1
def cg0:DT:=dD DV 3
def cf9:DT:=dD DV 5
def cf8:DT:=dD DV 7
def cf7:DT:=dD He 0
def cf6:DT:=dD He 1
def cf5:DT:=dD He 2
def cf4:DT:=dD He 3
def cf3:DT:=dD aj7 0
def cf2:DT:=dD aj6 0
def cf0:DT:=dD Se 0
def ce9:DT:=dD Se 1
def ce8:DT:=dD Sd 0
def ce7:DT:=dD Sd 1
def ce6:DT:=dD Sa 0
def ce5:DT:=dD Sa 1
def ce4:DT:=dD aj5 0
def ce3:DT:=dD R' 0
def ce2:DT:=dD R' 1
def ce1:DT:=dD Ls 0
def ce0:DT:=dD Ls 1
def cd9:DT:=dD Ls 2
def cd8:DT:=dD R9 0
def cd7:DT:=dD R9 1
def cd6:DT:=dD aj4 0
def cd5:DT:=dD aj3 0
def cd4:DT:=dD aj2 0
def cd3:DT:=dD R8 0
def cd2:DT:=dD R8 1
def cd1:DT:=dD Lr 0
def cd0:DT:=dD Lr 1
def cc9:DT:=dD Lr 2
def cc8:DT:=dD R7 0
def cc7:DT:=dD R7 1
def cc6:DT:=dD Hc 0
def cc5:DT:=dD Hc 1
def cc4:DT:=dD Hc 2
def cc3:DT:=dD Hc 3
def cc2:DT:=dD R6 0
def cc1:DT:=dD R6 1
def cc0:DT:=dD aj1 0
def cb9:DT:=dD aj0 0
def cb8:DT:=dD ai9 0
def cb7:DT:=dD ai8 0
def cb6:DT:=dD ai7 0
def cb5:DT:=dD R5 0
def cb4:DT:=dD R5 1
def cb3:DT:=dD ai6 0
def cb2:DT:=dD R4 0
def cb1:DT:=dD R4 1
def ca9:DT:=dD ai5 0
def ca8:DT:=dD ai4 0
def ca7:DT:=dD R3 0
def ca6:DT:=dD R3 1
def ca5:DT:=dD Lq 0
def ca4:DT:=dD Lq 1
def ca3:DT:=dD Lq 2
def ca2:DT:=dD R2 0
def ca1:DT:=dD R2 1
def ca0:DT:=dD ai3 0
def bZ9:DT:=dD ai2 0
def bZ8:DT:=dD R1 0
def bZ7:DT:=dD R1 1
def bZ6:DT:=dD ai1 0
def bZ5:DT:=dD ai0 0
def bZ4:DT:=dD R0 0
def bZ3:DT:=dD R0 1
def bZ2:DT:=dD ah9 0
def bZ1:DT:=dD ue 0
def bZ0:DT:=dD ue 1
def bY9:DT:=dD ue 2
def bY8:DT:=dD ue 3
def bY7:DT:=dD ue 4
def bY6:DT:=dD ue 5
def bY5:DT:=dD ue 6
def bY4:DT:=dD ue 7
def bY3:DT:=dD ue 8
def bq8:DT:=dD RZ 0
def bY2:DT:=dD ah8 0
def bY1:DT:=dD ah7 0
def bY0:DT:=dD Lp 0
def bX9:DT:=dD Lp 1
def bX8:DT:=dD Lp 2
def bX7:DT:=dD Lo 0
def bX6:DT:=dD Lo 1
def bX5:DT:=dD Lo 2
def bX4:DT:=dD RY 0
def bX3:DT:=dD RY 1
def bX2:DT:=dD RX 0
def bX1:DT:=dD RX 1
def bX0:DT:=dD RW 0
def bW9:DT:=dD RW 1
def bW8:DT:=dD RV 0
def bW7:DT:=dD RV 1
def bW6:DT:=dD RU 0
def bW5:DT:=dD RU 1
def bW4:DT:=dD ah6 0
def bW3:DT:=dD ah5 0
def bW2:DT:=dD ah4 0
def bW1:DT:=dD ah3 0
def bW0:DT:=dD ah2 0
def bV9:DT:=dD ah1 0
def bV8:DT:=dD ah0 0
def bV7:DT:=dD ag9 0
def bV6:DT:=dD ag8 0
def bV5:DT:=dD ag7 0
def bU4:DT:=dD KI 0
def bU3:DT:=dD KI 1
def bU2:DT:=dD KI 2
def bU1:DT:=dD Z5 0
def bU0:DT:=dD QP 0
def bT9:DT:=dD QP 1
def bT8:DT:=dD QO 0
def bT7:DT:=dD QO 1
def bT6:DT:=dD QN 0
def bT5:DT:=dD QN 1
def bT4:DT:=dD KH 0
def bT3:DT:=dD KH 1
def bT2:DT:=dD KH 2
def bT1:DT:=dD GA 0
def bT0:DT:=dD GA 1
def bS9:DT:=dD GA 2
def bS8:DT:=dD GA 3
def bS7:DT:=dD Z4 0
def bS6:DT:=dD Z3 0
def bS5:DT:=dD Gz 0
def bS4:DT:=dD Gz 1
def bS3:DT:=dD Gz 2
def bS2:DT:=dD Gz 3
def bS1:DT:=dD KG 0
def bS0:DT:=dD KG 1
def bR9:DT:=dD KG 2
def YN:DT:=dD Z2 0
def bR8:DT:=dD QM 0
def bR7:DT:=dD QM 1
def bR6:DT:=dD QL 0
def bR5:DT:=dD QL 1
def bR4:DT:=dD QK 0
def bR3:DT:=dD QK 1
def bR2:DT:=dD QJ 0
def bR1:DT:=dD QJ 1
def bR0:DT:=dD Z1 0
def bQ9:DT:=dD Z0 0
def bQ8:DT:=dD ZY 0
def bQ7:DT:=dD ZX 0
def bQ6:DT:=dD ZW 0
def bQ5:DT:=dD ZV 0
def bQ4:DT:=dD QI 0
def bQ3:DT:=dD QI 1
def bQ2:DT:=dD KF 0
def bQ1:DT:=dD KF 1
def bQ0:DT:=dD KF 2
def bP9:DT:=dD AE 0
def bP8:DT:=dD AE 1
def bP7:DT:=dD AE 2
def bP6:DT:=dD AE 3
def bP5:DT:=dD AE 4
def bP4:DT:=dD AE 5
def bP3:DT:=dD ZU 0
def bP2:DT:=dD ZT 0
def bP1:DT:=dD ZS 0
def tf:DT:=dD ZR 0
def Bn:DT:=dD ZR 1
def bO7:DT:=dD QH 1
def bO5:DT:=dD QG 1
def bO4:DT:=dD Dj 2
def Ab:DT:=dD bw 0
def z3:DT:=dD bw 1
def zP:DT:=dD bw 2
def bJ8:DT:=dD vA 0
def bJ7:DT:=dD vA 1
def bJ6:DT:=dD vA 2
def bJ5:DT:=dD vA 3
def bJ4:DT:=dD vA 4
def bJ3:DT:=dD vA 5
def bJ2:DT:=dD vA 6
def bJ1:DT:=dD vA 7
def bJ0:DT:=dD Ky 0
def bI9:DT:=dD Ky 1
def bI8:DT:=dD Ky 2
def bI7:DT:=dD QB 0
def bI6:DT:=dD QB 1
def bI5:DT:=dD Kx 0
def bI4:DT:=dD Kx 1
def bI3:DT:=dD Kx 2
def bI2:DT:=dD QA 0
def bI1:DT:=dD QA 1
def bI0:DT:=dD Qz 0
def bH9:DT:=dD Qz 1
def bH8:DT:=dD ZO 0
def bH7:DT:=dD ZN 0
def bH6:DT:=dD ZM 0
def bH5:DT:=dD ZL 0
def bH4:DT:=dD Dh 0
def bH3:DT:=dD Dh 1
def bH2:DT:=dD Dh 2
def bH1:DT:=dD Dh 3
def bH0:DT:=dD Dh 4
def bG9:DT:=dD Gx 0
def bG8:DT:=dD Gx 1
def bG7:DT:=dD Gx 2
def bG6:DT:=dD Gx 3
def bG5:DT:=dD AD 0
def bG4:DT:=dD AD 1
def bG3:DT:=dD AD 2
def bG2:DT:=dD AD 3
def bG1:DT:=dD AD 4
def bG0:DT:=dD AD 5
def be3:DT:=dD sd 0
def be2:DT:=dD sd 1
def be1:DT:=dD sd 2
def be0:DT:=dD sd 3
def bd9:DT:=dD sd 4
def bF9:DT:=dD ZK 0
def bF8:DT:=dD ZJ 0
def bF7:DT:=dD ZI 0
def bF6:DT:=dD ZH 0
def F:List FD:=[oK,fd1,fd2,T3,fd4,fd5,TZ,EK,fd8,TY,Ss,sC,Sr,Lt,yP,Sq,Sp,So,ak6,ak5,Sn,Sm,Sl,Sk,Sj,Si,Sh,Hh,Hg,Hf,ak4,ak3,ak2,ak1,Sg,ak0,Sf,aj9,aj8,DV,He,aj7,aj6,Se,Sd,Sa,aj5,R',Ls,R9,aj4,bC6,aj3,aj2,R8,Lr,R7,Hc,R6,aj1,aj0,ai9,ai8,ai7,R5,ai6,R4,ai5,ai4,R3,Lq,R2,ai3,ai2,R1,ai1,ai0,R0,ah9,ue,RZ,ah8,ah7,Lp,Lo,RY,RX,RW,RV,RU,ah6,ah5,ah4,ah3,ah2,ah1,ah0,ag9,ag8,ag7,KI,Z5,QP,QO,QN,KH,GA,Z4,Z3,bo9,Gz,bo8,bo7,KG,Z2,bo6,oK,QM,QL,QK,QJ,Z1,Z0,ZY,ZX,ZW,ZV,QI,KF,AE,ZU,ZT,ZS,ZR,ZQ,QH,QG,oK,Dj,oK,oK,oK,oK,oK,oK,oK,oK,oK,oK,oK,oK,oK,oK,oK,oK,oK,oK,oK,oK,oK,oK,oK,oK,bw,oK,vA,Ky,QB,Kx,QA,Qz,ZO,ZN,ZM,ZL,Dh,Gx,AD,sd,ZK,ZJ,ZI,ZH,bo5,bo4]
end
end Go.Proofs.YthicpeihkkokmaaGreatDoor
