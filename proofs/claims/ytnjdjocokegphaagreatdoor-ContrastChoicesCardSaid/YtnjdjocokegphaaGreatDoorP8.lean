/- What these functions answer. -/
import Derived.Test.YtnjdjocokegphaaGreatDoorP7
set_option linter.unusedVariables false
set_option linter.unusedSimpArgs false
set_option maxHeartbeats 4000000
set_option maxRecDepth 100000
namespace Go.Proofs.YtnjdjocokegphaaGreatDoor
open Go.Ex Go.RowKit Go.Fl
structure Ky.Ok (x:Ky):Prop where
 k1:1≤x.k
 k9:x.k≤9
 a:x.a≤7
 b:x.b≤if x.k=1∨x.k=5∨x.k=6∨x.k=7 then 7 else 0
 n:x.n≤65535
structure Ch.Ok (c:Ch):Prop where
 key:c.key.Ok
 tick:c.tick≤if c.key.k≤4 then 200 else 0
 lo:(if c.key.k=3∨c.key.k=6∨c.key.k=9 then 1 else 0)≤c.d
 hi:c.d≤if c.key.k=2 then 1 else if c.key.k=3 then 3 else if c.key.k=6∨c.key.k=7∨c.key.k=9 then 200 else 0
 args:c.args.length≤if c.key.k=1 then 4 else 0
section
variable{X:Nat→List D→Option (List D)}
theorem aW9{x:Ky}(h:x.Ok):Rn F X 126 0 x.dd (·=[iD 0]):=by
 obtain⟨k,a,b,n⟩:=x;obtain⟨h1,h9,ha,hb,hn⟩:=h;dsimp only at*;have hk:k=1∨k=2∨k=3∨k=4∨k=5∨k=6∨k=7∨k=8∨k=9:=by omega
 refine wr rfl ?_;dsimp only [Ky.dd];rcases hk with rfl|rfl|rfl|rfl|rfl|rfl|rfl|rfl|rfl<;>
  simp only [Nat.reduceEqDiff,true_or,or_true,or_self,if_true,if_false] at hb<;>
  repeat(first
   |exact wt rfl rfl
   |refine Wp.dB rfl Fm (by omega) ?_
   |refine Wp.dB rfl au (by omega) ?_
   |refine Wp.cN rfl au (by omega) ?_
   |refine Wp.cN rfl af (by omega) ?_
   |refine Wp.cN rfl ch (by omega) ?_)
theorem be7{c:Ch}(h:c.Ok):Rn F X 127 0 c.dd (·=[iD 0]):=by
 have ck:=aW9 (X:=X) h.key;obtain⟨⟨k,a,b,n⟩,tick,d,args⟩:=c;obtain⟨⟨h1,h9,_,_,_⟩,ht,hl,hi,hg⟩:=h;dsimp only at*;have hk:k=1∨k=2∨k=3∨k=4∨k=5∨k=6∨k=7∨k=8∨k=9:=by omega
 refine wr rfl<|wl rfl ck rfl ?_;dsimp only [Ch.dd,List.cons_append,List.nil_append];refine Wp.cN rfl ew (by simp) ?_;rcases hk with rfl|rfl|rfl|rfl|rfl|rfl|rfl|rfl|rfl<;>
  simp only [Nat.reduceEqDiff,Nat.reduceLeDiff,true_or,or_true,or_self,if_true,if_false] at ht hl hi hg<;>
  repeat(first
   |exact wt rfl rfl
   |refine Wp.dB rfl Fm (by omega) ?_
   |refine Wp.dB rfl au (by omega) ?_
   |refine Wp.cN rfl au (by omega) ?_
   |refine Wp.cN rfl ch (by omega) ?_
   |refine Wp.op rfl (az (n:=args.length) (p7 _)) rfl ?_)
theorem br5{c:Nat}{k:xO}{a:Int}{b:Nat}(h:1≤b):aN (.bin .rem c) [.int k a,.int k (b:Nat)]=some (.int k (Int.tmod a b)):=by
 show ofInt (bs (dq k k) (pw .rem k a b) none)=_;rw[xT];show ofInt (bs (kI (b:Int) 0) none (some (.int k (Int.tmod a b))))=_;rw[mX,decide_eq_false (by omega)];rfl
theorem bD0{a:Int}{n:Nat}(h1:1≤n)(h2:n≤100000):Rn F X 118 0 [.int .i64 a,iD n] (fun o=>∃m,m<n∧o=[iD m]):=by
 have l1:=Int.tmod_lt_of_pos a (b:=(n:Int)) (by omega);have l2:=Int.lt_tmod_of_pos a (b:=(n:Int)) (by omega);obtain⟨m,hm⟩:∃m:Nat,Int.tmod a n+n=m:=⟨(Int.tmod a n+n).toNat,by omega⟩;refine wr rfl<|wo rfl (br5 h1)<|wo rfl oI ?_;rw[hm];exact wo rfl (j4 _ h1)<|wt rfl ⟨m%n,Nat.mod_lt _ h1,rfl⟩
end
theorem YH{c:Nat}{zs:List D}(h:zs.length=7)(hc:c≤100000):aN (.j6 7 72) (jD 0::jD c::zs)=some (.sl []):=by
 show(if _ then _ else none)=_;rw[if_pos ⟨h,xL _,by simp[lj];omega⟩];rfl
theorem Js{l:List Ch}{i:Nat}(h:i<l.length):(bo l)[i]? =some (l[i]'h).dd:=by
 unfold bo;rw[xx,xc h];rfl
theorem kx{l:List Ch}{i:Nat}(h:i<l.length):aN (.eM 0 7 true) [.sl (bo l),jD i]=some (.agg (l[i]'h).dd):=P7 (Js h)
theorem YI{l:List Ch}{i:Nat}(h:i<l.length):aN (.eM 0 4 true) [.sl (bo l),jD i]=some (.agg (l[i]'h).key.dd):=by
 show((bo l)[i]?).bind (fun r=>u3 r 0 4 true)=_;rw[Js h];rfl
theorem B6{l:List Ch}(h:jX l){i j:Nat}(Ek:i<j)(hj:j<l.length):KL (l[i]'(by omega)).key (l[j]'hj).key:=List.pairwise_iff_getElem.1 h i j _ hj Ek
theorem tk{l:List Ch}(h:jX l){i j:Nat}(Ek:i<j)(hj:j<l.length): ¬AP (l[j]'hj).key (l[i]'(by omega)).key<0:=fun e=>KL.Ns ((B6 h Ek hj).trans (IY.1 e))
theorem YK{n:Nat}(h:n≤100000):aN (.ku .u64) [jD n]=some (.int .u64 (n:Nat)):=by
 show some (D.int .u64 (IntKind.u64.wrap n))=_;rw[IntWalk.u64_in _ (by omega)]
section
variable{X:Nat→List D→Option (List D)}{l:List Ch}
theorem Qb{n:Nat}(hn:n≤10):Rn F X 131 0 [.int .u64 (n:Nat)] (fun o=>∃d:D,d.cell=true∧o=[d]):=by
 have hk:n=0∨n=1∨n=2∨n=3∨n=4∨n=5∨n=6∨n=7∨n=8∨n=9∨n=10:=by omega
 refine wr rfl<|wn rfl yd<|wn rfl yd<|wn rfl yd<|wo rfl (Fp (by omega)) ?_;rcases hk with rfl|rfl|rfl|rfl|rfl|rfl|rfl|rfl|rfl|rfl|rfl<;>
 ·exact wg 3 rfl<|wt rfl ⟨_,rfl,rfl⟩
theorem bb6(hl:l.length≤10000)(hg:∀c∈l,c.args.length≤1000):Rn F X 133 0 [.sl (bo l)] (·=[.sl (bo l)]):=by
 have loop:∀(ae pre:List Ch),l=pre++ae→Rn F X 133 1 [.sl (bo pre),.sl (bo l),jD l.length,jD pre.length] (·=[.sl (bo l)]):=by
  intro ae
  induction ae with
  |nil=>
   intro pre hp;rw[xj] at hp;subst hp;exact wr rfl<|wn rfl af<|wt rfl rfl
  |cons c ae ih=>
   intro pre hp;have aF:=bj hp;have aq:=tu hp;have cc:=O6 (X:=X) (hg c (by rw[hp];simp));have next:=ih (pre++[c]) (by rw[hp,aV]);rw[xa,show[c].length=1 from rfl] at next;exact wr rfl<|wy rfl af<|wo rfl (aA aq rfl)<|Wp.aC rfl (l:=c.dd) rfl rfl<|wl rfl cc rfl<|fJ<|wg 1 rfl<|Wp.op rfl (d:= .sl [c.dd]) rfl rfl<|wo rfl (kW (x:=c) (by omega))<|wo rfl oA<|wj next
 have g:=loop l [] rfl;exact wr rfl<|wo rfl (az (n:=l.length) (dO _))<|wo rfl (YH rfl (by omega))<|wo rfl (az (n:=l.length) (dO _))<|wj g
section
variable(hs:jX l)(hl:l.length≤10)(ho:∀c∈l,c.Ok)
include hs hl
theorem da1:∀(n i:Nat),i+n=11→1≤i→Rn F X 132 3 [.sl (bo l),jD i] (·=[.sl (bo l),iD 0]):=by
 intro n
 induction n with
 |zero=>
  intro i hi h1;exact wr rfl<|wo rfl (az (n:=l.length) (dO _))<|wn rfl af<|wo rfl (az (n:=l.length) (dO _))<|wn rfl ch<|wt rfl rfl
 |succ n ih=>
  intro i hi h1;refine wr rfl<|wo rfl (az (n:=l.length) (dO _))<|Wp.aQ rfl af (fun h=> ?_) (fun h=> ?_)
  ·have h:i<l.length:=by omega
   refine Wp.dB rfl (fm (n:=l.length) (dO _)) h<|Wp.aC rfl (YI h) rfl<|wo rfl oW<|wy rfl (fm (n:=l.length) (dO _))<|Wp.aC rfl (YI (i:=i - 1) (by omega)) rfl<|Wp.br rfl (Fo (x:=l[i].key) (y:=l[i - 1].key) (neg:=false)) (fun e=> ?_) (fun _=> ?_)
   ·have e:l[i].key=l[i - 1].key:=by simpa using e
    exact absurd (e▸B6 hs (i:=i - 1) (j:=i) (by omega) h) KL.Ns
   ·exact wo rfl oA<|Wp.jump rfl (ih (i+1) (by omega) (by omega))
  ·exact wo rfl (az (n:=l.length) (dO _))<|wn rfl ch<|wt rfl rfl
theorem Ma:Rn F X 132 2 [.sl (bo l),.sl (bo l),jD l.length,jD l.length] (·=[.sl (bo l),iD 0]):=by
 have jk:=da1 (X:=X) hs hl 10 1 rfl (xk _);refine wr rfl<|wn rfl af<|wo rfl (az (n:=l.length) (dO _))<|wo rfl (YK (by omega))<|wg 1 rfl<|wx rfl (Qb hl) ?_;rintro _ ⟨d,hd,rfl⟩;refine⟨by show(d.cell&&true)=true;rw[hd];rfl,?_⟩;refine wo rfl (zS (a:=l.length) (b:=0) (by omega) (by omega))<|wy rfl Fm<|w8<|Wp.aQ rfl af (fun h=> ?_) (fun _=>Wp.jump rfl jk);have h1:1<l.length:=by omega
 refine Wp.dB rfl (fm (k:=1) (n:=l.length) (dO _)) h1<|Wp.aC rfl (kx (i:=1) h1) rfl<|wy rfl (fm (k:=0) (n:=l.length) (dO _))<|Wp.aC rfl (kx (i:=0) (by omega)) rfl<|hO<|wl rfl (pZ (l[1]'h1).key (l[0]'(by omega)).key) rfl<|Wp.cN rfl af (tk hs (i:=0) (j:=1) (by omega) h1)<|Wp.aQ rfl af (fun h=> ?_) (fun _=>Wp.jump rfl jk);have h2:2<l.length:=by omega
 refine Wp.dB rfl (fm (k:=2) (n:=l.length) (dO _)) h2<|Wp.aC rfl (kx (i:=2) h2) rfl<|wy rfl (fm (k:=1) (n:=l.length) (dO _))<|Wp.aC rfl (kx (i:=1) (by omega)) rfl ?_;dsimp only [List.cons_append,List.nil_append,Ch.dd];refine wl rfl (pZ (l[2]'h2).key (l[1]'(by omega)).key) rfl<|Wp.cN rfl af (tk hs (i:=1) (j:=2) (by omega) h2)<|Wp.aQ rfl af (fun h=> ?_) (fun _=>Wp.jump rfl jk);have h3:3<l.length:=by omega
 refine Wp.dB rfl (fm (k:=3) (n:=l.length) (dO _)) h3<|Wp.aC rfl (kx (i:=3) h3) rfl<|wy rfl (fm (k:=2) (n:=l.length) (dO _))<|Wp.aC rfl (kx (i:=2) (by omega)) rfl<|sC<|wl rfl (pZ (l[3]'h3).key (l[2]'(by omega)).key) rfl<|Wp.cN rfl af (tk hs (i:=2) (j:=3) (by omega) h3)<|Wp.aQ rfl af (fun h=> ?_) (fun _=>Wp.jump rfl jk);have h4:4<l.length:=by omega
 refine Wp.dB rfl (fm (k:=4) (n:=l.length) (dO _)) h4<|Wp.aC rfl (kx (i:=4) h4) rfl<|wy rfl (fm (k:=3) (n:=l.length) (dO _))<|Wp.aC rfl (kx (i:=3) (by omega)) rfl ?_;dsimp only [List.cons_append,List.nil_append,Ch.dd];refine wl rfl (pZ (l[4]'h4).key (l[3]'(by omega)).key) rfl<|Wp.cN rfl af (tk hs (i:=3) (j:=4) (by omega) h4)<|Wp.aQ rfl af (fun h=> ?_) (fun _=>Wp.jump rfl jk);have h5:5<l.length:=by omega
 refine Wp.dB rfl (fm (k:=5) (n:=l.length) (dO _)) h5<|Wp.aC rfl (kx (i:=5) h5) rfl<|wy rfl (fm (k:=4) (n:=l.length) (dO _))<|Wp.aC rfl (kx (i:=4) (by omega)) rfl ?_;dsimp only [List.cons_append,List.nil_append,Ch.dd];refine wl rfl (pZ (l[5]'h5).key (l[4]'(by omega)).key) rfl<|Wp.cN rfl af (tk hs (i:=4) (j:=5) (by omega) h5)<|Wp.aQ rfl af (fun h=> ?_) (fun _=>Wp.jump rfl jk);have h6:6<l.length:=by omega
 refine Wp.dB rfl (fm (k:=6) (n:=l.length) (dO _)) h6<|Wp.aC rfl (kx (i:=6) h6) rfl<|wy rfl (fm (k:=5) (n:=l.length) (dO _))<|Wp.aC rfl (kx (i:=5) (by omega)) rfl ?_;dsimp only [List.cons_append,List.nil_append,Ch.dd];refine wl rfl (pZ (l[6]'h6).key (l[5]'(by omega)).key) rfl<|Wp.cN rfl af (tk hs (i:=5) (j:=6) (by omega) h6)<|Wp.aQ rfl af (fun h=> ?_) (fun _=>Wp.jump rfl jk);have h7:7<l.length:=by omega
 refine Wp.dB rfl (fm (k:=7) (n:=l.length) (dO _)) h7<|Wp.aC rfl (kx (i:=7) h7) rfl<|wy rfl (fm (k:=6) (n:=l.length) (dO _))<|Wp.aC rfl (kx (i:=6) (by omega)) rfl ?_;dsimp only [List.cons_append,List.nil_append,Ch.dd];refine wl rfl (pZ (l[7]'h7).key (l[6]'(by omega)).key) rfl<|Wp.cN rfl af (tk hs (i:=6) (j:=7) (by omega) h7)<|Wp.aQ rfl af (fun h=> ?_) (fun _=>Wp.jump rfl jk);have h8:8<l.length:=by omega
 refine Wp.dB rfl (fm (k:=8) (n:=l.length) (dO _)) h8<|Wp.aC rfl (kx (i:=8) h8) rfl<|wy rfl (fm (k:=7) (n:=l.length) (dO _))<|Wp.aC rfl (kx (i:=7) (by omega)) rfl ?_;dsimp only [List.cons_append,List.nil_append,Ch.dd];refine wl rfl (pZ (l[8]'h8).key (l[7]'(by omega)).key) rfl<|Wp.cN rfl af (tk hs (i:=7) (j:=8) (by omega) h8)<|Wp.aQ rfl af (fun h=> ?_) (fun _=>Wp.jump rfl jk);have h9:9<l.length:=by omega
 refine Wp.dB rfl (fm (k:=9) (n:=l.length) (dO _)) h9<|Wp.aC rfl (kx (i:=9) h9) rfl<|wy rfl (fm (k:=8) (n:=l.length) (dO _))<|Wp.aC rfl (kx (i:=8) (by omega)) rfl ?_;dsimp only [List.cons_append,List.nil_append,Ch.dd];refine wl rfl (pZ (l[9]'h9).key (l[8]'(by omega)).key) rfl<|Wp.cN rfl af (tk hs (i:=8) (j:=9) (by omega) h9)<|Wp.aQ rfl af (fun h=> ?_) (fun _=>Wp.jump rfl jk);have nU:10<l.length:=by omega
 refine Wp.dB rfl (fm (k:=10) (n:=l.length) (dO _)) nU<|Wp.aC rfl (kx (i:=10) nU) rfl<|wy rfl (fm (k:=9) (n:=l.length) (dO _))<|Wp.aC rfl (kx (i:=9) (by omega)) rfl ?_;dsimp only [List.cons_append,List.nil_append,Ch.dd];exact wl rfl (pZ (l[10]'nU).key (l[9]'(by omega)).key) rfl<|Wp.cN rfl af (tk hs (i:=9) (j:=10) (by omega) nU)<|wn rfl af<|wj jk
include ho
theorem bC5:Rn F X 132 0 [.sl (bo l)] (·=[.sl (bo l),iD 0]):=by
 have e2:=Ma (X:=X) hs hl;have ag:∀c∈l,c.args.length≤1000:=fun c hc=>by have:=(ho c hc).args;split at this<;>omega
 have ck9:∀(ae pre:List Ch),l=pre++ae→Rn F X 132 2 [.sl (bo pre),.sl (bo l),jD l.length,jD pre.length] (·=[.sl (bo l),iD 0]):=by
  intro ae
  induction ae with
  |nil=>
   intro pre hp;rw[xj] at hp;rw[←hp];exact e2
  |cons c ae ih=>
   intro pre hp;have aF:=bj hp;have aq:=tu hp;have cc:=O6 (X:=X) (ag c (by rw[hp];simp));have next:=ih (pre++[c]) (by rw[hp,aV]);rw[xa,show[c].length=1 from rfl] at next;exact wr rfl<|wy rfl af<|wo rfl (aA aq rfl)<|Wp.aC rfl (l:=c.dd) rfl rfl<|wl rfl cc rfl<|fJ<|wg 1 rfl<|Wp.op rfl (d:= .sl [c.dd]) rfl rfl<|wo rfl (kW (x:=c) (by omega))<|wo rfl oA<|wj next
 have cl0:∀(ae pre:List Ch),l=pre++ae→Rn F X 132 1 [.sl (bo l),jD l.length,jD pre.length] (·=[.sl (bo l),iD 0]):=by
  intro ae
  induction ae with
  |nil=>
   intro pre hp;rw[xj] at hp;have hp':pre.length=l.length:=by rw[hp]
   exact wr rfl<|wn rfl af<|wo rfl (az (n:=l.length) (dO _))<|wo rfl (YH rfl (by omega))<|wo rfl (az (n:=l.length) (dO _))<|wj (ck9 l [] rfl)
  |cons c ae ih=>
   intro pre hp;have aF:=bj hp;have aq:=tu hp;have ck:=be7 (X:=X) (ho c (by rw[hp];simp));have next:=ih (pre++[c]) (by rw[hp,aV]);rw[xa,show[c].length=1 from rfl] at next;exact wr rfl<|wy rfl af<|wo rfl (aA aq rfl)<|Wp.aC rfl (l:=c.dd) rfl rfl<|wl rfl ck rfl<|Wp.cN rfl ew (by simp)<|wo rfl oA<|wj next
 have g:=cl0 l [] rfl;exact wr rfl<|wo rfl (az (n:=l.length) (dO _))<|wj g
theorem bB0:Rn F X 138 0 [.sl (bo l)] (·=[.sl (bo l),.bool true]):=by
 have c:=bC5 (X:=X) hs hl ho;exact wr rfl<|wl rfl c rfl<|Wp.dB rfl au rfl<|wt rfl rfl
end
end
def gt(l:List Ch)(k:Ky):Option Ch:=l.find? fun c=>decide (c.key=k)
theorem X4{l:List Ch}(h:jX l){i:Nat}(hi:i<l.length){k:Ky}(e:(l[i]'hi).key=k):gt l k=some (l[i]'hi):=by
 unfold gt;rw[List.find?_eq_some_iff_getElem];refine⟨by simpa using e,i,hi,rfl,fun j hj=> ?_⟩;have:=B6 h hj hi;simp only [Bool.not_eq_true',decide_eq_false_iff_not];intro q;rw[q,e] at this;exact KL.Ns this
theorem bF9{l:List Ch}(h:jX l){c:Ch}(hc:c∈l):gt l c.key=some c:=by
 obtain⟨i,hi,rfl⟩:=List.getElem_of_mem hc;exact X4 h hi rfl
theorem Qh{l:List Ch}{k:Ky}{c:Ch}(h:gt l k=some c):c∈l:=List.mem_of_find?_eq_some h
def mi(a b:List Ch):List Ch:=a.filter fun c=>decide (gt b c.key≠some c)
def um(l:List Ch):List (List D):=l.map fun c=>c.key.dd
theorem Pw(l:List Ch):(um l).length=l.length:=xm _
theorem YM{l:List Ch}{x:Ch}(h:l.length≤100000):aN (.app 4 32) [.sl (um l),.sl [x.key.dd]]=some (.sl (um (l++[x]))):=by
 rw[fZ (es:=4) (bys:=32) (row:=x.key.dd) (rows:=um l) rfl rfl (by rw[Pw];omega) (by rw[Pw];omega)];unfold um;rw[List.map_append];rfl
theorem bi6{a c:Nat}:aN (.bin .shr c) [.int .u64 (a:Nat),.int .u64 1]=some (.int .u64 ((a/2:Nat):Int)):=by
 show some (D.int .u64 (Int.fdiv (a:Int) ((2:Nat):Int)))=_;rw[←Int.ofNat_fdiv]
section
variable{X:Nat→List D→Option (List D)}{l a b:List Ch}{k:Ky}
def LR(l:List Ch)(k:Ky)(o:List D):Prop:=(∃i c,o=[jD i,.bool true]∧l[i]? =some c∧gt l k=some c)∨(∃i:Nat,o=[jD i,.bool false]∧gt l k=none)
theorem cP5(hs:jX l)(hl:l.length≤10000):∀(d lo hi:Nat),hi - lo≤d→lo≤hi→hi≤l.length→(∀j (h:j<l.length),j<lo→KL (l[j]'h).key k)→(∀j (h:j<l.length),hi≤j→ ¬KL (l[j]'h).key k)→Rn F X 134 1 ([.sl (bo l),jD l.length,jD lo,jD hi]++k.dd) (LR l k):=by
 have fin:∀lo:Nat,lo≤l.length→(∀j (h:j<l.length),j<lo→KL (l[j]'h).key k)→(∀j (h:j<l.length),lo≤j→ ¬KL (l[j]'h).key k)→Rn F X 134 1 ([.sl (bo l),jD l.length,jD lo,jD lo]++k.dd) (LR l k):=by
  intro lo gI h1 h2;have Z':(∀h:lo<l.length,(l[lo]'h).key≠k)→gt l k=none:=fun bq=>List.find?_eq_none.2 fun c hc=>by
   obtain⟨j,hj,rfl⟩:=List.getElem_of_mem hc;simp only [decide_eq_true_eq];intro e;rcases Nat.lt_trichotomy j lo with g|g|g
   ·exact KL.Ns (e▸h1 j hj g)
   ·subst g;exact bq hj e
   ·exact h2 lo (by omega) (xk _) (e▸B6 hs g hj)
  refine wr rfl<|wn rfl af ?_;by_cases aX:lo<l.length
  ·refine wy rfl af<|wo rfl (aA (Js aX) rfl)<|Wp.aC rfl (l:=(l[lo]'aX).dd) rfl rfl<|wl rfl (pZ (l[lo]'aX).key k) rfl<|fK<|Wp.aQ rfl au (fun h=> ?_) (fun h=> ?_)
   ·exact wt rfl (.inl ⟨lo,l[lo]'aX,rfl,xc aX,X4 hs aX (Ww.1 h)⟩)
   ·exact wt rfl (.inr ⟨lo,rfl,Z' fun _ e=>h (Ww.2 e)⟩)
  ·exact wn rfl af<|wt rfl (.inr ⟨lo,rfl,Z' fun h=>absurd h aX⟩)
 intro d
 induction d with
 |zero=>
  intro lo hi hd Bm fS h1 h2;have:lo=hi:=by omega
  subst this;exact fin lo fS h1 h2
 |succ d ih=>
  intro lo hi hd Bm fS h1 h2;rcases Nat.lt_or_ge lo hi with aX|dX
  ·have hm:(lo+hi)/2<l.length:=by omega
   refine wr rfl<|wy rfl af<|wo rfl (gE (by omega))<|wo rfl (YK (by omega))<|wo rfl bi6<|wo rfl oC<|wo rfl (aA (Js hm) rfl)<|Wp.aC rfl (l:=(l[(lo+hi)/2]'hm).dd) rfl rfl<|wl rfl (pZ (l[(lo+hi)/2]'hm).key k) rfl<|eH<|Wp.aQ rfl af (fun h=> ?_) (fun h=> ?_)
   ·have h:=IY.1 h;refine wo rfl oA<|Wp.jump rfl (ih ((lo+hi)/2+1) hi (by omega) (by omega) fS (fun j hj g=> ?_) h2);rcases Nat.lt_or_ge j ((lo+hi)/2) with q|q
    ·exact(B6 hs q hm).trans h
    ·have:j=(lo+hi)/2:=by omega
     subst this;exact h
   ·refine Wp.jump rfl (ih lo ((lo+hi)/2) (by omega) (by omega) (by omega) h1 (fun j hj g=> ?_));rcases Nat.lt_or_ge ((lo+hi)/2) j with q|q
    ·exact fun e=>h (IY.2 ((B6 hs q hj).trans e))
    ·have:j=(lo+hi)/2:=by omega
     subst this;exact fun e=>h (IY.2 e)
  ·have:lo=hi:=by omega
   subst this;exact fin lo fS h1 h2
theorem Cf(hs:jX l)(hl:l.length≤10000):Rn F X 135 0 (.sl (bo l)::k.dd) (LR l k):=by
 have g:=cP5 (X:=X) (k:=k) hs hl l.length 0 l.length (by omega) (xL _) (xk _) (fun j _ h=>absurd h (Nat.not_lt_zero _)) (fun j h g=>by omega);have c:Rn F X 134 0 (.sl (bo l)::k.dd) (LR l k):=by
  exact wr rfl<|wo rfl (az (n:=l.length) (dO _))<|wj g
 refine wr rfl<|wg 1 rfl ?_;obtain⟨o,ho,q⟩:=c;rcases q with⟨i,c,rfl,hq⟩|⟨i,rfl,hq⟩
 ·exact Wp.AD rfl ⟨_,ho,rfl⟩ rfl (wt rfl (.inl ⟨i,c,rfl,hq⟩))
 ·exact Wp.LH rfl ⟨_,ho,rfl⟩ rfl (Wp.AD rfl ⟨_,ho,rfl⟩ rfl (wt rfl (.inr ⟨i,rfl,hq⟩)))
theorem Oo(hs:jX l)(hl:l.length≤10000)(k:Ky):(∃i c,Rn F X 135 0 (.sl (bo l)::k.dd) (·=[jD i,.bool true])∧(bo l)[i]? =some c.dd∧gt l k=some c)∨(∃i:Nat,Rn F X 135 0 (.sl (bo l)::k.dd) (·=[jD i,.bool false])∧gt l k=none):=by
 obtain⟨o,ho,q⟩:=Cf (X:=X) (k:=k) hs hl;rcases q with⟨i,c,rfl,h1,h2⟩|⟨i,rfl,hq⟩
 ·exact .inl ⟨i,c,⟨_,ho,rfl⟩,by unfold bo;rw[xx,h1];rfl,h2⟩
 ·exact .inr ⟨i,⟨_,ho,rfl⟩,hq⟩
theorem W1(hs:jX l)(hl:l.length≤10000)(ag:∀c∈l,c.args.length≤1000){c:Ch}(h:gt l k=some c):Rn F X 136 0 (.sl (bo l)::k.dd) (·=c.dd++[.bool true]):=by
 have cc:=O6 (X:=X) (ag c (Qh h));rcases Oo (X:=X) hs hl k with⟨i,c',hf,hi,h2⟩|⟨i,hf,h2⟩
 ·rw[h] at h2;cases h2;exact wr rfl<|wl rfl hf rfl<|wo rfl (aA hi rfl)<|Wp.aC rfl (l:=c.dd) rfl rfl<|wl rfl cc rfl<|wt rfl rfl
 ·rw[h] at h2;cases h2
theorem bl0(hs:jX l)(hl:l.length≤10000)(h:gt l k=none):Rn F X 136 0 (.sl (bo l)::k.dd) (·=[bD 0,iD 0,iD 0,iD 0,iD 0,iD 0,.sl [],.bool false]):=by
 rcases Oo (X:=X) hs hl k with⟨i,c',hf,hi,h2⟩|⟨i,hf,h2⟩
 ·rw[h] at h2;cases h2
 ·exact wr rfl<|wl rfl hf rfl<|wt rfl rfl
theorem XR(p:List Ch)(c:Ch):mi (p++[c]) b=if gt b c.key=some c then mi p b else mi p b++[c]:=by
 unfold mi;rw[List.filter_append,List.filter_cons];by_cases h:gt b c.key=some c
 ·rw[if_pos h,if_neg (by simp[h])];simp
 ·rw[if_neg h,if_pos (by simp[h])];rfl
theorem Fs(p:List Ch):(mi p b).length≤p.length:=List.length_filter_le _ _
section
variable(hb:jX b)(lb:b.length≤10000)(la:a.length≤10000)(aa:∀c∈a,c.args.length≤1000)(ab:∀c∈b,c.args.length≤1000)
include hb lb la aa ab
theorem bj4:Rn F X 137 0 [.sl (bo a),.sl (bo b)] (·=[.sl (um (mi a b))]):=by
 have loop:∀(ae pre:List Ch),a=pre++ae→Rn F X 137 1 [.sl (um (mi pre b)),.sl (bo a),jD a.length,jD pre.length,.sl (bo b)] (·=[.sl (um (mi a b))]):=by
  intro ae
  induction ae with
  |nil=>
   intro pre hp;rw[xj] at hp;subst hp;exact wr rfl<|wn rfl af<|wt rfl rfl
  |cons c ae ih=>
   intro pre hp;have aF:=bj hp;have aq:=tu hp;have mR:=Fs (b:=b) pre;have next:=ih (pre++[c]) (by rw[hp,aV]);rw[XR,xa,show[c].length=1 from rfl] at next;refine wr rfl<|wy rfl af<|wo rfl (aA aq rfl)<|Wp.aC rfl (l:=c.dd) rfl rfl<|jq<|wg 1 rfl ?_;rcases Oo (X:=X) hb lb c.key with⟨i,e,hf,hi,h2⟩|⟨i,hf,h2⟩
   ·rw[h2] at next;have sm:=bq5 (X:=X) (c:=c) (e:=e) (aa c (by rw[hp];simp)) (ab e (Qh h2));refine wL rfl hf rfl<|wo rfl (aA hi rfl)<|Wp.aC rfl (l:=e.dd) rfl rfl<|om<|wg 1 rfl ?_;by_cases rq:c=e
    ·rw[decide_eq_true rq] at sm;rw[if_pos (by rw[rq])] at next;exact wL rfl sm rfl<|wo rfl oA<|wj next
    ·rw[decide_eq_false rq] at sm;rw[if_neg (fun q=>rq (by cases q;rfl))] at next;exact wL rfl sm rfl<|wg 1 rfl<|Wp.op rfl (d:= .sl [c.key.dd]) rfl rfl<|wo rfl (YM (x:=c) (by omega))<|wo rfl oA<|wj next
   ·rw[h2,if_neg (by simp)] at next;exact wL rfl hf rfl<|wg 1 rfl<|Wp.op rfl (d:= .sl [c.key.dd]) rfl rfl<|wo rfl (YM (x:=c) (by omega))<|wo rfl oA<|wj next
 have g:=loop a [] rfl;exact wr rfl<|wo rfl (az (n:=a.length) (dO _))<|wj g
theorem VU:Rn F X 144 0 [.sl (bo a),.sl (bo b)] (·=[.sl (bo (mi a b))]):=by
 have loop:∀(ae pre:List Ch),a=pre++ae→Rn F X 144 1 [.sl (bo (mi pre b)),.sl (bo a),jD a.length,jD pre.length,.sl (bo b)] (·=[.sl (bo (mi a b))]):=by
  intro ae
  induction ae with
  |nil=>
   intro pre hp;rw[xj] at hp;subst hp;exact wr rfl<|wn rfl af<|wt rfl rfl
  |cons c ae ih=>
   intro pre hp;have aF:=bj hp;have aq:=tu hp;have mR:=Fs (b:=b) pre;have next:=ih (pre++[c]) (by rw[hp,aV]);rw[XR,xa,show[c].length=1 from rfl] at next;refine wr rfl<|wy rfl af<|wo rfl (aA aq rfl)<|Wp.aC rfl (l:=c.dd) rfl rfl<|jq<|wg 1 rfl ?_;cases h2:gt b c.key with
   |some e=>
    rw[h2] at next;have hg:=W1 (X:=X) hb lb ab h2;have sm:=O2 (X:=X) (c:=c) (e:=e) (aa c (by rw[hp];simp)) (ab e (Qh h2));refine wL rfl hg rfl<|eH<|wg 1 rfl ?_;by_cases rq:c=e
    ·rw[decide_eq_true rq] at sm;rw[if_pos (by rw[rq])] at next;exact wL rfl sm rfl<|wo rfl oA<|wj next
    ·rw[decide_eq_false rq] at sm;rw[if_neg (fun q=>rq (by cases q;rfl))] at next;exact wL rfl sm rfl<|wg 1 rfl<|Wp.op rfl (d:= .sl [c.dd]) rfl rfl<|wo rfl (kW (x:=c) (by omega))<|wo rfl oA<|wj next
   |none=>
    have hg:=bl0 (X:=X) hb lb h2;rw[h2,if_neg (by simp)] at next;exact wL rfl hg rfl<|wg 1 rfl<|Wp.op rfl (d:= .sl [c.dd]) rfl rfl<|wo rfl (kW (x:=c) (by omega))<|wo rfl oA<|wj next
 have g:=loop a [] rfl;have al:=bb6 (X:=X) la aa;exact wr rfl<|wl rfl al rfl<|wo rfl (az (n:=a.length) (dO _))<|wj g
theorem XL(ha:jX a){p h u q h' u':D}(hc:[p,h,u,q,h',u'].all D.cell=true):Rn F X 141 0 [p,.sl (bo a),h,u,q,.sl (bo b),h',u'] (·=[.sl (bo (mi a b))]):=by
 simp only [List.all_cons,List.all_nil,Bool.and_true,xf] at hc;obtain⟨c1,c2,c3,c4,c5,c6⟩:=hc;have K:∀{x:D} {δ:Nat→Option D} {i:Nat} (h:δ i=some x) (hx:x.cell=true),bQ δ (cd i)=some x:=fun h hx=>by
  show(_:Option D).bind _=_;rw[h];show(if _ then _ else _)=_;rw[if_pos hx]
 have loop:∀(ae pre:List Ch),mi a b=pre++ae→Rn F X 141 1 [.sl (bo pre),.sl (um (mi a b)),jD (mi a b).length,jD pre.length,p,.sl (bo a),h,u] (·=[.sl (bo (mi a b))]):=by
  intro ae
  induction ae with
  |nil=>
   intro pre hp;rw[xj] at hp;rw[hp];exact wr rfl<|wn rfl af<|wt rfl rfl
  |cons c ae ih=>
   intro pre hp;have aF:=bj hp;have hm:=Fs (b:=b) a;have hca:c∈a:=(List.mem_filter.1 (show c∈mi a b by rw[hp];simp)).1;have aq:(um (mi a b))[pre.length]? =some c.key.dd:=bR (f:=fun c:Ch=>c.key.dd) hp;have hg:=W1 (X:=X) ha la aa (bF9 ha hca);have next:=ih (pre++[c]) (by rw[hp,aV]);rw[xa,show[c].length=1 from rfl] at next;refine wr rfl<|wy rfl af<|wo rfl (aA aq rfl)<|Wp.aC rfl (l:=c.key.dd) rfl rfl<|jq<|wl rfl hg rfl<|eH<|wg 1 rfl<|Wp.op rfl (d:= .sl [c.dd]) rfl rfl<|wo rfl (kW (x:=c) (by omega))<|wo rfl oA<|Wp.jump ?_ next;exact cG rfl (cG rfl (cG rfl (cG rfl (cG (K rfl c1) (cG rfl (cG (K rfl c2) (cG (K rfl c3) rfl)))))))
 have g:=loop (mi a b) [] rfl;have mn:=bj4 (X:=X) hb lb la aa ab;refine wr rfl<|wl rfl mn rfl<|wo rfl (az (n:=(mi a b).length) (Pw _))<|Wp.jump ?_ g;exact cG rfl (cG rfl (cG rfl (cG rfl (cG (K rfl c1) (cG rfl (cG (K rfl c2) (cG (K rfl c3) rfl)))))))
end
end
structure RC where
 k:Nat
 a:Int
 b:Int
 n:Int
 tick:Int
 d:Int
 args:List Int
def RC.dd(c:RC):List D:=[bD c.k,.int .i64 c.a,.int .i64 c.b,.int .i64 c.n,.int .i64 c.tick,.int .i64 c.d,.sl (jh c.args)]
def D0(l:List RC):List (List D):=l.map RC.dd
theorem XB(l:List RC):(D0 l).length=l.length:=xm _
theorem bq9{l pre ae:List RC}{a:RC}(h:l=pre++a::ae):(D0 l)[pre.length]? =some a.dd:=bR (f:=RC.dd) h
theorem YF{a b:Nat}:aN .mn [jD a,jD b]=some (jD (min a b)):=by
 show some (D.int .i64 (if(b:Int)<(a:Int) then(b:Int) else(a:Int)))=_
 congr 2
 split<;>omega
theorem YD{l:List Int}{b:Nat}(h:b≤l.length):aN (.gw 1) [.sl (jh l),jD 0,jD b]=some (.sl (jh (l.take b))):=by
 rw[kZ (by rw[p7];exact h)];unfold jh;rw[List.map_take]
theorem YL{l:List Int}(h:l.length≤100000):aN (.app 1 8) [.sl [],.sl (jh l)]=some (.sl (jh l)):=zT (rows:=[]) (q:=jh l) (fun row hr=>by obtain⟨x,_,rfl⟩:=xJ.1 hr;exact⟨rfl,rfl⟩) (by simp[jh];omega) (by simp[jh];omega)
theorem XK{c a b:Nat}(h:a+b≤255):aN (.bin .add c) [bD a,bD b]=some (bD (a+b)):=by
 show some (D.int .u8 (gW .u8 ((a:Int)+(b:Int))))=_;rw[kQ,IntWalk.u8_in _ (by omega)];rfl
section
variable{X:Nat→List D→Option (List D)}
theorem Wp.mod{i f:Nat}{env:List D}{Q:List D→Prop}{us:List xM}{t e:DT}{a:Int}{n:Nat}(h1:aW (bQ (lk env)) us=some [.int .i64 a,iD n])(h2:1≤n)(h3:n≤100000)(h:∀m,m<n→Wp F X i t (env++[iD m]) Q):Wp F X i (.call f 118 us [none] t e) env Q:=
 Wp.ao4 h1 (bD0 h2 h3) fun o ⟨m,hm,ho⟩=>by subst ho;exact⟨rfl,h m hm⟩
def MP(o:List D):Prop:=∃l:List Ch,o=[.sl (bo l)]∧l.length≤10∧jX l∧∀c∈l,c.Ok
theorem ba4{raw:List RC}:Rn F X 124 0 [.sl (D0 raw),iD 10] MP:=by
 have fin:∀(acc:List Ch),acc.length≤10→(∀c∈acc,c.Ok)→Rn F X 123 0 [.sl (bo acc)] MP:=fun acc h1 h2=>
  Rn.mono (bp8 (X:=X) (by omega)) fun o ho=>⟨_,ho,xH (Wg _ _) (by simpa using h1),We List.Pairwise.nil,fun c hc=>(Wf hc).elim (fun h=>by simp at h) (h2 c)⟩
 have loop:∀(ae pre:List RC) (acc:List Ch),raw=pre++ae→acc.length=pre.length→pre.length≤10→(∀c∈acc,c.Ok)→Rn F X 124 1 [.sl (D0 raw),jD 10,.sl (bo acc),jD pre.length] MP:=by
  intro ae
  induction ae with
  |nil=>
   intro pre acc hp ha nU NA;rw[xj] at hp;have hp':pre.length=raw.length:=by rw[hp]
   have TQ:=fin acc (by omega) NA;refine wr rfl<|wo rfl (az (n:=raw.length) (XB _))<|wn rfl af<|wg 1 rfl<|wx rfl TQ ?_;rintro _ ⟨l,rfl,hl⟩;exact⟨rfl,wt rfl ⟨l,rfl,hl⟩⟩
  |cons x ae ih=>
   intro pre acc hp ha nU NA;have aF:=bj hp;have aq:=bq9 hp;refine wr rfl<|wo rfl (az (n:=raw.length) (XB _))<|wy rfl af ?_;by_cases aX:pre.length<10
   ·have next:∀c:Ch,c.Ok→Rn F X 124 1 [.sl (D0 raw),jD 10,.sl (bo (acc++[c])),jD (pre.length+1)] MP:=by
     intro c hc;have h:=ih (pre++[x]) (acc++[c]) (by rw[hp,aV]) (by rw[xa,xa,ha];rfl) (by rw[xa,show[x].length=1 from rfl];omega) (fun e he=>by
      rcases xF.1 he with h|h
      ·exact NA e h
      ·rw[xy.1 h];exact hc)
     rw[xa,show[x].length=1 from rfl] at h;exact h
    refine wy rfl af<|wo rfl (aA aq rfl)<|Wp.aC rfl (l:=x.dd) rfl rfl<|jq<|wo rfl (Pn _ 9 (by omega))<|wo rfl (XK (b:=9) (by omega))<|wo rfl (Pn _ 9 (by omega))<|wo rfl (XK (a:=1) (by omega))<|fK ?_;generalize iL:1+(x.k%9+9)%9=kk;have hk:kk=1∨kk=2∨kk=3∨kk=4∨kk=5∨kk=6∨kk=7∨kk=8∨kk=9:=by omega
    clear ih hp;rcases hk with rfl|rfl|rfl|rfl|rfl|rfl|rfl|rfl|rfl
    ·refine wg 1 rfl<|Wp.mod (n:=3) rfl (by omega) (by omega) (fun m hm=> ?_);refine wg 1 rfl<|Wp.mod (n:=4) rfl (by omega) (by omega) (fun m hm=> ?_);refine wy rfl au<|wg 1 rfl<|Wp.mod (n:=3) rfl (by omega) (by omega) (fun m hm=> ?_);refine wg 1 rfl<|Wp.mod (n:=13) rfl (by omega) (by omega) (fun m hm=> ?_);exact eH<|wo rfl (az (n:=x.args.length) (p7 _))<|wo rfl (YF (b:=2))<|wo rfl (YD (Nat.min_le_left _ _))<|wg 1 rfl<|wo rfl (YL (by rw[xz];omega))<|qT<|wg 2 rfl<|wo rfl (kW (x:=⟨⟨_,_,_,_⟩,_,_,_⟩) (by omega))<|wo rfl oA<|Wp.jump rfl (next _ ⟨⟨by dsimp only [List.length_nil];(repeat' split)<;>omega,by dsimp only [List.length_nil];(repeat' split)<;>omega,by dsimp only [List.length_nil];(repeat' split)<;>omega,by dsimp only [List.length_nil];(repeat' split)<;>omega,by dsimp only [List.length_nil];(repeat' split)<;>omega⟩,by dsimp only [List.length_nil];(repeat' split)<;>omega,by dsimp only [List.length_nil];(repeat' split)<;>omega,by dsimp only [List.length_nil];(repeat' split)<;>omega,by dsimp only;rw[xz];(repeat' split)<;>omega⟩)
    ·refine wg 1 rfl<|Wp.mod (n:=3) rfl (by omega) (by omega) (fun m hm=> ?_);refine wg 1 rfl<|Wp.mod (n:=4) rfl (by omega) (by omega) (fun m hm=> ?_);refine wn rfl au<|wy rfl au<|wg 1 rfl<|Wp.mod (n:=13) rfl (by omega) (by omega) (fun m hm=> ?_);refine wg 1 rfl<|Wp.mod (n:=2) rfl (by omega) (by omega) (fun m hm=> ?_);exact eH<|wg 2 rfl<|wo rfl (kW (x:=⟨⟨_,_,_,_⟩,_,_,[]⟩) (by omega))<|wo rfl oA<|Wp.jump rfl (next _ (by refine⟨⟨?_,?_,?_,?_,?_⟩,?_,?_,?_,?_⟩<;>(dsimp only [List.length_nil];(repeat' split)<;>omega)))
    ·refine wg 1 rfl<|Wp.mod (n:=3) rfl (by omega) (by omega) (fun m hm=> ?_);refine wg 1 rfl<|Wp.mod (n:=4) rfl (by omega) (by omega) (fun m hm=> ?_);refine wn rfl au<|wn rfl au<|wy rfl au<|wg 1 rfl<|Wp.mod (n:=13) rfl (by omega) (by omega) (fun m hm=> ?_);refine wg 1 rfl<|Wp.mod (n:=3) rfl (by omega) (by omega) (fun m hm=> ?_);exact eH<|wo rfl (gE (a:=1) (by omega))<|wg 2 rfl<|wo rfl (kW (x:=⟨⟨_,_,_,_⟩,_,_,[]⟩) (by omega))<|wo rfl oA<|qT<|Wp.jump rfl (next _ (by refine⟨⟨?_,?_,?_,?_,?_⟩,?_,?_,?_,?_⟩<;>(dsimp only [List.length_nil];(repeat' split)<;>omega)))
    ·refine wg 1 rfl<|Wp.mod (n:=3) rfl (by omega) (by omega) (fun m hm=> ?_);refine wg 1 rfl<|Wp.mod (n:=4) rfl (by omega) (by omega) (fun m hm=> ?_);refine wn rfl au<|wn rfl au<|wn rfl au<|wy rfl au<|wg 1 rfl<|Wp.mod (n:=13) rfl (by omega) (by omega) (fun m hm=> ?_);exact wg 2 rfl<|eH<|wo rfl (kW (x:=⟨⟨_,_,_,_⟩,_,_,[]⟩) (by omega))<|wo rfl oA<|Wp.jump rfl (next _ (by refine⟨⟨?_,?_,?_,?_,?_⟩,?_,?_,?_,?_⟩<;>(dsimp only [List.length_nil];(repeat' split)<;>omega)))
    ·refine wg 1 rfl<|Wp.mod (n:=3) rfl (by omega) (by omega) (fun m hm=> ?_);refine wg 1 rfl<|Wp.mod (n:=4) rfl (by omega) (by omega) (fun m hm=> ?_);refine wn rfl au<|wn rfl au<|wn rfl au<|wn rfl au<|wy rfl au<|wg 1 rfl<|Wp.mod (n:=3) rfl (by omega) (by omega) (fun m hm=> ?_);exact wg 2 rfl<|eH<|wo rfl (kW (x:=⟨⟨_,_,_,_⟩,_,_,[]⟩) (by omega))<|wo rfl oA<|Wp.jump rfl (next _ (by refine⟨⟨?_,?_,?_,?_,?_⟩,?_,?_,?_,?_⟩<;>(dsimp only [List.length_nil];(repeat' split)<;>omega)))
    ·refine wg 1 rfl<|Wp.mod (n:=3) rfl (by omega) (by omega) (fun m hm=> ?_);refine wg 1 rfl<|Wp.mod (n:=4) rfl (by omega) (by omega) (fun m hm=> ?_);refine wn rfl au<|wn rfl au<|wn rfl au<|wn rfl au<|wn rfl au<|wy rfl au<|wg 1 rfl<|Wp.mod (n:=3) rfl (by omega) (by omega) (fun m hm=> ?_);refine wg 1 rfl<|Wp.mod (n:=5) rfl (by omega) (by omega) (fun m hm=> ?_);exact eH<|wo rfl (gE (a:=1) (by omega))<|wg 2 rfl<|wo rfl (kW (x:=⟨⟨_,_,_,_⟩,_,_,[]⟩) (by omega))<|wo rfl oA<|qT<|Wp.jump rfl (next _ (by refine⟨⟨?_,?_,?_,?_,?_⟩,?_,?_,?_,?_⟩<;>(dsimp only [List.length_nil];(repeat' split)<;>omega)))
    ·refine wg 1 rfl<|Wp.mod (n:=3) rfl (by omega) (by omega) (fun m hm=> ?_);refine wg 1 rfl<|Wp.mod (n:=4) rfl (by omega) (by omega) (fun m hm=> ?_);refine wn rfl au<|wn rfl au<|wn rfl au<|wn rfl au<|wn rfl au<|wn rfl au<|wy rfl au<|wg 1 rfl<|Wp.mod (n:=3) rfl (by omega) (by omega) (fun m hm=> ?_);refine wg 1 rfl<|Wp.mod (n:=4) rfl (by omega) (by omega) (fun m hm=> ?_);exact eH<|wg 2 rfl<|wo rfl (kW (x:=⟨⟨_,_,_,_⟩,_,_,[]⟩) (by omega))<|wo rfl oA<|Wp.jump rfl (next _ (by refine⟨⟨?_,?_,?_,?_,?_⟩,?_,?_,?_,?_⟩<;>(dsimp only [List.length_nil];(repeat' split)<;>omega)))
    ·refine wg 1 rfl<|Wp.mod (n:=3) rfl (by omega) (by omega) (fun m hm=> ?_);refine wg 1 rfl<|Wp.mod (n:=4) rfl (by omega) (by omega) (fun m hm=> ?_);exact wn rfl au<|wn rfl au<|wn rfl au<|wn rfl au<|wn rfl au<|wn rfl au<|wn rfl au<|wn rfl au<|wg 2 rfl<|wo rfl (kW (x:=⟨⟨_,_,_,_⟩,_,_,[]⟩) (by omega))<|eH<|wo rfl oA<|Wp.jump rfl (next _ (by refine⟨⟨?_,?_,?_,?_,?_⟩,?_,?_,?_,?_⟩<;>(dsimp only [List.length_nil];(repeat' split)<;>omega)))
    ·refine wg 1 rfl<|Wp.mod (n:=3) rfl (by omega) (by omega) (fun m hm=> ?_);refine wg 1 rfl<|Wp.mod (n:=4) rfl (by omega) (by omega) (fun m hm=> ?_);refine wn rfl au<|wn rfl au<|wn rfl au<|wn rfl au<|wn rfl au<|wn rfl au<|wn rfl au<|wy rfl au<|wg 1 rfl<|Wp.mod (n:=5) rfl (by omega) (by omega) (fun m hm=> ?_);exact wo rfl (gE (a:=1) (by omega))<|eH<|wg 2 rfl<|wo rfl (kW (x:=⟨⟨_,_,_,_⟩,_,_,[]⟩) (by omega))<|wo rfl oA<|Wp.jump rfl (next _ (by refine⟨⟨?_,?_,?_,?_,?_⟩,?_,?_,?_,?_⟩<;>(dsimp only [List.length_nil];(repeat' split)<;>omega)))
   ·have TQ:=fin acc (by omega) NA;refine wn rfl af<|wg 1 rfl<|wx rfl TQ ?_;rintro _ ⟨l,rfl,hl⟩;exact⟨rfl,wt rfl ⟨l,rfl,hl⟩⟩
 have g:=loop raw [] [] rfl rfl (xL _) (fun c hc=>by simp at hc);exact wr rfl<|wj g
end
structure HI where
 t:Int
 c:Int
 args:List Int
structure HR where
 x:Int
 y:Int
 z:Int
 CZ:List HI
def HI.dd(h:HI):List D:=[.int .i64 h.t,.int .i64 h.c,.sl (jh h.args)]
def HR.dd(h:HR):List D:=[.int .i64 h.x,.int .i64 h.y,.int .i64 h.z,.sl (h.CZ.map HI.dd)]
def sN(l:List HR):List (List D):=l.map HR.dd
theorem X3(l:List HR):(sN l).length=l.length:=xm _
theorem Cc{l:List HR}{i:Nat}(h:i<l.length):(sN l)[i]? =some (l[i]'h).dd:=by
 unfold sN;rw[xx,xc h];rfl
theorem bE7{l:List HI}{i:Nat}(h:i<l.length):(l.map HI.dd)[i]? =some (l[i]'h).dd:=by
 rw[xx,xc h];rfl
def LQ(l:List (List D)):Prop:=∀r∈l,∃(a b c:Nat) (d:List (List D)),r=[iD a,iD b,iD c,.sl d]
theorem bC2{a b c a' b' c':Nat}:∃r:Bool,aN (.nW [.i64,.i64,.i64] false) [.agg [iD a,iD b,iD c],.agg [iD a',iD b',iD c']]=some (.bool r):=by
 have:∃r,ph [.i64,.i64,.i64] [iD a,iD b,iD c] [iD a',iD b',iD c']=some r:=by
  simp only [ph,and_self,if_true,Option.map_some];exact⟨_,rfl⟩
 obtain⟨r,h⟩:=this;refine⟨r !=false,?_⟩;show(ph [.i64,.i64,.i64] [iD a,iD b,iD c] [iD a',iD b',iD c']).map (fun r=>D.bool (r !=false))=_;rw[h];rfl
section
variable{X:Nat→List D→Option (List D)}{raw:List HR}{acc:List (List D)}{i:Nat}{Q:List D→Prop}
theorem Yi(ha:LQ acc){j:Nat}(hj:j<acc.length):∃(a b c:Nat) (d:List (List D)),aN (.eM 0 4 true) [.sl acc,jD j]=some (.agg [iD a,iD b,iD c,.sl d]):=by
 obtain⟨a,b,c,d,h⟩:=ha (acc[j]'hj) (List.getElem_mem hj);refine⟨a,b,c,d,?_⟩;show(acc[j]?).bind (fun r=>u3 r 0 4 true)=_;rw[xc hj,h];rfl
section
variable(hi:i≤2)(hl:acc.length≤2)(ha:LQ acc)(H:∀Hv:List (List D),LQ Hv→Hv.length≤acc.length+1→Rn F X 125 1 [.sl (sN raw),jD 3,.sl Hv,jD (i+1)] Q){a b c:Nat}
include hi hl ha H
theorem cn3:∀(n j:Nat),j+n=acc.length→Rn F X 125 4 [.sl (sN raw),jD 3,.sl acc,jD i,jD acc.length,jD j,iD a,iD b,iD c] Q:=by
 intro n
 induction n with
 |zero=>
  intro j hj;exact wr rfl<|wn rfl af<|wo rfl oA<|Wp.jump rfl (H acc ha (by omega))
 |succ n ih=>
  intro j hj;obtain⟨a',b',c',d,hd⟩:=Yi ha (j:=j) (by omega);have next:=ih (j+1) (by omega);exact wr rfl<|wy rfl af<|wy rfl (fm (n:=acc.length) rfl)<|Wp.aC rfl hd rfl<|wo rfl oA<|wj next
theorem cn4(hr:i<raw.length):∀(n j t:Nat) (rows:List (List D)),j+n=2→rows.length≤j→t≤1000+j*10→Rn F X 125 3 [.sl (sN raw),jD 3,.sl acc,jD i,jD t,jD j,iD a,iD b,iD c,.sl rows] Q:=by
 have fin:∀rows:List (List D),Rn F X 125 1 [.sl (sN raw),jD 3,.sl (acc++[[iD a,iD b,iD c,.sl rows]]),jD (i+1)] Q:=fun rows=>
  H _ (fun r hm=>(xF.1 hm).elim (ha r) (fun h=>⟨a,b,c,rows,xy.1 h⟩)) (by rw[xa];exact xk _)
 intro n
 induction n with
 |zero=>
  intro j t rows hj hrw ht;refine wr rfl<|wo rfl (aA (Cc hr) rfl)<|wg 2 rfl<|wo rfl (az (n:=(raw[i]'hr).CZ.length) (xm _))<|kf<|Wp.aQ rfl af (fun h=> ?_) (fun h=> ?_)
  ·exact wn rfl af<|wg 1 rfl<|Wp.op rfl (d:= .sl [[iD a,iD b,iD c,.sl rows]]) rfl rfl<|wo rfl oP<|wo rfl oA<|wj (fin rows)
  ·exact wg 1 rfl<|Wp.op rfl (d:= .sl [[iD a,iD b,iD c,.sl rows]]) rfl rfl<|wo rfl oP<|wo rfl oA<|wj (fin rows)
 |succ n ih=>
  intro j t rows hj hrw ht;refine wr rfl<|wo rfl (aA (Cc hr) rfl)<|wg 2 rfl<|wo rfl (az (n:=(raw[i]'hr).CZ.length) (xm _))<|kf<|Wp.aQ rfl af (fun h=> ?_) (fun h=> ?_)
  ·have fG:j<(raw[i]'hr).CZ.length:=by omega
   refine wy rfl af<|wo rfl (aA (Cc hr) rfl)<|wg 2 rfl<|wo rfl (aA (bE7 fG) rfl)<|Wp.aC rfl (l:=((raw[i]'hr).CZ[j]'fG).dd) rfl rfl<|eH<|wg 1 rfl<|Wp.mod (n:=8) rfl (by omega) (by omega) (fun m hm=> ?_);refine wo rfl (gE (by omega))<|wo rfl (az (n:=((raw[i]'hr).CZ[j]'fG).args.length) (p7 _))<|wo rfl (YF (b:=2))<|wo rfl (YD (Nat.min_le_left _ _))<|wg 1 rfl<|Wp.mod (n:=4) rfl (by omega) (by omega) (fun m2 eK=> ?_);exact wg 1 rfl<|wo rfl (YL (by rw[xz];omega))<|mI<|wg 2 rfl<|wo rfl oP<|wo rfl oA<|lF<|Wp.jump rfl (ih (j+1) _ _ (by omega) (by rw[xa];show rows.length+1≤_;omega) (by omega))
  ·exact wg 1 rfl<|Wp.op rfl (d:= .sl [[iD a,iD b,iD c,.sl rows]]) rfl rfl<|wo rfl oP<|wo rfl oA<|wj (fin rows)
theorem cn5(hr:i<raw.length):∀(n j:Nat),j+n=acc.length→Rn F X 125 2 [.sl (sN raw),jD 3,.sl acc,jD i,jD acc.length,jD j,iD a,iD b,iD c] Q:=by
 have h3:=cn4 (X:=X) (a:=a) (b:=b) (c:=c) hi hl ha H hr 2 0 1 [] rfl (xk _) (by omega);intro n
 induction n with
 |zero=>
  intro j hj;exact wr rfl<|wn rfl af<|wj h3
 |succ n ih=>
  intro j hj;obtain⟨a',b',c',d,hd⟩:=Yi ha (j:=j) (by omega);have next:=ih (j+1) (by omega);have ck5:=cn3 (X:=X) (a:=a) (b:=b) (c:=c) hi hl ha H n (j+1) (by omega);obtain⟨r,he⟩:=bC2 (a:=a') (b:=b') (c:=c') (a':=a) (b':=b) (c':=c);refine wr rfl<|wy rfl af<|wy rfl (fm (n:=acc.length) rfl)<|Wp.aC rfl hd rfl<|Wp.br rfl he (fun _=> ?_) (fun _=> ?_)
  ·exact wo rfl oA<|wj ck5
  ·exact wo rfl oA<|wj next
end
theorem bk7:Rn F X 125 0 [.sl (sN raw),iD 3] (fun o=>∃rows:List (List D),o=[.sl rows]):=by
 have loop:∀(n i:Nat) (acc:List (List D)),i+n=3→LQ acc→acc.length≤i→Rn F X 125 1 [.sl (sN raw),jD 3,.sl acc,jD i] (fun o=>∃rows:List (List D),o=[.sl rows]):=by
  intro n
  induction n with
  |zero=>
   intro i acc hi ha hl;refine wr rfl<|wo rfl (az (n:=raw.length) (X3 _))<|Wp.aQ rfl af (fun h=> ?_) (fun h=>wt rfl ⟨_,rfl⟩);exact wn rfl af<|wt rfl ⟨_,rfl⟩
  |succ n ih=>
   intro i acc hi ha hl;refine wr rfl<|wo rfl (az (n:=raw.length) (X3 _))<|Wp.aQ rfl af (fun h=> ?_) (fun h=>wt rfl ⟨_,rfl⟩);have hr:i<raw.length:=by omega
   refine wy rfl af<|wo rfl (aA (Cc hr) rfl)<|wg 3 rfl<|wo rfl (aA (Cc hr) rfl)<|wg 3 rfl<|wo rfl (aA (Cc hr) rfl)<|wg 3 rfl<|fK<|wg 1 rfl<|Wp.mod (n:=3) rfl (by omega) (by omega) (fun m hm=> ?_);refine wg 1 rfl<|Wp.mod (n:=3) rfl (by omega) (by omega) (fun m2 eK=> ?_);refine wg 1 rfl<|Wp.mod (n:=4) rfl (by omega) (by omega) (fun m3 hm3=> ?_);refine wo rfl (az (n:=acc.length) rfl)<|Wp.jump rfl (cn5 (X:=X) (a:=m) (b:=m2) (c:=m3) (acc:=acc) (i:=i) (raw:=raw) (by omega) (by omega) ha (fun Hv h1 h2=>ih (i+1) Hv (by omega) h1 (by omega)) hr acc.length 0 (by omega))
 have g:=loop 3 0 [] rfl (fun r h=>by simp at h) (xk _);exact wr rfl<|wj g
end
theorem fV{n:Nat}{l:List D}(h:fW (List.replicate (n+1) .u8) l):∃(m:Int) (r:List D),l= .int .u8 m::r∧fW (List.replicate n .u8) r:=by
 cases l with
 |nil=>exact h.elim
 |cons d r=>
  obtain⟨m,hm,_⟩:=h.1;exact⟨m,r,by rw[hm];rfl,h.2⟩
theorem VM:∀(l:List Int),ph (l.map fun _=>IntKind.u8) (l.map fun m=>D.int .u8 m) (l.map fun m=>D.int .u8 m)=some true
 |[]=>rfl
 |m::l=>by
  show(if IntKind.u8=IntKind.u8∧IntKind.u8=IntKind.u8 then(ph (l.map fun _=>IntKind.u8) (l.map fun m=>D.int .u8 m) (l.map fun m=>D.int .u8 m)).map (fun r=>decide (m=m)&&r) else none)=_;rw[if_pos ⟨rfl,rfl⟩,VM l,decide_eq_true rfl];rfl
section
variable{X:Nat→List D→Option (List D)}{f:dK}{src:aL}{rows:List (List D)}{ids:List D}
theorem aX9(oh:sB ids){x y z x' y' z':D}:Rn F X 140 0 [sY f src ids rows,x,y,z,sY f src ids rows,x',y',z'] (·=[iD 0]):=by
 obtain⟨f1,f2,f3,f4⟩:=f;unfold sB at oh;obtain⟨m0,i0,rfl,h0⟩:=fV oh;obtain⟨m1,i1,rfl,h1⟩:=fV h0;obtain⟨m2,i2,rfl,h2⟩:=fV h1;obtain⟨m3,i3,rfl,h3⟩:=fV h2;obtain⟨m4,i4,rfl,h4⟩:=fV h3;obtain⟨m5,i5,rfl,h5⟩:=fV h4;obtain⟨m6,i6,rfl,h6⟩:=fV h5;obtain⟨m7,i7,rfl,h7⟩:=fV h6;obtain⟨m8,i8,rfl,h8⟩:=fV h7;obtain⟨m9,i9,rfl,h9⟩:=fV h8;obtain⟨m10,i10,rfl,nU⟩:=fV h9;obtain⟨m11,i11,rfl,Vb⟩:=fV nU;obtain⟨m12,i12,rfl,uF⟩:=fV Vb;obtain⟨m13,i13,rfl,h13⟩:=fV uF;obtain⟨m14,i14,rfl,h14⟩:=fV h13;obtain⟨m15,i15,rfl,h15⟩:=fV h14;obtain⟨m16,i16,rfl,h16⟩:=fV h15;obtain⟨m17,i17,rfl,h17⟩:=fV h16;obtain⟨m18,i18,rfl,h18⟩:=fV h17;obtain⟨m19,i19,rfl,h19⟩:=fV h18;obtain⟨m20,i20,rfl,h20⟩:=fV h19;obtain⟨m21,i21,rfl,h21⟩:=fV h20;obtain⟨m22,i22,rfl,h22⟩:=fV h21;obtain⟨m23,i23,rfl,h23⟩:=fV h22;obtain⟨m24,i24,rfl,h24⟩:=fV h23;obtain⟨m25,i25,rfl,h25⟩:=fV h24;obtain⟨m26,i26,rfl,h26⟩:=fV h25;obtain⟨m27,i27,rfl,h27⟩:=fV h26;obtain⟨m28,i28,rfl,h28⟩:=fV h27;obtain⟨m29,i29,rfl,h29⟩:=fV h28;obtain⟨m30,i30,rfl,h30⟩:=fV h29;obtain⟨m31,i31,rfl,h31⟩:=fV h30;cases i31 with
 |cons d r=>exact h31.elim
 |nil=>
  refine wr rfl<|wg 6 rfl ?_;dsimp only [List.cons_append,List.nil_append];refine wg 4 rfl ?_;dsimp only [List.cons_append,List.nil_append];exact Wp.uI rfl (congrArg (fun o:Option Bool=>o.map fun r=>D.bool (r !=true)) (VM [_,_,_,_,_,_,_,_,_,_,_,_,_,_,_,_,_,_,_,_,_,_,_,_,_,_,_,_,_,_,_,_]))<|wt rfl rfl
section
variable{a b:List Ch}(sa:jX a)(sb:jX b)(lb:b.length≤10000)(la:a.length≤10000)(aa:∀c∈a,c.args.length≤1000)(ab:∀c∈b,c.args.length≤1000)
include sa sb lb la aa ab
theorem aW4(oh:sB ids){h h':List (List D)}{u u':Nat}:Rn F X 142 0 [sY f src ids rows,.sl (bo a),.sl h,iD u,sY f src ids rows,.sl (bo b),.sl h',iD u'] (·=[.sl (bo (mi a b)),.sl (bo (mi b a)),iD 0]):=by
 have c0:=aX9 (X:=X) (f:=f) (src:=src) (rows:=rows) oh (x:= .sl (bo a)) (y:= .sl h) (z:=iD u) (x':= .sl (bo b)) (y':= .sl h') (z':=iD u');have c1:=XL (X:=X) sb lb la aa ab sa (p:=sY f src ids rows) (h:= .sl h) (u:=iD u) (q:=sY f src ids rows) (h':= .sl h') (u':=iD u') rfl;have c2:=XL (X:=X) sa la lb ab aa sb (p:=sY f src ids rows) (h:= .sl h') (u:=iD u') (q:=sY f src ids rows) (h':= .sl h) (u':=iD u) rfl;exact wr rfl<|wl rfl c0 rfl<|Wp.cN rfl ew (by simp)<|wl rfl c1 rfl<|wl rfl c2 rfl<|wt rfl rfl
end
end
structure ve where
 p:DP
 cs:List RC
 hs:List HR
 MY:UInt8
def ve.d(p:ve):List D:=p.p.d++[.sl (D0 p.cs),.sl (sN p.hs),bD p.MY.toNat]
def bw5(o:List D):Prop:=∃(f:dK) (ar:List (List Nat)) (src:aL) (rows:List (List D)) (ids:List D) (l:List Ch) (h:List (List D)) (u:Nat),o=[sY f src ids rows,.sl (bo l),.sl h,iD u]++f.r++[.bool true]∧gZ ar f∧LP ar rows∧sB ids∧l.length≤10∧jX l∧(∀c∈l,c.Ok)∧u<13
section
variable{X:Nat→List D→Option (List D)}
theorem Wq(p:ve):Rn F X 139 0 p.d bw5:=by
 obtain⟨⟨p1,p2,p3⟩,cs,hs,MY⟩:=p;have c1:=bs3 (X:=X) ⟨p1,p2,p3⟩;have c2:=ba4 (X:=X) (raw:=cs);have c4:=bk7 (X:=X) (raw:=hs);refine wr rfl<|wg 1 rfl<|wx rfl c1 ?_;rintro _ ⟨f,ar,src,rows,ids,rfl,hf,hr,hi⟩;obtain⟨f1,f2,f3,f4⟩:=f;refine⟨rfl,?_⟩;refine wg 1 rfl<|cW<|wx rfl c2 fun|_,⟨l,rfl,hl,mb,ho⟩=>⟨rfl,?_⟩
 refine wl rfl (bB0 (X:=X) mb hl ho) rfl<|wo rfl (Pn _ 13 (by omega))<|wo rfl oC<|wg 2 rfl<|wx rfl c4 fun|_,⟨h,rfl⟩=>⟨rfl,?_⟩
 exact wt rfl ⟨⟨f1,f2,f3,f4⟩,ar,src,rows,ids,l,h,MY.toNat%13,rfl,hf,hr,hi,hl,mb,ho,Nat.mod_lt _ (by omega)⟩
section
variable{x y:List Ch}(lx:x.length≤10000)(ly:y.length≤10000)(ax:∀c∈x,c.args.length≤1000)(ay:∀c∈y,c.args.length≤1000)
include ly ay
theorem bs7:∀(ae pre:List Ch),y=pre++ae→Rn F X 145 2 [.sl (bo y),.sl (bo y),jD y.length,jD pre.length] (·=[.bool true]):=by
 intro ae
 induction ae with
 |nil=>
  intro pre hp;rw[xj] at hp;have hp':pre.length=y.length:=by rw[hp]
  exact wr rfl<|wn rfl af<|wt rfl rfl
 |cons c ae ih=>
  intro pre hp;have aF:=bj hp;have aq:=tu hp;have hc:=ay c (by rw[hp];simp);have eq:=O2 (X:=X) hc hc;rw[decide_eq_true rfl] at eq;have next:=ih (pre++[c]) (by rw[hp,aV]);rw[xa,show[c].length=1 from rfl] at next;exact wr rfl<|wy rfl af<|wo rfl (aA aq rfl)<|Wp.aC rfl (l:=c.dd) rfl rfl<|wo rfl (aA aq rfl)<|Wp.aC rfl (l:=c.dd) rfl rfl<|jo<|wl rfl eq rfl<|wo rfl oA<|wj next
include lx ax in
theorem bs8:∀(ae pre:List Ch),x=pre++ae→Rn F X 145 1 [.sl (bo x),.sl (bo y),.sl (bo x),.sl (bo y),jD x.length,jD pre.length] (·=[.bool true]):=by
 have g:=bs7 (X:=X) ly ay y [] rfl;intro ae
 induction ae with
 |nil=>
  intro pre hp;rw[xj] at hp;have hp':pre.length=x.length:=by rw[hp]
  exact wr rfl<|wn rfl af<|wo rfl (az (n:=y.length) (dO _))<|wj g
 |cons c ae ih=>
  intro pre hp;have aF:=bj hp;have aq:=tu hp;have hc:=ax c (by rw[hp];simp);have eq:=O2 (X:=X) hc hc;rw[decide_eq_true rfl] at eq;have next:=ih (pre++[c]) (by rw[hp,aV]);rw[xa,show[c].length=1 from rfl] at next;exact wr rfl<|wy rfl af<|wo rfl (aA aq rfl)<|Wp.aC rfl (l:=c.dd) rfl rfl<|wo rfl (aA aq rfl)<|Wp.aC rfl (l:=c.dd) rfl rfl<|hO<|wl rfl eq rfl<|wo rfl oA<|wj next
end
theorem bD6(hA:Rn F X 146 0 [] (·=[.bool true]))(p q:ve):Rn F X 145 0 (p.d++q.d) (·=[.bool true]):=by
 have c1:=Wq (X:=X) p;have c2:=Wq (X:=X) q;obtain⟨⟨p1,p2,p3⟩,cs,hs,MY⟩:=p;obtain⟨⟨q1,q2,q3⟩,ds,ks,tim⟩:=q;refine wr rfl<|wl rfl hA rfl<|wg 1 rfl<|wx rfl c1 ?_;rintro _ ⟨f,ar,src,rows,ids,a,h,u,rfl,hf,hr,hi,la,sa,oa,hu⟩;obtain⟨f1,f2,f3,f4⟩:=f;refine⟨rfl,?_⟩;refine wg 1 rfl<|hO<|wx rfl c2 ?_;rintro _ ⟨g,ar',dE3,cf3,dE4,b,h',u',rfl,hg,ej,hi',lb,sb,ob,hu'⟩;obtain⟨g1,g2,g3,g4⟩:=g;refine⟨rfl,?_⟩;refine wg 1 rfl<|lF ?_;have fit:∀{l:List Ch},(∀c∈l,c.Ok)→∀c∈l,c.args.length≤1000:=fun o c hc=>by have:=(o c hc).args;split at this<;>omega
 have aa:=fit oa;have ab:=fit ob;have ml:=Fs (b:=b) a;have ml':=Fs (b:=a) b;refine wL rfl (aW4 (X:=X) sa sb (by omega) (by omega) aa ab hi) rfl<|wl rfl (VU (X:=X) sb (by omega) (by omega) aa ab) rfl<|wl rfl (VU (X:=X) sa (by omega) (by omega) ab aa) rfl<|iW<|Wp.cN rfl ew (by simp)<|wo rfl (az (n:=(mi a b).length) (dO _))<|wo rfl (az (n:=(mi a b).length) (dO _))<|Wp.cN rfl o4 (by simp)<|wo rfl (az (n:=(mi b a).length) (dO _))<|wo rfl (az (n:=(mi b a).length) (dO _))<|Wp.cN rfl o4 (by simp)<|wo rfl (az (n:=(mi a b).length) (dO _)) ?_;have sub:∀{x y:List Ch},(∀c∈x,c.args.length≤1000)→∀c∈mi x y,c.args.length≤1000:=fun o c hc=>o c (List.mem_filter.1 hc).1
 exact Wp.jump rfl (bs8 (X:=X) (by omega) (by omega) (sub aa) (sub ab) (mi a b) [] rfl)
end
end Go.Proofs.YtnjdjocokegphaaGreatDoor
