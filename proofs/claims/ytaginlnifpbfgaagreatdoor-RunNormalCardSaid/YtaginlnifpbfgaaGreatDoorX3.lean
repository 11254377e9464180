/- A verified evaluator of Go functions. -/
import Derived.Test.YtaginlnifpbfgaaGreatDoorX2
import Derived.IntWalk
import Derived.Lib.ConvBytes
import Derived.Laws.IdiomStrings
import Derived.Lib.UnsafeStr
set_option linter.unusedVariables false
set_option linter.unusedSimpArgs false
namespace Go.Ex
open Go.RowKit
noncomputable section
section
variable{P:Program}{E:aq}(ok:E.Ok P){sq:List (Nat×List xO)}(ba:E.Seq P sq){w0 w:World}{β:af}{A:AW}(inv:Inv w0 E.G β A w)
def J'(E:aq)(t:xN):Option xM:=
 match E.ti.get none t with
 |some r=>bs r.ri (bs (m5 r.desc) (some (.agg ⟨ew pH r.zero⟩)) (match r.zero with|[c]=>some (pH c)|_=>none)) none
 |none=>none
include ok in
theorem Wg{t:xN}{v:xM}(h:J' E t=some v)(w:World):∃v',(zeroValue t).run P w= .ok v' w∧∀β:af,ai β v v':=by
 unfold J' at h;split at h
 ·rename_i r hr;replace h:=au h;rcases h with⟨hz,h⟩|⟨_,h⟩
  ·obtain⟨_,i,hi,_,_,dX⟩:=ok.ti t r hr;obtain⟨z,kR,Ft⟩:=dX hz;obtain⟨e1,e2⟩:=ok.zr t r i z hr hi hz kR;have aJ:(zeroValue t).run P w= .ok z w:=by simp[zeroValue,typeInfo,hi,kR]
   refine⟨z,aJ,fun β=> ?_⟩;replace h:=au h;rcases h with⟨hd,h⟩|⟨hd,h⟩
   ·cases h;have:z= .agg ⟨r.zero⟩:=by
     rw[e1];cases T9:r.desc<;>rw[T9] at hd<;>first|(cases hd;done)|rfl
    rw[this];exact ai.tL (A5 β _)
   ·split at h
    ·rename_i c hc;cases h;have:z=c:=by
      rw[e1];cases T9:r.desc<;>rw[T9] at hd<;>first|(cases hd;done)|(simp only [hc])
     rw[this];exact C6 β c
    ·cases h
  ·cases h
 ·cases h
def tP(A:AW)(B:Nat):Option (List MapEntry×Nat):=match A.get B with|some ⟨.map es ck,_,_,_,_⟩=>some (es,ck)|_=>none
include inv in
theorem y9{B:Nat}{es:List MapEntry}{ck:Nat}(h:tP A B=some (es,ck)){l:Loc}(hl:β B=some l):∃ax,w.heap[l.b]? =some (.map ⟨ax⟩ ck)∧eU β es ax:=by
 unfold tP at h;split at h
 ·rename_i hg;cases h;obtain⟨ax,h1,h2,h3⟩:=inv.cont B _ l hg hl;obtain⟨ax⟩:=ax;exact⟨ax,h1,by simpa using h2,fun i e e' a b=>h3 i e e' a (by simpa using b)⟩
 ·cases h
def wG(A:AW)(B:Nat)(es:List MapEntry)(ck:Nat):AW:=match A.get B with|some ⟨_,a,b,c,d⟩=>A.put B (some ⟨.map es ck,a,b,c,d⟩)|none=>A
include inv in
theorem Gk{B:Nat}{es pj:List MapEntry}{ck ck2:Nat}(h:tP A B=some (es,ck))(hG:E.G.n≤B){l:Loc}(hl:β B=some l){Ic:List MapEntry}(hm:eU β pj Ic):
 (setObj l.b (.map ⟨Ic⟩ ck2)).run P w= .ok () {w with heap:=w.heap.setIfInBounds l.b (.map ⟨Ic⟩ ck2)}∧Inv w0 E.G β (wG A B pj ck2) {w with heap:=w.heap.setIfInBounds l.b (.map ⟨Ic⟩ ck2)}:=by
 obtain⟨ax,h1,_⟩:=y9 inv h hl;have bg:l.b<w.heap.size:=(Array.getElem?_eq_some_iff.1 h1).1;unfold tP at h;split at h
 ·rename_i e0 c0 a b c d hg;refine⟨by simp[setObj,Sem.run,h1],?_⟩;unfold wG;rw[hg];refine inv.write B l _ _ hg hl hG ⟨rfl,rfl,rfl,by simp,fun k hk bA=> ?_⟩ (by simp) ?_
  ·show(w.heap.setIfInBounds l.b _)[k]? =_;rw[Array.getElem?_setIfInBounds_ne (fun e=>bA (by rw[e]))]
  ·show gH β l _ ((w.heap.setIfInBounds l.b _)[l.b]?);rw[Array.getElem?_setIfInBounds_self_of_lt bg];exact⟨⟨Ic⟩,rfl,by simpa using hm.1,fun i e e' a b=>hm.2 i e e' a (by simpa using b)⟩
 ·cases h
theorem F4(B:Nat)(es:List MapEntry)(ck:Nat):(wG A B es ck).next=A.next:=by
 unfold wG;split<;>rfl
theorem eU.set{es ax:List MapEntry}(h:eU β es ax)(i:Nat){e e':MapEntry}(he:yo β e e'):eU β (es.set i e) (ax.set i e'):=by
 refine⟨by simp[h.1],fun k a b ha hb=> ?_⟩;rw[List.getElem?_set] at ha hb;by_cases hk:i=k
 ·rw[if_pos hk] at ha hb;split at ha
  ·rw[if_pos (by rw[←h.1];assumption)] at hb;cases ha;cases hb;exact he
  ·cases ha
 ·rw[if_neg hk] at ha hb;exact h.2 k a b ha hb
theorem eU.snoc{es ax:List MapEntry}(h:eU β es ax){e e':MapEntry}(he:yo β e e'):eU β (es++[e]) (ax++[e']):=by
 refine⟨by simp[h.1],fun k a b ha hb=> ?_⟩;by_cases hk:k<es.length
 ·rw[xw hk] at ha;rw[xw (by rw[←h.1];exact hk)] at hb;exact h.2 k a b ha hb
 ·rw[xq (by omega)] at ha;rw[xq (by rw[←h.1];omega),←h.1] at hb;cases hq:k - es.length with
  |zero=>rw[hq] at ha hb;simp at ha hb;subst ha;subst hb;exact he
  |succ q=>rw[hq] at ha;simp at ha
def JX(E:aq)(sq:List (Nat×List xO))(A:AW)(t:xN)(x k:xM)(ck:Bool):Option xM:=
 match E.ti.get none t with
 |some ⟨.map kt et,_,_,_,_⟩=>
  match(match x with| .map none=>some []| .map (some B)=>(match tP A B with|some (es,_)=>some es|none=>none)|_=>none) with
  |none=>none
  |some es=>bs (Bl E sq kt k) (match pE E sq kt k es 0 with
   |none=>none
   |some (some (_,v))=>some (bs ck (.tuple ⟨[v,.bool true]⟩) v)
   |some none=>match J' E et with
    |some v=>some (bs ck (.tuple ⟨[v,.bool false]⟩) v)
    |none=>none) none
 |_=>none
include ok ba inv in
theorem aP3{t:xN}{x x' k k' v:xM}{ck:Bool}(h:JX E sq A t x k ck=some v)(hx:ai β x x')(hk:ai β k k'):∃v',(Instr.lookup t x' k' ck).run P w= .ok v' w∧ai β v v':=by
 unfold JX at h;split at h
 ·rename_i kt et _ _ _ _ hr;have hu:=(ok.ti t _ hr).1;split at h
  ·cases h
  ·rename_i es cz;replace h:=au h;rcases h with⟨hkb,h⟩|⟨_,h⟩
   ·have sN:∃ax,eU β es ax∧((x'= .map none∧ax=[])∨∃r c0,x'= .map (some r)∧w.heap[r]? =some (.map ⟨ax⟩ c0)):=by
     split at cz
     ·cases cz;cases hx;exact⟨[],⟨rfl,fun i e e' h=>by simp at h⟩,.inl ⟨rfl,rfl⟩⟩
     ·rename_i B;cases hx with
      |map _ l hl=>
       split at cz
       ·rename_i ft ck0 hm;cases cz;obtain⟨ax,h1,h2⟩:=y9 inv hm hl;exact⟨ax,h2,.inr ⟨l.b,ck0,rfl,h1⟩⟩
       ·cases cz
     ·cases cz
    obtain⟨ax,hm,Cw⟩:=sN;clear cz hx;have fin:∀r,pE E sq kt k es 0=some r→_:=fun r uN=>JZ ok ba hkb hk uN hm w
    split at h
    ·cases h
    ·rename_i j0 v0 hf;cases h;obtain⟨⟨r',f1,f2⟩,f3,-⟩:=fin _ hf;rcases f2 with⟨e,_⟩|⟨j1,v1,yt,e1,e2,hv⟩
     ·cases e
     ·cases e1;subst e2;cases ck with
      |true=>exact⟨.tuple #[yt,.bool true],by rcases Cw with⟨e1,e2⟩|⟨r,c0,e1,hh⟩<;>first|(subst e1;subst e2;simp[Instr.lookup,run_underlying hu,f3,f1];done)|(subst e1;simp[Instr.lookup,run_underlying hu,f3,f1,getObj,Sem.run,hh]),ai.rJ ((aP.nil β).cons (.bool true)|>.cons hv)⟩
      |false=>exact⟨yt,by rcases Cw with⟨e1,e2⟩|⟨r,c0,e1,hh⟩<;>first|(subst e1;subst e2;simp[Instr.lookup,run_underlying hu,f3,f1];done)|(subst e1;simp[Instr.lookup,run_underlying hu,f3,f1,getObj,Sem.run,hh]),hv⟩
    ·rename_i hf;split at h
     ·rename_i z hz;cases h;obtain⟨z',gw,dX⟩:=Wg (P:=P) ok hz w;obtain⟨⟨r',f1,f2⟩,f3,-⟩:=fin _ hf;rcases f2 with⟨_,e⟩|⟨j1,v1,yt,e1,_⟩
      ·subst e;cases ck with
       |true=>exact⟨.tuple #[z',.bool false],by rcases Cw with⟨e1,e2⟩|⟨r,c0,e1,hh⟩<;>first|(subst e1;subst e2;simp[Instr.lookup,run_underlying hu,f3,f1,gw];done)|(subst e1;simp[Instr.lookup,run_underlying hu,f3,f1,gw,getObj,Sem.run,hh]),ai.rJ ((aP.nil β).cons (.bool false)|>.cons (dX β))⟩
       |false=>exact⟨z',by rcases Cw with⟨e1,e2⟩|⟨r,c0,e1,hh⟩<;>first|(subst e1;subst e2;simp[Instr.lookup,run_underlying hu,f3,f1,gw];done)|(subst e1;simp[Instr.lookup,run_underlying hu,f3,f1,gw,getObj,Sem.run,hh]),dX β⟩
      ·cases e1
     ·cases h
   ·cases h
 ·cases h
end
section
variable{P:Program}{E:aq}(ok:E.Ok P){sq:List (Nat×List xO)}(ba:E.Seq P sq){w0 w:World}{β:af}{A:AW}(inv:Inv w0 E.G β A w)
theorem ON{kt:xN}{k:xM}:∀(es:List MapEntry) (i j:Nat) (v:xM),pE E sq kt k es i=some (some (j,v))→i≤j∧∃e,es[j - i]? =some e∧jZ E sq kt k e.key=some true∧e.val=v
 |[],i,j,v,h=>by cases h
 |e::es,i,j,v,h=>by
  have h':(match jZ E sq kt k e.key with
   |none=>none
   |some true=>some (some (i,e.val))
   |some false=>pE E sq kt k es (i+1))=some (some (j,v)):=h
  clear h;split at h'
  ·cases h'
  ·rename_i hq;cases h';exact⟨xk _,e,by simp,hq,rfl⟩
  ·obtain⟨h1,e2,h2,h3⟩:=ON es (i+1) j v h';refine⟨by omega,e2,?_,h3⟩;rw[show j - i=(j - (i+1))+1 by omega,List.getElem?_cons_succ];exact h2
theorem Jm{es:List MapEntry}{j:Nat}{e:MapEntry}(h:es[j]? =some e)(f:MapEntry→MapEntry):(⟨es⟩:Array MapEntry).modify j f=⟨es.set j (f e)⟩:=by
 apply Array.ext_getElem?;intro i;rw[Array.getElem?_modify];have bg:=(xe.1 h).1;by_cases hi:j=i
 ·subst hi;have h2:(⟨es⟩:Array MapEntry)[j]? =some e:=by simpa using h
  have h3:(⟨es.set j (f e)⟩:Array MapEntry)[j]? =some (f e):=by simp[bg]
  rw[h2,h3];simp
 ·rw[if_neg hi];have h3:(⟨es.set j (f e)⟩:Array MapEntry)[i]? =es[i]? :=by simp[List.getElem?_set_ne hi]
  rw[h3];simp
theorem eU.get{es ax:List MapEntry}(h:eU β es ax){i:Nat}{e:MapEntry}(he:es[i]? =some e):∃e',ax[i]? =some e'∧yo β e e':=by
 have hi:i<ax.length:=h.1▸(xe.1 he).1;exact⟨ax[i],by simp[hi],h.2 i e _ he (by simp[hi])⟩
def z4(E:aq)(sq:List (Nat×List xO))(A:AW)(t:xN)(m k v:xM):Option AW:=
 match E.ti.get none t,m with
 |some ⟨.map kt _,_,_,_,_⟩,.map (some B)=>match tP A B with
  |some (es,ck)=>bs (Nat.ble E.G.n B&&Bl E sq kt k) (match pE E sq kt k es 0 with
   |none=>none
   |some none=>some (wG A B (aa es [⟨k,v,ck⟩]) (Nat.add ck 1))
   |some (some (i,_))=>match dB es i with
    |some e=>some (wG A B (EM es i ⟨k,v,e.born⟩) ck)
    |none=>none) none
  |none=>none
 |_,_=>none
theorem Vi{t:xN}{m k v:xM}{A':AW}(h:z4 E sq A t m k v=some A'):A.next≤A'.next:=by
 unfold z4 at h;split at h
 ·split at h
  ·replace h:=au h;rcases h with⟨_,h⟩|⟨_,h⟩
   ·split at h
    ·cases h
    ·cases h;rw[F4];exact xk _
    ·split at h
     ·cases h;rw[F4];exact xk _
     ·cases h
   ·cases h
  ·cases h
 ·cases h
include ok ba inv in
theorem Xg{t:xN}{m m' k k' v v':xM}{A':AW}(h:z4 E sq A t m k v=some A')(hm:ai β m m')(hk:ai β k k')(hv:ai β v v'):∃w',(Instr.mapUpdate t m' k' v').run P w= .ok () w'∧Inv w0 E.G β A' w':=by
 unfold z4 at h;split at h
 ·rename_i kt et _ _ _ _ B hr;have hu:=(ok.ti t _ hr).1;split at h
  ·rename_i es ck ap;replace h:=au h;rcases h with⟨hb,h⟩|⟨_,h⟩
   ·rw[xf] at hb;have hG:=xh hb.1;cases hm with
    |map _ l hl=>
     obtain⟨ax,sx,mS⟩:=y9 inv ap hl;have fin:∀r,pE E sq kt k es 0=some r→_:=fun r uN=>JZ ok ba hb.2 hk uN mS w
     split at h
     ·cases h
     ·rename_i hf;cases h;obtain⟨⟨r',f1,f2⟩,f3,f4,_⟩:=fin _ hf;rcases f2 with⟨_,e⟩|⟨_,_,_,e1,_⟩
      ·subst e;have eV:eU β (es++[⟨k,v,ck⟩]) (ax++[⟨k',v',ck⟩]):=mS.snoc ⟨rfl,hk,hv⟩;obtain⟨aJ,bV⟩:=Gk (P:=P) (ck2:=ck+1) inv ap hG hl eV;rw[jm];refine⟨_,?_,bV⟩;have iV:(getObj l.b).run P w= .ok (.map ⟨ax⟩ ck) w:=by simp[getObj,Sem.run,sx]
       have BH:(⟨ax⟩:Array MapEntry).push ⟨k',v',ck⟩=⟨ax++[⟨k',v',ck⟩]⟩:=by apply Array.ext';simp
       simp only [Instr.mapUpdate,Sem.run_bind,run_underlying hu,iV,f3,f1,Result.andThen_ok];rw[BH];exact aJ
      ·cases e1
     ·rename_i j0 v0 hf;split at h
      ·rename_i e0 rD;rw[eM] at rD;cases h;obtain⟨⟨r',f1,f2⟩,f3,f4,f5,f6⟩:=fin _ hf;rcases f2 with⟨e,_⟩|⟨j1,v1,yt,e1,e2,ob⟩
       ·cases e
       ·cases e1;subst e2;obtain⟨_,e9,h9,CN,_⟩:=ON (E:=E) (sq:=sq) es 0 j0 v0 hf;rw[Nat.sub_zero,rD] at h9;cases h9;obtain⟨e',cS,eW,bW,dF⟩:=mS.get rD;have yg:e'.key=k:=f6 _ _ CN bW;have eV:eU β (es.set j0 ⟨k,v,e0.born⟩) (ax.set j0 ⟨k',v',e'.born⟩):=mS.set j0 ⟨eW,hk,hv⟩;obtain⟨aJ,bV⟩:=Gk (P:=P) (ck2:=ck) inv ap hG hl eV;rw[JW];refine⟨_,?_,bV⟩;have iV:(getObj l.b).run P w= .ok (.map ⟨ax⟩ ck) w:=by simp[getObj,Sem.run,sx]
        have uj:=Jm cS (fun e=>{e with key:=k',val:=v'});have FC:(Instr.keyThatStays ((((⟨ax⟩:Array MapEntry)[j0]?).map (·.key)).getD k') k').run P w= .ok k' w:=by
         have:(((⟨ax⟩:Array MapEntry)[j0]?).map (·.key)).getD k'=k:=by simp[cS,yg]
         rw[this,f4];simp[Instr.keyThatStays,f5]
        simp only [Instr.mapUpdate,Sem.run_bind,run_underlying hu,iV,f3,f1,Result.andThen_ok,FC];rw[uj];exact aJ
      ·cases h
   ·cases h
  ·cases h
 ·cases h
def DJ(E:aq)(sq:List (Nat×List xO))(A:AW)(t:xN)(m k:xM):Option (xM×AW):=
 match E.ti.get none t,m with
 |some ⟨.map kt et,_,_,_,_⟩,.map (some B)=>match tP A B with
  |some (es,ck)=>bs (Nat.ble E.G.n B&&Bl E sq kt k) (match pE E sq kt k es 0 with
   |none=>none
   |some none=>(match J' E et with
    |some z=>some (.tuple ⟨[z,.int .i64 (.ofNat ck)]⟩,wG A B (aa es [⟨k,z,ck⟩]) (Nat.add ck 1))
    |none=>none)
   |some (some (i,v))=>match dB es i with
    |some e=>some (.tuple ⟨[v,.int .i64 (.ofNat e.born)]⟩,wG A B (EM es i ⟨k,e.val,e.born⟩) ck)
    |none=>none) none
  |none=>none
 |_,_=>none
theorem aJ0{t:xN}{m k v:xM}{A':AW}(h:DJ E sq A t m k=some (v,A')):A.next≤A'.next:=by
 unfold DJ at h;split at h
 ·split at h
  ·replace h:=au h;rcases h with⟨_,h⟩|⟨_,h⟩
   ·split at h
    ·cases h
    ·split at h
     ·cases h;rw[F4];exact xk _
     ·cases h
    ·split at h
     ·cases h;rw[F4];exact xk _
     ·cases h
   ·cases h
  ·cases h
 ·cases h
include ok ba inv in
theorem aY4{t:xN}{m m' k k' v:xM}{A':AW}(h:DJ E sq A t m k=some (v,A'))(hm:ai β m m')(hk:ai β k k'):hO w0 E.G β A ((Instr.mapEntry t m' k').run P w) v A':=by
 unfold DJ at h;split at h
 ·rename_i kt et _ _ _ _ B hr;have hu:=(ok.ti t _ hr).1;split at h
  ·rename_i es ck ap;replace h:=au h;rcases h with⟨hb,h⟩|⟨_,h⟩
   ·rw[xf] at hb;have hG:=xh hb.1;cases hm with
    |map _ l hl=>
     obtain⟨ax,sx,mS⟩:=y9 inv ap hl;have fin:∀r,pE E sq kt k es 0=some r→_:=fun r uN=>JZ ok ba hb.2 hk uN mS w
     have iV:(getObj l.b).run P w= .ok (.map ⟨ax⟩ ck) w:=by simp[getObj,Sem.run,sx]
     split at h
     ·cases h
     ·rename_i hf;split at h
      ·rename_i z hz;cases h;obtain⟨⟨r',f1,f2⟩,f3,f4,_⟩:=fin _ hf;obtain⟨z',gw,dX⟩:=Wg (P:=P) ok hz w;rcases f2 with⟨_,e⟩|⟨_,_,_,e1,_⟩
       ·subst e;have eV:eU β (es++[⟨k,z,ck⟩]) (ax++[⟨k',z',ck⟩]):=mS.snoc ⟨rfl,hk,dX β⟩;obtain⟨aJ,bV⟩:=Gk (P:=P) (ck2:=ck+1) inv ap hG hl eV;rw[jm];refine⟨β,.tuple #[z',goInt ck],_,?_,ai.rJ ((aP.nil β).cons (.int .i64 ck)|>.cons (dX β)),bV,af.cq _ _⟩;have BH:(⟨ax⟩:Array MapEntry).push ⟨k',z',ck⟩=⟨ax++[⟨k',z',ck⟩]⟩:=by apply Array.ext';simp
        simp only [Instr.mapEntry,Sem.run_bind,run_underlying hu,iV,f3,f1,Result.andThen_ok,gw];rw[BH,aJ];rfl
       ·cases e1
      ·cases h
     ·rename_i j0 v0 hf;split at h
      ·rename_i e0 rD;rw[eM] at rD;cases h;obtain⟨⟨r',f1,f2⟩,f3,f4,f5,f6⟩:=fin _ hf;rcases f2 with⟨e,_⟩|⟨j1,v1,yt,e1,e2,ob⟩
       ·cases e
       ·cases e1;subst e2;obtain⟨_,e9,h9,CN,_⟩:=ON (E:=E) (sq:=sq) es 0 j0 v0 hf;rw[Nat.sub_zero,rD] at h9;cases h9;obtain⟨e',cS,eW,bW,dF⟩:=mS.get rD;have yg:e'.key=k:=f6 _ _ CN bW;have eV:eU β (es.set j0 ⟨k,e0.val,e0.born⟩) (ax.set j0 ⟨k',e'.val,e'.born⟩):=mS.set j0 ⟨eW,hk,dF⟩;obtain⟨aJ,bV⟩:=Gk (P:=P) (ck2:=ck) inv ap hG hl eV;rw[JW];refine⟨β,.tuple #[yt,goInt e0.born],_,?_,ai.rJ ((aP.nil β).cons (.int .i64 e0.born)|>.cons ob),bV,af.cq _ _⟩;have uj:=Jm cS (fun e=>{e with key:=k'});have FC:(Instr.keyThatStays ((((⟨ax⟩:Array MapEntry)[j0]?).map (·.key)).getD k') k').run P w= .ok k' w:=by
         have:(((⟨ax⟩:Array MapEntry)[j0]?).map (·.key)).getD k'=k:=by simp[cS,yg]
         rw[this,f4];simp[Instr.keyThatStays,f5]
        have CC:(((⟨ax⟩:Array MapEntry)[j0]?).map (fun x=>(x.born:Int))).getD 0=(e0.born:Int):=by simp[cS,eW]
        simp only [Instr.mapEntry,Sem.run_bind,run_underlying hu,iV,f3,f1,Result.andThen_ok,FC,CC];rw[uj,aJ];rfl
      ·cases h
   ·cases h
  ·cases h
 ·cases h
def Qi(b:Nat)(es:List MapEntry):Nat→Option Nat:=List.rec (motive:=fun _=>Nat→Option Nat) (fun _=>none) (fun e _ ih i=>bs (Nat.beq e.born b) (some i) (ih (Nat.add i 1))) es
def Dk(E:aq)(A:AW)(m s v:xM):Option AW:=
 match m,s with
 | .map (some B),.int _ (.ofNat b)=>match tP A B with
  |some (es,ck)=>bs (Nat.ble E.G.n B) (match Qi b es 0 with
   |some i=>(match dB es i with|some e=>some (wG A B (EM es i ⟨e.key,v,e.born⟩) ck)|none=>none)
   |none=>none) none
  |none=>none
 |_,_=>none
theorem aH3{m k v:xM}{A':AW}(h:Dk E A m k v=some A'):A.next≤A'.next:=by
 unfold Dk at h;split at h
 ·split at h
  ·replace h:=au h;rcases h with⟨_,h⟩|⟨_,h⟩
   ·split at h
    ·split at h
     ·cases h;rw[F4];exact xk _
     ·cases h
    ·cases h
   ·cases h
  ·cases h
 ·cases h
theorem Xb{b:Nat}:∀(es ax:List MapEntry) (i j:Nat),Qi b es i=some j→eU β es ax→i≤j∧ax.findIdx? (fun e=>(e.born:Int)==(b:Int))=some (j - i)
 |[],_,_,_,h,_=>by cases h
 |e::es,ax,i,j,h,hm=>by
  obtain⟨e',Af,rfl,⟨hb,_,_⟩,AG⟩:=hm.l5;have h':bs (Nat.beq e.born b) (some i) (Qi b es (i+1))=some j:=h;clear h;rw[na] at h';by_cases hq:e.born=b
  ·rw[decide_eq_true hq,eg] at h';cases h';refine⟨xk _,?_⟩;rw[List.findIdx?_cons];simp[←hb,hq]
  ·rw[decide_eq_false hq,gN] at h';obtain⟨h1,h2⟩:=Xb es Af (i+1) j h' AG;refine⟨by omega,?_⟩;rw[List.findIdx?_cons,h2];have: ¬((e'.born:Int)=(b:Int)):=by rw[←hb];omega
   simp[this];omega
include inv in
theorem aQ9{t:xN}{m m' s s' v v':xM}{A':AW}(h:Dk E A m s v=some A')(hm:ai β m m')(hs:ai β s s')(hv:ai β v v'):∃w',(Instr.entryStore t m' s' v').run P w= .ok () w'∧Inv w0 E.G β A' w':=by
 unfold Dk at h;split at h
 ·rename_i B k0 b;split at h
  ·rename_i es ck ap;replace h:=au h;rcases h with⟨hG,h⟩|⟨_,h⟩
   ·have pg:=xh hG;cases hm with
    |map _ l hl=>
     cases hs;obtain⟨ax,sx,mS⟩:=y9 inv ap hl;split at h
     ·rename_i i hi;split at h
      ·rename_i e he;rw[eM] at he;cases h;obtain⟨_,Md⟩:=Xb es ax 0 i hi mS;rw[Nat.sub_zero] at Md;obtain⟨e',cS,eW,bW,dF⟩:=mS.get he;have eV:eU β (es.set i ⟨e.key,v,e.born⟩) (ax.set i ⟨e'.key,v',e'.born⟩):=mS.set i ⟨eW,bW,hv⟩;obtain⟨aJ,bV⟩:=Gk (P:=P) (ck2:=ck) inv ap pg hl eV;rw[JW];refine⟨_,?_,bV⟩;have iV:(getObj l.b).run P w= .ok (.map ⟨ax⟩ ck) w:=by simp[getObj,Sem.run,sx]
       have uj:=Jm cS (fun e=>{e with val:=v'});have bT4:(⟨ax⟩:Array MapEntry).findIdx? (fun e=>(e.born:Int)==(Int.ofNat b))=some i:=by simpa using Md
       simp only [Instr.entryStore,Sem.run_bind,iV,Result.andThen_ok,asInt,asIntOf,Sem.run_pure,bT4];rw[uj];exact aJ
      ·cases h
     ·cases h
   ·cases h
  ·cases h
 ·cases h
end
section
variable{P:Program}{E:aq}(ok:E.Ok P){w0 w:World}{β:af}{A:AW}(inv:Inv w0 E.G β A w)
def Jy(A:AW):xM×AW:=(.map (some A.next),A.add ⟨.map [] 0,1,true,false,0⟩)
include inv in
theorem U6(t:xN):hO w0 E.G β A ((Instr.makeMap t none).run P w) (Jy A).1 (Jy A).2:=by
 obtain⟨h1,h2⟩:=inv.new ⟨.map [] 0,1,true,false,0⟩ (.map #[] 0) ⟨w.heap.size,0,1,0⟩ rfl ⟨#[],rfl,rfl,fun i e e' h=>by simp at h⟩;exact⟨_,.map (some w.heap.size),_,by simp[Instr.makeMap],.map A.next _ (jl _ _ _),h1,h2⟩
def Ds(E:aq)(A:AW)(t:xN)(x:xM):Option (xM×AW):=
 match E.ti.get none t,x with
 |some ⟨.map _ _,_,_,_,_⟩,.map none=>some (.pointer (some ⟨A.next,0,none⟩),A.add ⟨.iter none 0 [] 0,1,true,false,0⟩)
 |some ⟨.map _ _,_,_,_,_⟩,.map (some B)=>match tP A B with
  |some (_,ck)=>some (.pointer (some ⟨A.next,0,none⟩),A.add ⟨.iter (some B) ck [] ck,1,true,false,0⟩)
  |none=>none
 |_,_=>none
theorem aI2{t:xN}{x v:xM}{A':AW}(h:Ds E A t x=some (v,A')):A.next≤A'.next:=by
 unfold Ds at h;split at h
 ·cases h;exact Nat.le_succ _
 ·split at h
  ·cases h;exact Nat.le_succ _
  ·cases h
 ·cases h
include ok inv in
theorem aV4{t:xN}{x x' v:xM}{A':AW}(h:Ds E A t x=some (v,A'))(hx:ai β x x'):hO w0 E.G β A ((Instr.range t x').run P w) v A':=by
 unfold Ds at h;split at h
 ·rename_i hr;have hu:=(ok.ti t _ hr).1;cases h;cases hx;obtain⟨h1,h2⟩:=inv.new ⟨.iter none 0 [] 0,1,true,false,0⟩ (.mapIter none 0 #[] 0) ⟨w.heap.size,0,1,0⟩ rfl ⟨rfl,none,rfl,.inl ⟨rfl,rfl⟩⟩;exact⟨_,.pointer (some ⟨w.heap.size,0+0,none⟩),_,by simp[Instr.range,run_underlying hu],.ptr A.next 0 _ (jl _ _ _),h1,h2⟩
 ·rename_i B hr;have hu:=(ok.ti t _ hr).1;split at h
  ·rename_i es ck ap;cases h;cases hx with
   |map _ l hl=>
    obtain⟨ax,sx,_⟩:=y9 inv ap hl;have aK:β.le (β.put A.next ⟨w.heap.size,0,1,0⟩):=inv.fX (af.wi β A.next _);obtain⟨h1,h2⟩:=inv.new ⟨.iter (some B) ck [] ck,1,true,false,0⟩ (.mapIter (some l.b) ck #[] ck) ⟨w.heap.size,0,1,0⟩ rfl ⟨rfl,some l.b,rfl,.inr ⟨B,l,rfl,aK.f _ _ hl,rfl⟩⟩;refine⟨_,.pointer (some ⟨w.heap.size,0+0,none⟩),_,?_,.ptr A.next 0 _ (jl _ _ _),h1,h2⟩;have iV:(getObj l.b).run P w= .ok (.map ⟨ax⟩ ck) w:=by simp[getObj,Sem.run,sx]
    simp[Instr.range,run_underlying hu,iV]
  ·cases h
 ·cases h
def DE(A:AW)(R:Nat):Option (Option Nat×Nat×List Nat×Nat):=match A.get R with|some ⟨.iter m since seen st,_,_,_,_⟩=>some (m,since,seen,st)|_=>none
def Gn(A:AW)(R:Nat)(o:AO):AW:=match A.get R with|some ⟨_,a,b,c,d⟩=>A.put R (some ⟨o,a,b,c,d⟩)|none=>A
theorem aG8(R:Nat)(o:AO):(Gn A R o).next=A.next:=by unfold Gn;split<;>rfl
def hM{α:Type}(f:α→Bool)(l:List α):List α:=List.rec (motive:=fun _=>List α) [] (fun a _ ih=>bs (f a) (a::ih) ih) l
theorem tk{α:Type}(f:α→Bool)(l:List α):hM f l=l.filter f:=by
 induction l with
 |nil=>rfl
 |cons a l ih=>
  show bs (f a) (a::hM f l) (hM f l)=_;rw[ih,List.filter_cons];cases f a<;>rfl
def vM(i:Nat)(l:List Nat):Bool:=List.rec (motive:=fun _=>Bool) false (fun a _ ih=>bs (Nat.beq a i) true ih) l
theorem Gl{i:Nat}:∀{l:List Nat},vM i l=true→i∈l
 |[],h=>by cases h
 |a::l,h=>by
  have h':bs (Nat.beq a i) true (vM i l)=true:=h;cases hb:Nat.beq a i with
  |true=>rw[xb hb];exact xn
  |false=>rw[hb,gN] at h';exact xo _ (Gl h')
theorem PY(i:Nat):∀(l:List Nat),vM i l=l.contains i
 |[]=>rfl
 |a::l=>by
  show bs (Nat.beq a i) true (vM i l)=_;rw[PY i l,List.contains_cons,na];by_cases h:a=i
  ·subst h;simp[bs]
  ·rw[decide_eq_false h,gN];have:(i==a)=false:=by simp;exact fun e=>h e.symm
   rw[this];rfl
def EH(since:Nat)(seen:List Nat)(es:List MapEntry):List MapEntry:=hM (fun e=>Nat.blt e.born since&&not (vM e.born seen)) es
def HR(since:Nat)(seen:List Nat)(es:List MapEntry):List MapEntry:=hM (fun e=>not (Nat.blt e.born since)&&not (vM e.born seen)) es
def BS(since:Nat)(seen:List Nat)(es:List MapEntry):List (Option MapEntry):=
 aa (match EH since seen es with|[]=>[none]|_=>[]) (ew some (aa (EH since seen es) (HR since seen es)))
theorem eU.filter{es ax:List MapEntry}{p p':MapEntry→Bool}(hp:∀e e',e.born=e'.born→p e=p' e'):eU β es ax→eU β (es.filter p) (ax.filter p'):=by
 induction es generalizing ax with
 |nil=>intro h;rw[h.oo];exact⟨rfl,fun i e e' h=>by simp at h⟩
 |cons e es ih=>
  intro h;obtain⟨e',Af,rfl,he,hm⟩:=h.l5;have hpp:=hp e e' he.1;have TA:=ih hm;rw[List.filter_cons,List.filter_cons,←hpp];cases p e with
  |false=>exact TA
  |true=>
   refine⟨by simpa using TA.1,fun i a b ha hb=> ?_⟩;cases i with
   |zero=>simp at ha hb;subst ha;subst hb;exact he
   |succ i=>simp at ha hb;exact TA.2 i a b ha hb
theorem eU.append{a a' b b':List MapEntry}(h:eU β a a')(k:eU β b b'):eU β (a++b) (a'++b'):=by
 induction a generalizing a' with
 |nil=>rw[h.oo];exact k
 |cons e a ih=>
  obtain⟨e',l',rfl,h1,h2⟩:=h.l5;have:=ih h2;refine⟨by simpa using this.1,fun i x y hx hy=> ?_⟩;cases i with
  |zero=>simp at hx hy;subst hx;subst hy;exact h1
  |succ i=>simp at hx hy;exact this.2 i x y hx hy
def KP(E:aq)(A:AW)(it:xM):Option (List (xM×AW)):=
 match it with
 | .pointer (some ⟨R,0,none⟩)=>bs (Nat.ble E.G.n R) (match DE A R with
  |some (none,_,_,_)=>some [(.tuple ⟨[.bool false]⟩,A)]
  |some (some B,since,seen,st)=>match tP A B with
   |some (es,ck)=>bs (match seen,es with|[],_=>true|_,[]=>true|_,es=>not (ey (fun e=>Nat.ble st e.born) es))
    (some (ew (fun c=>match c with
     |none=>(.tuple ⟨[.bool false]⟩,A)
     |some e=>(.tuple ⟨[.bool true,e.key,e.val]⟩,Gn A R (.iter (some B) since (aa seen [e.born]) ck))) (BS since seen es))) none
   |none=>none
  |none=>none) none
 |_=>none
include inv in
theorem JD{R:Nat}{m:Option Nat}{since:Nat}{seen:List Nat}{st:Nat}(h:DE A R=some (m,since,seen,st)){l:Loc}(hl:β R=some l):l.d=0∧∃m',w.heap[l.b]? =some (.mapIter m' since ⟨seen⟩ st)∧((m=none∧m'=none)∨∃B lb,m=some B∧β B=some lb∧m'=some lb.b):=by
 unfold DE at h;split at h
 ·rename_i hg;cases h;exact inv.cont R _ l hg hl
 ·cases h
include inv in
theorem aX1{R:Nat}{m:Option Nat}{since:Nat}{seen:List Nat}{st:Nat}(h:DE A R=some (m,since,seen,st))(hG:E.G.n≤R){l:Loc}(hl:β R=some l){B:Nat}{lb:Loc}(hB:β B=some lb)(Kd:Nat)(KG:List Nat)(MF:Nat):
 (setObj l.b (.mapIter (some lb.b) Kd ⟨KG⟩ MF)).run P w= .ok () {w with heap:=w.heap.setIfInBounds l.b (.mapIter (some lb.b) Kd ⟨KG⟩ MF)}∧Inv w0 E.G β (Gn A R (.iter (some B) Kd KG MF)) {w with heap:=w.heap.setIfInBounds l.b (.mapIter (some lb.b) Kd ⟨KG⟩ MF)}:=by
 obtain⟨yG,m',h1,_⟩:=JD inv h hl;have bg:l.b<w.heap.size:=(Array.getElem?_eq_some_iff.1 h1).1;unfold DE at h;split at h
 ·rename_i e0 c0 s0 t0 a b c d hg;refine⟨by simp[setObj,Sem.run,h1],?_⟩;unfold Gn;rw[hg];refine inv.write R l _ _ hg hl hG ⟨rfl,rfl,rfl,by simp,fun k hk bA=> ?_⟩ (by simp) ?_
  ·show(w.heap.setIfInBounds l.b _)[k]? =_;rw[Array.getElem?_setIfInBounds_ne (fun e=>bA (by rw[e]))]
  ·show gH β l _ ((w.heap.setIfInBounds l.b _)[l.b]?);rw[Array.getElem?_setIfInBounds_self_of_lt bg];exact⟨yG,some lb.b,rfl,.inr ⟨B,lb,rfl,hB,rfl⟩⟩
 ·cases h
theorem aK7{w:World}{r b:Nat}{since st ck:Nat}{ty:xN}(sn:Array Nat)(es:Array MapEntry)(cs:Array (Option MapEntry)){i:Nat}{dr:Nat}
 (iV:(getObj r).run P w= .ok (.mapIter (some b) since sn st) w) (Ce:(getObj b).run P w= .ok (.map es ck) w)
 (eT:(!sn.isEmpty&& !es.isEmpty&&es.all (fun e=>decide (e.born≥st)))=false)
 (cw:cs=(if((es.filter fun e=> !sn.contains e.born).filter (·.born<since)).isEmpty then #[none] else #[])++(((es.filter fun e=> !sn.contains e.born).filter (·.born<since))++((es.filter fun e=> !sn.contains e.born).filter (·.born≥since))).map some)
 (Nu:(choose (.mapNext cs.size)).run P w= .ok i {w with drawn:=dr}):
 (Instr.next (.pointer (some ⟨r,0,none⟩)) false ty).run P w=(match cs[i]? with
  |some (some e)=>(do
   setObj r (.mapIter (some b) since (sn.push e.born) ck)
   pure (.tuple #[.bool true,e.key,e.val]):Sem xM)
  |some none=>pure (.tuple #[.bool false])
  |none=>stuck "Next: no such candidate").run P {w with drawn:=dr}:=by
 subst cw;simp only [Instr.next,Sem.run_bind,iV,Result.andThen_ok,Ce,eT,Bool.false_eq_true,if_false,Sem.run_pure,Nu];rfl
theorem aJ5(n:Nat)(hn:0<n)(w:World):∃i d,i<n∧(choose (.mapNext n)).run P w= .ok i {w with drawn:=d}:=by
 by_cases h:n≤1
 ·refine⟨0,w.drawn,hn,?_⟩;simp[choose,Sem.run,Question.forced,h]
 ·refine⟨w.tape w.drawn (.mapNext n)%n,w.drawn+1,Nat.mod_lt _ hn,?_⟩;simp[choose,Sem.run,Question.forced,h,Question.cut]
def qh(since:Nat)(seen:List Nat)(ax:List MapEntry):List (Option MapEntry):=
 (if(ax.filter (fun e=>decide (e.born<since)&& !seen.contains e.born)).isEmpty then[none] else[])++
  ((ax.filter (fun e=>decide (e.born<since)&& !seen.contains e.born))++(ax.filter (fun e=>decide (since≤e.born)&& !seen.contains e.born))).map some
theorem aZ7{since:Nat}{seen:List Nat}{es ax:List MapEntry}(h:eU β es ax):(BS since seen es).length=(qh since seen ax).length∧0<(qh since seen ax).length∧
 ∀(i:Nat) (c c':Option MapEntry),(BS since seen es)[i]? =some c→(qh since seen ax)[i]? =some c'→(c=none∧c'=none)∨∃e e',c=some e∧c'=some e'∧yo β e e':=by
 have ho:EH since seen es=es.filter (fun e=>decide (e.born<since)&& !seen.contains e.born):=by
  unfold EH;rw[tk];apply List.filter_congr;intro e _;rw[LQ,PY]
 have hn:HR since seen es=es.filter (fun e=>decide (since≤e.born)&& !seen.contains e.born):=by
  unfold HR;rw[tk];apply List.filter_congr;intro e _;rw[LQ,PY]
  congr 1
  by_cases hb:e.born<since
  ·rw[decide_eq_true hb,decide_eq_false (by omega)];rfl
  ·rw[decide_eq_false hb,decide_eq_true (by omega)];rfl
 have h1:eU β (EH since seen es) (ax.filter (fun e=>decide (e.born<since)&& !seen.contains e.born)):=by
  rw[ho];exact h.filter (fun e e' hb=>by rw[hb])
 have h2:eU β (HR since seen es) (ax.filter (fun e=>decide (since≤e.born)&& !seen.contains e.born)):=by
  rw[hn];exact h.filter (fun e e' hb=>by rw[hb])
 unfold qh BS;rw[jm,l8,jm];generalize EH since seen es=O at*;generalize HR since seen es=N at*;generalize ax.filter (fun e=>decide (e.born<since)&& !seen.contains e.born)=O' at*;generalize ax.filter (fun e=>decide (since≤e.born)&& !seen.contains e.born)=N' at*;have FN:=h1.append h2;have tail:∀(i:Nat) (c c':Option MapEntry),((O++N).map some)[i]? =some c→((O'++N').map some)[i]? =some c'→∃e e',c=some e∧c'=some e'∧yo β e e':=fun i c c' hc iu=>by
  rw[xx] at hc iu;obtain⟨e,he,rfl⟩:=xp.1 hc;obtain⟨e',cS,rfl⟩:=xp.1 iu;exact⟨e,e',rfl,rfl,FN.2 i e e' he cS⟩
 cases O with
 |nil=>
  have:=h1.oo;subst this;refine⟨by simp;simpa using FN.1,by simp,fun i c c' hc iu=> ?_⟩;cases i with
  |zero=>simp at hc iu;exact .inl ⟨hc.symm,iu.symm⟩
  |succ i=>exact .inr (tail i c c' (by simpa using hc) (by simpa using iu))
 |cons e O=>
  obtain⟨e',O'',rfl,_,_⟩:=h1.l5;refine⟨by simp;have:=FN.1;simp at this;omega,by simp,fun i c c' hc iu=> .inr (tail i c c' (by simpa using hc) (by simpa using iu))⟩
theorem bi1{st:Nat}{es ax:List MapEntry}(h:eU β es ax):ax.all (fun e=>decide (st≤e.born))=ey (fun e=>Nat.ble st e.born) es:=by
 induction es generalizing ax with
 |nil=>rw[h.oo];rfl
 |cons e es ih=>
  obtain⟨e',Af,rfl,he,hm⟩:=h.l5;rw[List.all_cons,ih hm,←he.1];show _=bs (Nat.ble st e.born) (ey (fun e=>Nat.ble st e.born) es) false;by_cases hb:st≤e.born
  ·rw[decide_eq_true hb,Nat.ble_eq_true_of_le hb];simp[bs]
  ·rw[decide_eq_false hb];cases hq:Nat.ble st e.born with
   |false=>simp[bs]
   |true=>exact absurd (xh hq) hb
include inv in
theorem Pf{it Iw:xM}{l:List (xM×AW)}{ty:xN}(h:KP E A it=some l)(hi:ai β it Iw):∃p∈l,hO w0 E.G β A ((Instr.next Iw false ty).run P w) p.1 p.2∧A.next≤p.2.next:=by
 unfold KP at h;split at h
 ·rename_i R;replace h:=au h;rcases h with⟨hG,h⟩|⟨_,h⟩
  ·have pg:=xh hG;cases hi with
   |ptr _ _ lr ii=>
    split at h
    ·rename_i since seen st FE;cases h;obtain⟨yG,m',h1,h2⟩:=JD inv FE ii;rcases h2 with⟨_,rfl⟩|⟨_,_,e,_⟩
     ·refine⟨_,xn,⟨β,.tuple #[.bool false],w,?_,ai.rJ ((aP.nil β).cons (.bool false)),inv,af.cq _ _⟩,xk _⟩;have iV:(getObj lr.b).run P w= .ok (.mapIter none since ⟨seen⟩ st) w:=by simp[getObj,Sem.run,h1]
      simp[Instr.next,iV,yG]
     ·cases e
    ·rename_i B since seen st FE;split at h
     ·rename_i es ck ap;replace h:=au h;rcases h with⟨Nu,h⟩|⟨_,h⟩
      ·cases h;obtain⟨yG,m',h1,h2⟩:=JD inv FE ii;rcases h2 with⟨e,_⟩|⟨B2,lb,e,il,rfl⟩
       ·cases e
       ·cases e;obtain⟨ax,sx,mS⟩:=y9 inv ap il;obtain⟨c1,c2,c3⟩:=aZ7 (since:=since) (seen:=seen) mS;obtain⟨i,dr,hi,cP9⟩:=aJ5 (P:=P) (qh since seen ax).length c2 w;have iV:(getObj lr.b).run P w= .ok (.mapIter (some lb.b) since ⟨seen⟩ st) w:=by simp[getObj,Sem.run,h1]
        have Ce:(getObj lb.b).run P w= .ok (.map ⟨ax⟩ ck) w:=by simp[getObj,Sem.run,sx]
        have eI:i<(BS since seen es).length:=by rw[c1];exact hi
        have av3:(⟨qh since seen ax⟩:Array (Option MapEntry))=(if((⟨ax⟩:Array MapEntry).filter (fun e=> !(⟨seen⟩:Array Nat).contains e.born)|>.filter (·.born<since)).isEmpty then #[none] else #[])++(((⟨ax⟩:Array MapEntry).filter (fun e=> !(⟨seen⟩:Array Nat).contains e.born)|>.filter (·.born<since))++((⟨ax⟩:Array MapEntry).filter (fun e=> !(⟨seen⟩:Array Nat).contains e.born)|>.filter (·.born≥since))).map some:=by
         apply Array.ext';unfold qh;have cw:∀x,(⟨seen⟩:Array Nat).contains x=seen.contains x:=fun x=>by simp
         have he:((⟨ax⟩:Array MapEntry).filter (fun e=> !(⟨seen⟩:Array Nat).contains e.born)|>.filter (fun x=>decide (x.born<since))).isEmpty=(ax.filter (fun e=>decide (e.born<since)&& !seen.contains e.born)).isEmpty:=by
          rw[←Array.isEmpty_toList];simp only [Array.toList_filter',List.filter_filter,cw]
         rw[he];simp only [Array.toList_append,Array.toList_map,Array.toList_filter',List.filter_filter,cw];cases(ax.filter (fun e=>decide (e.born<since)&& !seen.contains e.born)).isEmpty<;>rfl
        have eT:(!(⟨seen⟩:Array Nat).isEmpty&& !(⟨ax⟩:Array MapEntry).isEmpty&& (⟨ax⟩:Array MapEntry).all (fun e=>decide (e.born≥st)))=false:=by
         have h8:=bi1 (st:=st) mS;cases seen with
         |nil=>rfl
         |cons s0 sr=>
          cases es with
          |nil=>rw[mS.oo];rfl
          |cons e0 er=>
           simp only [Bool.not_eq_true'] at Nu;rw[Nu] at h8;have h9:(⟨ax⟩:Array MapEntry).all (fun e=>decide (e.born≥st))=false:=by rw[←h8];simp
           rw[h9];simp
        have cP0:(Value.pointer (some ⟨lr.b,lr.d+0,none⟩))= .pointer (some ⟨lr.b,0,none⟩):=by rw[yG]
        rw[cP0];have rF:=c3 i (BS since seen es)[i] (qh since seen ax)[i] (by simp[eI]) (by simp[hi]);refine⟨_,(by rw[l8];exact xJ.2 ⟨(BS since seen es)[i],List.getElem_mem eI,rfl⟩),?_,?_⟩
        ·have bp9:(Instr.next (.pointer (some ⟨lr.b,0,none⟩)) false ty).run P w=(match(qh since seen ax)[i]? with
          |some (some e)=>(do
           setObj lr.b (.mapIter (some lb.b) since ((⟨seen⟩:Array Nat).push e.born) ck)
           pure (.tuple #[.bool true,e.key,e.val]):Sem xM)
          |some none=>pure (.tuple #[.bool false])
          |none=>stuck "Next: no such candidate").run P {w with drawn:=dr}:=by
          have h0:=aK7 (P:=P) (ty:=ty) (⟨seen⟩:Array Nat) (⟨ax⟩:Array MapEntry) (⟨qh since seen ax⟩:Array (Option MapEntry)) iV Ce eT av3 (by rw[List.size_toArray];exact cP9);rw[h0];have:(⟨qh since seen ax⟩:Array (Option MapEntry))[i]? =(qh since seen ax)[i]? :=by simp
          rw[this]
         rw[bp9];have vX:(qh since seen ax)[i]? =some (qh since seen ax)[i]:=by simp[hi]
         rw[vX];rcases rF with⟨e1,e2⟩|⟨e,e',e1,e2,hb,hk,hv⟩
         ·rw[e1,e2];exact⟨β,.tuple #[.bool false],_,rfl,ai.rJ ((aP.nil β).cons (.bool false)),inv.drew dr,af.cq _ _⟩
         ·rw[e1,e2];have BH:(⟨seen⟩:Array Nat).push e'.born=⟨seen++[e.born]⟩:=by apply Array.ext';simp[hb]
          obtain⟨hr5,hi5⟩:=aX1 (P:=P) (inv.drew dr) FE pg ii il since (seen++[e.born]) ck;refine⟨β,.tuple #[.bool true,e'.key,e'.val],{w with drawn:=dr,heap:=w.heap.setIfInBounds lr.b (Obj.mapIter (some lb.b) since {toList:=seen++[e.born]} ck)},?_,ai.rJ (((aP.nil β).cons hv|>.cons hk).cons (.bool true)),?_,af.cq _ _⟩
          ·show Sem.run P (do setObj lr.b (.mapIter (some lb.b) since ((⟨seen⟩:Array Nat).push e'.born) ck);pure (.tuple #[.bool true,e'.key,e'.val]):Sem xM) _=_;rw[BH];simp only [Sem.run_bind,hr5,Result.andThen_ok];rfl
          ·simp only [jm];exact hi5
        ·split
         ·exact xk _
         ·rw[aG8];exact xk _
      ·cases h
     ·cases h
    ·cases h
  ·cases h
 ·cases h
end
section
variable{P:Program}{E:aq}(ok:E.Ok P){w0 w:World}{β:af}{A:AW}(inv:Inv w0 E.G β A w)
def Qf(dl:Nat)(x:xM):Option (Nat×xM):=
 match x with
 | .slice none 0 0=>some (0,.slice none 0 0)
 | .slice (some a) n c=>bs (Nat.ble n dl) (some (n,.slice (some a) n c)) (some (dl,.slice (some a) dl c))
 | .string ⟨⟨l⟩⟩=>bs (Nat.ble (bI l) dl) (some (bI l,.string ⟨⟨l⟩⟩)) none
 |_=>none
theorem aR1{dl n:Nat}{x x' y:xM}(h:Qf dl x=some (n,y))(hx:ai β x x'):∃y' k,ai β y y'∧(∀w,(Builtin.lenOf x').run P w= .ok k w)∧Nat.min k dl=n∧∀size,Builtin.firstCells size n x'=Builtin.firstCells size n y':=by
 unfold Qf at h;split at h
 ·cases h;cases hx;exact⟨_,0,.uZ,fun _=>rfl,by simp,fun _=>rfl⟩
 ·rename_i a n0 c;replace h:=au h;rcases h with⟨hb,h⟩|⟨hb,h⟩
  ·have eW:=xh hb;cases h;cases hx with
   |slice B o _ _ c' l hl hn hc he=>exact⟨_,n,.slice B o _ _ c' l hl hn hc he,fun _=>rfl,Nat.min_eq_left eW,fun _=>rfl⟩
   |empty o a' c'=>exact⟨_,0,.empty o a' c',fun _=>rfl,Nat.min_eq_left eW,fun _=>rfl⟩
  ·have eW:dl<n0:=by
    rcases Nat.lt_or_ge dl n0 with h|h
    ·exact h
    ·rw[Nat.ble_eq_true_of_le h] at hb;cases hb
   cases h;cases hx with
   |slice B o _ _ c' l hl hn hc he=>exact⟨_,n0,.slice B o dl c c' l hl (by omega) hc he,fun _=>rfl,Nat.min_eq_right (Nat.le_of_lt eW),fun _=>rfl⟩
   |empty o a' c'=>omega
 ·rename_i l;replace h:=au h;rcases h with⟨hb,h⟩|⟨_,h⟩
  ·have eW:=xh hb;rw[dA] at eW;cases h;cases hx;rw[dA];exact⟨_,l.length,.string _,fun _=>rfl,Nat.min_eq_left eW,fun _=>rfl⟩
  ·cases h
 ·cases h
def HE(E:aq)(A:AW)(t tx:xN)(d x:xM):Option (xM×AW):=
 match E.ti.get none t,E.ti.get none tx with
 |some ⟨.slice e,_,_,_,_⟩,some rx=>match E.ti.get none e with
  |some re=>match d with
   | .slice nY dl _=>match Qf dl x with
    |some (n,y)=>bs (JN rx.desc y) (match LD A re.size y with
     |some (m,l)=>bs (Nat.beq m n) (bs (Nat.beq n 0) (some (.int .i64 (.ofNat n),A)) (match nY with
      |some ⟨B,o,none⟩=>bs (Nat.beq B ud) none (match A.get B with
       |some ⟨.cells cs,es,ex,false,ty⟩=>bs (Nat.ble E.G.n B&&Nat.ble (Nat.add o (bI l)) (bI cs)) (some (.int .i64 (.ofNat n),A.put B (some ⟨.cells (jV l o cs),es,ex,false,ty⟩))) none
       |_=>none)
      |_=>none)) none
     |none=>none) none
    |none=>none
   |_=>none
  |none=>none
 |_,_=>none
theorem aM8{t tx:xN}{d x v:xM}{A':AW}(h:HE E A t tx d x=some (v,A')):A.next≤A'.next:=by
 unfold HE at h
 repeat' first
  |(replace h:=au h;rcases h with⟨_,h⟩|⟨_,h⟩)
  |split at h
 all_goals cases h
 all_goals exact xk _
include ok inv in
theorem PA{t tx ty:xN}{d d' x x' v:xM}{A':AW}(h:HE E A t tx d x=some (v,A'))(hd:ai β d d')(hx:ai β x x'):hO w0 E.G β A ((Builtin.copy_ #[t,tx] ty #[d',x']).run P w) v A':=by
 unfold HE at h;split at h
 ·rename_i e _ _ _ _ rx hr IC;split at h
  ·rename_i re dG;split at h
   ·rename_i nY dl dc;split at h
    ·rename_i n y av0;obtain⟨y',k,hy,aC,ye,yE⟩:=aR1 (P:=P) av0 hx;replace h:=au h;rcases h with⟨hk,h⟩|⟨_,h⟩
     ·split at h
      ·rename_i m l ra;replace h:=au h;rcases h with⟨No,h⟩|⟨_,h⟩
       ·have cN7:=xb No;subst cN7;have hu:=(ok.ti t _ hr).1;have IA:=(ok.ti tx _ IC).1;obtain⟨l',ee,hS⟩:=Xj (P:=P) inv IA ra hk hy;have ov:=hS.cells;replace h:=au h;rcases h with⟨h0,h⟩|⟨h0,h⟩
        ·have uQ:=xb h0;subst uQ;cases h;have qy:l'=[]:=by
          have:=hS.newsLen;rw[Nat.zero_mul] at this;exact xA this
         subst qy;refine⟨β,.int .i64 0,w,?_,.int _ _,inv,af.cq _ _⟩;cases hd with
         |uZ=>simp[Builtin.copy_,run_underlying hu,aC,ye,dC ok dG,yE,ov,goInt]
         |slice B o _ _ c' lb il hn hc he=>simp[Builtin.copy_,run_underlying hu,aC,ye,dC ok dG,yE,ov,goInt,storeCells]
         |empty o a' c'=>simp[Builtin.copy_,run_underlying hu,aC,ye,dC ok dG,yE,ov,goInt,storeCells]
        ·split at h
         ·rename_i B o;replace h:=au h;rcases h with⟨_,h⟩|⟨hT,h⟩
          ·cases h
          ·split at h
           ·rename_i cs es ex An hg;replace h:=au h;rcases h with⟨hb,h⟩|⟨_,h⟩
            ·simp only [xf,dA] at hb;obtain⟨hG,aK⟩:=hb;have pg:=xh hG;have yf:o+l.length≤cs.length:=xh aK;cases h;cases hd with
             |slice _ _ _ _ c' lb il hn hc he=>
              obtain⟨w',aJ,bV⟩:=Ga (P:=P) inv hg pg il ee yf hS.one;refine⟨β,.int .i64 (.ofNat m),w',?_,.int _ _,bV,af.cq _ _⟩;simp[Builtin.copy_,run_underlying hu,aC,ye,dC ok dG,yE,ov,goInt,aJ]
             |empty _ a' c'=>cases hT
            ·cases h
           ·cases h
         ·cases h
       ·cases h
      ·cases h
     ·cases h
    ·cases h
   ·cases h
  ·cases h
 ·cases h
def LS(b:Bool)(k:xO):List xM→Int→Option xM
 |[],x=>some (.int k x)
 | .int _ y::r,x=>LS b k r (bs b (bs (iH x y) y x) (bs (iH y x) y x))
 |_::_,_=>none
def EL(b:Bool)(l:List xM):Option xM:=match l with| .int k x::r=>LS b k r x|_=>none
theorem Pj{b:Bool}{k:xO}{v:xM}:∀{l l':List xM} {x:Int},LS b k l x=some v→aP β l l'→(l'.foldlM (bs b Builtin.max2 Builtin.min2) (.int k x)).run P w= .ok v w∧∃n,v= .int k n
 |[],l',x,h,hl=>by
  have:l'=[]:=xA hl.1.symm;subst this;cases h;exact⟨rfl,_,rfl⟩
 |y::r,[],x,h,hl=>by cases hl.1
 |y::r,y'::r',x,h,hl=>by
  have hy:ai β y y':=hl.2 0 y y' rfl rfl;have hr:aP β r r':=⟨by have:=hl.1;simpa using this,fun i v v' a b=>hl.2 (i+1) v v' (by simpa using a) (by simpa using b)⟩;have yg:∃k2 n,y= .int k2 n∧LS b k r (bs b (bs (iH x n) n x) (bs (iH n x) n x))=some v:=by
   cases y<;>first|(cases h;done)|exact⟨_,_,rfl,h⟩
  obtain⟨k2,n,rfl,h2⟩:=yg;cases hy;have ih:=Pj h2 hr;refine⟨?_,ih.2⟩;rw[List.foldlM_cons];have h1:(bs b Builtin.max2 Builtin.min2 (.int k x) (.int k2 n))=(pure (.int k (bs b (bs (iH x n) n x) (bs (iH n x) n x))):Sem xM):=by
   cases b
   ·change Builtin.min2 (.int k x) (.int k2 n)=pure (.int k (bs (iH n x) n x));unfold Builtin.min2;by_cases bg:n<x<;>simp[qa,bg,bs]
   ·change Builtin.max2 (.int k x) (.int k2 n)=pure (.int k (bs (iH x n) n x));unfold Builtin.max2;by_cases bg:x<n<;>simp[qa,bg,bs]
  rw[h1];simpa using ih.1
theorem bo3{tys:Array xN}{ty:xN}{l l':List xM}{v:xM}(h:EL true l=some v)(hl:aP β l l'):(Builtin.max_ tys ty ⟨l'⟩).run P w= .ok v w∧ai β v v:=by
 unfold EL at h;split at h
 ·rename_i k x r
  match l',hl with
  |[],hl=>cases hl.1
  |y'::r',hl=>
   have hy:ai β (.int k x) y':=hl.2 0 _ y' rfl rfl;have hr:aP β r r':=⟨by have:=hl.1;simpa using this,fun i v v' a b=>hl.2 (i+1) v v' (by simpa using a) (by simpa using b)⟩;cases hy;obtain⟨h1,n,rfl⟩:=Pj (P:=P) (w:=w) h hr;exact⟨h1,.int _ _⟩
 ·cases h
theorem bo2{tys:Array xN}{ty:xN}{l l':List xM}{v:xM}(h:EL false l=some v)(hl:aP β l l'):(Builtin.min_ tys ty ⟨l'⟩).run P w= .ok v w∧ai β v v:=by
 unfold EL at h;split at h
 ·rename_i k x r
  match l',hl with
  |[],hl=>cases hl.1
  |y'::r',hl=>
   have hy:ai β (.int k x) y':=hl.2 0 _ y' rfl rfl;have hr:aP β r r':=⟨by have:=hl.1;simpa using this,fun i v v' a b=>hl.2 (i+1) v v' (by simpa using a) (by simpa using b)⟩;cases hy;obtain⟨h1,n,rfl⟩:=Pj (P:=P) (w:=w) h hr;exact⟨h1,.int _ _⟩
 ·cases h
def Bq(re:Row)(n:Nat):List xM:=sE (fun i=>match dB re.zero (Nat.mod i re.size) with|some v=>pH v|none=>J) (Nat.mul n re.size) []
def G2(E:aq)(A:AW)(t:xN)(s:xM):Option (xM×AW):=
 match E.ti.get none t with
 |some ⟨.slice e,_,_,_,_⟩=>match E.ti.get none e with
  |some re=>match s with
   | .slice none _ _=>some (.tuple ⟨[]⟩,A)
   | .slice (some _) 0 _=>some (.tuple ⟨[]⟩,A)
   | .slice (some ⟨B,o,none⟩) n _=>match A.get B with
    |some ⟨.cells cs,es,ex,false,ty⟩=>bs (re.ri&&Nat.beq (bI re.zero) re.size&&ey one (Bq re n)&&Nat.ble E.G.n B&&Nat.ble (Nat.add o (bI (Bq re n))) (bI cs)) (some (.tuple ⟨[]⟩,A.put B (some ⟨.cells (jV (Bq re n) o cs),es,ex,false,ty⟩))) none
    |_=>none
   |_=>none
  |none=>none
 |_=>none
theorem aJ4{t:xN}{x v:xM}{A':AW}(h:G2 E A t x=some (v,A')):A.next≤A'.next:=by
 unfold G2 at h
 repeat' first
  |(replace h:=au h;rcases h with⟨_,h⟩|⟨_,h⟩)
  |split at h
 all_goals cases h
 all_goals exact xk _
theorem Ve{β:af}{re:Row}{n:Nat}(rn:re.zero.length=re.size):aP β (Bq re n) (Builtin.zeroCells ⟨re.zero⟩ n).toList:=by
 unfold Bq;rw[za,xj];refine⟨by simp[Builtin.zeroCells,rn],fun i a b ha hb=> ?_⟩;have hi:i<n*re.size:=by
  have:=(xe.1 ha).1;simpa using this
 rw[xx,show Nat.mul n re.size=n*re.size from rfl,List.getElem?_range hi] at ha;simp only [Option.map_some,Option.some.injEq] at ha;have aT:0<re.size:=by
  rcases xI re.size with e|e
  ·rw[e] at hi;omega
  ·exact e
 have hm:i%re.size<re.zero.length:=by rw[rn];exact Nat.mod_lt _ aT
 have Nw:(Builtin.zeroCells ⟨re.zero⟩ n).toList[i]? =some (re.zero[i%re.size]):=by
  simp[Builtin.zeroCells,rn,hi,xc hm]
 rw[Nw] at hb;cases hb;rw[←ha];have:dB re.zero (Nat.mod i re.size)=some (re.zero[i%re.size]):=by rw[eM];exact xc hm
 rw[this];exact C6 β _
include ok inv in
theorem aZ3{t ty:xN}{x x' v:xM}{A':AW}(h:G2 E A t x=some (v,A'))(hx:ai β x x'):hO w0 E.G β A ((Builtin.clear_ #[t] ty #[x']).run P w) v A':=by
 unfold G2 at h;split at h
 ·rename_i e _ _ _ _ hr;have hu:=(ok.ti t _ hr).1;split at h
  ·rename_i re dG;split at h
   ·cases h;refine⟨β,.tuple #[],w,?_,ai.undef,inv,af.cq _ _⟩;cases hx;simp[Builtin.clear_,run_underlying hu]
   ·cases h;refine⟨β,.tuple #[],w,?_,ai.undef,inv,af.cq _ _⟩;cases hx<;>simp[Builtin.clear_,run_underlying hu]
   ·rename_i B o n c oh;split at h
    ·rename_i cs es ex An hg;replace h:=au h;rcases h with⟨hb,h⟩|⟨_,h⟩
     ·simp only [xf] at hb;obtain⟨⟨⟨⟨ui,rn⟩,sL⟩,hG⟩,aK⟩:=hb;have mK:=xb rn;rw[dA] at mK;have pg:=xh hG;have yf:=xh aK;rw[dA,dA] at yf;cases h;obtain⟨_,ie,gL,iI,AN,hz⟩:=ok.ti e re dG;obtain⟨z,gw,dX⟩:=hz ui;have fB:=Ve (β:=β) (n:=n) mK;cases hx with
      |slice _ _ _ _ c' lb il hn hc he=>
       obtain⟨w',aJ,bV⟩:=Ga (P:=P) inv hg pg il fB yf (J9 sL fB);refine⟨β,.tuple #[],w',?_,ai.undef,bV,af.cq _ _⟩;obtain⟨m,rfl⟩:∃m,n=m+1:=⟨n - 1,by cases n with|zero=>exact(oh rfl).elim|succ m=>rfl⟩;have hzv:(zeroValue e).run P w= .ok z w:=by simp[zeroValue,typeInfo,gL,gw]
       simp[Builtin.clear_,run_underlying hu,hzv,dX,aJ]
      |empty _ a' c'=>exact(oh rfl).elim
     ·cases h
    ·cases h
   ·cases h
  ·cases h
 ·cases h
def S2(E:aq)(A:AW)(t:xN)(x:xM):Option xM:=
 match E.ti.get none t,x with
 |some ⟨.slice _,_,_,_,_⟩,.slice none 0 0=>some (.int .i64 0)
 |some ⟨.slice _,_,_,_,_⟩,.slice (some ⟨B,o,none⟩) n c=>match A.get B with
  |some ⟨.cells cs,es,true,_,_⟩=>bs (Nat.ble 1 es&&Nat.beq (Nat.add o (Nat.mul c es)) (bI cs)&&bs (Nat.beq B ud) false true) (some (.int .i64 (.ofNat c))) none
  |_=>none
 |_,_=>none
include ok inv in
theorem bA3{t ty:xN}{x x' v:xM}(h:S2 E A t x=some v)(hx:ai β x x'):∃v',(Builtin.cap_ #[t] ty #[x']).run P w= .ok v' w∧ai β v v':=by
 unfold S2 at h;split at h
 ·rename_i hr;have hu:=(ok.ti t _ hr).1;cases h;cases hx;exact⟨_,by simp[Builtin.cap_,run_underlying hu,goInt],.int _ _⟩
 ·rename_i B o n c hr;have hu:=(ok.ti t _ hr).1;split at h
  ·rename_i cs es ro ty hg;replace h:=au h;rcases h with⟨hb,h⟩|⟨_,h⟩<;>cases h
   simp only [xf,dA] at hb;obtain⟨⟨h1,h2⟩,h3⟩:=hb;have mU:=xh h1;have AU:o+c*es=cs.length:=xb h2;cases hx with
   |slice _ _ _ _ c' l hl hn hc he=>
    obtain⟨av,e,fz,k1,k2,k3,k4,k5,k6,k7⟩:=inv.cont B _ l hg hl;obtain⟨x1,x2⟩:=k6 rfl;have Fs:l.es=es:=k7.1;rw[Fs] at he;have h8:c'*es≤c*es:=by omega
    have h9:c'≤c:=Nat.le_of_mul_le_mul_right h8 (by omega);have:c'=c:=by omega
    subst this;exact⟨_,by simp[Builtin.cap_,run_underlying hu,goInt],.int _ _⟩
   |empty=>exact absurd h3 (by decide)
  ·cases h
 ·cases h
def G6(E:aq)(A:AW)(t tx:xN)(s x:xM):Option (xM×AW):=
 match E.ti.get none t,E.ti.get none tx with
 |some ⟨.slice e,_,_,_,_⟩,some ⟨.int _,_,_,_,_⟩=>match E.ti.get none e with
  |some re=>match s,x with
   | .slice none 0 0,.int .i64 (.ofNat n)=>bs (re.ri&&Nat.beq (bI re.zero) re.size&&Nat.ble 1 re.size&&Nat.ble 1 n&&Nat.ble n 9223372036854775807&&Nat.ble (Nat.mul n re.bytes) 140737488355328)
    (some (.slice (some ⟨A.next,0,none⟩) n n,A.add ⟨.cells (Bq re n),re.size,false,false,e⟩)) none
   |_,_=>none
  |none=>none
 |_,_=>none
theorem aJ9{t tx:xN}{s x v:xM}{A':AW}(h:G6 E A t tx s x=some (v,A')):A.next≤A'.next:=by
 unfold G6 at h
 repeat' first
  |(replace h:=au h;rcases h with⟨_,h⟩|⟨_,h⟩)
  |split at h
 all_goals cases h
 all_goals exact Nat.le_succ _
theorem aF0(t tx ty e:xN)(k:xO)(i:TypeInfo)(z:xM)(ht:P.underlying t=some (.slice e))(hx:P.underlying tx=some (.int k))(hi:P.info? e=some i)(hz:i.zero=some z)(n:Nat)(h0:0<n)(hs:0<i.size)(h63:(n:Int)≤9223372036854775807)
 (h48:n*i.bytes≤140737488355328) (w:World):
 (Builtin.append_ #[t,tx] ty #[.slice none 0 0,.int .i64 n]).run P w= .ok (.slice (some ⟨w.heap.size,0,none⟩) n (grownCap w n 0 e)) (w.drew.alloc (.cells (Builtin.zeroCells z.cells n++Builtin.zeroCells z.cells (grownCap w n 0 e - n)) e)):=by
 have hw:IntKind.i64.wrap (n:Int)=n:=IntWalk.i64_in _ (by omega);have h1: ¬((n:Int)<0):=by omega
 have h2: ¬((281474976710656:Int)<(n:Int)*(i.bytes:Int)):=by
  have:((n*i.bytes:Nat):Int)≤((140737488355328:Nat):Int):=Int.ofNat_le.2 h48;rw[Int.natCast_mul] at this;omega
 have hn: ¬(n≤0):=by omega
 have vS: ¬(n*i.size=0):=fun e=>by rcases Nat.mul_eq_zero.1 e with h|h<;>omega
 have rf:Builtin.nextslicecap n 0=n:=by unfold Builtin.nextslicecap;rw[if_pos (by omega)]
 have Ia: ¬((9223372036854775807:Int)<(n:Int)):=by omega
 have cR0: ¬(281474976710656<n*i.bytes):=by omega
 simp[Builtin.append_,run_underlying ht,run_underlying hx,sizeOf,typeInfo,zeroValue,hi,hz,asInt,asIntOf,hw,h1,h2,hn,vS,rf,Ia,cR0,Question.forced,Builtin.firstCells,newRow,grownCap];omega
include ok inv in
theorem bb2{t tx ty:xN}{s s' x x' v:xM}{A':AW}(h:G6 E A t tx s x=some (v,A'))(hs:ai β s s')(hx:ai β x x'):hO w0 E.G β A ((Builtin.append_ #[t,tx] ty #[s',x']).run P w) v A':=by
 unfold G6 at h;split at h
 ·rename_i e _ _ _ _ k _ _ _ _ hr IC;have hu:=(ok.ti t _ hr).1;have IA:=(ok.ti tx _ IC).1;split at h
  ·rename_i re dG;split at h
   ·rename_i n;replace h:=au h;rcases h with⟨hb,h⟩|⟨_,h⟩
    ·simp only [xf] at hb;obtain⟨⟨⟨⟨⟨ui,rn⟩,ej⟩,Cz⟩,cN5⟩,s8⟩:=hb;have mK:=xb rn;rw[dA] at mK;have dj0:=xh ej;have dj6:=xh Cz;have di1:=xh cN5;have SN:n*re.bytes≤140737488355328:=xh s8
     cases h;cases hs;cases hx;obtain⟨_,ie,gL,iI,AN,hz⟩:=ok.ti e re dG;obtain⟨z,gw,dX⟩:=hz ui;have aJ:=aF0 (P:=P) t tx ty e k ie z hu IA gL gw n (by omega) (by omega) (by omega) (by rw[AN];exact SN) w;have ek:=grownCap_ge w n 0 e;have fB:=fun ah:af=>Ve (β:=ah) (n:=n) mK
     rw[dX] at aJ;obtain⟨g1,g2⟩:=Jx inv (Bq re n) (Builtin.zeroCells ⟨re.zero⟩ n).toList (Builtin.zeroCells ⟨re.zero⟩ (grownCap w n 0 e - n)).toList e re.size (Builtin.zeroCells ⟨re.zero⟩ n++Builtin.zeroCells ⟨re.zero⟩ (grownCap w n 0 e - n)) (by simp) (fun ah _=>fB ah);refine⟨_,_,_,aJ,?_,g1,g2⟩;exact ai.slice (β:=β.put A.next ⟨w.heap.size,0,re.size,(Builtin.zeroCells ⟨re.zero⟩ n++Builtin.zeroCells ⟨re.zero⟩ (grownCap w n 0 e - n)).size⟩) A.next 0 n n (grownCap w n 0 e) _ (jl _ _ _) (xk _) (by omega) (by
      simp only [Array.size_append,Jb,List.size_toArray,mK,Nat.zero_add,←Nat.add_mul];apply xD;omega)
    ·cases h
   ·cases h
  ·cases h
 ·cases h
end
theorem UE(w:World)(e:xN)(s:ByteArray):Lib.bytesWorld w e s=w.drew.alloc (.cells (Lib.bytesCells w e s) e ((Lib.bytesCells w e s).size,(Lib.bytesCells w e s).size+1)):=by
 have h:(Lib.bytesWorld w e s).heap=(w.drew.alloc (.cells (Lib.bytesCells w e s) e ((Lib.bytesCells w e s).size,(Lib.bytesCells w e s).size+1))).heap:=by
  apply Array.ext_getElem?;intro i;rcases Nat.lt_trichotomy i w.heap.size with h|h|h
  ·rw[Lib.bytesWorld_at_old w e s i h,Below.heap_alloc w.drew _ i (by simpa using h)];rfl
  ·subst h;rw[Lib.bytesWorld_at_new];exact(heap_alloc_new w.drew _).symm
  ·rw[Array.getElem?_eq_none (by rw[Lib.bytesWorld_size];omega),Array.getElem?_eq_none (by simp;omega)]
 have e1:Lib.bytesWorld w e s={Lib.bytesWorld w e s with heap:=(w.drew.alloc (.cells (Lib.bytesCells w e s) e ((Lib.bytesCells w e s).size,(Lib.bytesCells w e s).size+1))).heap}:=by rw[←h]
 exact e1.trans rfl
section
variable{P:Program}{E:aq}(ok:E.Ok P){w0 w:World}{β:af}{A:AW}(inv:Inv w0 E.G β A w)
def DK(E:aq)(A:AW)(s d:xN)(x:xM):Option (xM×AW):=
 match E.ti.get none s,E.ti.get none d,x with
 |some _,some ⟨.slice e,_,_,_,_⟩,.string ⟨⟨l⟩⟩=>match E.ti.get none e with
  |some ⟨.int .u8,_,_,_,_⟩=>some (.slice (some ⟨A.next,0,none⟩) (bI l) (bI l),A.add ⟨.cells (ew (fun b=>Value.int .u8 (.ofNat b.toNat)) l),1,false,true,e⟩)
  |_=>none
 |_,_,_=>none
theorem aJ6{s d:xN}{x v:xM}{A':AW}(h:DK E A s d x=some (v,A')):A.next≤A'.next:=by
 unfold DK at h;split at h
 ·split at h<;>cases h
  exact Nat.le_succ _
 ·cases h
include ok inv in
theorem ba0{s d:xN}{x x' v:xM}{A':AW}(h:DK E A s d x=some (v,A'))(hx:ai β x x'):hO w0 E.G β A ((convert s d x').run P w) v A':=by
 unfold DK at h;split at h
 ·rename_i r e _ _ _ _ l hs hd;split at h
  ·rename_i _ _ _ _ he;cases h;cases hx;have h1:=(ok.ti s _ hs).1;have h2:=(ok.ti d _ hd).1;have h3:=(ok.ti e _ he).1;have aJ:=Lib.run_convert_string_bytes (P:=P) w s d e ⟨⟨l⟩⟩ h1 h2 h3;rw[UE] at aJ;have ek:=grownCap_ge w (ByteArray.size ⟨⟨l⟩⟩) 0 e;have aT:ByteArray.size ⟨⟨l⟩⟩=l.length:=rfl;have cw:(Lib.bytesCells w e ⟨⟨l⟩⟩).size=grownCap w l.length 0 e:=by
    unfold Lib.bytesCells;rw[Array.size_append,Array.size_map,Array.size_replicate,aT];rw[aT] at ek;show l.length+_=_;omega
   obtain⟨g1,g2⟩:=(inv.drew (w.drawn+1)).new (l:=⟨w.heap.size,0,1,(Lib.bytesCells w e ⟨⟨l⟩⟩).size⟩) ⟨.cells (ew (fun b=>Value.int .u8 (.ofNat b.toNat)) l),1,false,true,e⟩ (.cells (Lib.bytesCells w e ⟨⟨l⟩⟩) e ((Lib.bytesCells w e ⟨⟨l⟩⟩).size,(Lib.bytesCells w e ⟨⟨l⟩⟩).size+1)) rfl
    ⟨_,_,_,rfl,rfl,by
     rw[l8,xm,cw,Nat.zero_add];rw[aT] at ek;exact ek,fun i v hv=>by
     rw[l8,xx] at hv;obtain⟨q,hq,rfl⟩:=xp.1 hv;refine⟨.int .u8 (.ofNat q.toNat),?_,.int _ _⟩;have hi:=(xe.1 hq).1;unfold Lib.bytesCells;rw[Nat.zero_add,Array.getElem?_append_left (by simpa using hi)];simp[hq],(fun h=>by cases h),(fun h=>by cases h),rfl,fun _=>rfl⟩
   refine⟨_,_,_,aJ,?_,g1,g2⟩;have hval:=ai.slice (β:=β.put A.next ⟨w.heap.size,0,1,(Lib.bytesCells w e ⟨⟨l⟩⟩).size⟩) A.next 0 l.length l.length (grownCap w l.length 0 e) ⟨w.heap.size,0,1,(Lib.bytesCells w e ⟨⟨l⟩⟩).size⟩ (by simp[af.put]) (xk _) ek (by simp[cw]);rw[dA];exact hval
  ·cases h
 ·cases h
def RZ(e u o:Nat)(l:List (Nat×Nat×Nat)):Bool:=List.rec (motive:=fun _=>Bool) false (fun a _ ih=>bs (Nat.beq a.1 e&&Nat.beq a.2.1 u&&Nat.beq a.2.2 o) true ih) l
theorem VX{e u o:Nat}:∀{l:List (Nat×Nat×Nat)},RZ e u o l=true→(e,u,o)∈l
 |[],h=>by cases h
 |a::l,h=>by
  have h':bs (Nat.beq a.1 e&&Nat.beq a.2.1 u&&Nat.beq a.2.2 o) true (RZ e u o l)=true:=h;cases hb:(Nat.beq a.1 e&&Nat.beq a.2.1 u&&Nat.beq a.2.2 o) with
  |true=>
   simp only [xf] at hb;obtain⟨⟨h1,h2⟩,h3⟩:=hb;have e1:=xb h1;have e2:=xb h2;have e3:=xb h3;obtain⟨x,y,z⟩:=a;simp only at e1 e2 e3;subst e1;subst e2;subst e3;exact xn
  |false=>
   rw[hb,gN] at h';exact xo _ (VX h')
def PG(E:aq)(A:AW)(s d:xN)(x:xM):Option xM:=
 match E.ti.get none s,E.ti.get none d,x with
 |some ⟨.pointer t,_,_,_,_⟩,some ⟨.unsafePointer,_,_,_,_⟩,.pointer (some ⟨B,o,none⟩)=>match E.ti.get none t,A.get B with
  |some r,some ⟨.cells cs,_,_,_,_⟩=>bs (Nat.ble 1 r.size&&Nat.blt o (bI cs)) (some x) none
  |_,_=>none
 |some ⟨.unsafePointer,_,_,_,_⟩,some ⟨.pointer u,_,_,_,_⟩,.pointer (some ⟨B,o,none⟩)=>match E.ti.get none u,A.get B with
  |some r,some ⟨.cells cs,_,true,_,ty⟩=>match E.ti.get none ty with
   |some rt=>bs (Nat.ble 1 r.size&&Nat.ble 1 rt.size&&RZ ty u o E.lay&&Nat.beq (bI cs) rt.size) (some x) none
   |none=>none
  |_,_=>none
 |_,_,_=>none
theorem U8{e:xN}{s:Nat}(hs:1≤s)(hc:P.cellsOf e=s)(c8 i n:Nat)(hn:i+n≤c8):liesAt P P.depth e c8 (i*s) e n=true:=by
 have hd:P.depth=(2*(P.types.size+Made.depth)+1)+1:=rfl;rw[hd];simp only [liesAt,Bool.or_eq_true];left;rw[hd];have h0: ¬s=0:=by omega
 simp[rowAt,hc,hn,sameLayout,h0,Nat.mul_div_cancel i (show 0<s by omega)]
include inv in
theorem yY{B:Nat}{cs:List xM}{es:Nat}{ex ro:Bool}{ty:xN}(hg:A.get B=some ⟨.cells cs,es,ex,ro,ty⟩){l:Loc}(hl:β B=some l):∃gJ,w.shape? l.b=some (gJ,l.sz)∧(ty≠iY→gJ=ty)∧l.d+cs.length≤l.sz∧(ex=true→l.d=0∧l.d+cs.length=l.sz):=by
 obtain⟨av,e,fz,k1,k2,k3,k4,k5,k6,k7⟩:=inv.cont B _ l hg hl;refine⟨e,?_,k7.2,k3,k6⟩;simp only [World.shape?,k1,k2]
theorem O2{t:xN}{r:Row}(ok:E.Ok P)(h:E.ti.get none t=some r):P.cellsOf t=r.size:=by
 obtain⟨_,i,hi,hs,_⟩:=ok.ti t r h;simp[Program.cellsOf,hi,hs]
include ok inv in
theorem aT1{s d:xN}{x x' v:xM}(h:PG E A s d x=some v)(hx:ai β x x'):∃v',(convert s d x').run P w= .ok v' w∧ai β v v':=by
 unfold PG at h;split at h
 ·rename_i t _ _ _ _ _ _ _ _ B o hs hd;split at h
  ·rename_i r cs es ex ro ty hr hg;replace h:=au h;rcases h with⟨hb,h⟩|⟨_,h⟩
   ·simp only [xf,dA] at hb;have cN:=xh hb.1;have cx:o<cs.length:=xh hb.2;cases h;refine⟨x',?_,hx⟩;cases hx with
    |ptr _ _ l hl=>
     obtain⟨gJ,s1,_,s2,_⟩:=yY inv hg hl;have h1:=(ok.ti s _ hs).1;have h2:=(ok.ti d _ hd).1;have h3: ¬(l.sz≤l.d+o):=by omega
     have h4: ¬(r.size=0):=by omega
     simp[convert,run_underlying h1,run_underlying h2,Conv.unsafePointer,Conv.seenAt,viewAt,cellsIn,s1,dC ok hr,h3,h4]
   ·cases h
  ·cases h
 ·rename_i _ _ _ _ u _ _ _ _ B o hs hd;split at h
  ·rename_i r cs es ro ty hr hg;split at h
   ·rename_i rt TV;replace h:=au h;rcases h with⟨hb,h⟩|⟨_,h⟩
    ·simp only [xf,dA] at hb;obtain⟨⟨⟨cN,uP⟩,cx⟩,lY⟩:=hb;have dk5:=xh cN;have dk6:=xh uP;have cQ3:=ok.lay _ _ _ (VX cx);have dk4:=xb lY;cases h;refine⟨x',?_,hx⟩;cases hx with
     |ptr _ _ l hl=>
      obtain⟨gJ,s1,AA,s2,s3⟩:=yY inv hg hl;obtain rfl:=(AA (fun e=>by rw[e] at TV;exact ok.any _ TV)).symm;obtain⟨s4,s5⟩:=s3 rfl;have h1:=(ok.ti s _ hs).1;have h2:=(ok.ti d _ hd).1;have h4: ¬(r.size=0):=by omega
      have h5:=O2 ok TV;have h6:l.sz/P.cellsOf ty=1:=by rw[h5,show l.sz=rt.size by omega,Nat.div_self (by omega)]
      simp[convert,run_underlying h1,run_underlying h2,Conv.unsafePointer,Conv.seenAt,viewAt,s1,dC ok hr,h4,variablesAt,h6,s4,cQ3]
    ·cases h
   ·cases h
  ·cases h
 ·cases h
def PR(x:xM):Option xM:=
 match x with
 | .slice none 0 0=>some (.pointer none)
 | .slice (some ⟨B,o,none⟩) _ c=>bs (Nat.ble 1 c) (some (.pointer (some ⟨B,o,none⟩))) none
 |_=>none
theorem aV1{tys:Array xN}{ty:xN}{x x' v:xM}(h:PR x=some v)(hx:ai β x x'):∃v',(Builtin.unsafeSliceData_ tys ty #[x']).run P w= .ok v' w∧ai β v v':=by
 unfold PR at h;split at h
 ·cases h;cases hx;exact⟨_,Lib.run_unsafeSliceData_nil w tys ty 0 0,.qm⟩
 ·replace h:=au h;rcases h with⟨hb,h⟩|⟨_,h⟩
  ·have eW:=xh hb;cases h;cases hx with
   |slice _ _ _ _ c' l hl hn hc he=>exact⟨_,Lib.run_unsafeSliceData_row w tys ty _ _ c' (by omega),.ptr _ _ l hl⟩
   |empty o a' c'=>omega
  ·cases h
 ·cases h
def J7:List xM→Option (List UInt8)
 |[]=>some []
 | .int .u8 n::r=>match J7 r with
  |some l=>bs (mQ (.ofNat (UInt8.ofNat n.toNat).toNat) n) (some (UInt8.ofNat n.toNat::l)) none
  |none=>none
 |_::_=>none
theorem Vb:∀{cs:List xM} {l:List UInt8},J7 cs=some l→cs=Lib.byteCells l
 |[],l,h=>by cases h;rfl
 |c::cs,l,h=>by
  unfold J7 at h;split at h
  ·contradiction
  ·rename_i n r e;cases e;split at h
   ·rename_i l2 bG;replace h:=au h;rcases h with⟨hb,h⟩|⟨_,h⟩
    ·rw[pu] at hb;have eW:=of_decide_eq_true hb;cases h;rw[Vb bG];unfold Lib.byteCells;rw[List.map_cons]
     congr 2
     exact eW.symm
    ·cases h
   ·cases h
  ·cases h
theorem UH(w:World)(b o n:Nat):w.grownBy (w.freeze ⟨b,o,none⟩ n) (some b):=by
 unfold World.freeze;split
 ·exact⟨rfl,rfl,rfl,xk _,fun k _ _=>rfl⟩
 ·refine⟨rfl,rfl,rfl,by simp,fun k hk bA=> ?_⟩;simp only [Array.getElem?_modify];rw[if_neg (fun e=>bA (by rw[e]))]
theorem UU(w:World)(b o n:Nat):(w.freeze ⟨b,o,none⟩ n).heap.size=w.heap.size:=by
 unfold World.freeze;split
 ·rfl
 ·simp
theorem VA(w:World)(b o n:Nat){c:Array xM}{e:xN}{fz:Nat×Nat}(h:w.heap[b]? =some (.cells c e fz)):∃I3,(w.freeze ⟨b,o,none⟩ n).heap[b]? =some (.cells c e I3):=by
 unfold World.freeze;split
 ·exact⟨fz,h⟩
 ·simp only [Array.getElem?_modify,if_true,h,Option.map_some];exact⟨_,rfl⟩
include inv in
theorem aQ2{B:Nat}{cs:List xM}{es:Nat}{ex ro:Bool}{ty:xN}(hg:A.get B=some ⟨.cells cs,es,ex,ro,ty⟩)(hB:E.G.n≤B){l:Loc}(hl:β B=some l)(o n:Nat):Inv w0 E.G β (A.put B (some ⟨.cells cs,es,ex,true,ty⟩)) (w.freeze ⟨l.b,o,none⟩ n):=by
 obtain⟨av,e,fz,k1,k2,k3,k4,k5,k6,k7⟩:=inv.cont B _ l hg hl;obtain⟨I3,hf⟩:=VA w l.b o n k1;refine inv.Gv B l _ _ hg hl hB (UH w l.b o n) (UU w l.b o n) ?_ trivial (fun bC hz=> ?_) (fun h=>by cases h)
 ·rw[hf];exact⟨av,e,I3,rfl,k2,k3,k4,(fun h=>by cases h),k6,k7⟩
 ·obtain⟨e2,NF,h2⟩:=inv.bB _ _ hz;rw[k1] at h2;cases h2;exact⟨_,_,hf⟩
def G8(E:aq)(A:AW)(pt:xN)(p n:xM):Option (xM×AW):=
 match n with
 | .int .i64 (.ofNat m)=>match p with
  | .pointer none=>bs (Nat.beq m 0) (some (.string ⟨⟨[]⟩⟩,A)) none
  | .pointer (some ⟨B,o,none⟩)=>bs (Nat.beq m 0) (some (.string ⟨⟨[]⟩⟩,A)) (match E.ti.get none pt,A.get B with
   |some ⟨.pointer e,_,_,_,_⟩,some ⟨.cells cs,es,ex,ro,ty⟩=>match E.ti.get none e,ow m (qd o cs) with
    |some re,some q=>match J7 q with
     |some l=>bs (Nat.beq re.size 1&&Nat.beq ty e&&Nat.ble E.G.n B&&Nat.ble m 9223372036854775807) (some (.string ⟨⟨l⟩⟩,A.put B (some ⟨.cells cs,es,ex,true,ty⟩))) none
     |none=>none
    |_,_=>none
   |_,_=>none)
  |_=>none
 |_=>none
theorem aK0{pt:xN}{p n v:xM}{A':AW}(h:G8 E A pt p n=some (v,A')):A.next≤A'.next:=by
 unfold G8 at h
 repeat' first
  |(replace h:=au h;rcases h with⟨_,h⟩|⟨_,h⟩)
  |split at h
 all_goals cases h
 all_goals exact xk _
include ok inv in
theorem bb6{pt it ty:xN}{p p' n n' v:xM}{A':AW}(h:G8 E A pt p n=some (v,A'))(hp:ai β p p')(hn:ai β n n'):hO w0 E.G β A ((Builtin.unsafeString_ #[pt,it] ty #[p',n']).run P w) v A':=by
 unfold G8 at h;split at h
 ·rename_i m;cases hn;split at h
  ·replace h:=au h;rcases h with⟨hb,h⟩|⟨_,h⟩
   ·have eW:=xb hb;subst eW;cases h;cases hp;exact⟨β,_,w,Lib.run_unsafeString_none w pt it ty none,.string _,inv,af.cq _ _⟩
   ·cases h
  ·rename_i B o;replace h:=au h;rcases h with⟨hb,h⟩|⟨uP,h⟩
   ·have eW:=xb hb;subst eW;cases h;cases hp;exact⟨β,_,w,Lib.run_unsafeString_none w pt it ty _,.string _,inv,af.cq _ _⟩
   ·split at h
    ·rename_i e _ _ _ _ cs es ex ro An Fz hg;split at h
     ·rename_i re q dG hq;split at h
      ·rename_i l hl;replace h:=au h;rcases h with⟨hb,h⟩|⟨_,h⟩
       ·simp only [xf] at hb;obtain⟨⟨⟨h1,h2⟩,h3⟩,h4⟩:=hb;have mU:=xb h1;have AU:=xb h2;have h3':=xh h3;have h4':=xh h4;subst AU;cases h;have hcb:=Vb hl;cases hp with
        |ptr _ _ lc cR=>
         obtain⟨gJ,s1,AA,s2,_⟩:=yY inv hg cR;obtain rfl:=(AA (fun e=>by rw[e] at dG;exact ok.any _ dG)).symm;obtain⟨l',ee,aC,ap⟩:=yW inv (show iw A B=some cs by unfold iw;rw[hg]) cR o m q hq;have lW:l.length=m:=by rw[←aC,hcb,Lib.byteCells_length]
         have gh:∀j x,l[j]? =some x→w.cell? ((⟨lc.b,lc.d+o,none⟩:Addr).add j)=some (.int .u8 x.toNat):=fun j x hx=>by
          have ry:q[j]? =some (.int .u8 x.toNat):=by rw[hcb];simp[Lib.byteCells,hx]
          obtain⟨v',dF,hr⟩:=ee.get ry;cases hr;rw[Addr.add_mid];exact ap j _ dF
         have kS: ¬m=0:=fun e=>by subst e;cases uP
         have pO:lc.d+o+m≤lc.sz:=by
          rw[Db] at hq;have ry:=(C9 m _ q hq).2;rw[List.length_drop] at ry;omega
         have il:=Lib.run_loadBytes (P:=P) w l ⟨lc.b,lc.d+o,none⟩ .empty gh;rw[lW] at il;have h5:P.cellsOf An=1:=(O2 ok dG).trans mU;have Hz:=U8 (P:=P) (xk 1) h5 lc.sz (lc.d+o) m pO;rw[Nat.mul_one] at Hz;have Sw:=(ok.ti pt _ Fz).1;refine⟨β,.string ⟨⟨l⟩⟩,w.freeze ⟨lc.b,lc.d+o,none⟩ m,?_,.string _,aQ2 inv hg h3' cR _ _,af.cq _ _⟩;have SL:Builtin.unsafeString_ #[pt,it] ty #[.pointer (some ⟨lc.b,lc.d+o,none⟩),.int .i64 (Int.ofNat m)]=
          (do
           let n←asInt (.int .i64 (Int.ofNat m))
           if n<0 then runtimePanic (.error "unsafe.String: len out of range")
           if n>IntKind.i64.max then unsupported (.unsafePointer "String: a length above the largest int")
           if n=0 then pure (.string .empty)
           else if←variablesAt ⟨lc.b,lc.d+o,none⟩ (←elemOf pt) n.toNat then do
            let s←loadBytes ⟨lc.b,lc.d+o,none⟩ .empty n.toNat
            freeze ⟨lc.b,lc.d+o,none⟩ n.toNat
            pure (.string s)
           else unsupported (.unsafePointer "String: not so many bytes at ptr")):=rfl
         rw[SL];have H6:IntKind.i64.max=9223372036854775807:=rfl;have Ia: ¬(9223372036854775807:Int)<(m:Int):=by omega
         have yd: ¬(m:Int)<0:=by omega
         simp[asInt,asIntOf,H6,Ia,yd,kS,variablesAt,s1,elemOf,run_underlying Sw,h5,Hz,il]
       ·cases h
      ·cases h
     ·cases h
    ·cases h
  ·cases h
 ·cases h
def Rt(v:xM):Option UInt8:=match v with| .int .u8 (.ofNat n)=>bs (Nat.blt n 256) (some n.toUInt8) none|_=>none
def Qg(l:List xM):Option (List UInt8):=
 List.rec (motive:=fun _=>Option (List UInt8)) (some []) (fun v _ ih=>match Rt v with|some b=>(match ih with|some r=>some (b::r)|none=>none)|none=>none) l
def RD(E:aq)(A:AW)(s d:xN)(x:xM):Option xM:=
 match E.ti.get none s,E.ti.get none d,x with
 |some ⟨.slice e,_,_,_,_⟩,some ⟨.string,_,_,_,_⟩,.slice (some ⟨B,o,none⟩) n _=>match E.ti.get none e,iw A B with
  |some ⟨.int .u8,_,_,_,_⟩,some cs=>match ow n (qd o cs) with
   |some l=>match Qg l with
    |some r=>bs (Nat.beq B ud) none (some (.string ⟨⟨r⟩⟩))
    |none=>none
   |none=>none
  |_,_=>none
 |_,_,_=>none
omit ok inv in
theorem Va{β:af}:∀{l l':List xM} {r:List UInt8},Qg l=some r→aP β l l'→l'.length=r.length∧∀(j:Nat) (hj:j<r.length),l'[j]? =some (.int .u8 (r[j].toNat:Nat))
 |[],l',r,h,hl=>by cases h;rw[hl.oo];exact⟨rfl,fun j hj=>absurd hj (Nat.not_lt_zero _)⟩
 |v::l,l',r,h,hl=>by
  have h':(match Rt v with|some b=>(match Qg l with|some r=>some (b::r)|none=>none)|none=>none)=some r:=h;split at h'
  ·rename_i b hb;split at h'
   ·rename_i r2 bK;cases h';obtain⟨v',l2,rfl,hv,bG⟩:=hl.l5;obtain⟨h1,h2⟩:=Va bK bG;unfold Rt at hb;split at hb
    ·rename_i n;rcases au hb with⟨hn,hb⟩|⟨_,hb⟩<;>cases hb
     have gY:n<256:=xh hn;cases hv;refine⟨by simp[h1],fun j hj=> ?_⟩;cases j with
     |zero=>simp[Nat.mod_eq_of_lt gY]
     |succ j=>simpa using h2 j (by simpa using hj)
    ·cases hb
   ·cases h'
  ·cases h'
include ok inv in
theorem bm1{s d:xN}{x x' v:xM}(h:RD E A s d x=some v)(hx:ai β x x'):∃v',(convert s d x').run P w= .ok v' w∧ai β v v':=by
 unfold RD at h;split at h
 ·rename_i e a1 a2 a3 a4 b1 b2 b3 b4 B o n cp hs hd;split at h
  ·rename_i c1 c2 c3 c4 cs he cw;split at h
   ·rename_i l hl;split at h
    ·rename_i r hr;rcases au h with⟨_,h⟩|⟨hT,h⟩<;>cases h
     cases hx with
     |slice _ _ _ _ c' lc cR hn hc Nv=>
      obtain⟨l',q1,q2,q3⟩:=yW inv cw cR o n l hl;obtain⟨h1,h2⟩:=Va hr q1;have aC:r.length=n:=by rw[←h1,←q1.1,q2]
      have aJ:=run_convert_bytes_back (P:=P) w s d e ⟨lc.b,lc.d+o,none⟩ c' r (ok.ti s _ hs).1 (ok.ti e _ he).1 (ok.ti d _ hd).1 (fun j hj=>by
       rw[Addr.add_mid];exact q3 j _ (h2 j hj))
      rw[aC] at aJ;exact⟨_,aJ,.string _⟩
     |empty=>exact absurd hT (by decide)
    ·cases h
   ·cases h
  ·cases h
 ·cases h
def Qp(E:aq)(A:AW)(s d:xN)(x:xM):Option xM:=match PG E A s d x with|some v=>some v|none=>RD E A s d x
include ok inv in
theorem bb7{s d:xN}{x x' v:xM}(h:Qp E A s d x=some v)(hx:ai β x x'):∃v',(convert s d x').run P w= .ok v' w∧ai β v v':=by
 unfold Qp at h;split at h
 ·rename_i v0 h0;cases h;exact aT1 ok inv h0 hx
 ·exact bm1 ok inv h hx
end
section
variable{P:Program}{E:aq}(ok:E.Ok P){w0 w:World}{β:af}{A:AW}(inv:Inv w0 E.G β A w)
def DC(E:aq)(A:AW)(t:xN)(r:Option xM):Option (xM×AW):=
 match r with
 |none=>some (Jy A)
 |some (.int _ _)=>match E.ti.get none t with
  |some ⟨.map _ _,_,_,_,_⟩=>some (Jy A)
  |_=>none
 |_=>none
theorem aI4{t:xN}{r:Option xM}{v:xM}{A':AW}(h:DC E A t r=some (v,A')):A.next≤A'.next:=by
 unfold DC at h;split at h
 ·cases h;exact Nat.le_succ _
 ·split at h
  ·cases h;exact Nat.le_succ _
  ·cases h
 ·cases h
include ok inv in
theorem aW4{t:xN}{r r':Option xM}{v:xM}{A':AW}(h:DC E A t r=some (v,A'))(hr:nh β r r'):hO w0 E.G β A ((Instr.makeMap t r').run P w) v A':=by
 unfold DC at h;split at h
 ·cases r' with
  |none=>cases h;exact U6 inv t
  |some x=>exact absurd hr (by simp[nh])
 ·rename_i k n;cases r' with
  |none=>exact absurd hr (by simp[nh])
  |some x=>
   have hx:ai β (.int k n) x:=hr;cases hx;split at h
   ·rename_i Nh;have hu:=(ok.ti t _ Nh).1;cases h;have:=U6 (P:=P) inv t;obtain⟨ah,v',w',h1,h2⟩:=this;refine⟨ah,v',w',?_,h2⟩;rw[←h1];simp[Instr.makeMap,run_underlying hu,asInt,asIntOf]
   ·cases h
 ·cases h
def PZ(l:List Nat):Option Nat:=List.rec (motive:=fun _=>Option Nat) none (fun a _ ih=>match ih with|some x=>some x|none=>some a) l
theorem Vx:∀(l:List Nat),PZ l=l.getLast?
 |[]=>rfl
 |[a]=>rfl
 |a::b::l=>by
  show(match PZ (b::l) with|some x=>some x|none=>some a)=_;rw[Vx (b::l),List.getLast?_cons_cons];rw[List.getLast?_eq_some_getLast (by simp)]
def PL(s:Nat)(es:List MapEntry):Option MapEntry:=List.rec (motive:=fun _=>Option MapEntry) none (fun e _ ih=>bs (Nat.beq e.born s) (some e) ih) es
theorem Vk{s:Nat}{e:MapEntry}:∀{es ax:List MapEntry},PL s es=some e→eU β es ax→∃e',ax.find? (·.born==s)=some e'∧yo β e e'
 |[],ax,h,_=>by cases h
 |a::es,ax,h,hm=>by
  obtain⟨a',l',rfl,h1,h2⟩:=hm.l5;have h':bs (Nat.beq a.born s) (some a) (PL s es)=some e:=h;replace h':=au h';rcases h' with⟨hb,h'⟩|⟨hb,h'⟩
  ·cases h';have eW:=xb hb;refine⟨a',?_,h1⟩;rw[List.find?_cons_of_pos];rw[←h1.1,eW];simp
  ·obtain⟨e',cS,hr⟩:=Vk h' h2;refine⟨e',?_,hr⟩;rw[List.find?_cons_of_neg]
   ·exact cS
   ·rw[←h1.1];intro hc;have:a.born=s:=by simpa using hc
    rw[this] at hb;simp at hb
def Kj(A:AW)(it:xM):Option xM:=
 match it with
 | .pointer (some ⟨R,0,none⟩)=>match DE A R with
  |some (some B,_,seen,st)=>match PZ seen,tP A B with
   |some s,some (es,ck)=>bs (Nat.beq ck st) (match PL s es with|some e=>some (.tuple ⟨[e.key,e.val]⟩)|none=>none) none
   |_,_=>none
  |_=>none
 |_=>none
theorem aI9{r b since ck:Nat}(sn:Array Nat)(es:Array MapEntry){s:Nat}{e':MapEntry}(iV:(getObj r).run P w= .ok (.mapIter (some b) since sn ck) w)(Ce:(getObj b).run P w= .ok (.map es ck) w)(hb:sn.back?=some s)(hf:es.find? (·.born==s)=some e'):
 (Instr.entry (.pointer (some ⟨r,0,none⟩))).run P w= .ok (.tuple #[e'.key,e'.val]) w:=by
 simp[Instr.entry,iV,Ce,hb,hf]
include inv in
theorem aX2{it Iw v:xM}(h:Kj A it=some v)(hi:ai β it Iw):∃v',(Instr.entry Iw).run P w= .ok v' w∧ai β v v':=by
 unfold Kj at h;split at h
 ·rename_i R;cases hi with
  |ptr _ _ lr ii=>
   split at h
   ·rename_i B since seen st FE;split at h
    ·rename_i s es ck hs ap;replace h:=au h;rcases h with⟨hb,h⟩|⟨_,h⟩
     ·have eW:=xb hb;subst eW;split at h
      ·rename_i e he;cases h;obtain⟨yG,m',h1,h2⟩:=JD inv FE ii;rcases h2 with⟨e0,_⟩|⟨B2,lb,e0,il,rfl⟩
       ·cases e0
       ·cases e0;obtain⟨ax,sx,mS⟩:=y9 inv ap il;obtain⟨e',cS,hr⟩:=Vk he mS;have iV:(getObj lr.b).run P w= .ok (.mapIter (some lb.b) since ⟨seen⟩ ck) w:=by simp[getObj,Sem.run,h1]
        have Ce:(getObj lb.b).run P w= .ok (.map ⟨ax⟩ ck) w:=by simp[getObj,Sem.run,sx]
        have bU2:(⟨seen⟩:Array Nat).back?=some s:=by rw[Vx] at hs;simpa using hs
        refine⟨.tuple #[e'.key,e'.val],?_,ai.rJ (((aP.nil β).cons hr.2.2).cons hr.2.1)⟩;have fW:(⟨ax⟩:Array MapEntry).find? (·.born==s)=some e':=by rw[←cS];simp
        rw[yG];exact aI9 _ _ iV Ce bU2 fW
      ·cases h
     ·cases h
    ·cases h
   ·cases h
 ·cases h
end
end
end Go.Ex
