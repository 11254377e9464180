/- A verified evaluator of Go functions. -/
import Derived.Test.YtnjdjocokegphaaGreatDoorX2
import Derived.IntWalk
import Derived.Lib.ConvBytes
import Derived.Laws.IdiomStrings
import Derived.Lib.UnsafeStr
set_option linter.unusedVariables false
set_option linter.unusedSimpArgs false
namespace Go.Ex
open Go.RowKit
noncomputable section
section
variable{P:Program}{E:av}(ok:E.Ok P){sq:List (Nat×List xO)}(aY:E.Seq P sq){w0 w:World}{β:ah}{A:AW}(inv:Inv w0 E.G β A w)
def Jy(E:av)(t:xN):Option xM:=
 match E.ti.get none t with
 |some r=>bs r.qS (bs (lU r.desc) (some (.agg ⟨ez pE r.zero⟩)) (match r.zero with|[c]=>some (pE c)|_=>none)) none
 |none=>none
include ok in
theorem Xh{t:xN}{v:xM}(h:Jy E t=some v)(w:World):∃v',(zeroValue t).run P w= .ok v' w∧∀β:ah,ai β v v':=by
 unfold Jy at h;split at h
 ·rename_i r hr;replace h:=aB h;rcases h with⟨hz,h⟩|⟨_,h⟩
  ·obtain⟨_,i,hi,_,_,eI⟩:=ok.ti t r hr;obtain⟨z,nK,D9⟩:=eI hz;obtain⟨e1,e2⟩:=ok.zr t r i z hr hi hz nK;have aM:(zeroValue t).run P w= .ok z w:=by simp[zeroValue,typeInfo,hi,nK]
   refine⟨z,aM,fun β=> ?_⟩;replace h:=aB h;rcases h with⟨hd,h⟩|⟨hd,h⟩
   ·cases h;have:z= .agg ⟨r.zero⟩:=by
     rw[e1];cases U3:r.desc<;>rw[U3] at hd<;>first|(cases hd;done)|rfl
    rw[this];exact ai.rR (BS β _)
   ·split at h
    ·rename_i c hc;cases h;have:z=c:=by
      rw[e1];cases U3:r.desc<;>rw[U3] at hd<;>first|(cases hd;done)|(simp only [hc])
     rw[this];exact BV β c
    ·cases h
  ·cases h
 ·cases h
def rU(A:AW)(B:Nat):Option (List MapEntry×Nat):=match A.get B with|some ⟨.map es ck,_,_,_,_⟩=>some (es,ck)|_=>none
include inv in
theorem x7{B:Nat}{es:List MapEntry}{ck:Nat}(h:rU A B=some (es,ck)){l:Loc}(hl:β B=some l):∃aD,w.heap[l.b]? =some (.map ⟨aD⟩ ck)∧eX β es aD:=by
 unfold rU at h;split at h
 ·rename_i hg;cases h;obtain⟨aD,h1,h2,h3⟩:=inv.cont B _ l hg hl;obtain⟨aD⟩:=aD;exact⟨aD,h1,by simpa using h2,fun i e e' a b=>h3 i e e' a (by simpa using b)⟩
 ·cases h
def u5(A:AW)(B:Nat)(es:List MapEntry)(ck:Nat):AW:=match A.get B with|some ⟨_,a,b,c,d⟩=>A.put B (some ⟨.map es ck,a,b,c,d⟩)|none=>A
include inv in
theorem E2{B:Nat}{es nV:List MapEntry}{ck ck2:Nat}(h:rU A B=some (es,ck))(hG:E.G.n≤B){l:Loc}(hl:β B=some l){Hs:List MapEntry}(hm:eX β nV Hs):
 (setObj l.b (.map ⟨Hs⟩ ck2)).run P w= .ok () {w with heap:=w.heap.setIfInBounds l.b (.map ⟨Hs⟩ ck2)}∧Inv w0 E.G β (u5 A B nV ck2) {w with heap:=w.heap.setIfInBounds l.b (.map ⟨Hs⟩ ck2)}:=by
 obtain⟨aD,h1,_⟩:=x7 inv h hl;have aX:l.b<w.heap.size:=(Array.getElem?_eq_some_iff.1 h1).1;unfold rU at h;split at h
 ·rename_i e0 c0 a b c d hg;refine⟨by simp[setObj,Sem.run,h1],?_⟩;unfold u5;rw[hg];refine inv.write B l _ _ hg hl hG ⟨rfl,rfl,rfl,by simp,fun k hk bq=> ?_⟩ (by simp) ?_
  ·show(w.heap.setIfInBounds l.b _)[k]? =_;rw[Array.getElem?_setIfInBounds_ne (fun e=>bq (by rw[e]))]
  ·show hM β l _ ((w.heap.setIfInBounds l.b _)[l.b]?);rw[Array.getElem?_setIfInBounds_self_of_lt aX];exact⟨⟨Hs⟩,rfl,by simpa using hm.1,fun i e e' a b=>hm.2 i e e' a (by simpa using b)⟩
 ·cases h
theorem EH(B:Nat)(es:List MapEntry)(ck:Nat):(u5 A B es ck).next=A.next:=by
 unfold u5;split<;>rfl
theorem eX.set{es aD:List MapEntry}(h:eX β es aD)(i:Nat){e e':MapEntry}(he:v7 β e e'):eX β (es.set i e) (aD.set i e'):=by
 refine⟨by simp[h.1],fun k a b ha hb=> ?_⟩;rw[List.getElem?_set] at ha hb;by_cases hk:i=k
 ·rw[if_pos hk] at ha hb;split at ha
  ·rw[if_pos (by rw[←h.1];assumption)] at hb;cases ha;cases hb;exact he
  ·cases ha
 ·rw[if_neg hk] at ha hb;exact h.2 k a b ha hb
theorem eX.snoc{es aD:List MapEntry}(h:eX β es aD){e e':MapEntry}(he:v7 β e e'):eX β (es++[e]) (aD++[e']):=by
 refine⟨by simp[h.1],fun k a b ha hb=> ?_⟩;by_cases hk:k<es.length
 ·rw[xw hk] at ha;rw[xw (by rw[←h.1];exact hk)] at hb;exact h.2 k a b ha hb
 ·rw[xq (by omega)] at ha;rw[xq (by rw[←h.1];omega),←h.1] at hb;cases hq:k - es.length with
  |zero=>rw[hq] at ha hb;simp at ha hb;subst ha;subst hb;exact he
  |succ q=>rw[hq] at ha;simp at ha
def Jj(E:av)(sq:List (Nat×List xO))(A:AW)(t:xN)(x k:xM)(ck:Bool):Option xM:=
 match E.ti.get none t with
 |some ⟨.map kt et,_,_,_,_⟩=>
  match(match x with| .map none=>some []| .map (some B)=>(match rU A B with|some (es,_)=>some es|none=>none)|_=>none) with
  |none=>none
  |some es=>bs (zU E sq kt k) (match n4 E sq kt k es 0 with
   |none=>none
   |some (some (_,v))=>some (bs ck (.tuple ⟨[v,.bool true]⟩) v)
   |some none=>match Jy E et with
    |some v=>some (bs ck (.tuple ⟨[v,.bool false]⟩) v)
    |none=>none) none
 |_=>none
include ok aY inv in
theorem bc3{t:xN}{x x' k k' v:xM}{ck:Bool}(h:Jj E sq A t x k ck=some v)(hx:ai β x x')(hk:ai β k k'):∃v',(Instr.lookup t x' k' ck).run P w= .ok v' w∧ai β v v':=by
 unfold Jj at h;split at h
 ·rename_i kt et _ _ _ _ hr;have hu:=(ok.ti t _ hr).1;split at h
  ·cases h
  ·rename_i es cb;replace h:=aB h;rcases h with⟨hkb,h⟩|⟨_,h⟩
   ·have qO:∃aD,eX β es aD∧((x'= .map none∧aD=[])∨∃r c0,x'= .map (some r)∧w.heap[r]? =some (.map ⟨aD⟩ c0)):=by
     split at cb
     ·cases cb;cases hx;exact⟨[],⟨rfl,fun i e e' h=>by simp at h⟩,.inl ⟨rfl,rfl⟩⟩
     ·rename_i B;cases hx with
      |map _ l hl=>
       split at cb
       ·rename_i fU ck0 hm;cases cb;obtain⟨aD,h1,h2⟩:=x7 inv hm hl;exact⟨aD,h2,.inr ⟨l.b,ck0,rfl,h1⟩⟩
       ·cases cb
     ·cases cb
    obtain⟨aD,hm,Bh⟩:=qO;clear cb hx;have fin:∀r,n4 E sq kt k es 0=some r→_:=fun r sU=>Cf ok aY hkb hk sU hm w
    split at h
    ·cases h
    ·rename_i j0 v0 hf;cases h;obtain⟨⟨r',f1,f2⟩,f3,-⟩:=fin _ hf;rcases f2 with⟨e,_⟩|⟨j1,v1,wa,e1,e2,hv⟩
     ·cases e
     ·cases e1;subst e2;cases ck with
      |true=>exact⟨.tuple #[wa,.bool true],by rcases Bh with⟨e1,e2⟩|⟨r,c0,e1,hh⟩<;>first|(subst e1;subst e2;simp[Instr.lookup,run_underlying hu,f3,f1];done)|(subst e1;simp[Instr.lookup,run_underlying hu,f3,f1,getObj,Sem.run,hh]),ai.p8 ((aT.nil β).cons (.bool true)|>.cons hv)⟩
      |false=>exact⟨wa,by rcases Bh with⟨e1,e2⟩|⟨r,c0,e1,hh⟩<;>first|(subst e1;subst e2;simp[Instr.lookup,run_underlying hu,f3,f1];done)|(subst e1;simp[Instr.lookup,run_underlying hu,f3,f1,getObj,Sem.run,hh]),hv⟩
    ·rename_i hf;split at h
     ·rename_i z hz;cases h;obtain⟨z',iu,eI⟩:=Xh (P:=P) ok hz w;obtain⟨⟨r',f1,f2⟩,f3,-⟩:=fin _ hf;rcases f2 with⟨_,e⟩|⟨j1,v1,wa,e1,_⟩
      ·subst e;cases ck with
       |true=>exact⟨.tuple #[z',.bool false],by rcases Bh with⟨e1,e2⟩|⟨r,c0,e1,hh⟩<;>first|(subst e1;subst e2;simp[Instr.lookup,run_underlying hu,f3,f1,iu];done)|(subst e1;simp[Instr.lookup,run_underlying hu,f3,f1,iu,getObj,Sem.run,hh]),ai.p8 ((aT.nil β).cons (.bool false)|>.cons (eI β))⟩
       |false=>exact⟨z',by rcases Bh with⟨e1,e2⟩|⟨r,c0,e1,hh⟩<;>first|(subst e1;subst e2;simp[Instr.lookup,run_underlying hu,f3,f1,iu];done)|(subst e1;simp[Instr.lookup,run_underlying hu,f3,f1,iu,getObj,Sem.run,hh]),eI β⟩
      ·cases e1
     ·cases h
   ·cases h
 ·cases h
end
section
variable{P:Program}{E:av}(ok:E.Ok P){sq:List (Nat×List xO)}(aY:E.Seq P sq){w0 w:World}{β:ah}{A:AW}(inv:Inv w0 E.G β A w)
theorem O0{kt:xN}{k:xM}:∀(es:List MapEntry) (i j:Nat) (v:xM),n4 E sq kt k es i=some (some (j,v))→i≤j∧∃e,es[j - i]? =some e∧jG E sq kt k e.key=some true∧e.val=v
 |[],i,j,v,h=>by cases h
 |e::es,i,j,v,h=>by
  have h':(match jG E sq kt k e.key with
   |none=>none
   |some true=>some (some (i,e.val))
   |some false=>n4 E sq kt k es (i+1))=some (some (j,v)):=h
  clear h;split at h'
  ·cases h'
  ·rename_i hq;cases h';exact⟨xk _,e,by simp,hq,rfl⟩
  ·obtain⟨h1,e2,h2,h3⟩:=O0 es (i+1) j v h';refine⟨by omega,e2,?_,h3⟩;rw[show j - i=(j - (i+1))+1 by omega,List.getElem?_cons_succ];exact h2
theorem II{es:List MapEntry}{j:Nat}{e:MapEntry}(h:es[j]? =some e)(f:MapEntry→MapEntry):(⟨es⟩:Array MapEntry).modify j f=⟨es.set j (f e)⟩:=by
 apply Array.ext_getElem?;intro i;rw[Array.getElem?_modify];have aX:=(xe.1 h).1;by_cases hi:j=i
 ·subst hi;have h2:(⟨es⟩:Array MapEntry)[j]? =some e:=by simpa using h
  have h3:(⟨es.set j (f e)⟩:Array MapEntry)[j]? =some (f e):=by simp[aX]
  rw[h2,h3];simp
 ·rw[if_neg hi];have h3:(⟨es.set j (f e)⟩:Array MapEntry)[i]? =es[i]? :=by simp[List.getElem?_set_ne hi]
  rw[h3];simp
theorem eX.get{es aD:List MapEntry}(h:eX β es aD){i:Nat}{e:MapEntry}(he:es[i]? =some e):∃e',aD[i]? =some e'∧v7 β e e':=by
 have hi:i<aD.length:=h.1▸(xe.1 he).1;exact⟨aD[i],by simp[hi],h.2 i e _ he (by simp[hi])⟩
def yL(E:av)(sq:List (Nat×List xO))(A:AW)(t:xN)(m k v:xM):Option AW:=
 match E.ti.get none t,m with
 |some ⟨.map kt _,_,_,_,_⟩,.map (some B)=>match rU A B with
  |some (es,ck)=>bs (Nat.ble E.G.n B&&zU E sq kt k) (match n4 E sq kt k es 0 with
   |none=>none
   |some none=>some (u5 A B (aj es [⟨k,v,ck⟩]) (Nat.add ck 1))
   |some (some (i,_))=>match dj es i with
    |some e=>some (u5 A B (Ds es i ⟨k,v,e.born⟩) ck)
    |none=>none) none
  |none=>none
 |_,_=>none
theorem Wa{t:xN}{m k v:xM}{A':AW}(h:yL E sq A t m k v=some A'):A.next≤A'.next:=by
 unfold yL at h;split at h
 ·split at h
  ·replace h:=aB h;rcases h with⟨_,h⟩|⟨_,h⟩
   ·split at h
    ·cases h
    ·cases h;rw[EH];exact xk _
    ·split at h
     ·cases h;rw[EH];exact xk _
     ·cases h
   ·cases h
  ·cases h
 ·cases h
include ok aY inv in
theorem Yn{t:xN}{m m' k k' v v':xM}{A':AW}(h:yL E sq A t m k v=some A')(hm:ai β m m')(hk:ai β k k')(hv:ai β v v'):∃w',(Instr.mapUpdate t m' k' v').run P w= .ok () w'∧Inv w0 E.G β A' w':=by
 unfold yL at h;split at h
 ·rename_i kt et _ _ _ _ B hr;have hu:=(ok.ti t _ hr).1;split at h
  ·rename_i es ck aq;replace h:=aB h;rcases h with⟨hb,h⟩|⟨_,h⟩
   ·rw[xf] at hb;have hG:=xh hb.1;cases hm with
    |map _ l hl=>
     obtain⟨aD,qA,lL⟩:=x7 inv aq hl;have fin:∀r,n4 E sq kt k es 0=some r→_:=fun r sU=>Cf ok aY hb.2 hk sU lL w
     split at h
     ·cases h
     ·rename_i hf;cases h;obtain⟨⟨r',f1,f2⟩,f3,f4,_⟩:=fin _ hf;rcases f2 with⟨_,e⟩|⟨_,_,_,e1,_⟩
      ·subst e;have eK:eX β (es++[⟨k,v,ck⟩]) (aD++[⟨k',v',ck⟩]):=lL.snoc ⟨rfl,hk,hv⟩;obtain⟨aM,bU⟩:=E2 (P:=P) (ck2:=ck+1) inv aq hG hl eK;rw[iN];refine⟨_,?_,bU⟩;have iy:(getObj l.b).run P w= .ok (.map ⟨aD⟩ ck) w:=by simp[getObj,Sem.run,qA]
       have Ar:(⟨aD⟩:Array MapEntry).push ⟨k',v',ck⟩=⟨aD++[⟨k',v',ck⟩]⟩:=by apply Array.ext';simp
       simp only [Instr.mapUpdate,Sem.run_bind,run_underlying hu,iy,f3,f1,Result.andThen_ok];rw[Ar];exact aM
      ·cases e1
     ·rename_i j0 v0 hf;split at h
      ·rename_i e0 pU;rw[eL] at pU;cases h;obtain⟨⟨r',f1,f2⟩,f3,f4,f5,f6⟩:=fin _ hf;rcases f2 with⟨e,_⟩|⟨j1,v1,wa,e1,e2,mN⟩
       ·cases e
       ·cases e1;subst e2;obtain⟨_,e9,h9,nU,_⟩:=O0 (E:=E) (sq:=sq) es 0 j0 v0 hf;rw[Nat.sub_zero,pU] at h9;cases h9;obtain⟨e',fk,eZ,bN,du⟩:=lL.get pU;have vT:e'.key=k:=f6 _ _ nU bN;have eK:eX β (es.set j0 ⟨k,v,e0.born⟩) (aD.set j0 ⟨k',v',e'.born⟩):=lL.set j0 ⟨eZ,hk,hv⟩;obtain⟨aM,bU⟩:=E2 (P:=P) (ck2:=ck) inv aq hG hl eK;rw[Ji];refine⟨_,?_,bU⟩;have iy:(getObj l.b).run P w= .ok (.map ⟨aD⟩ ck) w:=by simp[getObj,Sem.run,qA]
        have vR:=II fk (fun e=>{e with key:=k',val:=v'});have Ei:(Instr.keyThatStays ((((⟨aD⟩:Array MapEntry)[j0]?).map (·.key)).getD k') k').run P w= .ok k' w:=by
         have:(((⟨aD⟩:Array MapEntry)[j0]?).map (·.key)).getD k'=k:=by simp[fk,vT]
         rw[this,f4];simp[Instr.keyThatStays,f5]
        simp only [Instr.mapUpdate,Sem.run_bind,run_underlying hu,iy,f3,f1,Result.andThen_ok,Ei];rw[vR];exact aM
      ·cases h
   ·cases h
  ·cases h
 ·cases h
def CE(E:av)(sq:List (Nat×List xO))(A:AW)(t:xN)(m k:xM):Option (xM×AW):=
 match E.ti.get none t,m with
 |some ⟨.map kt et,_,_,_,_⟩,.map (some B)=>match rU A B with
  |some (es,ck)=>bs (Nat.ble E.G.n B&&zU E sq kt k) (match n4 E sq kt k es 0 with
   |none=>none
   |some none=>(match Jy E et with
    |some z=>some (.tuple ⟨[z,.int .i64 (.ofNat ck)]⟩,u5 A B (aj es [⟨k,z,ck⟩]) (Nat.add ck 1))
    |none=>none)
   |some (some (i,v))=>match dj es i with
    |some e=>some (.tuple ⟨[v,.int .i64 (.ofNat e.born)]⟩,u5 A B (Ds es i ⟨k,e.val,e.born⟩) ck)
    |none=>none) none
  |none=>none
 |_,_=>none
theorem aW2{t:xN}{m k v:xM}{A':AW}(h:CE E sq A t m k=some (v,A')):A.next≤A'.next:=by
 unfold CE at h;split at h
 ·split at h
  ·replace h:=aB h;rcases h with⟨_,h⟩|⟨_,h⟩
   ·split at h
    ·cases h
    ·split at h
     ·cases h;rw[EH];exact xk _
     ·cases h
    ·split at h
     ·cases h;rw[EH];exact xk _
     ·cases h
   ·cases h
  ·cases h
 ·cases h
include ok aY inv in
theorem bl6{t:xN}{m m' k k' v:xM}{A':AW}(h:CE E sq A t m k=some (v,A'))(hm:ai β m m')(hk:ai β k k'):g9 w0 E.G β A ((Instr.mapEntry t m' k').run P w) v A':=by
 unfold CE at h;split at h
 ·rename_i kt et _ _ _ _ B hr;have hu:=(ok.ti t _ hr).1;split at h
  ·rename_i es ck aq;replace h:=aB h;rcases h with⟨hb,h⟩|⟨_,h⟩
   ·rw[xf] at hb;have hG:=xh hb.1;cases hm with
    |map _ l hl=>
     obtain⟨aD,qA,lL⟩:=x7 inv aq hl;have fin:∀r,n4 E sq kt k es 0=some r→_:=fun r sU=>Cf ok aY hb.2 hk sU lL w
     have iy:(getObj l.b).run P w= .ok (.map ⟨aD⟩ ck) w:=by simp[getObj,Sem.run,qA]
     split at h
     ·cases h
     ·rename_i hf;split at h
      ·rename_i z hz;cases h;obtain⟨⟨r',f1,f2⟩,f3,f4,_⟩:=fin _ hf;obtain⟨z',iu,eI⟩:=Xh (P:=P) ok hz w;rcases f2 with⟨_,e⟩|⟨_,_,_,e1,_⟩
       ·subst e;have eK:eX β (es++[⟨k,z,ck⟩]) (aD++[⟨k',z',ck⟩]):=lL.snoc ⟨rfl,hk,eI β⟩;obtain⟨aM,bU⟩:=E2 (P:=P) (ck2:=ck+1) inv aq hG hl eK;rw[iN];refine⟨β,.tuple #[z',goInt ck],_,?_,ai.p8 ((aT.nil β).cons (.int .i64 ck)|>.cons (eI β)),bU,ah.ca _ _⟩;have Ar:(⟨aD⟩:Array MapEntry).push ⟨k',z',ck⟩=⟨aD++[⟨k',z',ck⟩]⟩:=by apply Array.ext';simp
        simp only [Instr.mapEntry,Sem.run_bind,run_underlying hu,iy,f3,f1,Result.andThen_ok,iu];rw[Ar,aM];rfl
       ·cases e1
      ·cases h
     ·rename_i j0 v0 hf;split at h
      ·rename_i e0 pU;rw[eL] at pU;cases h;obtain⟨⟨r',f1,f2⟩,f3,f4,f5,f6⟩:=fin _ hf;rcases f2 with⟨e,_⟩|⟨j1,v1,wa,e1,e2,mN⟩
       ·cases e
       ·cases e1;subst e2;obtain⟨_,e9,h9,nU,_⟩:=O0 (E:=E) (sq:=sq) es 0 j0 v0 hf;rw[Nat.sub_zero,pU] at h9;cases h9;obtain⟨e',fk,eZ,bN,du⟩:=lL.get pU;have vT:e'.key=k:=f6 _ _ nU bN;have eK:eX β (es.set j0 ⟨k,e0.val,e0.born⟩) (aD.set j0 ⟨k',e'.val,e'.born⟩):=lL.set j0 ⟨eZ,hk,du⟩;obtain⟨aM,bU⟩:=E2 (P:=P) (ck2:=ck) inv aq hG hl eK;rw[Ji];refine⟨β,.tuple #[wa,goInt e0.born],_,?_,ai.p8 ((aT.nil β).cons (.int .i64 e0.born)|>.cons mN),bU,ah.ca _ _⟩;have vR:=II fk (fun e=>{e with key:=k'});have Ei:(Instr.keyThatStays ((((⟨aD⟩:Array MapEntry)[j0]?).map (·.key)).getD k') k').run P w= .ok k' w:=by
         have:(((⟨aD⟩:Array MapEntry)[j0]?).map (·.key)).getD k'=k:=by simp[fk,vT]
         rw[this,f4];simp[Instr.keyThatStays,f5]
        have Bq:(((⟨aD⟩:Array MapEntry)[j0]?).map (fun x=>(x.born:Int))).getD 0=(e0.born:Int):=by simp[fk,eZ]
        simp only [Instr.mapEntry,Sem.run_bind,run_underlying hu,iy,f3,f1,Result.andThen_ok,Ei,Bq];rw[vR,aM];rfl
      ·cases h
   ·cases h
  ·cases h
 ·cases h
def Qw(b:Nat)(es:List MapEntry):Nat→Option Nat:=List.rec (motive:=fun _=>Nat→Option Nat) (fun _=>none) (fun e _ ih i=>bs (Nat.beq e.born b) (some i) (ih (Nat.add i 1))) es
def Ci(E:av)(A:AW)(m s v:xM):Option AW:=
 match m,s with
 | .map (some B),.int _ (.ofNat b)=>match rU A B with
  |some (es,ck)=>bs (Nat.ble E.G.n B) (match Qw b es 0 with
   |some i=>(match dj es i with|some e=>some (u5 A B (Ds es i ⟨e.key,v,e.born⟩) ck)|none=>none)
   |none=>none) none
  |none=>none
 |_,_=>none
theorem aU6{m k v:xM}{A':AW}(h:Ci E A m k v=some A'):A.next≤A'.next:=by
 unfold Ci at h;split at h
 ·split at h
  ·replace h:=aB h;rcases h with⟨_,h⟩|⟨_,h⟩
   ·split at h
    ·split at h
     ·cases h;rw[EH];exact xk _
     ·cases h
    ·cases h
   ·cases h
  ·cases h
 ·cases h
theorem Yg{b:Nat}:∀(es aD:List MapEntry) (i j:Nat),Qw b es i=some j→eX β es aD→i≤j∧aD.findIdx? (fun e=>(e.born:Int)==(b:Int))=some (j - i)
 |[],_,_,_,h,_=>by cases h
 |e::es,aD,i,j,h,hm=>by
  obtain⟨e',yX,rfl,⟨hb,_,_⟩,zk⟩:=hm.kS;have h':bs (Nat.beq e.born b) (some i) (Qw b es (i+1))=some j:=h;clear h;rw[l4] at h';by_cases hq:e.born=b
  ·rw[decide_eq_true hq,ek] at h';cases h';refine⟨xk _,?_⟩;rw[List.findIdx?_cons];simp[←hb,hq]
  ·rw[decide_eq_false hq,gC] at h';obtain⟨h1,h2⟩:=Yg es yX (i+1) j h' zk;refine⟨by omega,?_⟩;rw[List.findIdx?_cons,h2];have: ¬((e'.born:Int)=(b:Int)):=by rw[←hb];omega
   simp[this];omega
include inv in
theorem bd9{t:xN}{m m' s s' v v':xM}{A':AW}(h:Ci E A m s v=some A')(hm:ai β m m')(hs:ai β s s')(hv:ai β v v'):∃w',(Instr.entryStore t m' s' v').run P w= .ok () w'∧Inv w0 E.G β A' w':=by
 unfold Ci at h;split at h
 ·rename_i B k0 b;split at h
  ·rename_i es ck aq;replace h:=aB h;rcases h with⟨hG,h⟩|⟨_,h⟩
   ·have nS:=xh hG;cases hm with
    |map _ l hl=>
     cases hs;obtain⟨aD,qA,lL⟩:=x7 inv aq hl;split at h
     ·rename_i i hi;split at h
      ·rename_i e he;rw[eL] at he;cases h;obtain⟨_,My⟩:=Yg es aD 0 i hi lL;rw[Nat.sub_zero] at My;obtain⟨e',fk,eZ,bN,du⟩:=lL.get he;have eK:eX β (es.set i ⟨e.key,v,e.born⟩) (aD.set i ⟨e'.key,v',e'.born⟩):=lL.set i ⟨eZ,bN,hv⟩;obtain⟨aM,bU⟩:=E2 (P:=P) (ck2:=ck) inv aq nS hl eK;rw[Ji];refine⟨_,?_,bU⟩;have iy:(getObj l.b).run P w= .ok (.map ⟨aD⟩ ck) w:=by simp[getObj,Sem.run,qA]
       have vR:=II fk (fun e=>{e with val:=v'});have co1:(⟨aD⟩:Array MapEntry).findIdx? (fun e=>(e.born:Int)==(Int.ofNat b))=some i:=by simpa using My
       simp only [Instr.entryStore,Sem.run_bind,iy,Result.andThen_ok,asInt,asIntOf,Sem.run_pure,co1];rw[vR];exact aM
      ·cases h
     ·cases h
   ·cases h
  ·cases h
 ·cases h
end
section
variable{P:Program}{E:av}(ok:E.Ok P){w0 w:World}{β:ah}{A:AW}(inv:Inv w0 E.G β A w)
def IV(A:AW):xM×AW:=(.map (some A.next),A.add ⟨.map [] 0,1,true,false,0⟩)
include inv in
theorem VW(t:xN):g9 w0 E.G β A ((Instr.makeMap t none).run P w) (IV A).1 (IV A).2:=by
 obtain⟨h1,h2⟩:=inv.new ⟨.map [] 0,1,true,false,0⟩ (.map #[] 0) ⟨w.heap.size,0,1,0⟩ rfl ⟨#[],rfl,rfl,fun i e e' h=>by simp at h⟩;exact⟨_,.map (some w.heap.size),_,by simp[Instr.makeMap],.map A.next _ (jy _ _ _),h1,h2⟩
def Cr(E:av)(A:AW)(t:xN)(x:xM):Option (xM×AW):=
 match E.ti.get none t,x with
 |some ⟨.map _ _,_,_,_,_⟩,.map none=>some (.pointer (some ⟨A.next,0,none⟩),A.add ⟨.iter none 0 [] 0,1,true,false,0⟩)
 |some ⟨.map _ _,_,_,_,_⟩,.map (some B)=>match rU A B with
  |some (_,ck)=>some (.pointer (some ⟨A.next,0,none⟩),A.add ⟨.iter (some B) ck [] ck,1,true,false,0⟩)
  |none=>none
 |_,_=>none
theorem aV4{t:xN}{x v:xM}{A':AW}(h:Cr E A t x=some (v,A')):A.next≤A'.next:=by
 unfold Cr at h;split at h
 ·cases h;exact Nat.le_succ _
 ·split at h
  ·cases h;exact Nat.le_succ _
  ·cases h
 ·cases h
include ok inv in
theorem bi1{t:xN}{x x' v:xM}{A':AW}(h:Cr E A t x=some (v,A'))(hx:ai β x x'):g9 w0 E.G β A ((Instr.range t x').run P w) v A':=by
 unfold Cr at h;split at h
 ·rename_i hr;have hu:=(ok.ti t _ hr).1;cases h;cases hx;obtain⟨h1,h2⟩:=inv.new ⟨.iter none 0 [] 0,1,true,false,0⟩ (.mapIter none 0 #[] 0) ⟨w.heap.size,0,1,0⟩ rfl ⟨rfl,none,rfl,.inl ⟨rfl,rfl⟩⟩;exact⟨_,.pointer (some ⟨w.heap.size,0+0,none⟩),_,by simp[Instr.range,run_underlying hu],.ptr A.next 0 _ (jy _ _ _),h1,h2⟩
 ·rename_i B hr;have hu:=(ok.ti t _ hr).1;split at h
  ·rename_i es ck aq;cases h;cases hx with
   |map _ l hl=>
    obtain⟨aD,qA,_⟩:=x7 inv aq hl;have aR:β.le (β.put A.next ⟨w.heap.size,0,1,0⟩):=inv.fY (ah.uQ β A.next _);obtain⟨h1,h2⟩:=inv.new ⟨.iter (some B) ck [] ck,1,true,false,0⟩ (.mapIter (some l.b) ck #[] ck) ⟨w.heap.size,0,1,0⟩ rfl ⟨rfl,some l.b,rfl,.inr ⟨B,l,rfl,aR.f _ _ hl,rfl⟩⟩;refine⟨_,.pointer (some ⟨w.heap.size,0+0,none⟩),_,?_,.ptr A.next 0 _ (jy _ _ _),h1,h2⟩;have iy:(getObj l.b).run P w= .ok (.map ⟨aD⟩ ck) w:=by simp[getObj,Sem.run,qA]
    simp[Instr.range,run_underlying hu,iy]
  ·cases h
 ·cases h
def Cz(A:AW)(R:Nat):Option (Option Nat×Nat×List Nat×Nat):=match A.get R with|some ⟨.iter m since seen st,_,_,_,_⟩=>some (m,since,seen,st)|_=>none
def E7(A:AW)(R:Nat)(o:AO):AW:=match A.get R with|some ⟨_,a,b,c,d⟩=>A.put R (some ⟨o,a,b,c,d⟩)|none=>A
theorem aU1(R:Nat)(o:AO):(E7 A R o).next=A.next:=by unfold E7;split<;>rfl
def lT{α:Type}(f:α→Bool)(l:List α):List α:=List.rec (motive:=fun _=>List α) [] (fun a _ ih=>bs (f a) (a::ih) ih) l
theorem wS{α:Type}(f:α→Bool)(l:List α):lT f l=l.filter f:=by
 induction l with
 |nil=>rfl
 |cons a l ih=>
  show bs (f a) (a::lT f l) (lT f l)=_;rw[ih,List.filter_cons];cases f a<;>rfl
def uk(i:Nat)(l:List Nat):Bool:=List.rec (motive:=fun _=>Bool) false (fun a _ ih=>bs (Nat.beq a i) true ih) l
theorem E4{i:Nat}:∀{l:List Nat},uk i l=true→i∈l
 |[],h=>by cases h
 |a::l,h=>by
  have h':bs (Nat.beq a i) true (uk i l)=true:=h;cases hb:Nat.beq a i with
  |true=>rw[xb hb];exact xn
  |false=>rw[hb,gC] at h';exact xo _ (E4 h')
theorem Qa(i:Nat):∀(l:List Nat),uk i l=l.contains i
 |[]=>rfl
 |a::l=>by
  show bs (Nat.beq a i) true (uk i l)=_;rw[Qa i l,List.contains_cons,l4];by_cases h:a=i
  ·subst h;simp[bs]
  ·rw[decide_eq_false h,gC];have:(i==a)=false:=by simp;exact fun e=>h e.symm
   rw[this];rfl
def Dm(since:Nat)(seen:List Nat)(es:List MapEntry):List MapEntry:=lT (fun e=>Nat.blt e.born since&&not (uk e.born seen)) es
def Hb(since:Nat)(seen:List Nat)(es:List MapEntry):List MapEntry:=lT (fun e=>not (Nat.blt e.born since)&&not (uk e.born seen)) es
def AB(since:Nat)(seen:List Nat)(es:List MapEntry):List (Option MapEntry):=
 aj (match Dm since seen es with|[]=>[none]|_=>[]) (ez some (aj (Dm since seen es) (Hb since seen es)))
theorem eX.filter{es aD:List MapEntry}{p p':MapEntry→Bool}(hp:∀e e',e.born=e'.born→p e=p' e'):eX β es aD→eX β (es.filter p) (aD.filter p'):=by
 induction es generalizing aD with
 |nil=>intro h;rw[h.mV];exact⟨rfl,fun i e e' h=>by simp at h⟩
 |cons e es ih=>
  intro h;obtain⟨e',yX,rfl,he,hm⟩:=h.kS;have hpp:=hp e e' he.1;have Ut:=ih hm;rw[List.filter_cons,List.filter_cons,←hpp];cases p e with
  |false=>exact Ut
  |true=>
   refine⟨by simpa using Ut.1,fun i a b ha hb=> ?_⟩;cases i with
   |zero=>simp at ha hb;subst ha;subst hb;exact he
   |succ i=>simp at ha hb;exact Ut.2 i a b ha hb
theorem eX.append{a a' b b':List MapEntry}(h:eX β a a')(k:eX β b b'):eX β (a++b) (a'++b'):=by
 induction a generalizing a' with
 |nil=>rw[h.mV];exact k
 |cons e a ih=>
  obtain⟨e',l',rfl,h1,h2⟩:=h.kS;have:=ih h2;refine⟨by simpa using this.1,fun i x y hx hy=> ?_⟩;cases i with
  |zero=>simp at hx hy;subst hx;subst hy;exact h1
  |succ i=>simp at hx hy;exact this.2 i x y hx hy
def J7(E:av)(A:AW)(it:xM):Option (List (xM×AW)):=
 match it with
 | .pointer (some ⟨R,0,none⟩)=>bs (Nat.ble E.G.n R) (match Cz A R with
  |some (none,_,_,_)=>some [(.tuple ⟨[.bool false]⟩,A)]
  |some (some B,since,seen,st)=>match rU A B with
   |some (es,ck)=>bs (match seen,es with|[],_=>true|_,[]=>true|_,es=>not (eo (fun e=>Nat.ble st e.born) es))
    (some (ez (fun c=>match c with
     |none=>(.tuple ⟨[.bool false]⟩,A)
     |some e=>(.tuple ⟨[.bool true,e.key,e.val]⟩,E7 A R (.iter (some B) since (aj seen [e.born]) ck))) (AB since seen es))) none
   |none=>none
  |none=>none) none
 |_=>none
include inv in
theorem I0{R:Nat}{m:Option Nat}{since:Nat}{seen:List Nat}{st:Nat}(h:Cz A R=some (m,since,seen,st)){l:Loc}(hl:β R=some l):l.d=0∧∃m',w.heap[l.b]? =some (.mapIter m' since ⟨seen⟩ st)∧((m=none∧m'=none)∨∃B lb,m=some B∧β B=some lb∧m'=some lb.b):=by
 unfold Cz at h;split at h
 ·rename_i hg;cases h;exact inv.cont R _ l hg hl
 ·cases h
include inv in
theorem bk1{R:Nat}{m:Option Nat}{since:Nat}{seen:List Nat}{st:Nat}(h:Cz A R=some (m,since,seen,st))(hG:E.G.n≤R){l:Loc}(hl:β R=some l){B:Nat}{lb:Loc}(hB:β B=some lb)(JC:Nat)(JZ:List Nat)(M1:Nat):
 (setObj l.b (.mapIter (some lb.b) JC ⟨JZ⟩ M1)).run P w= .ok () {w with heap:=w.heap.setIfInBounds l.b (.mapIter (some lb.b) JC ⟨JZ⟩ M1)}∧Inv w0 E.G β (E7 A R (.iter (some B) JC JZ M1)) {w with heap:=w.heap.setIfInBounds l.b (.mapIter (some lb.b) JC ⟨JZ⟩ M1)}:=by
 obtain⟨wD,m',h1,_⟩:=I0 inv h hl;have aX:l.b<w.heap.size:=(Array.getElem?_eq_some_iff.1 h1).1;unfold Cz at h;split at h
 ·rename_i e0 c0 s0 t0 a b c d hg;refine⟨by simp[setObj,Sem.run,h1],?_⟩;unfold E7;rw[hg];refine inv.write R l _ _ hg hl hG ⟨rfl,rfl,rfl,by simp,fun k hk bq=> ?_⟩ (by simp) ?_
  ·show(w.heap.setIfInBounds l.b _)[k]? =_;rw[Array.getElem?_setIfInBounds_ne (fun e=>bq (by rw[e]))]
  ·show hM β l _ ((w.heap.setIfInBounds l.b _)[l.b]?);rw[Array.getElem?_setIfInBounds_self_of_lt aX];exact⟨wD,some lb.b,rfl,.inr ⟨B,lb,rfl,hB,rfl⟩⟩
 ·cases h
theorem aY1{w:World}{r b:Nat}{since st ck:Nat}{ty:xN}(sn:Array Nat)(es:Array MapEntry)(cs:Array (Option MapEntry)){i:Nat}{dr:Nat}
 (iy:(getObj r).run P w= .ok (.mapIter (some b) since sn st) w) (AV:(getObj b).run P w= .ok (.map es ck) w)
 (fE:(!sn.isEmpty&& !es.isEmpty&&es.all (fun e=>decide (e.born≥st)))=false)
 (bZ:cs=(if((es.filter fun e=> !sn.contains e.born).filter (·.born<since)).isEmpty then #[none] else #[])++(((es.filter fun e=> !sn.contains e.born).filter (·.born<since))++((es.filter fun e=> !sn.contains e.born).filter (·.born≥since))).map some)
 (NL:(choose (.mapNext cs.size)).run P w= .ok i {w with drawn:=dr}):
 (Instr.next (.pointer (some ⟨r,0,none⟩)) false ty).run P w=(match cs[i]? with
  |some (some e)=>(do
   setObj r (.mapIter (some b) since (sn.push e.born) ck)
   pure (.tuple #[.bool true,e.key,e.val]):Sem xM)
  |some none=>pure (.tuple #[.bool false])
  |none=>stuck "Next: no such candidate").run P {w with drawn:=dr}:=by
 subst bZ;simp only [Instr.next,Sem.run_bind,iy,Result.andThen_ok,AV,fE,Bool.false_eq_true,if_false,Sem.run_pure,NL];rfl
theorem aW8(n:Nat)(hn:0<n)(w:World):∃i d,i<n∧(choose (.mapNext n)).run P w= .ok i {w with drawn:=d}:=by
 by_cases h:n≤1
 ·refine⟨0,w.drawn,hn,?_⟩;simp[choose,Sem.run,Question.forced,h]
 ·refine⟨w.tape w.drawn (.mapNext n)%n,w.drawn+1,Nat.mod_lt _ hn,?_⟩;simp[choose,Sem.run,Question.forced,h,Question.cut]
def oR(since:Nat)(seen:List Nat)(aD:List MapEntry):List (Option MapEntry):=
 (if(aD.filter (fun e=>decide (e.born<since)&& !seen.contains e.born)).isEmpty then[none] else[])++
  ((aD.filter (fun e=>decide (e.born<since)&& !seen.contains e.born))++(aD.filter (fun e=>decide (since≤e.born)&& !seen.contains e.born))).map some
theorem bn0{since:Nat}{seen:List Nat}{es aD:List MapEntry}(h:eX β es aD):(AB since seen es).length=(oR since seen aD).length∧0<(oR since seen aD).length∧
 ∀(i:Nat) (c c':Option MapEntry),(AB since seen es)[i]? =some c→(oR since seen aD)[i]? =some c'→(c=none∧c'=none)∨∃e e',c=some e∧c'=some e'∧v7 β e e':=by
 have ho:Dm since seen es=es.filter (fun e=>decide (e.born<since)&& !seen.contains e.born):=by
  unfold Dm;rw[wS];apply List.filter_congr;intro e _;rw[Mb,Qa]
 have hn:Hb since seen es=es.filter (fun e=>decide (since≤e.born)&& !seen.contains e.born):=by
  unfold Hb;rw[wS];apply List.filter_congr;intro e _;rw[Mb,Qa]
  congr 1
  by_cases hb:e.born<since
  ·rw[decide_eq_true hb,decide_eq_false (by omega)];rfl
  ·rw[decide_eq_false hb,decide_eq_true (by omega)];rfl
 have h1:eX β (Dm since seen es) (aD.filter (fun e=>decide (e.born<since)&& !seen.contains e.born)):=by
  rw[ho];exact h.filter (fun e e' hb=>by rw[hb])
 have h2:eX β (Hb since seen es) (aD.filter (fun e=>decide (since≤e.born)&& !seen.contains e.born)):=by
  rw[hn];exact h.filter (fun e e' hb=>by rw[hb])
 unfold oR AB;rw[iN,kV,iN];generalize Dm since seen es=O at*;generalize Hb since seen es=N at*;generalize aD.filter (fun e=>decide (e.born<since)&& !seen.contains e.born)=O' at*;generalize aD.filter (fun e=>decide (since≤e.born)&& !seen.contains e.born)=N' at*;have uF:=h1.append h2;have tail:∀(i:Nat) (c c':Option MapEntry),((O++N).map some)[i]? =some c→((O'++N').map some)[i]? =some c'→∃e e',c=some e∧c'=some e'∧v7 β e e':=fun i c c' hc gT=>by
  rw[xx] at hc gT;obtain⟨e,he,rfl⟩:=xp.1 hc;obtain⟨e',fk,rfl⟩:=xp.1 gT;exact⟨e,e',rfl,rfl,uF.2 i e e' he fk⟩
 cases O with
 |nil=>
  have:=h1.mV;subst this;refine⟨by simp;simpa using uF.1,by simp,fun i c c' hc gT=> ?_⟩;cases i with
  |zero=>simp at hc gT;exact .inl ⟨hc.symm,gT.symm⟩
  |succ i=>exact .inr (tail i c c' (by simpa using hc) (by simpa using gT))
 |cons e O=>
  obtain⟨e',O'',rfl,_,_⟩:=h1.kS;refine⟨by simp;have:=uF.1;simp at this;omega,by simp,fun i c c' hc gT=> .inr (tail i c c' (by simpa using hc) (by simpa using gT))⟩
theorem bw2{st:Nat}{es aD:List MapEntry}(h:eX β es aD):aD.all (fun e=>decide (st≤e.born))=eo (fun e=>Nat.ble st e.born) es:=by
 induction es generalizing aD with
 |nil=>rw[h.mV];rfl
 |cons e es ih=>
  obtain⟨e',yX,rfl,he,hm⟩:=h.kS;rw[List.all_cons,ih hm,←he.1];show _=bs (Nat.ble st e.born) (eo (fun e=>Nat.ble st e.born) es) false;by_cases hb:st≤e.born
  ·rw[decide_eq_true hb,Nat.ble_eq_true_of_le hb];simp[bs]
  ·rw[decide_eq_false hb];cases hq:Nat.ble st e.born with
   |false=>simp[bs]
   |true=>exact absurd (xh hq) hb
include inv in
theorem Pq{it HO:xM}{l:List (xM×AW)}{ty:xN}(h:J7 E A it=some l)(hi:ai β it HO):∃p∈l,g9 w0 E.G β A ((Instr.next HO false ty).run P w) p.1 p.2∧A.next≤p.2.next:=by
 unfold J7 at h;split at h
 ·rename_i R;replace h:=aB h;rcases h with⟨hG,h⟩|⟨_,h⟩
  ·have nS:=xh hG;cases hi with
   |ptr _ _ lr gR=>
    split at h
    ·rename_i since seen st Ej;cases h;obtain⟨wD,m',h1,h2⟩:=I0 inv Ej gR;rcases h2 with⟨_,rfl⟩|⟨_,_,e,_⟩
     ·refine⟨_,xn,⟨β,.tuple #[.bool false],w,?_,ai.p8 ((aT.nil β).cons (.bool false)),inv,ah.ca _ _⟩,xk _⟩;have iy:(getObj lr.b).run P w= .ok (.mapIter none since ⟨seen⟩ st) w:=by simp[getObj,Sem.run,h1]
      simp[Instr.next,iy,wD]
     ·cases e
    ·rename_i B since seen st Ej;split at h
     ·rename_i es ck aq;replace h:=aB h;rcases h with⟨NL,h⟩|⟨_,h⟩
      ·cases h;obtain⟨wD,m',h1,h2⟩:=I0 inv Ej gR;rcases h2 with⟨e,_⟩|⟨B2,lb,e,gS,rfl⟩
       ·cases e
       ·cases e;obtain⟨aD,qA,lL⟩:=x7 inv aq gS;obtain⟨c1,c2,c3⟩:=bn0 (since:=since) (seen:=seen) lL;obtain⟨i,dr,hi,dj2⟩:=aW8 (P:=P) (oR since seen aD).length c2 w;have iy:(getObj lr.b).run P w= .ok (.mapIter (some lb.b) since ⟨seen⟩ st) w:=by simp[getObj,Sem.run,h1]
        have AV:(getObj lb.b).run P w= .ok (.map ⟨aD⟩ ck) w:=by simp[getObj,Sem.run,qA]
        have eY:i<(AB since seen es).length:=by rw[c1];exact hi
        have aI5:(⟨oR since seen aD⟩:Array (Option MapEntry))=(if((⟨aD⟩:Array MapEntry).filter (fun e=> !(⟨seen⟩:Array Nat).contains e.born)|>.filter (·.born<since)).isEmpty then #[none] else #[])++(((⟨aD⟩:Array MapEntry).filter (fun e=> !(⟨seen⟩:Array Nat).contains e.born)|>.filter (·.born<since))++((⟨aD⟩:Array MapEntry).filter (fun e=> !(⟨seen⟩:Array Nat).contains e.born)|>.filter (·.born≥since))).map some:=by
         apply Array.ext';unfold oR;have bZ:∀x,(⟨seen⟩:Array Nat).contains x=seen.contains x:=fun x=>by simp
         have he:((⟨aD⟩:Array MapEntry).filter (fun e=> !(⟨seen⟩:Array Nat).contains e.born)|>.filter (fun x=>decide (x.born<since))).isEmpty=(aD.filter (fun e=>decide (e.born<since)&& !seen.contains e.born)).isEmpty:=by
          rw[←Array.isEmpty_toList];simp only [Array.toList_filter',List.filter_filter,bZ]
         rw[he];simp only [Array.toList_append,Array.toList_map,Array.toList_filter',List.filter_filter,bZ];cases(aD.filter (fun e=>decide (e.born<since)&& !seen.contains e.born)).isEmpty<;>rfl
        have fE:(!(⟨seen⟩:Array Nat).isEmpty&& !(⟨aD⟩:Array MapEntry).isEmpty&& (⟨aD⟩:Array MapEntry).all (fun e=>decide (e.born≥st)))=false:=by
         have h8:=bw2 (st:=st) lL;cases seen with
         |nil=>rfl
         |cons s0 sr=>
          cases es with
          |nil=>rw[lL.mV];rfl
          |cons e0 er=>
           simp only [Bool.not_eq_true'] at NL;rw[NL] at h8;have h9:(⟨aD⟩:Array MapEntry).all (fun e=>decide (e.born≥st))=false:=by rw[←h8];simp
           rw[h9];simp
        have di1:(Value.pointer (some ⟨lr.b,lr.d+0,none⟩))= .pointer (some ⟨lr.b,0,none⟩):=by rw[wD]
        rw[di1];have pW:=c3 i (AB since seen es)[i] (oR since seen aD)[i] (by simp[eY]) (by simp[hi]);refine⟨_,(by rw[kV];exact xJ.2 ⟨(AB since seen es)[i],List.getElem_mem eY,rfl⟩),?_,?_⟩
        ·have bE9:(Instr.next (.pointer (some ⟨lr.b,0,none⟩)) false ty).run P w=(match(oR since seen aD)[i]? with
          |some (some e)=>(do
           setObj lr.b (.mapIter (some lb.b) since ((⟨seen⟩:Array Nat).push e.born) ck)
           pure (.tuple #[.bool true,e.key,e.val]):Sem xM)
          |some none=>pure (.tuple #[.bool false])
          |none=>stuck "Next: no such candidate").run P {w with drawn:=dr}:=by
          have h0:=aY1 (P:=P) (ty:=ty) (⟨seen⟩:Array Nat) (⟨aD⟩:Array MapEntry) (⟨oR since seen aD⟩:Array (Option MapEntry)) iy AV fE aI5 (by rw[List.size_toArray];exact dj2);rw[h0];have:(⟨oR since seen aD⟩:Array (Option MapEntry))[i]? =(oR since seen aD)[i]? :=by simp
          rw[this]
         rw[bE9];have uB:(oR since seen aD)[i]? =some (oR since seen aD)[i]:=by simp[hi]
         rw[uB];rcases pW with⟨e1,e2⟩|⟨e,e',e1,e2,hb,hk,hv⟩
         ·rw[e1,e2];exact⟨β,.tuple #[.bool false],_,rfl,ai.p8 ((aT.nil β).cons (.bool false)),inv.drew dr,ah.ca _ _⟩
         ·rw[e1,e2];have Ar:(⟨seen⟩:Array Nat).push e'.born=⟨seen++[e.born]⟩:=by apply Array.ext';simp[hb]
          obtain⟨hr5,hi5⟩:=bk1 (P:=P) (inv.drew dr) Ej nS gR gS since (seen++[e.born]) ck;refine⟨β,.tuple #[.bool true,e'.key,e'.val],{w with drawn:=dr,heap:=w.heap.setIfInBounds lr.b (Obj.mapIter (some lb.b) since {toList:=seen++[e.born]} ck)},?_,ai.p8 (((aT.nil β).cons hv|>.cons hk).cons (.bool true)),?_,ah.ca _ _⟩
          ·show Sem.run P (do setObj lr.b (.mapIter (some lb.b) since ((⟨seen⟩:Array Nat).push e'.born) ck);pure (.tuple #[.bool true,e'.key,e'.val]):Sem xM) _=_;rw[Ar];simp only [Sem.run_bind,hr5,Result.andThen_ok];rfl
          ·simp only [iN];exact hi5
        ·split
         ·exact xk _
         ·rw[aU1];exact xk _
      ·cases h
     ·cases h
    ·cases h
  ·cases h
 ·cases h
end
section
variable{P:Program}{E:av}(ok:E.Ok P){w0 w:World}{β:ah}{A:AW}(inv:Inv w0 E.G β A w)
def Qs(dl:Nat)(x:xM):Option (Nat×xM):=
 match x with
 | .slice none 0 0=>some (0,.slice none 0 0)
 | .slice (some a) n c=>bs (Nat.ble n dl) (some (n,.slice (some a) n c)) (some (dl,.slice (some a) dl c))
 | .string ⟨⟨l⟩⟩=>bs (Nat.ble (bE l) dl) (some (bE l,.string ⟨⟨l⟩⟩)) none
 |_=>none
theorem be2{dl n:Nat}{x x' y:xM}(h:Qs dl x=some (n,y))(hx:ai β x x'):∃y' k,ai β y y'∧(∀w,(Builtin.lenOf x').run P w= .ok k w)∧Nat.min k dl=n∧∀size,Builtin.firstCells size n x'=Builtin.firstCells size n y':=by
 unfold Qs at h;split at h
 ·cases h;cases hx;exact⟨_,0,.tz,fun _=>rfl,by simp,fun _=>rfl⟩
 ·rename_i a n0 c;replace h:=aB h;rcases h with⟨hb,h⟩|⟨hb,h⟩
  ·have eZ:=xh hb;cases h;cases hx with
   |slice B o _ _ c' l hl hn hc he=>exact⟨_,n,.slice B o _ _ c' l hl hn hc he,fun _=>rfl,Nat.min_eq_left eZ,fun _=>rfl⟩
   |empty o a' c'=>exact⟨_,0,.empty o a' c',fun _=>rfl,Nat.min_eq_left eZ,fun _=>rfl⟩
  ·have eZ:dl<n0:=by
    rcases Nat.lt_or_ge dl n0 with h|h
    ·exact h
    ·rw[Nat.ble_eq_true_of_le h] at hb;cases hb
   cases h;cases hx with
   |slice B o _ _ c' l hl hn hc he=>exact⟨_,n0,.slice B o dl c c' l hl (by omega) hc he,fun _=>rfl,Nat.min_eq_right (Nat.le_of_lt eZ),fun _=>rfl⟩
   |empty o a' c'=>omega
 ·rename_i l;replace h:=aB h;rcases h with⟨hb,h⟩|⟨_,h⟩
  ·have eZ:=xh hb;rw[dg] at eZ;cases h;cases hx;rw[dg];exact⟨_,l.length,.string _,fun _=>rfl,Nat.min_eq_left eZ,fun _=>rfl⟩
  ·cases h
 ·cases h
def GW(E:av)(A:AW)(t tx:xN)(d x:xM):Option (xM×AW):=
 match E.ti.get none t,E.ti.get none tx with
 |some ⟨.slice e,_,_,_,_⟩,some rx=>match E.ti.get none e with
  |some re=>match d with
   | .slice mG dl _=>match Qs dl x with
    |some (n,y)=>bs (Ja rx.desc y) (match LS A re.size y with
     |some (m,l)=>bs (Nat.beq m n) (bs (Nat.beq n 0) (some (.int .i64 (.ofNat n),A)) (match mG with
      |some ⟨B,o,none⟩=>bs (Nat.beq B rZ) none (match A.get B with
       |some ⟨.cells cs,es,ex,false,ty⟩=>bs (Nat.ble E.G.n B&&Nat.ble (Nat.add o (bE l)) (bE cs)) (some (.int .i64 (.ofNat n),A.put B (some ⟨.cells (jA l o cs),es,ex,false,ty⟩))) none
       |_=>none)
      |_=>none)) none
     |none=>none) none
    |none=>none
   |_=>none
  |none=>none
 |_,_=>none
theorem ba1{t tx:xN}{d x v:xM}{A':AW}(h:GW E A t tx d x=some (v,A')):A.next≤A'.next:=by
 unfold GW at h
 repeat' first
  |(replace h:=aB h;rcases h with⟨_,h⟩|⟨_,h⟩)
  |split at h
 all_goals cases h
 all_goals exact xk _
include ok inv in
theorem PP{t tx ty:xN}{d d' x x' v:xM}{A':AW}(h:GW E A t tx d x=some (v,A'))(hd:ai β d d')(hx:ai β x x'):g9 w0 E.G β A ((Builtin.copy_ #[t,tx] ty #[d',x']).run P w) v A':=by
 unfold GW at h;split at h
 ·rename_i e _ _ _ _ rx hr HZ;split at h
  ·rename_i re dV;split at h
   ·rename_i mG dl dc;split at h
    ·rename_i n y aI3;obtain⟨y',k,hy,aF,yT,Bn⟩:=be2 (P:=P) aI3 hx;replace h:=aB h;rcases h with⟨hk,h⟩|⟨_,h⟩
     ·split at h
      ·rename_i m l tX;replace h:=aB h;rcases h with⟨ND,h⟩|⟨_,h⟩
       ·have dg7:=xb ND;subst dg7;have hu:=(ok.ti t _ hr).1;have HV:=(ok.ti tx _ HZ).1;obtain⟨l',dW,hS⟩:=Yr (P:=P) inv HV tX hk hy;have rP:=hS.cells;replace h:=aB h;rcases h with⟨h0,h⟩|⟨h0,h⟩
        ·have sX:=xb h0;subst sX;cases h;have rm:l'=[]:=by
          have:=hS.newsLen;rw[Nat.zero_mul] at this;exact xA this
         subst rm;refine⟨β,.int .i64 0,w,?_,.int _ _,inv,ah.ca _ _⟩;cases hd with
         |tz=>simp[Builtin.copy_,run_underlying hu,aF,yT,dD ok dV,Bn,rP,goInt]
         |slice B o _ _ c' lb gS hn hc he=>simp[Builtin.copy_,run_underlying hu,aF,yT,dD ok dV,Bn,rP,goInt,storeCells]
         |empty o a' c'=>simp[Builtin.copy_,run_underlying hu,aF,yT,dD ok dV,Bn,rP,goInt,storeCells]
        ·split at h
         ·rename_i B o;replace h:=aB h;rcases h with⟨_,h⟩|⟨hT,h⟩
          ·cases h
          ·split at h
           ·rename_i cs es ex y4 hg;replace h:=aB h;rcases h with⟨hb,h⟩|⟨_,h⟩
            ·simp only [xf,dg] at hb;obtain⟨hG,aR⟩:=hb;have nS:=xh hG;have vS:o+l.length≤cs.length:=xh aR;cases h;cases hd with
             |slice _ _ _ _ c' lb gS hn hc he=>
              obtain⟨w',aM,bU⟩:=EQ (P:=P) inv hg nS gS dW vS hS.one;refine⟨β,.int .i64 (.ofNat m),w',?_,.int _ _,bU,ah.ca _ _⟩;simp[Builtin.copy_,run_underlying hu,aF,yT,dD ok dV,Bn,rP,goInt,aM]
             |empty _ a' c'=>cases hT
            ·cases h
           ·cases h
         ·cases h
       ·cases h
      ·cases h
     ·cases h
    ·cases h
   ·cases h
  ·cases h
 ·cases h
def Md(b:Bool)(k:xO):List xM→Int→Option xM
 |[],x=>some (.int k x)
 | .int _ y::r,x=>Md b k r (bs b (bs (hY x y) y x) (bs (hY y x) y x))
 |_::_,_=>none
def Dr(b:Bool)(l:List xM):Option xM:=match l with| .int k x::r=>Md b k r x|_=>none
theorem Pv{b:Bool}{k:xO}{v:xM}:∀{l l':List xM} {x:Int},Md b k l x=some v→aT β l l'→(l'.foldlM (bs b Builtin.max2 Builtin.min2) (.int k x)).run P w= .ok v w∧∃n,v= .int k n
 |[],l',x,h,hl=>by
  have:l'=[]:=xA hl.1.symm;subst this;cases h;exact⟨rfl,_,rfl⟩
 |y::r,[],x,h,hl=>by cases hl.1
 |y::r,y'::r',x,h,hl=>by
  have hy:ai β y y':=hl.2 0 y y' rfl rfl;have hr:aT β r r':=⟨by have:=hl.1;simpa using this,fun i v v' a b=>hl.2 (i+1) v v' (by simpa using a) (by simpa using b)⟩;have vT:∃k2 n,y= .int k2 n∧Md b k r (bs b (bs (hY x n) n x) (bs (hY n x) n x))=some v:=by
   cases y<;>first|(cases h;done)|exact⟨_,_,rfl,h⟩
  obtain⟨k2,n,rfl,h2⟩:=vT;cases hy;have ih:=Pv h2 hr;refine⟨?_,ih.2⟩;rw[List.foldlM_cons];have h1:(bs b Builtin.max2 Builtin.min2 (.int k x) (.int k2 n))=(pure (.int k (bs b (bs (hY x n) n x) (bs (hY n x) n x))):Sem xM):=by
   cases b
   ·change Builtin.min2 (.int k x) (.int k2 n)=pure (.int k (bs (hY n x) n x));unfold Builtin.min2;by_cases aX:n<x<;>simp[oL,aX,bs]
   ·change Builtin.max2 (.int k x) (.int k2 n)=pure (.int k (bs (hY x n) n x));unfold Builtin.max2;by_cases aX:x<n<;>simp[oL,aX,bs]
  rw[h1];simpa using ih.1
theorem bD2{tys:Array xN}{ty:xN}{l l':List xM}{v:xM}(h:Dr true l=some v)(hl:aT β l l'):(Builtin.max_ tys ty ⟨l'⟩).run P w= .ok v w∧ai β v v:=by
 unfold Dr at h;split at h
 ·rename_i k x r
  match l',hl with
  |[],hl=>cases hl.1
  |y'::r',hl=>
   have hy:ai β (.int k x) y':=hl.2 0 _ y' rfl rfl;have hr:aT β r r':=⟨by have:=hl.1;simpa using this,fun i v v' a b=>hl.2 (i+1) v v' (by simpa using a) (by simpa using b)⟩;cases hy;obtain⟨h1,n,rfl⟩:=Pv (P:=P) (w:=w) h hr;exact⟨h1,.int _ _⟩
 ·cases h
theorem bD1{tys:Array xN}{ty:xN}{l l':List xM}{v:xM}(h:Dr false l=some v)(hl:aT β l l'):(Builtin.min_ tys ty ⟨l'⟩).run P w= .ok v w∧ai β v v:=by
 unfold Dr at h;split at h
 ·rename_i k x r
  match l',hl with
  |[],hl=>cases hl.1
  |y'::r',hl=>
   have hy:ai β (.int k x) y':=hl.2 0 _ y' rfl rfl;have hr:aT β r r':=⟨by have:=hl.1;simpa using this,fun i v v' a b=>hl.2 (i+1) v v' (by simpa using a) (by simpa using b)⟩;cases hy;obtain⟨h1,n,rfl⟩:=Pv (P:=P) (w:=w) h hr;exact⟨h1,.int _ _⟩
 ·cases h
def z5(re:Row)(n:Nat):List xM:=qG (fun i=>match dj re.zero (Nat.mod i re.size) with|some v=>pE v|none=>J) (Nat.mul n re.size) []
def FC(E:av)(A:AW)(t:xN)(s:xM):Option (xM×AW):=
 match E.ti.get none t with
 |some ⟨.slice e,_,_,_,_⟩=>match E.ti.get none e with
  |some re=>match s with
   | .slice none _ _=>some (.tuple ⟨[]⟩,A)
   | .slice (some _) 0 _=>some (.tuple ⟨[]⟩,A)
   | .slice (some ⟨B,o,none⟩) n _=>match A.get B with
    |some ⟨.cells cs,es,ex,false,ty⟩=>bs (re.qS&&Nat.beq (bE re.zero) re.size&&eo one (z5 re n)&&Nat.ble E.G.n B&&Nat.ble (Nat.add o (bE (z5 re n))) (bE cs)) (some (.tuple ⟨[]⟩,A.put B (some ⟨.cells (jA (z5 re n) o cs),es,ex,false,ty⟩))) none
    |_=>none
   |_=>none
  |none=>none
 |_=>none
theorem aW7{t:xN}{x v:xM}{A':AW}(h:FC E A t x=some (v,A')):A.next≤A'.next:=by
 unfold FC at h
 repeat' first
  |(replace h:=aB h;rcases h with⟨_,h⟩|⟨_,h⟩)
  |split at h
 all_goals cases h
 all_goals exact xk _
theorem V7{β:ah}{re:Row}{n:Nat}(sJ:re.zero.length=re.size):aT β (z5 re n) (Builtin.zeroCells ⟨re.zero⟩ n).toList:=by
 unfold z5;rw[x8,xj];refine⟨by simp[Builtin.zeroCells,sJ],fun i a b ha hb=> ?_⟩;have hi:i<n*re.size:=by
  have:=(xe.1 ha).1;simpa using this
 rw[xx,show Nat.mul n re.size=n*re.size from rfl,List.getElem?_range hi] at ha;simp only [Option.map_some,Option.some.injEq] at ha;have aU:0<re.size:=by
  rcases xI re.size with e|e
  ·rw[e] at hi;omega
  ·exact e
 have hm:i%re.size<re.zero.length:=by rw[sJ];exact Nat.mod_lt _ aU
 have NM:(Builtin.zeroCells ⟨re.zero⟩ n).toList[i]? =some (re.zero[i%re.size]):=by
  simp[Builtin.zeroCells,sJ,hi,xc hm]
 rw[NM] at hb;cases hb;rw[←ha];have:dj re.zero (Nat.mod i re.size)=some (re.zero[i%re.size]):=by rw[eL];exact xc hm
 rw[this];exact BV β _
include ok inv in
theorem bm5{t ty:xN}{x x' v:xM}{A':AW}(h:FC E A t x=some (v,A'))(hx:ai β x x'):g9 w0 E.G β A ((Builtin.clear_ #[t] ty #[x']).run P w) v A':=by
 unfold FC at h;split at h
 ·rename_i e _ _ _ _ hr;have hu:=(ok.ti t _ hr).1;split at h
  ·rename_i re dV;split at h
   ·cases h;refine⟨β,.tuple #[],w,?_,ai.undef,inv,ah.ca _ _⟩;cases hx;simp[Builtin.clear_,run_underlying hu]
   ·cases h;refine⟨β,.tuple #[],w,?_,ai.undef,inv,ah.ca _ _⟩;cases hx<;>simp[Builtin.clear_,run_underlying hu]
   ·rename_i B o n c mQ;split at h
    ·rename_i cs es ex y4 hg;replace h:=aB h;rcases h with⟨hb,h⟩|⟨_,h⟩
     ·simp only [xf] at hb;obtain⟨⟨⟨⟨vP,sJ⟩,qL⟩,hG⟩,aR⟩:=hb;have nC:=xb sJ;rw[dg] at nC;have nS:=xh hG;have vS:=xh aR;rw[dg,dg] at vS;cases h;obtain⟨_,ie,gB,hZ,zq,hz⟩:=ok.ti e re dV;obtain⟨z,iu,eI⟩:=hz vP;have fQ:=V7 (β:=β) (n:=n) nC;cases hx with
      |slice _ _ _ _ c' lb gS hn hc he=>
       obtain⟨w',aM,bU⟩:=EQ (P:=P) inv hg nS gS fQ vS (Jw qL fQ);refine⟨β,.tuple #[],w',?_,ai.undef,bU,ah.ca _ _⟩;obtain⟨m,rfl⟩:∃m,n=m+1:=⟨n - 1,by cases n with|zero=>exact(mQ rfl).elim|succ m=>rfl⟩;have hzv:(zeroValue e).run P w= .ok z w:=by simp[zeroValue,typeInfo,gB,iu]
       simp[Builtin.clear_,run_underlying hu,hzv,eI,aM]
      |empty _ a' c'=>exact(mQ rfl).elim
     ·cases h
    ·cases h
   ·cases h
  ·cases h
 ·cases h
def TP(E:av)(A:AW)(t:xN)(x:xM):Option xM:=
 match E.ti.get none t,x with
 |some ⟨.slice _,_,_,_,_⟩,.slice none 0 0=>some (.int .i64 0)
 |some ⟨.slice _,_,_,_,_⟩,.slice (some ⟨B,o,none⟩) n c=>match A.get B with
  |some ⟨.cells cs,es,true,_,_⟩=>bs (Nat.ble 1 es&&Nat.beq (Nat.add o (Nat.mul c es)) (bE cs)&&bs (Nat.beq B rZ) false true) (some (.int .i64 (.ofNat c))) none
  |_=>none
 |_,_=>none
include ok inv in
theorem bR6{t ty:xN}{x x' v:xM}(h:TP E A t x=some v)(hx:ai β x x'):∃v',(Builtin.cap_ #[t] ty #[x']).run P w= .ok v' w∧ai β v v':=by
 unfold TP at h;split at h
 ·rename_i hr;have hu:=(ok.ti t _ hr).1;cases h;cases hx;exact⟨_,by simp[Builtin.cap_,run_underlying hu,goInt],.int _ _⟩
 ·rename_i B o n c hr;have hu:=(ok.ti t _ hr).1;split at h
  ·rename_i cs es ro ty hg;replace h:=aB h;rcases h with⟨hb,h⟩|⟨_,h⟩<;>cases h
   simp only [xf,dg] at hb;obtain⟨⟨h1,h2⟩,h3⟩:=hb;have mf:=xh h1;have zy:o+c*es=cs.length:=xb h2;cases hx with
   |slice _ _ _ _ c' l hl hn hc he=>
    obtain⟨aE,e,fz,k1,k2,k3,k4,k5,k6,k7⟩:=inv.cont B _ l hg hl;obtain⟨x1,x2⟩:=k6 rfl;have D8:l.es=es:=k7.1;rw[D8] at he;have h8:c'*es≤c*es:=by omega
    have h9:c'≤c:=Nat.le_of_mul_le_mul_right h8 (by omega);have:c'=c:=by omega
    subst this;exact⟨_,by simp[Builtin.cap_,run_underlying hu,goInt],.int _ _⟩
   |empty=>exact absurd h3 (by decide)
  ·cases h
 ·cases h
def FH(E:av)(A:AW)(t tx:xN)(s x:xM):Option (xM×AW):=
 match E.ti.get none t,E.ti.get none tx with
 |some ⟨.slice e,_,_,_,_⟩,some ⟨.int _,_,_,_,_⟩=>match E.ti.get none e with
  |some re=>match s,x with
   | .slice none 0 0,.int .i64 (.ofNat n)=>bs (re.qS&&Nat.beq (bE re.zero) re.size&&Nat.ble 1 re.size&&Nat.ble 1 n&&Nat.ble n 9223372036854775807&&Nat.ble (Nat.mul n re.bytes) 140737488355328)
    (some (.slice (some ⟨A.next,0,none⟩) n n,A.add ⟨.cells (z5 re n),re.size,false,false,e⟩)) none
   |_,_=>none
  |none=>none
 |_,_=>none
theorem aX3{t tx:xN}{s x v:xM}{A':AW}(h:FH E A t tx s x=some (v,A')):A.next≤A'.next:=by
 unfold FH at h
 repeat' first
  |(replace h:=aB h;rcases h with⟨_,h⟩|⟨_,h⟩)
  |split at h
 all_goals cases h
 all_goals exact Nat.le_succ _
theorem aS3(t tx ty e:xN)(k:xO)(i:TypeInfo)(z:xM)(ht:P.underlying t=some (.slice e))(hx:P.underlying tx=some (.int k))(hi:P.info? e=some i)(hz:i.zero=some z)(n:Nat)(h0:0<n)(hs:0<i.size)(h63:(n:Int)≤9223372036854775807)
 (h48:n*i.bytes≤140737488355328) (w:World):
 (Builtin.append_ #[t,tx] ty #[.slice none 0 0,.int .i64 n]).run P w= .ok (.slice (some ⟨w.heap.size,0,none⟩) n (grownCap w n 0 e)) (w.drew.alloc (.cells (Builtin.zeroCells z.cells n++Builtin.zeroCells z.cells (grownCap w n 0 e - n)) e)):=by
 have hw:IntKind.i64.wrap (n:Int)=n:=IntWalk.i64_in _ (by omega);have h1: ¬((n:Int)<0):=by omega
 have h2: ¬((281474976710656:Int)<(n:Int)*(i.bytes:Int)):=by
  have:((n*i.bytes:Nat):Int)≤((140737488355328:Nat):Int):=Int.ofNat_le.2 h48;rw[Int.natCast_mul] at this;omega
 have hn: ¬(n≤0):=by omega
 have uv: ¬(n*i.size=0):=fun e=>by rcases Nat.mul_eq_zero.1 e with h|h<;>omega
 have pL:Builtin.nextslicecap n 0=n:=by unfold Builtin.nextslicecap;rw[if_pos (by omega)]
 have Hq: ¬((9223372036854775807:Int)<(n:Int)):=by omega
 have dk4: ¬(281474976710656<n*i.bytes):=by omega
 simp[Builtin.append_,run_underlying ht,run_underlying hx,sizeOf,typeInfo,zeroValue,hi,hz,asInt,asIntOf,hw,h1,h2,hn,uv,pL,Hq,dk4,Question.forced,Builtin.firstCells,newRow,grownCap];omega
include ok inv in
theorem bo6{t tx ty:xN}{s s' x x' v:xM}{A':AW}(h:FH E A t tx s x=some (v,A'))(hs:ai β s s')(hx:ai β x x'):g9 w0 E.G β A ((Builtin.append_ #[t,tx] ty #[s',x']).run P w) v A':=by
 unfold FH at h;split at h
 ·rename_i e _ _ _ _ k _ _ _ _ hr HZ;have hu:=(ok.ti t _ hr).1;have HV:=(ok.ti tx _ HZ).1;split at h
  ·rename_i re dV;split at h
   ·rename_i n;replace h:=aB h;rcases h with⟨hb,h⟩|⟨_,h⟩
    ·simp only [xf] at hb;obtain⟨⟨⟨⟨⟨vP,sJ⟩,ec⟩,Bl⟩,dg5⟩,ru⟩:=hb;have nC:=xb sJ;rw[dg] at nC;have dF0:=xh ec;have dF6:=xh Bl;have dD7:=xh dg5;have TC:n*re.bytes≤140737488355328:=xh ru
     cases h;cases hs;cases hx;obtain⟨_,ie,gB,hZ,zq,hz⟩:=ok.ti e re dV;obtain⟨z,iu,eI⟩:=hz vP;have aM:=aS3 (P:=P) t tx ty e k ie z hu HV gB iu n (by omega) (by omega) (by omega) (by rw[zq];exact TC) w;have dX:=grownCap_ge w n 0 e;have fQ:=fun ak:ah=>V7 (β:=ak) (n:=n) nC
     rw[eI] at aM;obtain⟨g1,g2⟩:=IU inv (z5 re n) (Builtin.zeroCells ⟨re.zero⟩ n).toList (Builtin.zeroCells ⟨re.zero⟩ (grownCap w n 0 e - n)).toList e re.size (Builtin.zeroCells ⟨re.zero⟩ n++Builtin.zeroCells ⟨re.zero⟩ (grownCap w n 0 e - n)) (by simp) (fun ak _=>fQ ak);refine⟨_,_,_,aM,?_,g1,g2⟩;exact ai.slice (β:=β.put A.next ⟨w.heap.size,0,re.size,(Builtin.zeroCells ⟨re.zero⟩ n++Builtin.zeroCells ⟨re.zero⟩ (grownCap w n 0 e - n)).size⟩) A.next 0 n n (grownCap w n 0 e) _ (jy _ _ _) (xk _) (by omega) (by
      simp only [Array.size_append,Iw,List.size_toArray,nC,Nat.zero_add,←Nat.add_mul];apply xD;omega)
    ·cases h
   ·cases h
  ·cases h
 ·cases h
end
theorem Vw(w:World)(e:xN)(s:ByteArray):Lib.bytesWorld w e s=w.drew.alloc (.cells (Lib.bytesCells w e s) e ((Lib.bytesCells w e s).size,(Lib.bytesCells w e s).size+1)):=by
 have h:(Lib.bytesWorld w e s).heap=(w.drew.alloc (.cells (Lib.bytesCells w e s) e ((Lib.bytesCells w e s).size,(Lib.bytesCells w e s).size+1))).heap:=by
  apply Array.ext_getElem?;intro i;rcases Nat.lt_trichotomy i w.heap.size with h|h|h
  ·rw[Lib.bytesWorld_at_old w e s i h,Below.heap_alloc w.drew _ i (by simpa using h)];rfl
  ·subst h;rw[Lib.bytesWorld_at_new];exact(heap_alloc_new w.drew _).symm
  ·rw[Array.getElem?_eq_none (by rw[Lib.bytesWorld_size];omega),Array.getElem?_eq_none (by simp;omega)]
 have e1:Lib.bytesWorld w e s={Lib.bytesWorld w e s with heap:=(w.drew.alloc (.cells (Lib.bytesCells w e s) e ((Lib.bytesCells w e s).size,(Lib.bytesCells w e s).size+1))).heap}:=by rw[←h]
 exact e1.trans rfl
section
variable{P:Program}{E:av}(ok:E.Ok P){w0 w:World}{β:ah}{A:AW}(inv:Inv w0 E.G β A w)
def CF(E:av)(A:AW)(s d:xN)(x:xM):Option (xM×AW):=
 match E.ti.get none s,E.ti.get none d,x with
 |some _,some ⟨.slice e,_,_,_,_⟩,.string ⟨⟨l⟩⟩=>match E.ti.get none e with
  |some ⟨.int .u8,_,_,_,_⟩=>some (.slice (some ⟨A.next,0,none⟩) (bE l) (bE l),A.add ⟨.cells (ez (fun b=>Value.int .u8 (.ofNat b.toNat)) l),1,false,true,e⟩)
  |_=>none
 |_,_,_=>none
theorem aX0{s d:xN}{x v:xM}{A':AW}(h:CF E A s d x=some (v,A')):A.next≤A'.next:=by
 unfold CF at h;split at h
 ·split at h<;>cases h
  exact Nat.le_succ _
 ·cases h
include ok inv in
theorem bn3{s d:xN}{x x' v:xM}{A':AW}(h:CF E A s d x=some (v,A'))(hx:ai β x x'):g9 w0 E.G β A ((convert s d x').run P w) v A':=by
 unfold CF at h;split at h
 ·rename_i r e _ _ _ _ l hs hd;split at h
  ·rename_i _ _ _ _ he;cases h;cases hx;have h1:=(ok.ti s _ hs).1;have h2:=(ok.ti d _ hd).1;have h3:=(ok.ti e _ he).1;have aM:=Lib.run_convert_string_bytes (P:=P) w s d e ⟨⟨l⟩⟩ h1 h2 h3;rw[Vw] at aM;have dX:=grownCap_ge w (ByteArray.size ⟨⟨l⟩⟩) 0 e;have aU:ByteArray.size ⟨⟨l⟩⟩=l.length:=rfl;have bZ:(Lib.bytesCells w e ⟨⟨l⟩⟩).size=grownCap w l.length 0 e:=by
    unfold Lib.bytesCells;rw[Array.size_append,Array.size_map,Array.size_replicate,aU];rw[aU] at dX;show l.length+_=_;omega
   obtain⟨g1,g2⟩:=(inv.drew (w.drawn+1)).new (l:=⟨w.heap.size,0,1,(Lib.bytesCells w e ⟨⟨l⟩⟩).size⟩) ⟨.cells (ez (fun b=>Value.int .u8 (.ofNat b.toNat)) l),1,false,true,e⟩ (.cells (Lib.bytesCells w e ⟨⟨l⟩⟩) e ((Lib.bytesCells w e ⟨⟨l⟩⟩).size,(Lib.bytesCells w e ⟨⟨l⟩⟩).size+1)) rfl
    ⟨_,_,_,rfl,rfl,by
     rw[kV,xm,bZ,Nat.zero_add];rw[aU] at dX;exact dX,fun i v hv=>by
     rw[kV,xx] at hv;obtain⟨q,hq,rfl⟩:=xp.1 hv;refine⟨.int .u8 (.ofNat q.toNat),?_,.int _ _⟩;have hi:=(xe.1 hq).1;unfold Lib.bytesCells;rw[Nat.zero_add,Array.getElem?_append_left (by simpa using hi)];simp[hq],(fun h=>by cases h),(fun h=>by cases h),rfl,fun _=>rfl⟩
   refine⟨_,_,_,aM,?_,g1,g2⟩;have hval:=ai.slice (β:=β.put A.next ⟨w.heap.size,0,1,(Lib.bytesCells w e ⟨⟨l⟩⟩).size⟩) A.next 0 l.length l.length (grownCap w l.length 0 e) ⟨w.heap.size,0,1,(Lib.bytesCells w e ⟨⟨l⟩⟩).size⟩ (by simp[ah.put]) (xk _) dX (by simp[bZ]);rw[dg];exact hval
  ·cases h
 ·cases h
def SA(e u o:Nat)(l:List (Nat×Nat×Nat)):Bool:=List.rec (motive:=fun _=>Bool) false (fun a _ ih=>bs (Nat.beq a.1 e&&Nat.beq a.2.1 u&&Nat.beq a.2.2 o) true ih) l
theorem WX{e u o:Nat}:∀{l:List (Nat×Nat×Nat)},SA e u o l=true→(e,u,o)∈l
 |[],h=>by cases h
 |a::l,h=>by
  have h':bs (Nat.beq a.1 e&&Nat.beq a.2.1 u&&Nat.beq a.2.2 o) true (SA e u o l)=true:=h;cases hb:(Nat.beq a.1 e&&Nat.beq a.2.1 u&&Nat.beq a.2.2 o) with
  |true=>
   simp only [xf] at hb;obtain⟨⟨h1,h2⟩,h3⟩:=hb;have e1:=xb h1;have e2:=xb h2;have e3:=xb h3;obtain⟨x,y,z⟩:=a;simp only at e1 e2 e3;subst e1;subst e2;subst e3;exact xn
  |false=>
   rw[hb,gC] at h';exact xo _ (WX h')
def PW(E:av)(A:AW)(s d:xN)(x:xM):Option xM:=
 match E.ti.get none s,E.ti.get none d,x with
 |some ⟨.pointer t,_,_,_,_⟩,some ⟨.unsafePointer,_,_,_,_⟩,.pointer (some ⟨B,o,none⟩)=>match E.ti.get none t,A.get B with
  |some r,some ⟨.cells cs,_,_,_,_⟩=>bs (Nat.ble 1 r.size&&Nat.blt o (bE cs)) (some x) none
  |_,_=>none
 |some ⟨.unsafePointer,_,_,_,_⟩,some ⟨.pointer u,_,_,_,_⟩,.pointer (some ⟨B,o,none⟩)=>match E.ti.get none u,A.get B with
  |some r,some ⟨.cells cs,_,true,_,ty⟩=>match E.ti.get none ty with
   |some rt=>bs (Nat.ble 1 r.size&&Nat.ble 1 rt.size&&SA ty u o E.lay&&Nat.beq (bE cs) rt.size) (some x) none
   |none=>none
  |_,_=>none
 |_,_,_=>none
theorem VY{e:xN}{s:Nat}(hs:1≤s)(hc:P.cellsOf e=s)(gY i n:Nat)(hn:i+n≤gY):liesAt P P.depth e gY (i*s) e n=true:=by
 have hd:P.depth=(2*(P.types.size+Made.depth)+1)+1:=rfl;rw[hd];simp only [liesAt,Bool.or_eq_true];left;rw[hd];have h0: ¬s=0:=by omega
 simp[rowAt,hc,hn,sameLayout,h0,Nat.mul_div_cancel i (show 0<s by omega)]
include inv in
theorem wX{B:Nat}{cs:List xM}{es:Nat}{ex ro:Bool}{ty:xN}(hg:A.get B=some ⟨.cells cs,es,ex,ro,ty⟩){l:Loc}(hl:β B=some l):∃iX,w.shape? l.b=some (iX,l.sz)∧(ty≠jY→iX=ty)∧l.d+cs.length≤l.sz∧(ex=true→l.d=0∧l.d+cs.length=l.sz):=by
 obtain⟨aE,e,fz,k1,k2,k3,k4,k5,k6,k7⟩:=inv.cont B _ l hg hl;refine⟨e,?_,k7.2,k3,k6⟩;simp only [World.shape?,k1,k2]
theorem Pe{t:xN}{r:Row}(ok:E.Ok P)(h:E.ti.get none t=some r):P.cellsOf t=r.size:=by
 obtain⟨_,i,hi,hs,_⟩:=ok.ti t r h;simp[Program.cellsOf,hi,hs]
include ok inv in
theorem bg2{s d:xN}{x x' v:xM}(h:PW E A s d x=some v)(hx:ai β x x'):∃v',(convert s d x').run P w= .ok v' w∧ai β v v':=by
 unfold PW at h;split at h
 ·rename_i t _ _ _ _ _ _ _ _ B o hs hd;split at h
  ·rename_i r cs es ex ro ty hr hg;replace h:=aB h;rcases h with⟨hb,h⟩|⟨_,h⟩
   ·simp only [xf,dg] at hb;have cz:=xh hb.1;have cg:o<cs.length:=xh hb.2;cases h;refine⟨x',?_,hx⟩;cases hx with
    |ptr _ _ l hl=>
     obtain⟨iX,s1,_,s2,_⟩:=wX inv hg hl;have h1:=(ok.ti s _ hs).1;have h2:=(ok.ti d _ hd).1;have h3: ¬(l.sz≤l.d+o):=by omega
     have h4: ¬(r.size=0):=by omega
     simp[convert,run_underlying h1,run_underlying h2,Conv.unsafePointer,Conv.seenAt,viewAt,cellsIn,s1,dD ok hr,h3,h4]
   ·cases h
  ·cases h
 ·rename_i _ _ _ _ u _ _ _ _ B o hs hd;split at h
  ·rename_i r cs es ro ty hr hg;split at h
   ·rename_i rt UL;replace h:=aB h;rcases h with⟨hb,h⟩|⟨_,h⟩
    ·simp only [xf,dg] at hb;obtain⟨⟨⟨cz,sW⟩,cg⟩,kO⟩:=hb;have dG5:=xh cz;have dG6:=xh sW;have dj5:=ok.lay _ _ _ (WX cg);have dG4:=xb kO;cases h;refine⟨x',?_,hx⟩;cases hx with
     |ptr _ _ l hl=>
      obtain⟨iX,s1,ze,s2,s3⟩:=wX inv hg hl;obtain rfl:=(ze (fun e=>by rw[e] at UL;exact ok.any _ UL)).symm;obtain⟨s4,s5⟩:=s3 rfl;have h1:=(ok.ti s _ hs).1;have h2:=(ok.ti d _ hd).1;have h4: ¬(r.size=0):=by omega
      have h5:=Pe ok UL;have h6:l.sz/P.cellsOf ty=1:=by rw[h5,show l.sz=rt.size by omega,Nat.div_self (by omega)]
      simp[convert,run_underlying h1,run_underlying h2,Conv.unsafePointer,Conv.seenAt,viewAt,s1,dD ok hr,h4,variablesAt,h6,s4,dj5]
    ·cases h
   ·cases h
  ·cases h
 ·cases h
def P3(x:xM):Option xM:=
 match x with
 | .slice none 0 0=>some (.pointer none)
 | .slice (some ⟨B,o,none⟩) _ c=>bs (Nat.ble 1 c) (some (.pointer (some ⟨B,o,none⟩))) none
 |_=>none
theorem bh7{tys:Array xN}{ty:xN}{x x' v:xM}(h:P3 x=some v)(hx:ai β x x'):∃v',(Builtin.unsafeSliceData_ tys ty #[x']).run P w= .ok v' w∧ai β v v':=by
 unfold P3 at h;split at h
 ·cases h;cases hx;exact⟨_,Lib.run_unsafeSliceData_nil w tys ty 0 0,.oX⟩
 ·replace h:=aB h;rcases h with⟨hb,h⟩|⟨_,h⟩
  ·have eZ:=xh hb;cases h;cases hx with
   |slice _ _ _ _ c' l hl hn hc he=>exact⟨_,Lib.run_unsafeSliceData_row w tys ty _ _ c' (by omega),.ptr _ _ l hl⟩
   |empty o a' c'=>omega
  ·cases h
 ·cases h
def Ju:List xM→Option (List UInt8)
 |[]=>some []
 | .int .u8 n::r=>match Ju r with
  |some l=>bs (kI (.ofNat (UInt8.ofNat n.toNat).toNat) n) (some (UInt8.ofNat n.toNat::l)) none
  |none=>none
 |_::_=>none
theorem V4:∀{cs:List xM} {l:List UInt8},Ju cs=some l→cs=Lib.byteCells l
 |[],l,h=>by cases h;rfl
 |c::cs,l,h=>by
  unfold Ju at h;split at h
  ·contradiction
  ·rename_i n r e;cases e;split at h
   ·rename_i l2 bF;replace h:=aB h;rcases h with⟨hb,h⟩|⟨_,h⟩
    ·rw[mX] at hb;have eZ:=of_decide_eq_true hb;cases h;rw[V4 bF];unfold Lib.byteCells;rw[List.map_cons]
     congr 2
     exact eZ.symm
    ·cases h
   ·cases h
  ·cases h
theorem Vz(w:World)(b o n:Nat):w.grownBy (w.freeze ⟨b,o,none⟩ n) (some b):=by
 unfold World.freeze;split
 ·exact⟨rfl,rfl,rfl,xk _,fun k _ _=>rfl⟩
 ·refine⟨rfl,rfl,rfl,by simp,fun k hk bq=> ?_⟩;simp only [Array.getElem?_modify];rw[if_neg (fun e=>bq (by rw[e]))]
theorem VK(w:World)(b o n:Nat):(w.freeze ⟨b,o,none⟩ n).heap.size=w.heap.size:=by
 unfold World.freeze;split
 ·rfl
 ·simp
theorem Wz(w:World)(b o n:Nat){c:Array xM}{e:xN}{fz:Nat×Nat}(h:w.heap[b]? =some (.cells c e fz)):∃Io,(w.freeze ⟨b,o,none⟩ n).heap[b]? =some (.cells c e Io):=by
 unfold World.freeze;split
 ·exact⟨fz,h⟩
 ·simp only [Array.getElem?_modify,if_true,h,Option.map_some];exact⟨_,rfl⟩
include inv in
theorem bd2{B:Nat}{cs:List xM}{es:Nat}{ex ro:Bool}{ty:xN}(hg:A.get B=some ⟨.cells cs,es,ex,ro,ty⟩)(hB:E.G.n≤B){l:Loc}(hl:β B=some l)(o n:Nat):Inv w0 E.G β (A.put B (some ⟨.cells cs,es,ex,true,ty⟩)) (w.freeze ⟨l.b,o,none⟩ n):=by
 obtain⟨aE,e,fz,k1,k2,k3,k4,k5,k6,k7⟩:=inv.cont B _ l hg hl;obtain⟨Io,hf⟩:=Wz w l.b o n k1;refine inv.PU B l _ _ hg hl hB (Vz w l.b o n) (VK w l.b o n) ?_ trivial (fun bu hz=> ?_) (fun h=>by cases h)
 ·rw[hf];exact⟨aE,e,Io,rfl,k2,k3,k4,(fun h=>by cases h),k6,k7⟩
 ·obtain⟨e2,NW,h2⟩:=inv.bH _ _ hz;rw[k1] at h2;cases h2;exact⟨_,_,hf⟩
def FJ(E:av)(A:AW)(pt:xN)(p n:xM):Option (xM×AW):=
 match n with
 | .int .i64 (.ofNat m)=>match p with
  | .pointer none=>bs (Nat.beq m 0) (some (.string ⟨⟨[]⟩⟩,A)) none
  | .pointer (some ⟨B,o,none⟩)=>bs (Nat.beq m 0) (some (.string ⟨⟨[]⟩⟩,A)) (match E.ti.get none pt,A.get B with
   |some ⟨.pointer e,_,_,_,_⟩,some ⟨.cells cs,es,ex,ro,ty⟩=>match E.ti.get none e,mY m (oO o cs) with
    |some re,some q=>match Ju q with
     |some l=>bs (Nat.beq re.size 1&&Nat.beq ty e&&Nat.ble E.G.n B&&Nat.ble m 9223372036854775807) (some (.string ⟨⟨l⟩⟩,A.put B (some ⟨.cells cs,es,ex,true,ty⟩))) none
     |none=>none
    |_,_=>none
   |_,_=>none)
  |_=>none
 |_=>none
theorem aX4{pt:xN}{p n v:xM}{A':AW}(h:FJ E A pt p n=some (v,A')):A.next≤A'.next:=by
 unfold FJ at h
 repeat' first
  |(replace h:=aB h;rcases h with⟨_,h⟩|⟨_,h⟩)
  |split at h
 all_goals cases h
 all_goals exact xk _
include ok inv in
theorem bp0{pt it ty:xN}{p p' n n' v:xM}{A':AW}(h:FJ E A pt p n=some (v,A'))(hp:ai β p p')(hn:ai β n n'):g9 w0 E.G β A ((Builtin.unsafeString_ #[pt,it] ty #[p',n']).run P w) v A':=by
 unfold FJ at h;split at h
 ·rename_i m;cases hn;split at h
  ·replace h:=aB h;rcases h with⟨hb,h⟩|⟨_,h⟩
   ·have eZ:=xb hb;subst eZ;cases h;cases hp;exact⟨β,_,w,Lib.run_unsafeString_none w pt it ty none,.string _,inv,ah.ca _ _⟩
   ·cases h
  ·rename_i B o;replace h:=aB h;rcases h with⟨hb,h⟩|⟨sW,h⟩
   ·have eZ:=xb hb;subst eZ;cases h;cases hp;exact⟨β,_,w,Lib.run_unsafeString_none w pt it ty _,.string _,inv,ah.ca _ _⟩
   ·split at h
    ·rename_i e _ _ _ _ cs es ex ro y4 UM hg;split at h
     ·rename_i re q dV hq;split at h
      ·rename_i l hl;replace h:=aB h;rcases h with⟨hb,h⟩|⟨_,h⟩
       ·simp only [xf] at hb;obtain⟨⟨⟨h1,h2⟩,h3⟩,h4⟩:=hb;have mf:=xb h1;have zy:=xb h2;have h3':=xh h3;have h4':=xh h4;subst zy;cases h;have hcb:=V4 hl;cases hp with
        |ptr _ _ lc cF=>
         obtain⟨iX,s1,ze,s2,_⟩:=wX inv hg cF;obtain rfl:=(ze (fun e=>by rw[e] at dV;exact ok.any _ dV)).symm;obtain⟨l',dW,aF,aq⟩:=wV inv (show iP A B=some cs by unfold iP;rw[hg]) cF o m q hq;have kL:l.length=m:=by rw[←aF,hcb,Lib.byteCells_length]
         have gd:∀j x,l[j]? =some x→w.cell? ((⟨lc.b,lc.d+o,none⟩:Addr).add j)=some (.int .u8 x.toNat):=fun j x hx=>by
          have pR:q[j]? =some (.int .u8 x.toNat):=by rw[hcb];simp[Lib.byteCells,hx]
          obtain⟨v',du,hr⟩:=dW.get pR;cases hr;rw[Addr.add_mid];exact aq j _ du
         have kq: ¬m=0:=fun e=>by subst e;cases sW
         have qN:lc.d+o+m≤lc.sz:=by
          rw[B0] at hq;have pR:=(BY m _ q hq).2;rw[List.length_drop] at pR;omega
         have gS:=Lib.run_loadBytes (P:=P) w l ⟨lc.b,lc.d+o,none⟩ .empty gd;rw[kL] at gS;have h5:P.cellsOf y4=1:=(Pe ok dV).trans mf;have GJ:=VY (P:=P) (xk 1) h5 lc.sz (lc.d+o) m qN;rw[Nat.mul_one] at GJ;have To:=(ok.ti pt _ UM).1;refine⟨β,.string ⟨⟨l⟩⟩,w.freeze ⟨lc.b,lc.d+o,none⟩ m,?_,.string _,bd2 inv hg h3' cF _ _,ah.ca _ _⟩;have TA:Builtin.unsafeString_ #[pt,it] ty #[.pointer (some ⟨lc.b,lc.d+o,none⟩),.int .i64 (Int.ofNat m)]=
          (do
           let n←asInt (.int .i64 (Int.ofNat m))
           if n<0 then runtimePanic (.error "unsafe.String: len out of range")
           if n>IntKind.i64.max then unsupported (.unsafePointer "String: a length above the largest int")
           if n=0 then pure (.string .empty)
           else if←variablesAt ⟨lc.b,lc.d+o,none⟩ (←elemOf pt) n.toNat then do
            let s←loadBytes ⟨lc.b,lc.d+o,none⟩ .empty n.toNat
            freeze ⟨lc.b,lc.d+o,none⟩ n.toNat
            pure (.string s)
           else unsupported (.unsafePointer "String: not so many bytes at ptr")):=rfl
         rw[TA];have Hk:IntKind.i64.max=9223372036854775807:=rfl;have Hq: ¬(9223372036854775807:Int)<(m:Int):=by omega
         have vQ: ¬(m:Int)<0:=by omega
         simp[asInt,asIntOf,Hk,Hq,vQ,kq,variablesAt,s1,elemOf,run_underlying To,h5,GJ,gS]
       ·cases h
      ·cases h
     ·cases h
    ·cases h
  ·cases h
 ·cases h
def R2(v:xM):Option UInt8:=match v with| .int .u8 (.ofNat n)=>bs (Nat.blt n 256) (some n.toUInt8) none|_=>none
def Qu(l:List xM):Option (List UInt8):=
 List.rec (motive:=fun _=>Option (List UInt8)) (some []) (fun v _ ih=>match R2 v with|some b=>(match ih with|some r=>some (b::r)|none=>none)|none=>none) l
def Sa(E:av)(A:AW)(s d:xN)(x:xM):Option xM:=
 match E.ti.get none s,E.ti.get none d,x with
 |some ⟨.slice e,_,_,_,_⟩,some ⟨.string,_,_,_,_⟩,.slice (some ⟨B,o,none⟩) n _=>match E.ti.get none e,iP A B with
  |some ⟨.int .u8,_,_,_,_⟩,some cs=>match mY n (oO o cs) with
   |some l=>match Qu l with
    |some r=>bs (Nat.beq B rZ) none (some (.string ⟨⟨r⟩⟩))
    |none=>none
   |none=>none
  |_,_=>none
 |_,_,_=>none
omit ok inv in
theorem V0{β:ah}:∀{l l':List xM} {r:List UInt8},Qu l=some r→aT β l l'→l'.length=r.length∧∀(j:Nat) (hj:j<r.length),l'[j]? =some (.int .u8 (r[j].toNat:Nat))
 |[],l',r,h,hl=>by cases h;rw[hl.mV];exact⟨rfl,fun j hj=>absurd hj (Nat.not_lt_zero _)⟩
 |v::l,l',r,h,hl=>by
  have h':(match R2 v with|some b=>(match Qu l with|some r=>some (b::r)|none=>none)|none=>none)=some r:=h;split at h'
  ·rename_i b hb;split at h'
   ·rename_i r2 bK;cases h';obtain⟨v',l2,rfl,hv,bF⟩:=hl.kS;obtain⟨h1,h2⟩:=V0 bK bF;unfold R2 at hb;split at hb
    ·rename_i n;rcases aB hb with⟨hn,hb⟩|⟨_,hb⟩<;>cases hb
     have gH:n<256:=xh hn;cases hv;refine⟨by simp[h1],fun j hj=> ?_⟩;cases j with
     |zero=>simp[Nat.mod_eq_of_lt gH]
     |succ j=>simpa using h2 j (by simpa using hj)
    ·cases hb
   ·cases h'
  ·cases h'
include ok inv in
theorem bA8{s d:xN}{x x' v:xM}(h:Sa E A s d x=some v)(hx:ai β x x'):∃v',(convert s d x').run P w= .ok v' w∧ai β v v':=by
 unfold Sa at h;split at h
 ·rename_i e a1 a2 a3 a4 b1 b2 b3 b4 B o n cp hs hd;split at h
  ·rename_i c1 c2 c3 c4 cs he bZ;split at h
   ·rename_i l hl;split at h
    ·rename_i r hr;rcases aB h with⟨_,h⟩|⟨hT,h⟩<;>cases h
     cases hx with
     |slice _ _ _ _ c' lc cF hn hc rq=>
      obtain⟨l',q1,q2,q3⟩:=wV inv bZ cF o n l hl;obtain⟨h1,h2⟩:=V0 hr q1;have aF:r.length=n:=by rw[←h1,←q1.1,q2]
      have aM:=run_convert_bytes_back (P:=P) w s d e ⟨lc.b,lc.d+o,none⟩ c' r (ok.ti s _ hs).1 (ok.ti e _ he).1 (ok.ti d _ hd).1 (fun j hj=>by
       rw[Addr.add_mid];exact q3 j _ (h2 j hj))
      rw[aF] at aM;exact⟨_,aM,.string _⟩
     |empty=>exact absurd hT (by decide)
    ·cases h
   ·cases h
  ·cases h
 ·cases h
def QD(E:av)(A:AW)(s d:xN)(x:xM):Option xM:=match PW E A s d x with|some v=>some v|none=>Sa E A s d x
include ok inv in
theorem bp1{s d:xN}{x x' v:xM}(h:QD E A s d x=some v)(hx:ai β x x'):∃v',(convert s d x').run P w= .ok v' w∧ai β v v':=by
 unfold QD at h;split at h
 ·rename_i v0 h0;cases h;exact bg2 ok inv h0 hx
 ·exact bA8 ok inv h hx
end
section
variable{P:Program}{E:av}(ok:E.Ok P){w0 w:World}{β:ah}{A:AW}(inv:Inv w0 E.G β A w)
def Cy(E:av)(A:AW)(t:xN)(r:Option xM):Option (xM×AW):=
 match r with
 |none=>some (IV A)
 |some (.int _ _)=>match E.ti.get none t with
  |some ⟨.map _ _,_,_,_,_⟩=>some (IV A)
  |_=>none
 |_=>none
theorem aV6{t:xN}{r:Option xM}{v:xM}{A':AW}(h:Cy E A t r=some (v,A')):A.next≤A'.next:=by
 unfold Cy at h;split at h
 ·cases h;exact Nat.le_succ _
 ·split at h
  ·cases h;exact Nat.le_succ _
  ·cases h
 ·cases h
include ok inv in
theorem bj3{t:xN}{r r':Option xM}{v:xM}{A':AW}(h:Cy E A t r=some (v,A'))(hr:l6 β r r'):g9 w0 E.G β A ((Instr.makeMap t r').run P w) v A':=by
 unfold Cy at h;split at h
 ·cases r' with
  |none=>cases h;exact VW inv t
  |some x=>exact absurd hr (by simp[l6])
 ·rename_i k n;cases r' with
  |none=>exact absurd hr (by simp[l6])
  |some x=>
   have hx:ai β (.int k n) x:=hr;cases hx;split at h
   ·rename_i Nx;have hu:=(ok.ti t _ Nx).1;cases h;have:=VW (P:=P) inv t;obtain⟨ak,v',w',h1,h2⟩:=this;refine⟨ak,v',w',?_,h2⟩;rw[←h1];simp[Instr.makeMap,run_underlying hu,asInt,asIntOf]
   ·cases h
 ·cases h
def Qc(l:List Nat):Option Nat:=List.rec (motive:=fun _=>Option Nat) none (fun a _ ih=>match ih with|some x=>some x|none=>some a) l
theorem Wu:∀(l:List Nat),Qc l=l.getLast?
 |[]=>rfl
 |[a]=>rfl
 |a::b::l=>by
  show(match Qc (b::l) with|some x=>some x|none=>some a)=_;rw[Wu (b::l),List.getLast?_cons_cons];rw[List.getLast?_eq_some_getLast (by simp)]
def P0(s:Nat)(es:List MapEntry):Option MapEntry:=List.rec (motive:=fun _=>Option MapEntry) none (fun e _ ih=>bs (Nat.beq e.born s) (some e) ih) es
theorem Wc{s:Nat}{e:MapEntry}:∀{es aD:List MapEntry},P0 s es=some e→eX β es aD→∃e',aD.find? (·.born==s)=some e'∧v7 β e e'
 |[],aD,h,_=>by cases h
 |a::es,aD,h,hm=>by
  obtain⟨a',l',rfl,h1,h2⟩:=hm.kS;have h':bs (Nat.beq a.born s) (some a) (P0 s es)=some e:=h;replace h':=aB h';rcases h' with⟨hb,h'⟩|⟨hb,h'⟩
  ·cases h';have eZ:=xb hb;refine⟨a',?_,h1⟩;rw[List.find?_cons_of_pos];rw[←h1.1,eZ];simp
  ·obtain⟨e',fk,hr⟩:=Wc h' h2;refine⟨e',?_,hr⟩;rw[List.find?_cons_of_neg]
   ·exact fk
   ·rw[←h1.1];intro hc;have:a.born=s:=by simpa using hc
    rw[this] at hb;simp at hb
def JH(A:AW)(it:xM):Option xM:=
 match it with
 | .pointer (some ⟨R,0,none⟩)=>match Cz A R with
  |some (some B,_,seen,st)=>match Qc seen,rU A B with
   |some s,some (es,ck)=>bs (Nat.beq ck st) (match P0 s es with|some e=>some (.tuple ⟨[e.key,e.val]⟩)|none=>none) none
   |_,_=>none
  |_=>none
 |_=>none
theorem aW1{r b since ck:Nat}(sn:Array Nat)(es:Array MapEntry){s:Nat}{e':MapEntry}(iy:(getObj r).run P w= .ok (.mapIter (some b) since sn ck) w)(AV:(getObj b).run P w= .ok (.map es ck) w)(hb:sn.back?=some s)(hf:es.find? (·.born==s)=some e'):
 (Instr.entry (.pointer (some ⟨r,0,none⟩))).run P w= .ok (.tuple #[e'.key,e'.val]) w:=by
 simp[Instr.entry,iy,AV,hb,hf]
include inv in
theorem bk2{it HO v:xM}(h:JH A it=some v)(hi:ai β it HO):∃v',(Instr.entry HO).run P w= .ok v' w∧ai β v v':=by
 unfold JH at h;split at h
 ·rename_i R;cases hi with
  |ptr _ _ lr gR=>
   split at h
   ·rename_i B since seen st Ej;split at h
    ·rename_i s es ck hs aq;replace h:=aB h;rcases h with⟨hb,h⟩|⟨_,h⟩
     ·have eZ:=xb hb;subst eZ;split at h
      ·rename_i e he;cases h;obtain⟨wD,m',h1,h2⟩:=I0 inv Ej gR;rcases h2 with⟨e0,_⟩|⟨B2,lb,e0,gS,rfl⟩
       ·cases e0
       ·cases e0;obtain⟨aD,qA,lL⟩:=x7 inv aq gS;obtain⟨e',fk,hr⟩:=Wc he lL;have iy:(getObj lr.b).run P w= .ok (.mapIter (some lb.b) since ⟨seen⟩ ck) w:=by simp[getObj,Sem.run,h1]
        have AV:(getObj lb.b).run P w= .ok (.map ⟨aD⟩ ck) w:=by simp[getObj,Sem.run,qA]
        have co9:(⟨seen⟩:Array Nat).back?=some s:=by rw[Wu] at hs;simpa using hs
        refine⟨.tuple #[e'.key,e'.val],?_,ai.p8 (((aT.nil β).cons hr.2.2).cons hr.2.1)⟩;have fT:(⟨aD⟩:Array MapEntry).find? (·.born==s)=some e':=by rw[←fk];simp
        rw[wD];exact aW1 _ _ iy AV co9 fT
      ·cases h
     ·cases h
    ·cases h
   ·cases h
 ·cases h
end
end
end Go.Ex
