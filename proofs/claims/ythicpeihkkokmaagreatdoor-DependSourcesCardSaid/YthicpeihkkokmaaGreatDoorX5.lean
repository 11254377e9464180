/- A verified evaluator of Go functions. -/
import Derived.Test.YthicpeihkkokmaaGreatDoorX4
import Derived.Lib.MakeNoZero
set_option linter.unusedVariables false
set_option linter.unusedSimpArgs false
namespace Go.Ex
variable{β:af}{rows:a0b}{es:a0k}{P:Program}{E:au}{w0 w:World}{A A':AW}{t kt:xN}{m m' k' v':xM}{k:a0d}{n:Nat}{g:Gt}{a:Act}{lo hi:Option Operand}{z:a0n}{ks:a0u}{vs:a0e}
open Go.RowKit
noncomputable section
def KO(A:AW):xM×AW:=(.map (some A.next),A.add ⟨.maps (.slice none 0 0),1,true,false,0⟩)
def R7(E:au)(A:AW)(t:xN)(m k v:xM):Option AW:=
 match E.ti.get none t,m with
 |some ⟨.map kt _,_,_,_,_⟩,.map (some B)=>match E.ti.get none kt,A.get B with
  |some ⟨.string,_,_,_,_⟩,some ⟨.maps c,a,b,false,d⟩=>bs (Nat.ble E.G.n B) (match nC A .Ef [c,k,v] with
   |some (u,A1)=>some (A1.put B (some ⟨.maps u,a,b,false,d⟩))
   |none=>none) none
  |_,_=>none
 |_,_=>none
def s7(s:a0h):List (List D)->Option Nat|[]=>none|row::t=>if Rv s row then some 0 else(s7 s t).map (· +1)
theorem W4{s:a0h}{v:D}:∀{rows:a0b},s7 s rows=none->vh s v rows=rows++[[.str s,v]]
 |[],_=>rfl
 |row::t,h=>by
  unfold s7 at h;unfold vh;split at h
  ·cases h
  ·rename_i hk;rw[if_neg hk,W4 (by simpa using h)];rfl
theorem W3{s:a0h}{v:D}:∀{rows:a0b} {i:Nat},s7 s rows=some i->vh s v rows=rows.set i [.str s,v]/\i<rows.length
 |[],i,h=>by cases h
 |row::t,i,h=>by
  unfold s7 at h;unfold vh;split at h
  ·grind
  ·rename_i hk;obtain⟨j,hj,rfl⟩:=xp.1 h;obtain⟨e1,e2⟩:=W3 (v:=v) hj
   grind
def tM(es:a0k):a0k:=es.map fun e=>⟨e.key,J,e.born⟩
theorem aT4(h:wZ β.z rows es):iC β (tM es) es:=by
 refine⟨by simp[tM],fun i e e' h1 h2=> ?_⟩;unfold tM at h1;rw[xx,h2] at h1;cases h1;have hi:i<rows.length:=by rw[h.1];exact(xe.1 h2).1
 obtain⟨s,d,_,hk,_⟩:=h.2 i _ e' (xc hi) h2;exact⟨rfl,by show aj β e'.key e'.key;rw[hk];exact .string _,.jW _⟩
theorem XD{E:au}{kt:xN}{a1 a2 a3 a4}(hr:E.ti.get none kt=some ⟨.string,a1,a2,a3,a4⟩){z:a0n}(s:a0h):∀(rows:a0b) (es:a0k) (i:Nat),wZ z rows es->
 qd E [] kt (.string ⟨⟨s⟩⟩) (tM es) i=some ((s7 s rows).map fun j=>(i+j,J))
 |[],es,i,h=>by
  have:es=[]:=xA h.1.symm;subst this;rfl
 |row::rows,[],i,h=>by simp[wZ] at h
 |row::rows,e::es,i,h=>by
  obtain⟨a,d,fb,hk,_⟩:=h.2 0 row e rfl rfl;have ht:wZ z rows es:=⟨by have:=h.1;grind,fun j r e h1 h2=>h.2 (j+1) r e a0D a0D⟩;show(match jg E [] kt (.string ⟨⟨s⟩⟩) e.key with
   |none=>none
   |some true=>some (some (i,J))
   |some false=>qd E [] kt (.string ⟨⟨s⟩⟩) (tM es) (i+1))=_
  have IW:jg E [] kt (.string ⟨⟨s⟩⟩) e.key=some (decide (s=a)):=by
   rw[hk];show(match E.ti.get none kt with|some ⟨.string,_,_,_,_⟩=>some (u7 s a)|_=>none)=_;rw[hr,yS]
  rw[IW];unfold s7;rw[fb];show _=some (Option.map _ (if decide (s=a)=true then some 0 else _));by_cases Uw:s=a
  ·grind
  ·rw[decide_eq_false Uw,if_neg a0I,XD hr s rows es (i+1) ht];cases s7 s rows with
   |none=>rfl
   |some j=>simp;omega
theorem qz{v:xM}(h:eX v=true):∃c,v= .chan (some (c+1)):=by
 unfold eX at h
 grind
section
variable(ok:E.Ok P)
theorem aV4:E.Seq P []:=by
 constructor
 all_goals intros
 all_goals first|(rename_i h _;cases h;done)|skip
 all_goals simp_all [iw]
theorem WD(inv:Inv w0 E.G β A w)(t:xN):hY w0 E.G β A ((Instr.makeMap t none).run P w) (KO A).1 (KO A).2:=by
 obtain⟨h1,h2⟩:=inv.new ⟨.maps (.slice none 0 0),1,true,false,0⟩ (.map #[] 0) ⟨w.heap.size,0,1,0⟩ rfl ⟨[],0,[],rfl,rfl,rfl,fun i row e h=>by simp at h⟩;exact⟨_,.map (some w.heap.size),_,by simp[Instr.makeMap],.map A.next _ (ju _ _ _),h1,h2⟩
include ok in
theorem aU1{k v:xM}(h:R7 E A t m k v=some A')(inv:Inv w0 E.G β A w)(hm:aj β m m')(hk:aj β k k')(hv:aj β v v'):∃w',(Instr.mapUpdate t m' k' v').run P w= .ok () w'/\Inv w0 E.G β A' w'/\A.next<=A'.next:=by
 unfold R7 at h;split at h;rotate_left
 ·cases h
 rename_i kt et _ _ _ _ B hr;have hu:=(ok.ti t _ hr).1;split at h;rotate_left
 ·cases h
 rename_i c a b d hkt hg;replace h:=ax h;rcases h with⟨hG,h⟩|⟨_,h⟩;rotate_left
 ·cases h
 split at h;rotate_left
 ·cases h
 rename_i u A1 eI;cases h;have jd:=xh hG;obtain⟨nd,rt,cu,ht,eJ,dV,fH,rfl,rfl⟩:=nW eI;have hq:bP β.d nd:=ok.q _ _ (inv.dJ nd a0D);unfold bP at hq;rw[eJ] at hq;obtain⟨ds,dd,q1,q2,q3⟩:=hq;rw[dV] at q1;rw[fH] at q2;obtain⟨q4,q5⟩:=jv q2;obtain⟨dm,ds1,rfl,e1,q7⟩:=iu q1;obtain⟨dk,dv,rfl,e2,e3⟩:=je q7;cases hm with
 |map _ l hl=>
  obtain⟨es',ck,rows,g1,g2,g3⟩:=inv.cont B _ l hg hl;rw[lD g2] at e1;cases e1;have aF:Ph (.sl rows) dk dv=some dd:=q3;unfold Ph at aF;split at aF;rotate_left
  ·cases aF
  rename_i iy s iS;cases iS;split at aF;rotate_left
  ·cases aF
  rename_i iz;cases aF;have gJ:=eU e2 hk;cases gJ;have dK:=eU e3 hv;have uK:=XD (E:=E) hkt (z:=β.z) s rows es' 0 g3;have gU:rT E [] kt (.string ⟨⟨s⟩⟩)=true:=by
   unfold rT;have:jg E [] kt (.string ⟨⟨s⟩⟩) (.string ⟨⟨s⟩⟩)=some true:=by
    show(match E.ti.get none kt with|some ⟨.string,_,_,_,_⟩=>some (u7 s s)|_=>none)=_;rw[hkt,yS,decide_eq_true rfl]
   rw[this]
  obtain⟨⟨r',f1,f2⟩,f3,f4,f5,f6⟩:=GB (P:=P) ok aV4 gU (.string (β:=β) ⟨⟨s⟩⟩) uK (aT4 g3) w;have jr:(getObj l.b).run P w= .ok (.map ⟨es'⟩ ck) w:=by simp[getObj,Sem.run,g1]
  have bk:l.b<w.heap.size:=(Array.getElem?_eq_some_iff.1 g1).1;have fin:∀(es2:a0k) (ck2:Nat),wZ β.z (vh s dv rows) es2->(setObj l.b (.map ⟨es2⟩ ck2)).run P w= .ok () {w with heap:=w.heap.setIfInBounds l.b (.map ⟨es2⟩ ck2)}/\Inv w0 E.G β ((A.pop rt).put B (some ⟨.maps (.chan (some (cu+1))),a,b,false,d⟩)) {w with heap:=w.heap.setIfInBounds l.b (.map ⟨es2⟩ ck2)}:=fun es2 ck2 fU=>by
   refine⟨by simp[setObj,Sem.run,g1],?_⟩;have i2:=inv.pop (r:=rt) (fun x hx=>a0D);refine i2.write B l _ _ hg hl jd ⟨rfl,rfl,rfl,a0C,fun k hk bq=> ?_⟩ a0C ?_
   ·grind
   ·show gb β l _ ((w.heap.setIfInBounds l.b _)[l.b]?);rw[Array.getElem?_setIfInBounds_self_of_lt bk];exact⟨es2,ck2,_,rfl,by show(β.d cu).bind _=_;rw[q4];rfl,fU⟩
  cases dX:s7 s rows with
  |none=>
   rw[dX] at f2;have cz:r'=none:=by
    rcases f2 with⟨_,e⟩|⟨_,_,_,e,_⟩
    ·exact e
    ·cases e
   subst cz;have x8:=W4 (v:=dv) dX;obtain⟨aM,bZ⟩:=fin (es'++[⟨.string ⟨⟨s⟩⟩,v',ck⟩]) (ck+1) (by
    rw[x8];refine⟨by simp[g3.1],fun i row e h1 h2=> ?_⟩;by_cases hi:i<rows.length
    ·rw[xw hi] at h1;rw[xw (by rw[<-g3.1];exact hi)] at h2;exact g3.2 i row e h1 h2
    ·rw[xq a0B] at h1;rw[xq (by rw[<-g3.1];omega),<-g3.1] at h2
     grind)
   refine⟨_,?_,bZ,xk _⟩;have Ei:(⟨es'⟩:a0z).push ⟨.string ⟨⟨s⟩⟩,v',ck⟩=⟨es'++[⟨.string ⟨⟨s⟩⟩,v',ck⟩]⟩:=by apply Array.ext';simp
   simp only [Instr.mapUpdate,Sem.run_bind,run_underlying hu,jr,f3,f1,Result.andThen_ok]
   grind
  |some j0=>
   rw[dX] at f2;obtain⟨x8,j5⟩:=W3 (v:=dv) dX;have cz:∃v1,r'=some (j0,v1):=by
    rcases f2 with⟨e,_⟩|⟨j1,v1,sj,e,e2,_⟩
    ·cases e
    ·grind
   obtain⟨sj,rfl⟩:=cz;have fV:j0<es'.length:=by rw[<-g3.1];exact j5
   have bT:es'[j0]? =some es'[j0]:=xc fV;obtain⟨s0,d0,gR,qb,_⟩:=g3.2 j0 _ _ (xc j5) bT;have vo:s0=s:=by
    have:∀(rows:a0b) (j:Nat),s7 s rows=some j->∀row,rows[j]? =some row->Rv s row=true:=by
     intro rows
     induction rows with
     |nil=>grind
     |cons r t ih=>
      intro j h row fb;unfold s7 at h;split at h
      ·grind
      ·obtain⟨i,hi,rfl⟩:=xp.1 h
       grind
    have:=this rows j0 dX _ (xc j5);rw[gR] at this;exact(of_decide_eq_true this).symm
   subst vo;obtain⟨aM,bZ⟩:=fin (es'.set j0 ⟨.string ⟨⟨s0⟩⟩,v',es'[j0].born⟩) ck (by
    rw[x8];refine⟨by simp[g3.1],fun i row e h1 h2=> ?_⟩;rw[List.getElem?_set] at h1 h2;by_cases hi:j0=i
    ·grind
    ·rw[if_neg hi] at h1 h2;exact g3.2 i row e h1 h2)
   refine⟨_,?_,bZ,xk _⟩;have wJ:=Dd bT (fun e=>{e with key:= .string ⟨⟨s0⟩⟩,val:=v'});have B8:(Instr.keyThatStays ((((⟨es'⟩:a0z)[j0]?).map (·.key)).getD (.string ⟨⟨s0⟩⟩)) (.string ⟨⟨s0⟩⟩)).run P w= .ok (.string ⟨⟨s0⟩⟩) w:=by
    have:(((⟨es'⟩:a0z)[j0]?).map (·.key)).getD (.string ⟨⟨s0⟩⟩)= .string ⟨⟨s0⟩⟩:=by simp[bT,qb]
    rw[this];simp[Instr.keyThatStays,f5]
   simp only [Instr.mapUpdate,Sem.run_bind,run_underlying hu,jr,f3,f1,Result.andThen_ok,B8]
   grind
end
def M8(g:Nat)(l:List (Nat×Nat)):a0r:=List.rec (motive:=fun _=>a0r) none (fun a _ ih=>bs (Nat.beq g a.1) (some a.2) ih) l
theorem PQ{g t:Nat}:∀{l:List (Nat×Nat)},M8 g l=some t->(g,t)∈l
 |[],h=>by cases h
 |a::l,h=>by
  have h':bs (Nat.beq g a.1) (some a.2) (M8 g l)=some t:=h;rcases ax h' with⟨h1,h2⟩|⟨_,h2⟩
  ·grind [xb,xn]
  ·exact xo _ (PQ h2)
def Su(E:au)(A:AW)(f n:xM):a0q:=
 match f with
 | .func (.func g) ⟨[]⟩ ⟨[]⟩=>match M8 g E.mz with
  |some t=>match E.ti.get none t with
   |some ⟨.slice e,_,_,_,_⟩=>bs (eX n) (match nC A (.n5 1 1) [n,n,.int .u8 (.ofNat 0)] with
    |some (_,A1)=>(match nC A1 (.cP 1 0) [] with
     |some (u,A2)=>(match yY A2 none u 1 e with|some A3=>some (.iface A2.next (.tuple ⟨[]⟩),A3)|none=>none)
     |none=>none)
    |none=>none) none
   |_=>none
  |none=>none
 |_=>none
def Rl(E:au)(A:AW)(t:xN)(x lo:xM)(hi:a0e):a0q:=
 match E.ti.get none t,x,hi,A.tape with
 |some ⟨.array len e,_,_,_,_⟩,.pointer (some ⟨B,o,none⟩),[],nd::r=>match jG E e with
  |some n=>bs (Nat.beq n 1&&eX lo&&nF nd.k .jf&&kS nd.args [.int .i64 (.ofNat len),lo]&&qe nd.res (.bool true)) (some (.iface B (.tuple ⟨[lo,.int .i64 (.ofNat o),.int .i64 (.ofNat len)]⟩),A.pop r)) none
  |none=>none
 |_,_,_,_=>none
def Qk(E:au)(A:AW)(t:xN)(x lo:xM)(hi:a0e):a0q:=
 match Ql E A t x lo hi with
 |some r=>some r
 |none=>Rl E A t x lo hi
def R0(E:au)(A:AW)(t tx:xN)(d x:xM):a0q:=
 match d,E.ti.get none t with
 | .iface B (.chan (some (_+1))),some ⟨.slice e,_,_,_,_⟩=>match jG E e,x with
  |some _,.slice none 0 0=>some (.int .i64 (.ofNat 0),A)
  |_,_=>none
 | .iface B (.tuple ⟨[iv,.int .i64 (.ofNat off),.int .i64 (.ofNat n)]⟩),some ⟨.slice e,_,_,_,_⟩=>match jG E e,A.get B,A.tape with
  |some z,some ⟨.cells cs,es,ex,false,ty⟩,nd::r=>match oK n (p9 off cs),nd.res with
   |some eT,.agg ⟨cn::dI⟩=>bs (Nat.beq z 1&&eX x&&Bm E tx&&nF nd.k (.F4 n)&&kS nd.args (iv::x::eT)&&Nat.beq (bA dI) n&&fq eX dI&&Nat.ble E.G.n B) (some (cn,(A.pop r).put B (some ⟨.cells (kQ dI off cs),es,ex,false,ty⟩))) none
   |_,_=>none
  |_,_,_=>none
 |_,_=>none
section
variable(ok:E.Ok P)
include ok in
theorem aY3{f f' n n' v:xM}(h:Su E A f n=some (v,A'))(inv:Inv w0 E.G β A w)(hf:aj β f f')(hn:aj β n n'):
 ∃g,f'= .func (.func g) ⟨[]⟩ ⟨[]⟩/\∃β' v' w',(callFunc g #[n']).run P w= .ok (.value v') w'/\aj β' v v'/\Inv w0 E.G β' A' w'/\β.grow β' A.next/\A.next<=A'.next:=by
 unfold Su at h;split at h;rotate_left
 ·cases h
 rename_i g;split at h;rotate_left
 ·cases h
 rename_i t IS;split at h;rotate_left
 ·cases h
 rename_i e _ _ _ _ hr;replace h:=ax h;rcases h with⟨_,h⟩|⟨_,h⟩;rotate_left
 ·cases h
 split at h;rotate_left
 ·cases h
 rename_i u0 A1 eI;split at h;rotate_left
 ·cases h
 rename_i u A2 bD9;split at h;rotate_left
 ·cases h
 rename_i A3 jj;cases h;obtain⟨nd,rt,cu0,ht,eJ,dV,fH,rfl,rfl⟩:=nW eI;have i1:=inv.pop (r:=rt) (fun x hx=>a0D);have hq:bP β.d nd:=ok.q _ _ (inv.dJ nd a0D);unfold bP at hq;rw[eJ] at hq;obtain⟨ds,d,q1,q2,q3⟩:=hq;rw[dV] at q1;obtain⟨dl,ds1,rfl,e1,q7⟩:=iu q1;obtain⟨dc,zs,rfl,e2,e3⟩:=iu q7;have aF:BH 1 1 dl dc zs=some d:=q3;unfold BH at aF;split at aF;rotate_left
 ·cases aF
 rename_i ln cn;split at aF;rotate_left
 ·cases aF
 rename_i qN;obtain⟨jz,eP,lP⟩:=qN;have gf:=eU e1 hn;cases gf;unfold mK at lP;simp only [xf,decide_eq_true_iff,Nat.mul_one] at lP;obtain⟨nd2,tT,cu,ht2,bE5,bE9,Mq,rfl,rfl⟩:=nW bD9;have i2:=i1.pop (r:=tT) (fun x hx=>a0D);have pO:bP β.d nd2:=ok.q _ _ (i1.dJ nd2 a0D);unfold bP at pO;rw[bE5] at pO;obtain⟨pV,d2,p1,p2,p3⟩:=pO;rw[bE9] at p1;rw[Mq] at p2;obtain⟨p4,p5⟩:=jv p2;cases p1;have p3':some (D.sl [])=some d2:=p3;cases p3';cases hf with
 |func _ _ p' _ q' hp hq h1 h2=>
  have ya:p'=[]:=xA hp.symm;have rn:q'=[]:=xA hq.symm;subst ya;subst rn;obtain⟨ps,bF3⟩:=ok.mz g t (PQ IS);obtain⟨cs,aM,aK,_⟩:=Lib.run_makeNoZero (P:=P) w ps t e (ok.ti t _ hr).1 ln a0B;have fU:=bF3 #[.int .i64 (.ofNat ln)] w;obtain⟨g1,g2⟩:=(i2.drew (w.drawn+1+1)).new (l:=⟨w.heap.size,0,1,cs.size⟩) ⟨.cells [],1,false,false,e⟩ (.cells cs e) rfl
   ⟨cs,e,(0,0),rfl,rfl,a0C,(fun i v hv=>by simp at hv),fun _=>rfl,(fun h=>by cases h),rfl,fun _=>rfl⟩
  unfold yY at jj;simp only [Fu] at jj;split at jj;rotate_left
  ·cases jj
  rename_i Vg Ve Vc TZ jc;cases jj;have pQ:(β.put ((A.pop rt).pop tT).next ⟨w.heap.size,0,1,cs.size⟩).o ((A.pop rt).pop tT).next=none:=by
   show β.o A.next=none;cases hq:β.o A.next with
   |none=>rfl
   |some v=>have:=inv.iB _ _ hq;omega
  have fR:∀(cG:af),cG.d=β.d->aZ cG.d (.chan (some (cu+1)))=some (.sl []):=fun cG e=>by
   show(cG.d cu).bind _=_
   grind
  have rA:=g1.relabel (B:=((A.pop rt).pop tT).next) (blk':=⟨.own (.chan (some (cu+1))),1,false,false,e⟩) (v:= .slice (some ⟨w.heap.size,0,none⟩) 0 cs.size) jc (Nat.lt_succ_self _) pQ rfl (fun l2 aW=>by
   rw[ju] at aW;cases aW;exact⟨cs,[],heap_alloc_new _ _,rfl,fR _ rfl,rfl,(fun row hr=>by cases hr),a0C,fun i row j d hi hj=>by simp at hi⟩)
   ⟨[],fR _ rfl,.inr ⟨_,cs.size,ju _ _ _,by show(if((A.pop rt).pop tT).next=((A.pop rt).pop tT).next then _ else _)=_;grind,xL _,a0D,rfl⟩⟩
  refine⟨g,rfl,_,_,_,?_,aj.raw (β:=(β.put ((A.pop rt).pop tT).next ⟨w.heap.size,0,1,cs.size⟩).lI ((A.pop rt).pop tT).next (.slice (some ⟨w.heap.size,0,none⟩) 0 cs.size)) ((A.pop rt).pop tT).next ln cs.size ⟨w.heap.size,0,1,cs.size⟩ (ju _ _ _) aK (by show(if((A.pop rt).pop tT).next=((A.pop rt).pop tT).next then _ else _)=_;grind),rA,af.iP g2 (af.AE _ _ _) (xk _),Nat.le_succ _⟩;rw[fU];have cb9:(Extern.BytealgMakeNoZero.makeNoZero ps #[t] #[.int .i64 (Int.ofNat ln)]).run P w= .ok (.slice (some ⟨w.heap.size,0,none⟩) ln cs.size) (w.drew.drew.alloc (.cells cs e)):=aM;simp[aM];rfl
include ok in
theorem aA2(hf:bU β n g a.tmps){x:Operand}{u:xM}(h:Rl E A t (ev E g x) (qm E g lo) (rz E g hi)=some (u,A'))(inv:Inv w0 E.G β A w):
 ∃v',(Instr.sliceAt t (a.eval x) (lo.map a.eval) (hi.map a.eval) none).run P w= .ok v' w/\aj β u v'/\Inv w0 E.G β A' w/\A.next<=A'.next:=by
 unfold Rl at h;split at h;rotate_left
 ·cases h
 rename_i len e _ _ _ _ B o nd r hr hx jq ht;split at h;rotate_left
 ·cases h
 rename_i z hs;replace h:=ax h;rcases h with⟨hb,h⟩|⟨_,h⟩;rotate_left
 ·cases h
 cases h;simp only [xf] at hb;obtain⟨⟨⟨⟨b0,b1⟩,b2⟩,b3⟩,b4⟩:=hb;have Vk:=xb b0;subst Vk;have e1:=ph b2;have e2:=mB _ _ b3;have e3:=uu b4;obtain⟨cl,vB⟩:=qz b1;unfold jG at hs;split at hs;rotate_left
 ·cases hs
 rename_i r2 bu;have aS:r2.size=1:=xC hs;have hu:=(ok.ti t _ hr).1;have hq:bP β.d nd:=ok.q _ _ (inv.dJ nd a0D);unfold bP at hq;rw[e1] at hq;obtain⟨ds,d,q1,q2,q3⟩:=hq;rw[e2] at q1;rw[e3] at q2;have sk:some (D.bool true)=some d:=q2;cases sk;obtain⟨dx,di,rfl,e5,e6⟩:=je q1;have F0:some (D.int .i64 (Int.ofNat len))=some dx:=e5;cases F0;obtain⟨k,m,rfl,hm⟩:=OM q3;have e7:aZ β.d (qm E g lo)=some (.int k (.ofNat m)):=by rw[vB] at e6⊢;exact e6
 have hv:=j7 (a:=a) inv hf x;rw[hx] at hv;generalize jc:a.eval x=xv at hv;have Mt:lo.map a.eval=some (.int k (.ofNat m))\/(lo.map a.eval=none/\m=0):=by
  cases lo with
  |none=>cases vB
  |some y=>
   have hy:=j7 (a:=a) inv hf y;have Fw:=eU (v:=ev E g y) e6 hy;left;show some (a.eval y)=_;generalize a.eval y=yv at Fw;cases Fw;rfl
 have B9:((none:a0r)=none/\hi.map a.eval=none)\/∃k',(none:a0r)=some len/\hi.map a.eval=some (.int k' (.ofNat len)):=by
  cases hi with
  |none=>grind
  |some y=>cases jq
 cases hv with
 |ptr _ _ l hl=>
  obtain⟨m',aM,mZ,fU⟩:=Cs (P:=P) (len:=len) (cap:=len) (a:=m) (b:=len) (Nat.le_of_lt hm) (xk _) (xk _) (hb:=none) rfl Mt B9 false w;have hm3:m'=len:=Nat.le_antisymm fU mZ;subst hm3;refine⟨.slice (some ⟨l.b,l.d+o+m,none⟩) (m' - m) (m' - m),?_,.part B o m' m l _ k hl e7 (Nat.le_of_lt hm),inv.pop (fun x hx=>a0D),xk _⟩;have bq: ¬m'=m:=a0B
  have zN:r2.size=1:=aS;simp[Instr.sliceAt,run_underlying hu,Instr.sureAddr,aM,dL ok bu,zN,bq,Addr.add_lit]
include ok in
theorem aV1(hf:bU β n g a.tmps){x:Operand}{u:xM}(h:Qk E A t (ev E g x) (qm E g lo) (rz E g hi)=some (u,A'))(inv:Inv w0 E.G β A w):
 ∃β' v',(Instr.sliceAt t (a.eval x) (lo.map a.eval) (hi.map a.eval) none).run P w= .ok v' w/\aj β' u v'/\Inv w0 E.G β' A' w/\β.grow β' A.next/\A.next<=A'.next:=by
 grind [Qk,aE3,aA2,af.cb]
theorem Xg(gB:Nat){x':xM}(h:Rd z (.sl rows) x')(c:Nat)(hc:c<=rows.length):
 (∀w,(Builtin.lenOf x').run P w= .ok rows.length w)/\∃x2,Rd z (.sl (rows.take c)) x2/\Builtin.firstCells gB c x'=Builtin.firstCells gB c x2:=by
 cases h with
 |rj=>exact⟨fun _=>rfl,_,by simpa using Rd.rj,rfl⟩
 |nO a cp=>exact⟨fun _=>rfl,_,by simpa using Rd.nO a cp,rfl⟩
 |sl _ es b o cp cells hz bq dS sf hs hh=>
  refine⟨fun _=>rfl,.slice (some ⟨b,o,none⟩) (rows.take c).length cp,?_,rfl⟩;by_cases h0:rows.take c=[]
  ·rw[h0];exact .nO _ _
  ·refine .sl _ es b o cp cells hz h0 (fun row hr=>dS row (List.mem_of_mem_take hr)) a0D hs fun i row j d v h1 h2 h3=> ?_
   grind
include ok in
theorem aR1{tx ty:xN}{d d' x x' v:xM}(h:R0 E A t tx d x=some (v,A'))(inv:Inv w0 E.G β A w)(hd:aj β d d')(hx:aj β x x'):hY w0 E.G β A ((Builtin.copy_ #[t,tx] ty #[d',x']).run P w) v A'/\A.next<=A'.next:=by
 unfold R0 at h;split at h
 ·rename_i B c e _ _ _ _ hr;split at h;rotate_left
  ·cases h
  rename_i z hs;cases h;cases hx;have hu:=(ok.ti t _ hr).1;unfold jG at hs;split at hs<;>cases hs
  rename_i re dU;cases hd with
  |own _ _ rows a cap ho ha hd=>
   refine⟨⟨β,.int .i64 0,w,?_,.int _ _,inv,af.cb _ _⟩,xk _⟩;cases a with
   |none=>simp[Builtin.copy_,run_underlying hu,Builtin.lenOf,dL ok dU,Builtin.firstCells,goInt]
   |some a=>simp[Builtin.copy_,run_underlying hu,Builtin.lenOf,dL ok dU,Builtin.firstCells,goInt,storeCells]
 rotate_left
 ·cases h
 rename_i B iv off n e _ _ _ _ hr;split at h;rotate_left
 ·cases h
 rename_i z cs es ex zY nd r hs hg ht;split at h;rotate_left
 ·cases h
 rename_i eT cn dI rp fH;replace h:=ax h;rcases h with⟨hb,h⟩|⟨_,h⟩;rotate_left
 ·cases h
 cases h;simp only [xf,du] at hb;obtain⟨⟨⟨⟨⟨⟨⟨b0,b1⟩,b2⟩,b3⟩,b4⟩,b5⟩,b6⟩,b7⟩:=hb;have Vk:=xb b0;subst Vk;have Vj:=ph b3;have b4':=mB _ _ b4;have F7:=xb b5;have b6':=pn eX _ b6;have b7':=xh b7;have hu:=(ok.ti t _ hr).1;unfold jG at hs;split at hs;rotate_left
 ·cases hs
 rename_i re dU;have ab8:re.size=1:=xC hs;have tW:(∃e',P.underlying tx=some (.slice e'))\/P.underlying tx=some .string:=by
  unfold Bm at b2;split at b2
  ·rename_i hr;exact .inl ⟨_,(ok.ti tx _ hr).1⟩
  ·rename_i hr;exact .inr (ok.ti tx _ hr).1
  ·cases b2
 have hq:bP β.d nd:=ok.q _ _ (inv.dJ nd a0D);unfold bP at hq;rw[Vj] at hq;obtain⟨ds,dd,q1,q2,q3⟩:=hq;rw[b4'] at q1;rw[fH] at q2;obtain⟨di,ds1,rfl,e1,q4⟩:=iu q1;obtain⟨dx,NH,rfl,e2,e3⟩:=iu q4;have i2:=inv.pop (r:=r) (fun x hx=>a0D);cases hd with
 |part _ _ _ m l _ k hl hi hm=>
  rw[lD hi] at e1;cases e1;have aF:QQ n (.int k (.ofNat m)) dx NH=some dd:=q3;unfold QQ at aF;split at aF;rotate_left
  ·cases aF
  rename_i k0 m0 rows lS;injection lS with _ kp;injection kp with kp;subst kp;split at aF;rotate_left
  ·cases aF
  rename_i qN;obtain⟨fB,hmn,lq⟩:=qN;cases aF;obtain⟨NJ,wQ,wP⟩:=xp.1 (show(aI (eH β.d) (v::dI)).map D.agg=_ from q2);cases wP;obtain⟨dcn,DL,BB,r1,r2⟩:=iu wQ;obtain⟨bH7,an0⟩:=List.cons.inj BB;subst bH7;have gA:=eU e2 hx;generalize Ca:min rows.length (n - m)=dw at*;have js:dw<=rows.length:=a0B
  obtain⟨aD,x2,oZ,hfc⟩:=Xg (P:=P) 1 gA dw js;have LH:(rows.take dw).all (fun r=>r.length==1&&r.all D.cell)=true:=by
   rw[List.all_eq_true] at fB⊢;exact fun row hr=>fB row (List.mem_of_mem_take hr)
  have ak3:∀row∈rows.take (n - m),row.length=1:=fun row hr=>by
   grind
  have mW:rows.take (n - m)=rows.take dw:=by
   rw[<-Ca];rcases Nat.le_total rows.length (n - m) with h|h
   ·grind
   ·grind
  rw[mW] at ak3 an0;obtain⟨fl1,U9⟩:=RE ak3;obtain⟨src,qT,gd,ZE⟩:=Qi (P:=P) inv.cP (es:=1) tW (xk _) (d:= .sl (rows.take dw)) (rows:=rows.take dw) (show(if(rows.take dw).all (fun r=>r.length==1&&r.all D.cell)=true then some (rows.take dw) else none)=_ by grind) oZ;have vm:(rows.take dw).length=dw:=by rw[xz];omega
  rw[vm,Nat.mul_one] at gd;rw[vm] at fl1;have oH:=qT.cells;rw[vm] at oH;obtain⟨aB,e0,fz,k1,k2,k3,k4,k5,k6,k7⟩:=inv.cont B _ l hg hl;have lT:fz=(0,0):=k5 rfl;subst lT;obtain⟨ru,gT⟩:=Dn _ _ _ rp;rw[Dq] at ru gT;rw[List.length_drop] at gT;have UL:m+dw<=n:=a0B
  have lR:n=0\/off+n<=cs.length:=a0B
  have bv5:∀j,j<n->eT[j]? =cs[off+j]? :=fun j hj=>by
   grind
  let F:=(List.range n).map fun i=>if m<=i/\i<m+dw then src.getD (i - m) undef else aB.getD (l.d+off+i) undef
  have hF:∀i,i<n->F[i]? =some (if m<=i/\i<m+dw then src.getD (i - m) undef else aB.getD (l.d+off+i) undef):=fun i hi=>by
   show((List.range n).map _)[i]? =_
   simp_all
  have U0:F.length=n:=by simp[F]
  have kU:∀i d,i<n->NH[i]? =some d->∃v,aB[l.d+off+i]? =some v/\Rd β.z d v:=fun i d hi hd=>by
   have fW:i<eT.length:=by rw[ru,xz,List.length_drop];omega
   have o4:off+i<cs.length:=a0B
   obtain⟨v',h1,h2⟩:=k4 (off+i) _ (xc o4);refine⟨v',by rw[Nat.add_assoc];exact h1,eU (ng e3 hd (xc fW)) ?_⟩;have h4:=bv5 i hi;rw[xc fW,xc o4] at h4;rw[xC h4];exact h2
  have hDL:∀i d,i<n->DL[i]? =some d->∃v,F[i]? =some v/\Rd β.z d v:=fun i d hi hd=>by
   rw[hF i hi];have kK:(NH.take m++(rows.take dw).flatten++NH.drop (m+dw))[i]? =some d:=by
    rw[an0];exact hd
   refine⟨_,rfl,?_⟩;by_cases h1:i<m
   ·rw[if_neg a0B];rw[List.append_assoc,xw a0D,List.getElem?_take,if_pos h1] at kK;obtain⟨v,h2,h3⟩:=kU i d hi kK
    simp_all
   ·by_cases h2:i<m+dw
    ·rw[if_pos ⟨a0B,h2⟩];rw[List.append_assoc,xq a0D,xz,Nat.min_eq_left a0B,xw a0D] at kK;obtain⟨row,h3,h4⟩:=U9 _ _ kK;obtain⟨v,h5,h6⟩:=ZE _ row 0 d h3 h4;rw[Nat.mul_one,Nat.add_zero] at h5;rw[List.getD_eq_getElem?_getD,h5];exact h6
    ·rw[if_neg a0B];rw[xq a0D,xa,fl1,xz,Nat.min_eq_left a0B,List.getElem?_drop,show m+dw+(i - (m+dw))=i by omega] at kK;obtain⟨v,h2,h3⟩:=kU i d hi kK
     simp_all
  have cy3:DL.length=n:=by rw[pd r2,F7]
  have ak0:∀i u,dI[i]? =some u->∃v,F[i]? =some v/\aj β u v/\v.oneCell'=true:=fun i u Up=>by
   have ov:=(xe.1 Up).1;rw[F7] at ov;have hdi:DL[i]? =some DL[i]:=xc a0B;obtain⟨v,h1,h2⟩:=hDL i _ ov hdi;obtain⟨c,rfl⟩:=qz (b6' u (xu Up));have h3:=ng r2 hdi Up;obtain⟨h4,h5⟩:=jv (show iA β.d (.chan (some (c+1)))=_ from h3);exact⟨v,h1,.sym c _ v h4 h5 h2,(Gv h2 h5).2⟩
  have jN:aX β dI F:=⟨by rw[F7,U0],fun i u v h1 h2=>by
   obtain⟨v',h3,h4,_⟩:=ak0 i u h1
   grind⟩
  have se:∀v∈F,v.oneCell'=true:=fun v hv=>by
   obtain⟨i,hi,rfl⟩:=List.getElem_of_mem hv;have fW:i<dI.length:=by rw[F7,<-U0];exact hi
   obtain⟨v',h3,_,h5⟩:=ak0 i _ (xc fW)
   grind
  rcases xI n with sv|sv
  ·
   have CP:dw=0:=a0B
   have bv7:dI=[]:=xA (by rw[F7,sv]);have bu8:src=[]:=xA (by rw[gd,CP]);have bZ:Inv w0 E.G β ((A.pop r).put B (some ⟨.cells (kQ dI off cs),es,ex,false,zY⟩)) w:=by
    rw[bv7];refine i2.write B l _ _ (show(A.pop r).get B=_ from hg) hl b7' ⟨rfl,rfl,rfl,xk _,fun _ _ _=>rfl⟩ rfl ?_;rw[k1];exact⟨aB,e0,(0,0),rfl,k2,k3,k4,fun _=>rfl,k6,k7⟩
   refine⟨⟨β,.int .i64 (dw:Nat),w,?_,rL r1 (.int _ _),bZ,af.cb _ _⟩,xk _⟩;rw[bu8] at oH;rw[hfc.symm] at oH;have wK:Nat.min rows.length (n - m)=dw:=Ca;simp[Builtin.copy_,run_underlying hu,aD,wK,dL ok dU,ab8,oH,goInt,storeCells]
  ·have bE4:off+n<=cs.length:=a0B
   obtain⟨w',aM,bZ⟩:=Gk (P:=P) (E:=E) i2 (show(A.pop r).get B=_ from hg) b7' hl jN (by rw[F7];exact bE4) se;have bv3:∀u∈src,u.oneCell'=true:=qT.one;have ak1:=run_storeCells_at (P:=P) l.b (l.d+off) e0 F 0 aB w k1 a0D se;have sd:=run_storeCells_at (P:=P) l.b (l.d+off+m) e0 src 0 aB w k1 a0D bv3;rw[Nat.add_zero] at ak1 sd;have Rz:(aB.toList.take (l.d+off)++F++aB.toList.drop (l.d+off+F.length)).toArray=(aB.toList.take (l.d+off+m)++src++aB.toList.drop (l.d+off+m+src.length)).toArray:=by
    apply Array.ext_getElem?;intro i;rw[yN _ _ _ a0D,yN _ _ _ a0D,U0,gd];by_cases h1:l.d+off<=i/\i<l.d+off+n
    ·rw[if_pos h1,hF _ a0B];by_cases h2:l.d+off+m<=i/\i<l.d+off+m+dw
     ·rw[if_pos h2,if_pos a0B];rw[List.getD_eq_getElem?_getD];have:i - (l.d+off) - m=i - (l.d+off+m):=a0B
      rw[this];have bk:i - (l.d+off+m)<src.length:=a0B
      grind
     ·rw[if_neg h2,if_neg a0B,Array.getD_eq_getD_getElem?];have:l.d+off+(i - (l.d+off))=i:=a0B
      rw[this];have bk:i<aB.size:=a0B
      grind
    ·rw[if_neg h1,if_neg a0B]
   rw[ak1] at aM;rw[Rz] at aM;rw[aM] at sd;refine⟨⟨β,.int .i64 (dw:Nat),w',?_,rL r1 (.int _ _),bZ,af.cb _ _⟩,xk _⟩;rw[hfc.symm] at oH;have wK:Nat.min rows.length (n - m)=dw:=Ca;simp[Builtin.copy_,run_underlying hu,aD,wK,dL ok dU,ab8,oH,goInt,sd]
end
theorem W5{v:D}:∀{rows:a0b},cY k rows=none->tP k v rows=rows++[[.agg k,v]]
 |[],_=>rfl
 |row::t,h=>by
  unfold cY at h;unfold tP;split at h
  ·cases h
  ·rename_i hk;rw[if_neg hk,W5 (by simpa using h)];rfl
theorem OP{v:D}:∀{rows:a0b} {i:Nat},cY k rows=some i->tP k v rows=rows.set i [.agg k,v]/\i<rows.length
 |[],i,h=>by cases h
 |row::t,i,h=>by
  unfold cY at h;unfold tP;split at h
  ·grind
  ·rename_i hk;obtain⟨j,hj,rfl⟩:=xp.1 h;obtain⟨e1,e2⟩:=OP (v:=v) hj
   grind
theorem JJ:∀{rows:a0b},cY k rows=none->nI k rows=none
 |[],_=>rfl
 |row::t,h=>by
  unfold cY at h;unfold nI;split at h
  ·cases h
  ·rename_i hk;rw[if_neg hk,JJ (by simpa using h)]
theorem AH:∀{rows:a0b} {i:Nat},cY k rows=some i->∃row,rows[i]? =some row/\nI k rows=row[1]?/\lY k row=true
 |[],i,h=>by cases h
 |row::t,i,h=>by
  unfold cY at h;unfold nI;split at h
  ·grind
  ·rename_i hk;obtain⟨j,hj,rfl⟩:=xp.1 h;obtain⟨r,e1,e2,e3⟩:=AH hj
   grind
theorem yE{k:xO}{ds:a0d}(h:fC (k::ks) ds=some vs):∃n cF mh,ds= .int k n::cF/\vs= .int k n::mh/\fC ks cF=some mh:=by
 cases ds with
 |nil=>simp[fC] at h
 |cons d ds=>
  cases d with
  |int j n=>
   have h':(if j=k then(fC ks ds).map (.int j n:: ·) else none)=some vs:=h;split at h'
   ·rename_i hj;subst hj;obtain⟨mh,h1,rfl⟩:=xp.1 h'
    grind
   ·cases h'
  |_=>simp[fC] at h
theorem yL{ds:a0d}(h:fC [] ds=some vs):ds=[]/\vs=[]:=by
 cases ds with
 |nil=>cases h;grind
 |cons d ds=>simp[fC] at h
theorem aO9(k:xO):dA k k=true:=by cases k<;>rfl
theorem AK:∀(ks:a0u) (a b:a0d) (va vb:a0e),fC ks a=some va->fC ks b=some vb->eZ ks va vb=some (kD a b)
 |[],a,b,va,vb,ha,hb=>by
  obtain⟨rfl,rfl⟩:=yL ha;obtain⟨rfl,rfl⟩:=yL hb;rfl
 |k::ks,a,b,va,vb,ha,hb=>by
  obtain⟨m,a',tO,rfl,rfl,h1⟩:=yE ha;obtain⟨n,b',MX,rfl,rfl,h2⟩:=yE hb;have ih:=AK ks a' b' tO MX h1 h2;show bs (dA k k&&dA k k) (match eZ ks tO MX with|some r=>some (bs (mo m n) r false)|none=>none) none=_;rw[aO9 k,ih,oG];show some (bs (decide (m=n)) (kD a' b') false)=some (decide (m=n)&&kD a' b');cases decide (m=n)<;>rfl
theorem yG:∀(ks:a0u) (a:a0d) (va:a0e),fC ks a=some va->kD a a=true
 |[],a,va,h=>by obtain⟨rfl,rfl⟩:=yL h;rfl
 |k::ks,a,va,h=>by
  obtain⟨m,a',tO,rfl,rfl,h1⟩:=yE h;show(decide (m=m)&&kD a' a')=true;rw[yG ks a' tO h1,decide_eq_true rfl];rfl
theorem Kp:∀(ks:a0u) (a b:a0d) (va vb:a0e),fC ks a=some va->fC ks b=some vb->kD a b=true->a=b/\va=vb
 |[],a,b,va,vb,ha,hb,_=>by
  obtain⟨rfl,rfl⟩:=yL ha;obtain⟨rfl,rfl⟩:=yL hb
  grind
 |k::ks,a,b,va,vb,ha,hb,h=>by
  obtain⟨m,a',tO,rfl,rfl,h1⟩:=yE ha;obtain⟨n,b',MX,rfl,rfl,h2⟩:=yE hb;have h':(decide (m=n)&&kD a' b')=true:=h;rw[xf] at h';have e:=of_decide_eq_true h'.1;obtain⟨e1,e2⟩:=Kp ks a' b' tO MX h1 h2 h'.2
  grind
theorem yK(β:af):∀(ks:a0u) (a:a0d) (va:a0e),fC ks a=some va->aX β va va
 |[],a,va,h=>by obtain⟨rfl,rfl⟩:=yL h;exact aX.nil β
 |k::ks,a,va,h=>by
  obtain⟨m,a',tO,rfl,rfl,h1⟩:=yE h;exact aX.cons (.int _ _) (yK β ks a' tO h1)
theorem AX:∀(ks:a0u) (a:a0d) (va us:a0e),fC ks a=some va->a.length=us.length->(∀(i:Nat) (d:D) (v:xM),a[i]? =some d->us[i]? =some v->Rd z d v)->us=va
 |[],a,va,us,h,hl,hr=>by obtain⟨rfl,rfl⟩:=yL h;grind
 |k::ks,a,va,us,h,hl,hr=>by
  obtain⟨m,a',tO,rfl,rfl,h1⟩:=yE h;cases us with
  |nil=>cases hl
  |cons u us=>
   have h0:=hr 0 _ _ rfl rfl;cases h0;rw[AX ks a' tO us h1 a0D fun i d v h2 h3=>hr (i+1) d v a0D a0D]
theorem aI9(h:pG β.z ks rows es):iC β (tM es) es:=by
 refine⟨by simp[tM],fun i e e' h1 h2=> ?_⟩;unfold tM at h1;rw[xx,h2] at h1;cases h1;have hi:i<rows.length:=by rw[h.1];exact(xe.1 h2).1
 obtain⟨ds,vs,d,_,hf,hk,_,_⟩:=h.2 i _ e' (xc hi) h2;exact⟨rfl,by show aj β e'.key e'.key;grind [hk,aj.nu,yK],.jW _⟩
theorem WT{sq:a0c}(CD:iw sq kt=some ks)(hk:fC ks k=some vs):∀(rows:a0b) (es:a0k) (i:Nat),pG z ks rows es->
 qd E sq kt (.agg ⟨vs⟩) (tM es) i=some ((cY k rows).map fun j=>(i+j,J))
 |[],es,i,h=>by
  have:es=[]:=xA h.1.symm;subst this;rfl
 |row::rows,[],i,h=>by have:=h.1;simp at this
 |row::rows,e::es,i,h=>by
  obtain⟨a,va,d,fb,ha,SL,_,_⟩:=h.2 0 row e rfl rfl;have ht:pG z ks rows es:=⟨by have:=h.1;grind,fun j r e h1 h2=>h.2 (j+1) r e a0D a0D⟩;show(match jg E sq kt (.agg ⟨vs⟩) e.key with
   |none=>none
   |some true=>some (some (i,J))
   |some false=>qd E sq kt (.agg ⟨vs⟩) (tM es) (i+1))=_
  have IW:jg E sq kt (.agg ⟨vs⟩) e.key=some (kD k a):=by
   rw[SL];show(match iw sq kt with|some ks=>eZ ks vs va|none=>none)=_;rw[CD];exact AK ks k a vs va hk ha
  rw[IW];unfold cY;rw[fb];show _=some (Option.map _ (if kD k a=true then some 0 else _));cases Uw:kD k a with
  |true=>grind
  |false=>
   rw[if_neg a0I];show qd E sq kt (.agg ⟨vs⟩) (tM es) (i+1)=_;rw[WT CD hk rows es (i+1) ht];cases cY k rows with
   |none=>rfl
   |some j=>simp;omega
def tL(g:Nat->xM):a0k->Nat->List MapEntry|[],_=>[]|e::es,i=>⟨e.key,g i,e.born⟩::tL g es (i+1)
theorem Pp(g:Nat->xM):∀(es:a0k) (i:Nat),(tL g es i).length=es.length
 |[],_=>rfl
 |e::es,i=>by unfold tL;simp[Pp g es (i+1)]
theorem Pq(g:Nat->xM):∀(es:a0k) (i j:Nat) (e:MapEntry),es[j]? =some e->(tL g es i)[j]? =some ⟨e.key,g (i+j),e.born⟩
 |[],i,j,e,h=>by simp at h
 |a::es,i,0,e,h=>by grind [tL]
 |a::es,i,j+1,e,h=>by
  unfold tL;have:=Pq g es (i+1) j e (by simpa using h);rw[List.getElem?_cons_succ,this,show i+1+j=i+(j+1) by omega]
def MR(es:a0k)(i:Nat):a0k:=tL (fun i=> .chan (some (i+1))) es i
theorem aT2(es:a0k)(i:Nat):(MR es i).length=es.length:=Pp _ es i
theorem aT3(es:a0k)(i j:Nat)(e:MapEntry)(h:es[j]? =some e):(MR es i)[j]? =some ⟨e.key,.chan (some (i+j+1)),e.born⟩:=Pq _ es i j e h
def Ix(ks:a0u)(rows:a0b)(es:a0k):Prop:=
 rows.length=es.length/\∀(i:Nat) (row:a0d) (e:MapEntry),rows[i]? =some row->es[i]? =some e->∃ds vs d,row=[.agg ds,d]/\fC ks ds=some vs/\e.key= .agg ⟨vs⟩
theorem pG.Mh(h:pG z ks rows es):Ix ks rows es:=
 ⟨h.1,fun i row e a b=>by
  obtain⟨ds,vs,d,x,y,u,_⟩:=h.2 i row e a b
  grind⟩
theorem mb.Mh{b es:Nat}{ty:xN}{tk:Option (Nat×List D)}{kf:a0k}(h:mb β b es ty ks tk rows kf):Ix ks rows kf:=
 ⟨h.len,fun i row e a b=>by
  grind [row,h.row]⟩
def EG(β:af)(rows:a0b):af:={β with d:=fun i=>rows[i]?.bind fun r=>r[1]? }
theorem XT(h:pG β.z ks rows es):iC (EG β rows) (MR es 0) es:=by
 refine⟨aT2 es 0,fun i e e' h1 h2=> ?_⟩;rw[aT3 es 0 i e' h2] at h1;cases h1;have hi:i<rows.length:=by rw[h.1];exact(xe.1 h2).1
 obtain⟨ds,vs,d,fb,hf,hk,hc,hr⟩:=h.2 i _ e' (xc hi) h2;refine⟨rfl,by show aj _ e'.key e'.key;grind [hk,aj.nu,yK],?_⟩;show aj (EG β rows) (.chan (some (0+i+1))) e'.val;rw[Nat.zero_add];refine .sym i d _ ?_ hc hr;show(rows[i]?.bind fun r=>r[1]?)=some d
 grind
theorem OJ{sq:a0c}(CD:iw sq kt=some ks)(g:Nat->xM)(hk:fC ks k=some vs):∀(rows:a0b) (es:a0k) (i:Nat),Ix ks rows es->
 qd E sq kt (.agg ⟨vs⟩) (tL g es i) i=some ((cY k rows).map fun j=>(i+j,g (i+j)))
 |[],es,i,h=>by
  have:es=[]:=xA h.1.symm;subst this;rfl
 |row::rows,[],i,h=>by have:=h.1;simp at this
 |row::rows,e::es,i,h=>by
  obtain⟨a,va,d,fb,ha,SL⟩:=h.2 0 row e rfl rfl;have ht:Ix ks rows es:=⟨by have:=h.1;grind,fun j r e h1 h2=>h.2 (j+1) r e a0D a0D⟩;show(match jg E sq kt (.agg ⟨vs⟩) e.key with
   |none=>none
   |some true=>some (some (i,g i))
   |some false=>qd E sq kt (.agg ⟨vs⟩) (tL g es (i+1)) (i+1))=_
  have IW:jg E sq kt (.agg ⟨vs⟩) e.key=some (kD k a):=by
   rw[SL];show(match iw sq kt with|some ks=>eZ ks vs va|none=>none)=_;rw[CD];exact AK ks k a vs va hk ha
  rw[IW];unfold cY;rw[fb];show _=some (Option.map _ (if kD k a=true then some 0 else _));cases Uw:kD k a with
  |true=>grind
  |false=>
   rw[if_neg a0I];show qd E sq kt (.agg ⟨vs⟩) (tL g es (i+1)) (i+1)=_;rw[OJ CD g hk rows es (i+1) ht];cases cY k rows with
   |none=>rfl
   |some j=>grind
theorem WU{sq:a0c}(CD:iw sq kt=some ks)(hk:fC ks k=some vs)(rows:a0b)(es:a0k)(i:Nat)(h:pG z ks rows es):
 qd E sq kt (.agg ⟨vs⟩) (MR es i) i=some ((cY k rows).map fun j=>(i+j,Value.chan (some (i+j+1)))):=OJ CD _ hk rows es i h.Mh
def Sm(A:AW)(k:NK)(us:a0e):a0q:=
 match A.tape with
 |[]=>none
 |nd::r=>bs (nF k nd.k) (bs (r8 us nd.args) (bs (eX nd.res) (some (nd.res,A.pop r)) none) none) none
theorem aF0{k:NK}{us:a0e}{u:xM}(h:Sm A k us=some (u,A')):∃nd r c,A.tape=nd::r/\nd.k=k/\nd.args=us/\nd.res=u/\u= .chan (some (c+1))/\A'=A.pop r:=by
 unfold Sm at h;split at h
 ·cases h
 ·rename_i nd r ht;rcases ax h with⟨h1,h⟩|⟨_,h⟩;rotate_left
  ·cases h
  rcases ax h with⟨h2,h⟩|⟨_,h⟩;rotate_left
  ·cases h
  rcases ax h with⟨h3,h⟩|⟨_,h⟩;rotate_left
  ·cases h
  cases h;obtain⟨c,hc⟩:=qz h3;exact⟨nd,r,c,ht,(ph h1).symm,(sM _ _ h2).symm,rfl,hc,rfl⟩
def Bc(E:au)(sq:a0c)(A:AW)(t:xN):xM×AW:=
 match E.ti.get none t with
 |some ⟨.map kt et,_,_,_,_⟩=>match iw sq kt,Ko E et with
  |some ks,some (re,e)=>(.map (some A.next),A.add ⟨.gM ks (.slice none 0 0) none,re.size,false,false,e⟩)
  |some ks,none=>(.map (some A.next),A.add ⟨.jV ks (.slice none 0 0),1,true,false,0⟩)
  |none,_=>KO A
 |_=>KO A
def R9(E:au)(sq:a0c)(A:AW)(t:xN)(m k v:xM):Option AW:=
 match E.ti.get none t,m with
 |some ⟨.map kt _,_,_,_,_⟩,.map (some B)=>match iw sq kt,A.get B with
  |some ks,some ⟨.jV gu c,a,b,false,d⟩=>bs (mI ks gu&&Nat.ble E.G.n B) (match Sm A (.uB ks) [c,k,v] with
   |some (u,A1)=>some (A1.put B (some ⟨.jV gu u,a,b,false,d⟩))
   |none=>none) none
  |_,_=>R7 E A t m k v
 |_,_=>none
def S0(E:au)(sq:a0c)(A:AW)(t:xN)(m k:xM):a0q:=
 match E.ti.get none t,m with
 |some ⟨.map kt et,_,_,_,_⟩,.map (some B)=>match iw sq kt,A.get B,yU E et,A.tape with
  |some ks,some ⟨.jV gu c,_,_,_,_⟩,some z,nd::r=>bs (mI ks gu&&nF nd.k (.DF ks)&&r8 nd.args [c,k,z]) (some (nd.res,A.pop r)) none
  |_,_,_,_=>none
 |_,_=>none
theorem OO{ck:Nat}{k v:xM}(h:ck=es.length)(hb:∀(i:Nat) (e:MapEntry),es[i]? =some e->e.born=i):∀(i:Nat) (e:MapEntry),(es++[⟨k,v,ck⟩])[i]? =some e->e.born=i:=fun i e h1=>by
 grind
theorem Gr{es:a0k}{j:Nat}{e0:MapEntry}{k v:xM}(hb:∀(i:Nat) (e:MapEntry),es[i]? =some e->e.born=i)(h0:es[j]? =some e0):∀(i:Nat) (e:MapEntry),(es.set j ⟨k,v,e0.born⟩)[i]? =some e->e.born=i:=fun i e h1=>by
 grind
def TG(E:au)(sq:a0c)(A:AW)(t:xN)(m k:xM):a0q:=
 match E.ti.get none t,m with
 |some ⟨.map kt et,_,_,_,_⟩,.map (some B)=>match iw sq kt,A.get B,yU E et,A.tape with
  |some ks,some ⟨.jV gu c,a,b,false,d⟩,some z,nd::r=>match nd.res with
   | .agg ⟨[y,ia,st]⟩=>bs (mI ks gu&&nF nd.k (.AU ks)&&r8 nd.args [c,k,z]&&eX y&&Nat.ble E.G.n B) (some (.tuple ⟨[ia,st]⟩,(A.pop r).put B (some ⟨.jV gu y,a,b,false,d⟩))) none
   |_=>none
  |_,_,_,_=>none
 |_,_=>none
def TE(E:au)(A:AW)(m s v:xM):Option AW:=
 match m with
 | .map (some B)=>match A.get B with
  |some ⟨.jV ks c,a,b,false,d⟩=>bs (Nat.ble E.G.n B) (match nC A .vY [c,s,v] with
   |some (u,A1)=>some (A1.put B (some ⟨.jV ks u,a,b,false,d⟩))
   |none=>none) none
  |_=>none
 |_=>none
def Qm(E:au)(A:AW)(t:xN)(x lo:xM)(hi:a0e):a0q:=
 match x,E.ti.get none t,A.tape,hi with
 | .iface B (.chan (some (_+1))),some ⟨.slice e,_,_,_,_⟩,nd::r,[h]=>match A.get B,lo,jG E e with
  |some ⟨.own c,es,_,false,ty⟩,.int _ (.ofNat 0),some _=>bs (nF nd.k .HU&&kS nd.args [c,h]&&eX nd.res&&Nat.ble E.G.n B) (match yY (A.pop r) (some B) nd.res es ty with|some A2=>some (.iface A.next nd.res,A2)|none=>none) none
  |_,_,_=>none
 |_,_,_,_=>none
def Qj(E:au)(A:AW)(t:xN)(x lo:xM)(hi:a0e):a0q:=
 match Qm E A t x lo hi with
 |some r=>some r
 |none=>Qk E A t x lo hi
theorem WZ(hb:∀(i:Nat) (e:MapEntry),es[i]? =some e->e.born=i){j:Nat}(hj:j<es.length):(⟨es⟩:a0z).findIdx? (fun e=>(e.born:Int)==Int.ofNat j)=some j:=by
 have:es.findIdx? (fun e=>(e.born:Int)==Int.ofNat j)=some j:=by
  rw[List.findIdx?_eq_some_iff_getElem];refine⟨hj,?_,fun i hi=> ?_⟩
  ·rw[hb j _ (xc hj)];simp
  ·rw[hb i _ (xc (Nat.lt_trans hi hj))];simp;omega
 grind
section
variable(ok:E.Ok P){sq:a0c}(aR:E.Seq P sq)
theorem aF4(inv:Inv w0 E.G β A w)(t:xN):hY w0 E.G β A ((Instr.makeMap t none).run P w) (Bc E sq A t).1 (Bc E sq A t).2:=by
 unfold Bc;split
 ·split
  ·rename_i ks re e dW _;obtain⟨h1,h2⟩:=inv.new ⟨.gM ks (.slice none 0 0) none,re.size,false,false,e⟩ (.map #[] 0) ⟨w.heap.size,0,1,0⟩ rfl ⟨[],0,[],none,rfl,rfl,trivial,⟨rfl,fun i row e h=>by simp at h,fun i j r r' e e' c h=>by simp at h,fun i j r r' h=>by simp at h⟩,rfl,fun i e h=>by simp at h⟩;exact⟨_,.map (some w.heap.size),_,by simp[Instr.makeMap],.map A.next _ (ju _ _ _),h1,h2⟩
  ·rename_i ks dW _;obtain⟨h1,h2⟩:=inv.new ⟨.jV ks (.slice none 0 0),1,true,false,0⟩ (.map #[] 0) ⟨w.heap.size,0,1,0⟩ rfl ⟨[],0,[],rfl,rfl,⟨rfl,fun i row e h=>by simp at h⟩,rfl,fun i e h=>by simp at h⟩;exact⟨_,.map (some w.heap.size),_,by simp[Instr.makeMap],.map A.next _ (ju _ _ _),h1,h2⟩
  ·exact WD inv t
 ·exact WD inv t
theorem ay3:A.next<=(Bc E sq A t).2.next:=by
 unfold Bc;split
 ·split<;>exact Nat.le_succ _
 ·exact Nat.le_succ _
include ok aR in
theorem aU2{k v:xM}(h:R9 E sq A t m k v=some A')(inv:Inv w0 E.G β A w)(hm:aj β m m')(hk:aj β k k')(hv:aj β v v'):∃w',(Instr.mapUpdate t m' k' v').run P w= .ok () w'/\Inv w0 E.G β A' w'/\A.next<=A'.next:=by
 unfold R9 at h;split at h;rotate_left
 ·cases h
 rename_i kt et _ _ _ _ B hr;have hu:=(ok.ti t _ hr).1;split at h;rotate_left
 ·grind [aU1,hk]
 rename_i ks gu c a b d dW hg;replace h:=ax h;rcases h with⟨hb,h⟩|⟨_,h⟩;rotate_left
 ·cases h
 split at h;rotate_left
 ·cases h
 rename_i u A1 eI;cases h;rw[xf] at hb;obtain⟨bY,hG⟩:=hb;have iV:=rM _ _ bY;subst iV;have jd:=xh hG;obtain⟨nd,rt,cu,ht,eJ,dV,fH,rfl,rfl⟩:=aF0 eI;have hq:bP β.d nd:=ok.q _ _ (inv.dJ nd a0D);unfold bP at hq;rw[eJ] at hq;obtain⟨ds,dd,q1,q2,q3⟩:=hq;rw[dV] at q1;rw[fH] at q2;obtain⟨q4,q5⟩:=jv q2;obtain⟨dm,ds1,rfl,e1,q7⟩:=iu q1;obtain⟨dk,dv,rfl,e2,e3⟩:=je q7;cases hm with
 |map _ l hl=>
  obtain⟨es',ck,rows,g1,g2,g3,g4,g5⟩:=inv.cont B _ l hg hl;rw[lD g2] at e1;cases e1;have aF:OL ks (.sl rows) dk dv=some dd:=q3;unfold OL at aF;split at aF;rotate_left
  ·cases aF
  rename_i iy kd iS;cases iS;split at aF;rotate_left
  ·cases aF
  rename_i qN;rw[xf] at qN;obtain⟨iW,iz⟩:=qN;obtain⟨vs,bI⟩:=Option.isSome_iff_exists.1 iW;cases aF;have gJ:=eU e2 hk;cases gJ with
  |agg _ us jO fG=>
  have ig:=AX ks kd vs us bI jO fG;subst ig;have dK:=eU e3 hv;have uK:=WT (E:=E) (sq:=sq) dW bI rows es' 0 g3;have gU:rT E sq kt (.agg ⟨us⟩)=true:=by
   unfold rT;have:jg E sq kt (.agg ⟨us⟩) (.agg ⟨us⟩)=some true:=by
    show(match iw sq kt with|some ks=>eZ ks us us|none=>none)=_;rw[dW];show eZ ks us us=_;rw[AK ks kd kd us us bI bI,yG ks kd us bI]
   rw[this]
  obtain⟨⟨r',f1,f2⟩,f3,f4,f5,f6⟩:=GB (P:=P) ok aR gU (aj.nu (β:=β) (yK β ks kd us bI)) uK (aI9 g3) w;have jr:(getObj l.b).run P w= .ok (.map ⟨es'⟩ ck) w:=by simp[getObj,Sem.run,g1]
  have bk:l.b<w.heap.size:=(Array.getElem?_eq_some_iff.1 g1).1;have fin:∀(es2:a0k) (ck2:Nat),pG β.z ks (tP kd dv rows) es2->ck2=es2.length->(∀(i:Nat) (e:MapEntry),es2[i]? =some e->e.born=i)->(setObj l.b (.map ⟨es2⟩ ck2)).run P w= .ok () {w with heap:=w.heap.setIfInBounds l.b (.map ⟨es2⟩ ck2)}/\Inv w0 E.G β ((A.pop rt).put B (some ⟨.jV ks (.chan (some (cu+1))),a,b,false,d⟩)) {w with heap:=w.heap.setIfInBounds l.b (.map ⟨es2⟩ ck2)}:=fun es2 ck2 fU bF bM=>by
   refine⟨by simp[setObj,Sem.run,g1],?_⟩;have i2:=inv.pop (r:=rt) (fun x hx=>a0D);refine i2.write B l _ _ hg hl jd ⟨rfl,rfl,rfl,a0C,fun k hk bq=> ?_⟩ a0C ?_
   ·grind
   ·show gb β l _ ((w.heap.setIfInBounds l.b _)[l.b]?);rw[Array.getElem?_setIfInBounds_self_of_lt bk];exact⟨es2,ck2,_,rfl,by show(β.d cu).bind _=_;rw[q4];rfl,fU,bF,bM⟩
  cases dX:cY kd rows with
  |none=>
   rw[dX] at f2;have cz:r'=none:=by
    rcases f2 with⟨_,e⟩|⟨_,_,_,e,_⟩
    ·exact e
    ·cases e
   subst cz;have x8:=W5 (v:=dv) dX;obtain⟨aM,bZ⟩:=fin (es'++[⟨.agg ⟨us⟩,v',ck⟩]) (ck+1) (by
    rw[x8];refine⟨by simp[g3.1],fun i row e h1 h2=> ?_⟩;by_cases hi:i<rows.length
    ·rw[xw hi] at h1;rw[xw (by rw[<-g3.1];exact hi)] at h2;exact g3.2 i row e h1 h2
    ·rw[xq a0B] at h1;rw[xq (by rw[<-g3.1];omega),<-g3.1] at h2
     grind) (by simp[g4]) (OO g4 g5)
   refine⟨_,?_,bZ,xk _⟩;have Ei:(⟨es'⟩:a0z).push ⟨.agg ⟨us⟩,v',ck⟩=⟨es'++[⟨.agg ⟨us⟩,v',ck⟩]⟩:=by apply Array.ext';simp
   simp only [Instr.mapUpdate,Sem.run_bind,run_underlying hu,jr,f3,f1,Result.andThen_ok]
   grind
  |some j0=>
   rw[dX] at f2;obtain⟨x8,j5⟩:=OP (v:=dv) dX;have cz:∃v1,r'=some (j0,v1):=by
    rcases f2 with⟨e,_⟩|⟨j1,v1,sj,e,e2,_⟩
    ·cases e
    ·grind
   obtain⟨sj,rfl⟩:=cz;have fV:j0<es'.length:=by rw[<-g3.1];exact j5
   have bT:es'[j0]? =some es'[j0]:=xc fV;obtain⟨Ma,gR,_,qh⟩:=AH dX;obtain⟨yn,vf,d0,eB,o6,qb,_,_⟩:=g3.2 j0 _ _ gR bT;have vo:us=vf:=by
    rw[eB] at qh;exact(Kp ks kd yn us vf bI o6 qh).2
   subst vo;obtain⟨aM,bZ⟩:=fin (es'.set j0 ⟨.agg ⟨us⟩,v',es'[j0].born⟩) ck (by
    rw[x8];refine⟨by simp[g3.1],fun i row e h1 h2=> ?_⟩;rw[List.getElem?_set] at h1 h2;by_cases hi:j0=i
    ·grind
    ·rw[if_neg hi] at h1 h2;exact g3.2 i row e h1 h2) (by simp[g4]) (Gr g5 bT)
   refine⟨_,?_,bZ,xk _⟩;have wJ:=Dd bT (fun e=>{e with key:= .agg ⟨us⟩,val:=v'});have B8:(Instr.keyThatStays ((((⟨es'⟩:a0z)[j0]?).map (·.key)).getD (.agg ⟨us⟩)) (.agg ⟨us⟩)).run P w= .ok (.agg ⟨us⟩) w:=by
    have:(((⟨es'⟩:a0z)[j0]?).map (·.key)).getD (.agg ⟨us⟩)= .agg ⟨us⟩:=by simp[bT,qb]
    rw[this];simp[Instr.keyThatStays,f5]
   simp only [Instr.mapUpdate,Sem.run_bind,run_underlying hu,jr,f3,f1,Result.andThen_ok,B8]
   grind
include ok aR in
theorem Xu{et:xN}(hu:P.underlying t=some (.map kt et))(dW:iw sq kt=some ks){z v:xM}(hz:yU E et=some z){dz:D}(e3:bR β.d z=some dz){l:Loc}{es':a0k}{ck:Nat}(g1:w.heap[l.b]? =some (.map ⟨es'⟩ ck))(g3:pG β.z ks rows es')
 {kd:a0d} {us:a0e} (bI:fC ks kd=some us) (q2:iA β.d v=some ((nI kd rows).getD dz)):∃v',(Instr.lookup t (.map (some l.b)) (.agg ⟨us⟩) false).run P w= .ok v' w/\aj β v v':=by
 have uK:=WU (E:=E) (sq:=sq) dW bI rows es' 0 g3;have gU:rT E sq kt (.agg ⟨us⟩)=true:=by
  unfold rT;have:jg E sq kt (.agg ⟨us⟩) (.agg ⟨us⟩)=some true:=by
   show(match iw sq kt with|some ks=>eZ ks us us|none=>none)=_;rw[dW];show eZ ks us us=_;rw[AK ks kd kd us us bI bI,yG ks kd us bI]
  rw[this]
 obtain⟨⟨r',f1,f2⟩,f3,f4,f5,f6⟩:=GB (P:=P) ok aR gU (aj.nu (β:=EG β rows) (yK _ ks kd us bI)) uK (XT g3) w;have jr:(getObj l.b).run P w= .ok (.map ⟨es'⟩ ck) w:=by simp[getObj,Sem.run,g1]
 cases dX:cY kd rows with
 |none=>
  rw[dX] at f2;have cz:r'=none:=by
   rcases f2 with⟨_,e⟩|⟨_,_,_,e,_⟩
   ·exact e
   ·cases e
  subst cz;rw[JJ dX] at q2;obtain⟨z',jz,eP⟩:=J4 (P:=P) ok hz w;refine⟨z',?_,vS q2 (eU e3 (eP β))⟩;simp[Instr.lookup,run_underlying hu,f3,f1,jz,getObj,Sem.run,g1]
 |some j0=>
  rw[dX] at f2;obtain⟨Ma,gR,lJ,qh⟩:=AH dX;have cz:∃v1,r'=some (j0,v1)/\aj (EG β rows) (.chan (some (j0+1))) v1:=by
   rcases f2 with⟨e,_⟩|⟨j1,v1,sj,e,e2,e5⟩
   ·cases e
   ·grind
  obtain⟨sj,rfl,mq⟩:=cz;have gA:∃d,Ma[1]? =some d/\Rd β.z d sj:=by
   cases mq with
   |sym _ d _ hd hc hr=>
    have kK:(rows[j0]?.bind fun r=>r[1]?)=some d:=hd;rw[gR] at kK;exact⟨d,kK,hr⟩
  obtain⟨d1,ly,eB⟩:=gA;rw[lJ,ly] at q2;refine⟨sj,?_,vS q2 eB⟩;simp[Instr.lookup,run_underlying hu,f3,f1,getObj,Sem.run,g1]
include ok aR in
theorem ba4{k v:xM}(h:S0 E sq A t m k=some (v,A'))(inv:Inv w0 E.G β A w)(hm:aj β m m')(hk:aj β k k'):∃v',(Instr.lookup t m' k' false).run P w= .ok v' w/\aj β v v'/\Inv w0 E.G β A' w/\A.next<=A'.next:=by
 unfold S0 at h;split at h;rotate_left
 ·cases h
 rename_i kt et _ _ _ _ B hr;have hu:=(ok.ti t _ hr).1;split at h;rotate_left
 ·cases h
 rename_i ks gu c a b d ty z nd r dW hg hz ht;replace h:=ax h;rcases h with⟨hb,h⟩|⟨_,h⟩;rotate_left
 ·cases h
 cases h;simp only [xf] at hb;obtain⟨⟨b1,b2⟩,b3⟩:=hb;have iV:=rM _ _ b1;subst iV;have eJ:=ph b2;have dV:=sM _ _ b3;have hq:bP β.d nd:=ok.q _ _ (inv.dJ nd a0D);unfold bP at hq;rw[eJ] at hq;obtain⟨ds,dd,q1,q2,q3⟩:=hq;rw[dV] at q1;obtain⟨dm,ds1,rfl,e1,q7⟩:=iu q1;obtain⟨dk,dz,rfl,e2,e3⟩:=je q7;have i2:=inv.pop (r:=r) (fun x hx=>a0D);cases hm with
 |map _ l hl=>
  obtain⟨es',ck,rows,g1,g2,g3,g4,g5⟩:=inv.cont B _ l hg hl;rw[lD g2] at e1;cases e1;have aF:Gc ks (.sl rows) dk dz=some dd:=q3;unfold Gc at aF;split at aF;rotate_left
  ·cases aF
  rename_i iy kd iS;cases iS;split at aF;rotate_left
  ·cases aF
  rename_i iW;obtain⟨vs,bI⟩:=Option.isSome_iff_exists.1 iW;cases aF;have gJ:=eU e2 hk;cases gJ with
  |agg _ us jO fG=>
  have ig:=AX ks kd vs us bI jO fG;subst ig;obtain⟨v',h1,h2⟩:=Xu (P:=P) ok aR hu dW hz e3 g1 g3 bI q2;exact⟨v',h1,h2,i2,xk _⟩
include ok aR in
theorem bb9{k v:xM}(h:TG E sq A t m k=some (v,A'))(inv:Inv w0 E.G β A w)(hm:aj β m m')(hk:aj β k k'):∃v' w',(Instr.mapEntry t m' k').run P w= .ok v' w'/\aj β v v'/\Inv w0 E.G β A' w'/\A.next<=A'.next:=by
 unfold TG at h;split at h;rotate_left
 ·cases h
 rename_i kt et _ _ _ _ B hr;have hu:=(ok.ti t _ hr).1;split at h;rotate_left
 ·cases h
 rename_i ks gu c a b d z nd rt dW hg hz ht;split at h;rotate_left
 ·cases h
 rename_i y ia st fH;replace h:=ax h;rcases h with⟨hb,h⟩|⟨_,h⟩;rotate_left
 ·cases h
 cases h;simp only [xf] at hb;obtain⟨⟨⟨⟨b1,b2⟩,b3⟩,b4⟩,b5⟩:=hb;have iV:=rM _ _ b1;subst iV;have eJ:=ph b2;have dV:=sM _ _ b3;have jd:=xh b5;have hq:bP β.d nd:=ok.q _ _ (inv.dJ nd a0D);unfold bP at hq;rw[eJ] at hq;obtain⟨ds,dd,q1,q2,q3⟩:=hq;rw[dV] at q1;rw[fH] at q2;obtain⟨dm,ds1,rfl,e1,q7⟩:=iu q1;obtain⟨dk,dz,rfl,e2,e3⟩:=je q7;cases hm with
 |map _ l hl=>
  obtain⟨es',ck,rows,g1,g2,g3,g4,g5⟩:=inv.cont B _ l hg hl;rw[lD g2] at e1;cases e1;have aF:Om ks (.sl rows) dk dz=some dd:=q3;unfold Om at aF;split at aF;rotate_left
  ·cases aF
  rename_i iy kd iS;cases iS;split at aF;rotate_left
  ·cases aF
  rename_i qN;rw[xf] at qN;obtain⟨iW,iz⟩:=qN;obtain⟨vs,bI⟩:=Option.isSome_iff_exists.1 iW;cases aF;obtain⟨NJ,wQ,wP⟩:=xp.1 (show(aI (eH β.d) [y,ia,st]).map D.agg=_ from q2);cases wP;obtain⟨dy,DL,BB,r1,r2⟩:=iu wQ;obtain⟨rfl,rfl⟩:=List.cons.inj BB;obtain⟨do',dst,bj8,r3,r4⟩:=je r2;obtain⟨rfl,bj7⟩:=List.cons.inj bj8;obtain⟨rfl,_⟩:=List.cons.inj bj7;obtain⟨cy,rfl⟩:=qz b4;obtain⟨r5,r6⟩:=jv (show iA β.d (.chan (some (cy+1)))=_ from r1);have gJ:=eU e2 hk;cases gJ with
  |agg _ us jO fG=>
  have ig:=AX ks kd vs us bI jO fG;subst ig;have uK:=WU (E:=E) (sq:=sq) dW bI rows es' 0 g3;have gU:rT E sq kt (.agg ⟨us⟩)=true:=by
   unfold rT;have:jg E sq kt (.agg ⟨us⟩) (.agg ⟨us⟩)=some true:=by
    show(match iw sq kt with|some ks=>eZ ks us us|none=>none)=_;rw[dW];show eZ ks us us=_;rw[AK ks kd kd us us bI bI,yG ks kd us bI]
   rw[this]
  obtain⟨⟨r',f1,f2⟩,f3,f4,f5,f6⟩:=GB (P:=P) ok aR gU (aj.nu (β:=EG β rows) (yK _ ks kd us bI)) uK (XT g3) w;have jr:(getObj l.b).run P w= .ok (.map ⟨es'⟩ ck) w:=by simp[getObj,Sem.run,g1]
  have bk:l.b<w.heap.size:=(Array.getElem?_eq_some_iff.1 g1).1;have fin:∀(es2:a0k) (ck2:Nat) (dZ:a0b),aZ β.d (.chan (some (cy+1)))=some (.sl dZ)->pG β.z ks dZ es2->ck2=es2.length->(∀(i:Nat) (e:MapEntry),es2[i]? =some e->e.born=i)->(setObj l.b (.map ⟨es2⟩ ck2)).run P w= .ok () {w with heap:=w.heap.setIfInBounds l.b (.map ⟨es2⟩ ck2)}/\Inv w0 E.G β ((A.pop rt).put B (some ⟨.jV ks (.chan (some (cy+1))),a,b,false,d⟩)) {w with heap:=w.heap.setIfInBounds l.b (.map ⟨es2⟩ ck2)}:=fun es2 ck2 dZ dY fU bF bM=>by
   refine⟨by simp[setObj,Sem.run,g1],?_⟩;have i2:=inv.pop (r:=rt) (fun x hx=>a0D);refine i2.write B l _ _ hg hl jd ⟨rfl,rfl,rfl,a0C,fun k hk bq=> ?_⟩ a0C ?_
   ·grind
   ·show gb β l _ ((w.heap.setIfInBounds l.b _)[l.b]?);rw[Array.getElem?_setIfInBounds_self_of_lt bk];exact⟨es2,ck2,dZ,rfl,dY,fU,bF,bM⟩
  have pU:∀dZ,β.d cy=some (.sl dZ)->aZ β.d (.chan (some (cy+1)))=some (.sl dZ):=fun dZ hh=>by
   show(β.d cy).bind _=_;rw[hh];rfl
  cases dX:cY kd rows with
  |none=>
   rw[dX] at f2;have cz:r'=none:=by
    rcases f2 with⟨_,e⟩|⟨_,_,_,e,_⟩
    ·exact e
    ·cases e
   subst cz;obtain⟨z',jz,eP⟩:=J4 (P:=P) ok hz w;have hzr:=eU e3 (eP β);have z6:eH β.d ia=some dz:=by rw[r3,JJ dX];rfl
   have T7:eH β.d st=some (.int .i64 (rows.length:Nat)):=by rw[r4,dX];rfl
   have T6:β.d cy=some (.sl (rows++[[.agg kd,dz]])):=by rw[r5,dX];rfl
   obtain⟨aM,bZ⟩:=fin (es'++[⟨.agg ⟨us⟩,z',ck⟩]) (ck+1) _ (pU _ T6) (by
    refine⟨by simp[g3.1],fun i row e h1 h2=> ?_⟩;by_cases hi:i<rows.length
    ·rw[xw hi] at h1;rw[xw (by rw[<-g3.1];exact hi)] at h2;exact g3.2 i row e h1 h2
    ·rw[xq a0B] at h1;rw[xq (by rw[<-g3.1];omega),<-g3.1] at h2
     grind) (by simp[g4]) (OO g4 g5)
   have SU:ck=rows.length:=by rw[g4,g3.1]
   refine⟨.tuple #[z',goInt ck],_,?_,aj.sK ((aX.nil β).cons (by rw[SU];exact rL T7 (.int _ _))|>.cons (rL z6 hzr)),bZ,xk _⟩;have Ei:(⟨es'⟩:a0z).push ⟨.agg ⟨us⟩,z',ck⟩=⟨es'++[⟨.agg ⟨us⟩,z',ck⟩]⟩:=by apply Array.ext';simp
   simp only [Instr.mapEntry,Sem.run_bind,run_underlying hu,jr,f3,f1,Result.andThen_ok,jz];rw[Ei,aM];rfl
  |some j0=>
   rw[dX] at f2;obtain⟨_,j5⟩:=OP (v:=dz) dX;obtain⟨Ma,gR,lJ,qh⟩:=AH dX;have cz:∃v1,r'=some (j0,v1)/\aj (EG β rows) (.chan (some (j0+1))) v1:=by
    rcases f2 with⟨e,_⟩|⟨j1,v1,sj,e,e2,e5⟩
    ·cases e
    ·grind
   obtain⟨sj,rfl,mq⟩:=cz;have gA:∃d,Ma[1]? =some d/\Rd β.z d sj:=by
    cases mq with
    |sym _ d _ hd hc hr=>
     have kK:(rows[j0]?.bind fun r=>r[1]?)=some d:=hd;rw[gR] at kK;exact⟨d,kK,hr⟩
   obtain⟨d1,ly,eB⟩:=gA;have fV:j0<es'.length:=by rw[<-g3.1];exact j5
   have bT:es'[j0]? =some es'[j0]:=xc fV;obtain⟨yn,vf,d0,bu,o6,qb,CP,o3⟩:=g3.2 j0 _ _ gR bT;have vo:us=vf:=by
    rw[bu] at qh;exact(Kp ks kd yn us vf bI o6 qh).2
   subst vo;have z6:eH β.d ia=some d1:=by rw[r3,lJ,ly];rfl
   have T7:eH β.d st=some (.int .i64 (j0:Nat)):=by rw[r4,dX];rfl
   have T6:β.d cy=some (.sl rows):=by rw[r5,dX];rfl
   obtain⟨aM,bZ⟩:=fin (es'.set j0 ⟨.agg ⟨us⟩,es'[j0].val,es'[j0].born⟩) ck _ (pU _ T6) (by
    refine⟨by simp[g3.1],fun i row e h1 h2=> ?_⟩;rw[List.getElem?_set] at h2;by_cases hi:j0=i
    ·grind
    ·rw[if_neg hi] at h2;exact g3.2 i row e h1 h2) (by simp[g4]) (Gr g5 bT)
   have UM:=g5 j0 _ bT;refine⟨.tuple #[sj,goInt j0],_,?_,aj.sK ((aX.nil β).cons (rL T7 (.int _ _))|>.cons (rL z6 eB)),bZ,xk _⟩;have wJ:=Dd bT (fun e=>{e with key:= .agg ⟨us⟩});have B8:(Instr.keyThatStays ((((⟨es'⟩:a0z)[j0]?).map (·.key)).getD (.agg ⟨us⟩)) (.agg ⟨us⟩)).run P w= .ok (.agg ⟨us⟩) w:=by
    have:(((⟨es'⟩:a0z)[j0]?).map (·.key)).getD (.agg ⟨us⟩)= .agg ⟨us⟩:=by simp[bT,qb]
    rw[this];simp[Instr.keyThatStays,f5]
   have Ao:(((⟨es'⟩:a0z)[j0]?).map (fun x=>(x.born:Int))).getD 0=(j0:Int):=by simp[bT,UM]
   simp only [Instr.mapEntry,Sem.run_bind,run_underlying hu,jr,f3,f1,Result.andThen_ok,B8,Ao]
   simp_all
include ok in
theorem bb7{s s' v:xM}(h:TE E A m s v=some A')(inv:Inv w0 E.G β A w)(hm:aj β m m')(hs:aj β s s')(hv:aj β v v'):∃w',(Instr.entryStore t m' s' v').run P w= .ok () w'/\Inv w0 E.G β A' w'/\A.next<=A'.next:=by
 unfold TE at h;split at h;rotate_left
 ·cases h
 rename_i B;split at h;rotate_left
 ·cases h
 rename_i ks c a b d hg;replace h:=ax h;rcases h with⟨hG,h⟩|⟨_,h⟩;rotate_left
 ·cases h
 split at h;rotate_left
 ·cases h
 rename_i u A1 eI;cases h;have jd:=xh hG;obtain⟨nd,rt,cu,ht,eJ,dV,fH,rfl,rfl⟩:=nW eI;have hq:bP β.d nd:=ok.q _ _ (inv.dJ nd a0D);unfold bP at hq;rw[eJ] at hq;obtain⟨ds,dd,q1,q2,q3⟩:=hq;rw[dV] at q1;rw[fH] at q2;obtain⟨q4,q5⟩:=jv q2;obtain⟨dm,ds1,rfl,e1,q7⟩:=iu q1;obtain⟨dk,dv,rfl,e2,e3⟩:=je q7;cases hm with
 |map _ l hl=>
  obtain⟨es',ck,rows,g1,g2,g3,g4,g5⟩:=inv.cont B _ l hg hl;rw[lD g2] at e1;cases e1;have aF:Gb (.sl rows) dk dv=some dd:=q3;unfold Gb at aF;split at aF;rotate_left
  ·cases aF
  rename_i iy j0 iS;cases iS;split at aF;rotate_left
  ·cases aF
  rename_i kd od gR;split at aF;rotate_left
  ·cases aF
  rename_i iz;cases aF;have cL:=eU e2 hs;cases cL;have dK:=eU e3 hv;have j5:j0<rows.length:=(xe.1 gR).1;have fV:j0<es'.length:=by rw[<-g3.1];exact j5
  have bT:es'[j0]? =some es'[j0]:=xc fV;obtain⟨yn,vf,d0,bu,o6,qb,CP,o3⟩:=g3.2 j0 _ _ gR bT;cases bu;have jr:(getObj l.b).run P w= .ok (.map ⟨es'⟩ ck) w:=by simp[getObj,Sem.run,g1]
  have bk:l.b<w.heap.size:=(Array.getElem?_eq_some_iff.1 g1).1;have wJ:=Dd bT (fun e=>{e with val:=v'});have EQ:=WZ g5 fV;have i2:=inv.pop (r:=rt) (fun x hx=>a0D);refine⟨{w with heap:=w.heap.setIfInBounds l.b (.map ⟨es'.set j0 ⟨es'[j0].key,v',es'[j0].born⟩⟩ ck)},?_,i2.write B l _ _ hg hl jd ⟨rfl,rfl,rfl,a0C,fun k hk bq=> ?_⟩ a0C ?_,xk _⟩
  ·simp only [Instr.entryStore,Sem.run_bind,jr,Result.andThen_ok,asInt,asIntOf,Sem.run_pure,EQ]
   grind [setObj,Sem.run]
  ·grind
  ·show gb β l _ ((w.heap.setIfInBounds l.b _)[l.b]?);rw[Array.getElem?_setIfInBounds_self_of_lt bk];refine⟨_,ck,_,rfl,by show(β.d cu).bind _=_;rw[q4];rfl,⟨by simp[g3.1],fun i row e h1 h2=> ?_⟩,by simp[g4],Gr g5 bT⟩;rw[List.getElem?_set] at h1 h2;by_cases hi:j0=i
   ·grind
   ·rw[if_neg hi] at h1 h2;exact g3.2 i row e h1 h2
include ok in
theorem aA3(hf:bU β n g a.tmps){x:Operand}{u:xM}(h:Qm E A t (ev E g x) (qm E g lo) (rz E g hi)=some (u,A'))(inv:Inv w0 E.G β A w):
 ∃β' v',(Instr.sliceAt t (a.eval x) (lo.map a.eval) (hi.map a.eval) none).run P w= .ok v' w/\aj β' u v'/\Inv w0 E.G β' A' w/\β.grow β' A.next/\A.next<=A'.next:=by
 have E1:=j7 (a:=a) inv hf;unfold Qm at h;split at h;rotate_left
 ·cases h
 rename_i B c0 e _ _ _ _ nd r hv hxv hr ht hhv;split at h;rotate_left
 ·cases h
 rename_i c es ex ty k0 sz hg bF7 aS;rcases ax h with⟨hb,h⟩|⟨_,h⟩;rotate_left
 ·cases h
 split at h;rotate_left
 ·cases h
 rename_i A2 jj;cases h;simp only [xf] at hb;obtain⟨⟨⟨b1,b2⟩,b3⟩,b4⟩:=hb;have jd:=xh b4;have hu:=(ok.ti t _ hr).1;obtain⟨cu,hcu⟩:=qz b3;have Mt:(lo.map a.eval=some (.int k0 (.ofNat 0)))\/(lo.map a.eval=none/\(0:Nat)=0):=by
  cases lo with
  |none=>grind
  |some y=>
   have h1:=E1 y;rw[show ev E g y= .int k0 (.ofNat 0) from bF7] at h1;generalize hq:a.eval y=y' at h1;cases h1
   grind
 obtain⟨ek,rfl,bG9⟩:∃ek,hi=some ek/\ev E g ek=hv:=by
  cases hi with
  |none=>cases hhv
  |some y=>exact⟨y,rfl,(List.cons.inj hhv).1⟩
 have hq:bP β.d nd:=ok.q _ _ (inv.dJ nd a0D);unfold bP at hq;rw[ph b1,mB _ _ b2,hcu] at hq;obtain⟨ds,d,q1,q2,q3⟩:=hq;obtain⟨q4,q5⟩:=jv q2;obtain⟨dc,dh,rfl,e1,e2⟩:=je q1;obtain⟨rows,o1,o2⟩:=inv.own B _ hg;rw[lD o1] at e1;cases e1;have aF:P4 (.sl rows) dh=some d:=q3;unfold P4 at aF;split at aF;rotate_left
 ·cases aF
 rename_i Hq kh m iS;cases iS;split at aF;rotate_left
 ·cases aF
 rename_i hm;cases aF;rw[<-bG9] at e2;have hhr:=eU e2 (E1 ek);have hx:=E1 x;rw[hxv] at hx;generalize Ni:a.eval x=xv at hx;generalize hhe:a.eval ek=dK at hhr;cases hhr;have i2:=inv.pop (r:=r) (fun x hx=>a0D);have ik:=i2.kill B;unfold yY at jj;simp only [Fu] at jj;split at jj;rotate_left
 ·cases jj
 rename_i Vg Ve Vc TZ jc;cases jj;rw[hcu] at*;have pQ:β.o A.next=none:=by
  cases hq:β.o A.next with
  |none=>rfl
  |some v=>have:=inv.iB _ _ hq;omega
 unfold jG at aS;split at aS<;>cases aS
 rename_i re dU;have am0:(some m:a0r)=none/\(Option.map a.eval (some ek))=none\/∃k',(some m:a0r)=some m/\(Option.map a.eval (some ek))=some (.int k' (.ofNat m)):= .inr ⟨kh,rfl,a0D⟩;cases hx with
 |own _ _ iy a0 cz9 ho ha hd=>
  rcases o2 with⟨iS,bB8⟩|⟨l,cap,hl,oo,bC0,bB9,oes⟩
  ·rw[bB8] at ho;cases iS;have jo:=xC ho;injection jo with w1 w2 w3;subst w1;have kp:m=0:=by simpa using hm
   subst kp;have fG:iy=[]:=xE.1 w2.symm;subst fG;subst w3;obtain⟨m',aM,mZ,fU⟩:=Cs (P:=P) (len:=0) (cap:=0) (a:=0) (b:=0) (xk _) (xk _) (xk _) rfl Mt am0 true w;obtain rfl:m'=0:=a0B
   replace aM:(Instr.sliceBounds true 0 0 (lo.map a.eval) (some (a.eval ek)) none).run P w= .ok (0,0,0) w:=aM;have hr:=ik.Ke ⟨.cells [],es,false,false,ty⟩;have Ao:β A.next=none:=by
    cases hc:β A.next with
    |none=>rfl
    |some l=>exact absurd (inv.fI _ l hc) (Nat.lt_irrefl _)
   have rA:=hr.relabel (B:=A.next) (blk':=⟨.own (.chan (some (cu+1))),es,false,false,ty⟩) (v:= .slice none 0 0) jc (Nat.lt_succ_self _) pQ rfl (fun l hl=>a0D)
    ⟨[],(by show(β.d cu).bind _=_;rw[q4];rfl),.inl ⟨rfl,by show(if A.next=A.next then _ else _)=_;grind⟩⟩
   refine⟨_,.slice none 0 0,?_,?_,rA,af.AE β A.next _,Nat.le_succ _⟩
   ·simp[Instr.sliceAt,run_underlying hu,Instr.slice,aM,dL ok dU]
   ·exact aj.own (β:=β.lI A.next (.slice none 0 0)) A.next cu [] none 0 (by show(if A.next=A.next then _ else _)=_;grind) (.inl ⟨rfl,rfl⟩) q4
  ·rw[oo] at ho;have jo:=xC ho;injection jo with w1 w2 w3;subst w1;subst w3;rw[<-w2];obtain⟨m',aM,mZ,fU⟩:=Cs (P:=P) (len:=rows.length) (cap:=cap) (a:=0) (b:=m) (xL _) hm bC0 rfl Mt am0 true w;replace aM:(Instr.sliceBounds true rows.length cap (lo.map a.eval) (some (a.eval ek)) none).run P w= .ok (0,m,m') w:=aM;obtain⟨aB,bs0,c1,c2,c3,c4,c5,c6,c7⟩:=inv.cont B _ l hg hl;have c3':aZ β.d c=some (.sl bs0):=c3;rw[o1] at c3';cases c3';have Ug:β.z l.b=none:=inv.sep B l _ jd hl hg rfl;obtain⟨RB,RA⟩:=inv.loc B l hl;have jA:∀C lc,β C=some lc->lc.b=l.b->((A.pop r).put B none).get C=none:=fun C lc hC eE=>by
    rcases(A.pop r).gk B none C with⟨e1,_⟩|⟨e1,_⟩|⟨e1,bq⟩
    ·exact e1
    ·exact e1
    ·rw[e1];cases Nt:(A.pop r).get C with
     |none=>rfl
     |some kk=>exact absurd (inv.inj C B lc l hC hl eE (by rw[show A.get C=some kk from Nt];rfl) (by rw[hg];rfl)) bq
   have Sp:l.es=es:=oes;obtain⟨vG,oE⟩:=Inv.R4 (E:=E) ik (w':=w) ⟨l.b,l.d,es,l.sz⟩ ⟨.cells [],es,false,false,ty⟩ RB (RA.resolve_left (Nat.not_lt.2 jd)) Ug (show β.y l.b=none from inv.GM hl (by rw[hg];rfl)) jA ⟨rfl,rfl,rfl,xk _,fun _ _ _=>rfl⟩ rfl (by
    show∃wU e2 fz,w.heap[l.b]? =_/\_
    grind)
   have hN:((A.pop r).put B none).next=A.next:=rfl;rw[hN] at vG oE;have fR:∀(v:xM),aZ ((β.put A.next ⟨l.b,l.d,es,l.sz⟩).lI A.next v).d (.chan (some (cu+1)))=some (.sl (rows.take m)):=fun v=>by
    show(β.d cu).bind _=_;rw[q4];rfl
   have bk:(rows.take m).length=m:=by rw[xz];omega
   have hmm:m*es<=rows.length*es:=xD _ hm;have I8:m'*es<=cap*es:=xD _ fU;have cb8:l.d+cap*es<=l.sz:=by rw[<-Sp];exact bB9
   have c6':l.d+rows.length*es<=l.sz:=by rw[<-Sp];exact c6
   have rA:=vG.relabel (B:=A.next) (blk':=⟨.own (.chan (some (cu+1))),es,false,false,ty⟩) (v:= .slice (some ⟨l.b,l.d,none⟩) (rows.take m).length m') jc (Nat.lt_succ_self _) (by show β.o A.next=none;exact pQ) rfl (fun l2 aW=>by
    rw[show(β.put A.next ⟨l.b,l.d,es,l.sz⟩) A.next=some ⟨l.b,l.d,es,l.sz⟩ from ju _ _ _] at aW;cases aW;refine⟨aB,rows.take m,c1,c2,fR _,rfl,fun row hr=> ?_,?_,fun i row j d hi hj=> ?_⟩
    ·grind
    ·grind
    ·have fW:rows[i]? =some row:=by
      rw[List.getElem?_take] at hi;split at hi
      ·exact hi
      ·cases hi
     have:=c7 i row j d fW hj;rw[Sp] at this;exact this) ⟨rows.take m,fR _,.inr ⟨⟨l.b,l.d,es,l.sz⟩,m',ju _ _ _,by show(if A.next=A.next then _ else _)=_;grind,a0D,a0D,rfl⟩⟩
   refine⟨_,.slice (some ⟨l.b,l.d,none⟩) m m',?_,?_,rA,af.iP oE (af.AE _ A.next _) (xk _),Nat.le_succ _⟩
   ·simp[Instr.sliceAt,run_underlying hu,Instr.slice,aM,dL ok dU,Addr.add]
   ·have:=aj.own (β:=(β.put A.next ⟨l.b,l.d,es,l.sz⟩).lI A.next (.slice (some ⟨l.b,l.d,none⟩) (rows.take m).length m')) A.next cu (rows.take m) (some ⟨l.b,l.d,none⟩) m' (by show(if A.next=A.next then _ else _)=_;grind) (.inr ⟨⟨l.b,l.d,es,l.sz⟩,ju _ _ _,rfl⟩) q4
    grind
include ok in
theorem aV0(hf:bU β n g a.tmps){x:Operand}{u:xM}(h:Qj E A t (ev E g x) (qm E g lo) (rz E g hi)=some (u,A'))(inv:Inv w0 E.G β A w):
 ∃β' v',(Instr.sliceAt t (a.eval x) (lo.map a.eval) (hi.map a.eval) none).run P w= .ok v' w/\aj β' u v'/\Inv w0 E.G β' A' w/\β.grow β' A.next/\A.next<=A'.next:=by
 grind [Qj,aA3,aV1]
end
end
end Go.Ex
