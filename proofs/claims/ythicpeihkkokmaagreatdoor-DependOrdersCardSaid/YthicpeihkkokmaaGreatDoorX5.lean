/- A verified evaluator of Go functions. -/
import Derived.Test.YthicpeihkkokmaaGreatDoorX4
import Derived.Lib.MakeNoZero
set_option linter.unusedVariables false
set_option linter.unusedSimpArgs false
namespace Go.Ex
variable{β:ai}{rows:Ca}{es:FP}{E:az}{kt t:xN}{z:GU}{P:Program}{w0 w:World}{A A':AW}{m m' k' v':xM}{k:Di}{n:Nat}{g:Gt}{a:Act}{lo hi:Option Operand}{ks:JI}{vs:C3}
open Go.RowKit
noncomputable section
def JM(A:AW):xM×AW:=(.map (some A.next),A.add ⟨.maps (.slice none 0 0),1,true,false,0⟩)
def QY(E:az)(A:AW)(t:xN)(m k v:xM):Option AW:=
 match E.ti.get none t,m with
 |some ⟨.map kt _,_,_,_,_⟩,.map (some B)=>match E.ti.get none kt,A.get B with
  |some ⟨.string,_,_,_,_⟩,some ⟨.maps c,a,b,false,d⟩=>bs (Nat.ble E.G.n B) (match nJ A .C6 [c,k,v] with
   |some (u,A1)=>some (A1.put B (some ⟨.maps u,a,b,false,d⟩))
   |none=>none) none
  |_,_=>none
 |_,_=>none
def r8(s:EH):List (List D)->Option Nat|[]=>none|row::t=>if Qm s row then some 0 else(r8 s t).map (· +1)
theorem VL{s:EH}{v:D}:∀{rows:Ca},r8 s rows=none->um s v rows=rows++[[.str s,v]]
 |[],_=>rfl
 |row::t,h=>by
  unfold r8 at h;unfold um;split at h
  ·cases h
  ·rename_i hk;rw[if_neg hk,VL (by simpa using h)];rfl
theorem VK{s:EH}{v:D}:∀{rows:Ca} {i:Nat},r8 s rows=some i->um s v rows=rows.set i [.str s,v]/\i<rows.length
 |[],i,h=>by cases h
 |row::t,i,h=>by
  unfold r8 at h;unfold um;split at h
  ·grind
  ·rename_i hk;obtain⟨j,hj,rfl⟩:=xp.1 h;obtain⟨e1,e2⟩:=VK (v:=v) hj
   grind
def sG(es:FP):FP:=es.map fun e=>⟨e.key,J,e.born⟩
theorem aK5(h:vW β.z rows es):il β (sG es) es:=by
 refine⟨by simp[sG],fun i e e' h1 h2=> ?_⟩;unfold sG at h1;rw[xx,h2] at h1;cases h1;have hi:i<rows.length:=by rw[h.1];exact(xe.1 h2).1
 obtain⟨s,d,_,hk,_⟩:=h.2 i _ e' (xc hi) h2;exact⟨rfl,by show aj β e'.key e'.key;rw[hk];exact .string _,.jT _⟩
theorem Wl{a1 a2 a3 a4}(hr:E.ti.get none kt=some ⟨.string,a1,a2,a3,a4⟩)(s:EH):∀(rows:Ca) (es:FP) (i:Nat),vW z rows es->
 pK E [] kt (.string ⟨⟨s⟩⟩) (sG es) i=some ((r8 s rows).map fun j=>(i+j,J))
 |[],es,i,h=>by
  have:es=[]:=xA h.1.symm;subst this;rfl
 |row::rows,[],i,h=>by simp[vW] at h
 |row::rows,e::es,i,h=>by
  obtain⟨a,d,eS,hk,_⟩:=h.2 0 row e rfl rfl;have ht:vW z rows es:=⟨by have:=h.1;grind,fun j r e h1 h2=>h.2 (j+1) r e Ns Ns⟩;show(match jz E [] kt (.string ⟨⟨s⟩⟩) e.key with
   |none=>none
   |some true=>some (some (i,J))
   |some false=>pK E [] kt (.string ⟨⟨s⟩⟩) (sG es) (i+1))=_
  have HL:jz E [] kt (.string ⟨⟨s⟩⟩) e.key=some (decide (s=a)):=by
   rw[hk];show(match E.ti.get none kt with|some ⟨.string,_,_,_,_⟩=>some (ug s a)|_=>none)=_;rw[hr,x6]
  rw[HL];unfold r8;rw[eS];show _=some (Option.map _ (if decide (s=a)=true then some 0 else _));by_cases Tj:s=a
  ·grind
  ·rw[decide_eq_false Tj,if_neg Pp,Wl hr s rows es (i+1) ht];cases r8 s rows with
   |none=>rfl
   |some j=>simp;omega
theorem rG{v:xM}(h:fB v=true):∃c,v= .chan (some (c+1)):=by
 unfold fB at h
 grind
section
variable(ok:E.Ok P)
theorem aM4:E.Seq P []:=by
 constructor
 all_goals intros
 all_goals first|(rename_i h _;cases h;done)|skip
 all_goals simp_all [ib]
theorem Vm(inv:Inv w0 E.G β A w)(t:xN):jH w0 E.G β A ((Instr.makeMap t none).run P w) (JM A).1 (JM A).2:=by
 obtain⟨h1,h2⟩:=inv.new ⟨.maps (.slice none 0 0),1,true,false,0⟩ (.map #[] 0) ⟨w.heap.size,0,1,0⟩ rfl ⟨[],0,[],rfl,rfl,rfl,fun i row e h=>by simp at h⟩;exact⟨_,.map (some w.heap.size),_,by simp[Instr.makeMap],.map A.next _ (j9 _ _ _),h1,h2⟩
include ok in
theorem aL0{k v:xM}(h:QY E A t m k v=some A')(inv:Inv w0 E.G β A w)(hm:aj β m m')(hk:aj β k k')(hv:aj β v v'):∃w',(Instr.mapUpdate t m' k' v').run P w= .ok () w'/\Inv w0 E.G β A' w'/\A.next<=A'.next:=by
 unfold QY at h;split at h;rotate_left
 ·cases h
 rename_i kt et _ _ _ _ B hr;have hu:=(ok.ti t _ hr).1;split at h;rotate_left
 ·cases h
 rename_i c a b d hkt hg;replace h:=aC h;rcases h with⟨hG,h⟩|⟨_,h⟩;rotate_left
 ·cases h
 split at h;rotate_left
 ·cases h
 rename_i u A1 eC;cases h;have jL:=xh hG;obtain⟨nd,rt,cu,ht,eN,ez,gu,rfl,rfl⟩:=nW eC;have hq:bY β.d nd:=ok.q _ _ (inv.dX nd Ns);unfold bY at hq;rw[eN] at hq;obtain⟨ds,dd,q1,q2,q3⟩:=hq;rw[ez] at q1;rw[gu] at q2;obtain⟨q4,q5⟩:=jO q2;obtain⟨dm,ds1,rfl,e1,q7⟩:=jb q1;obtain⟨dk,dv,rfl,e2,e3⟩:=jj q7;cases hm with
 |map _ l hl=>
  obtain⟨ae,ck,rows,g1,g2,g3⟩:=inv.cont B _ l hg hl;rw[lE g2] at e1;cases e1;have aJ:N' (.sl rows) dk dv=some dd:=q3;unfold N' at aJ;split at aJ;rotate_left
  ·cases aJ
  rename_i iC s iE;cases iE;split at aJ;rotate_left
  ·cases aJ
  rename_i iP;cases aJ;have fO:=fx e2 hk;cases fO;have dJ:=fx e3 hv;have tP:=Wl (E:=E) hkt (z:=β.z) s rows ae 0 g3;have gY:qX E [] kt (.string ⟨⟨s⟩⟩)=true:=by
   unfold qX;have:jz E [] kt (.string ⟨⟨s⟩⟩) (.string ⟨⟨s⟩⟩)=some true:=by
    show(match E.ti.get none kt with|some ⟨.string,_,_,_,_⟩=>some (ug s s)|_=>none)=_;rw[hkt,x6,decide_eq_true rfl]
   rw[this]
  obtain⟨⟨r',f1,f2⟩,f3,f4,f5,f6⟩:=FE (P:=P) ok aM4 gY (.string (β:=β) ⟨⟨s⟩⟩) tP (aK5 g3) w;have ja:(getObj l.b).run P w= .ok (.map ⟨ae⟩ ck) w:=by simp[getObj,Sem.run,g1]
  have bm:l.b<w.heap.size:=(Array.getElem?_eq_some_iff.1 g1).1;have fin:∀(es2:FP) (ck2:Nat),vW β.z (um s dv rows) es2->(setObj l.b (.map ⟨es2⟩ ck2)).run P w= .ok () {w with heap:=w.heap.setIfInBounds l.b (.map ⟨es2⟩ ck2)}/\Inv w0 E.G β ((A.pop rt).put B (some ⟨.maps (.chan (some (cu+1))),a,b,false,d⟩)) {w with heap:=w.heap.setIfInBounds l.b (.map ⟨es2⟩ ck2)}:=fun es2 ck2 j4=>by
   refine⟨by simp[setObj,Sem.run,g1],?_⟩;have i2:=inv.pop (r:=rt) (fun x hx=>Ns);refine i2.write B l _ _ hg hl jL ⟨rfl,rfl,rfl,NS,fun k hk bo=> ?_⟩ NS ?_
   ·grind
   ·show gB β l _ ((w.heap.setIfInBounds l.b _)[l.b]?);rw[Array.getElem?_setIfInBounds_self_of_lt bm];exact⟨es2,ck2,_,rfl,by show(β.d cu).bind _=_;rw[q4];rfl,j4⟩
  cases dT:r8 s rows with
  |none=>
   rw[dT] at f2;have cF:r'=none:=by
    rcases f2 with⟨_,e⟩|⟨_,_,_,e,_⟩
    ·exact e
    ·cases e
   subst cF;have wi:=VL (v:=dv) dT;obtain⟨aW,cM⟩:=fin (ae++[⟨.string ⟨⟨s⟩⟩,v',ck⟩]) (ck+1) (by
    rw[wi];refine⟨by simp[g3.1],fun i row e h1 h2=> ?_⟩;by_cases hi:i<rows.length
    ·rw[xw hi] at h1;rw[xw (by rw[<-g3.1];exact hi)] at h2;exact g3.2 i row e h1 h2
    ·rw[xq MK] at h1;rw[xq (by rw[<-g3.1];omega),<-g3.1] at h2
     grind)
   refine⟨_,?_,cM,xk _⟩;have Da:(⟨ae⟩:LH).push ⟨.string ⟨⟨s⟩⟩,v',ck⟩=⟨ae++[⟨.string ⟨⟨s⟩⟩,v',ck⟩]⟩:=by apply Array.ext';simp
   simp only [Instr.mapUpdate,Sem.run_bind,run_underlying hu,ja,f3,f1,Result.andThen_ok]
   grind
  |some j0=>
   rw[dT] at f2;obtain⟨wi,jJ⟩:=VK (v:=dv) dT;have cF:∃v1,r'=some (j0,v1):=by
    rcases f2 with⟨e,_⟩|⟨j1,v1,ru,e,e2,_⟩
    ·cases e
    ·grind
   obtain⟨ru,rfl⟩:=cF;have fH:j0<ae.length:=by rw[<-g3.1];exact jJ
   have cw:ae[j0]? =some ae[j0]:=xc fH;obtain⟨s0,d0,gH,pH,_⟩:=g3.2 j0 _ _ (xc jJ) cw;have uy:s0=s:=by
    have:∀(rows:Ca) (j:Nat),r8 s rows=some j->∀row,rows[j]? =some row->Qm s row=true:=by
     intro rows
     induction rows with
     |nil=>grind
     |cons r t ih=>
      intro j h row eS;unfold r8 at h;split at h
      ·grind
      ·obtain⟨i,hi,rfl⟩:=xp.1 h
       grind
    have:=this rows j0 dT _ (xc jJ);rw[gH] at this;exact(of_decide_eq_true this).symm
   subst uy;obtain⟨aW,cM⟩:=fin (ae.set j0 ⟨.string ⟨⟨s0⟩⟩,v',ae[j0].born⟩) ck (by
    rw[wi];refine⟨by simp[g3.1],fun i row e h1 h2=> ?_⟩;rw[List.getElem?_set] at h1 h2;by_cases hi:j0=i
    ·grind
    ·rw[if_neg hi] at h1 h2;exact g3.2 i row e h1 h2)
   refine⟨_,?_,cM,xk _⟩;have A8:=B9 cw (fun e=>{e with key:= .string ⟨⟨s0⟩⟩,val:=v'});have A9:(Instr.keyThatStays ((((⟨ae⟩:LH)[j0]?).map (·.key)).getD (.string ⟨⟨s0⟩⟩)) (.string ⟨⟨s0⟩⟩)).run P w= .ok (.string ⟨⟨s0⟩⟩) w:=by
    have:(((⟨ae⟩:LH)[j0]?).map (·.key)).getD (.string ⟨⟨s0⟩⟩)= .string ⟨⟨s0⟩⟩:=by simp[cw,pH]
    rw[this];simp[Instr.keyThatStays,f5]
   simp only [Instr.mapUpdate,Sem.run_bind,run_underlying hu,ja,f3,f1,Result.andThen_ok,A9]
   grind
end
def S1(g:Nat)(l:List (Nat×Nat)):Ji:=List.rec (motive:=fun _=>Ji) none (fun a _ ih=>bs (Nat.beq g a.1) (some a.2) ih) l
theorem Xi{g t:Nat}:∀{l:List (Nat×Nat)},S1 g l=some t->(g,t)∈l
 |[],h=>by cases h
 |a::l,h=>by
  have h':bs (Nat.beq g a.1) (some a.2) (S1 g l)=some t:=h;rcases aC h' with⟨h1,h2⟩|⟨_,h2⟩
  ·grind [xb,xn]
  ·exact xo _ (Xi h2)
def Rk(E:az)(A:AW)(f n:xM):Im:=
 match f with
 | .func (.func g) ⟨[]⟩ ⟨[]⟩=>match S1 g E.mz with
  |some t=>match E.ti.get none t with
   |some ⟨.slice e,_,_,_,_⟩=>bs (fB n) (match nJ A (.n0 1 1) [n,n,.int .u8 (.ofNat 0)] with
    |some (_,A1)=>(match nJ A1 (.dB 1 0) [] with
     |some (u,A2)=>(match ye A2 none u 1 e with|some A3=>some (.iface A2.next (.tuple ⟨[]⟩),A3)|none=>none)
     |none=>none)
    |none=>none) none
   |_=>none
  |none=>none
 |_=>none
def Qd(E:az)(A:AW)(t:xN)(x lo:xM)(hi:C3):Im:=
 match E.ti.get none t,x,hi,A.tape with
 |some ⟨.array len e,_,_,_,_⟩,.pointer (some ⟨B,o,none⟩),[],nd::r=>match kX E e with
  |some n=>bs (Nat.beq n 1&&fB lo&&n7 nd.k .iO&&nI nd.args [.int .i64 (.ofNat len),lo]&&qo nd.res (.bool true)) (some (.iface B (.tuple ⟨[lo,.int .i64 (.ofNat o),.int .i64 (.ofNat len)]⟩),A.pop r)) none
  |none=>none
 |_,_,_,_=>none
def O6(E:az)(A:AW)(t:xN)(x lo:xM)(hi:C3):Im:=
 match O7 E A t x lo hi with
 |some r=>some r
 |none=>Qd E A t x lo hi
def QT(E:az)(A:AW)(t tx:xN)(d x:xM):Im:=
 match d,E.ti.get none t with
 | .iface B (.chan (some (_+1))),some ⟨.slice e,_,_,_,_⟩=>match kX E e,x with
  |some _,.slice none 0 0=>some (.int .i64 (.ofNat 0),A)
  |_,_=>none
 | .iface B (.tuple ⟨[iv,.int .i64 (.ofNat off),.int .i64 (.ofNat n)]⟩),some ⟨.slice e,_,_,_,_⟩=>match kX E e,A.get B,A.tape with
  |some z,some ⟨.cells cs,es,ex,false,ty⟩,nd::r=>match pE n (ra off cs),nd.res with
   |some eJ,.agg ⟨cn::dI⟩=>bs (Nat.beq z 1&&fB x&&J8 E tx&&n7 nd.k (.EO n)&&nI nd.args (iv::x::eJ)&&Nat.beq (bT dI) n&&fb fB dI&&Nat.ble E.G.n B) (some (cn,(A.pop r).put B (some ⟨.cells (lD dI off cs),es,ex,false,ty⟩))) none
   |_,_=>none
  |_,_,_=>none
 |_,_=>none
section
variable(ok:E.Ok P)
include ok in
theorem aP5{f f' n n' v:xM}(h:Rk E A f n=some (v,A'))(inv:Inv w0 E.G β A w)(hf:aj β f f')(hn:aj β n n'):
 ∃g,f'= .func (.func g) ⟨[]⟩ ⟨[]⟩/\∃β' v' w',(callFunc g #[n']).run P w= .ok (.value v') w'/\aj β' v v'/\Inv w0 E.G β' A' w'/\β.grow β' A.next/\A.next<=A'.next:=by
 unfold Rk at h;split at h;rotate_left
 ·cases h
 rename_i g;split at h;rotate_left
 ·cases h
 rename_i t To;split at h;rotate_left
 ·cases h
 rename_i e _ _ _ _ hr;replace h:=aC h;rcases h with⟨_,h⟩|⟨_,h⟩;rotate_left
 ·cases h
 split at h;rotate_left
 ·cases h
 rename_i u0 A1 eC;split at h;rotate_left
 ·cases h
 rename_i u A2 bx1;split at h;rotate_left
 ·cases h
 rename_i A3 iT;cases h;obtain⟨nd,rt,cu0,ht,eN,ez,gu,rfl,rfl⟩:=nW eC;have i1:=inv.pop (r:=rt) (fun x hx=>Ns);have hq:bY β.d nd:=ok.q _ _ (inv.dX nd Ns);unfold bY at hq;rw[eN] at hq;obtain⟨ds,d,q1,q2,q3⟩:=hq;rw[ez] at q1;obtain⟨dl,ds1,rfl,e1,q7⟩:=jb q1;obtain⟨dc,zs,rfl,e2,e3⟩:=jb q7;have aJ:GC 1 1 dl dc zs=some d:=q3;unfold GC at aJ;split at aJ;rotate_left
 ·cases aJ
 rename_i ln cn;split at aJ;rotate_left
 ·cases aJ
 rename_i sa;obtain⟨mD,fV,ot⟩:=sa;have fj:=fx e1 hn;cases fj;unfold mX at ot;simp only [xf,decide_eq_true_iff,Nat.mul_one] at ot;obtain⟨nd2,sO,cu,ht2,bx7,by0,Lb,rfl,rfl⟩:=nW bx1;have i2:=i1.pop (r:=sO) (fun x hx=>Ns);have qF:bY β.d nd2:=ok.q _ _ (i1.dX nd2 Ns);unfold bY at qF;rw[bx7] at qF;obtain⟨pq,d2,p1,p2,p3⟩:=qF;rw[by0] at p1;rw[Lb] at p2;obtain⟨p4,p5⟩:=jO p2;cases p1;have mM:some (D.sl [])=some d2:=p3;cases mM;cases hf with
 |func _ _ p' _ q' hp hq h1 h2=>
  have HH:p'=[]:=xA hp.symm;have wm:q'=[]:=xA hq.symm;subst HH;subst wm;obtain⟨ps,by2⟩:=ok.mz g t (Xi To);obtain⟨cs,aW,aN,_⟩:=Lib.run_makeNoZero (P:=P) w ps t e (ok.ti t _ hr).1 ln MK;have j4:=by2 #[.int .i64 (.ofNat ln)] w;obtain⟨g1,g2⟩:=(i2.drew (w.drawn+1+1)).new (l:=⟨w.heap.size,0,1,cs.size⟩) ⟨.cells [],1,false,false,e⟩ (.cells cs e) rfl
   ⟨cs,e,(0,0),rfl,rfl,NS,(fun i v hv=>by simp at hv),fun _=>rfl,(fun h=>by cases h),rfl,fun _=>rfl⟩
  unfold ye at iT;simp only [Eg] at iT;split at iT;rotate_left
  ·cases iT
  rename_i T9 T6 T4 SP j6;cases iT;have uC:(β.put ((A.pop rt).pop sO).next ⟨w.heap.size,0,1,cs.size⟩).o ((A.pop rt).pop sO).next=none:=by
   show β.o A.next=none;cases hq:β.o A.next with
   |none=>rfl
   |some v=>have:=inv.iG _ _ hq;omega
  have ii:∀(cY:ai),cY.d=β.d->aX cY.d (.chan (some (cu+1)))=some (.sl []):=fun cY e=>by
   show(cY.d cu).bind _=_
   grind
  have qJ:=g1.relabel (B:=((A.pop rt).pop sO).next) (blk':=⟨.own (.chan (some (cu+1))),1,false,false,e⟩) (v:= .slice (some ⟨w.heap.size,0,none⟩) 0 cs.size) j6 (Nat.lt_succ_self _) uC rfl (fun l2 aL=>by
   rw[j9] at aL;cases aL;exact⟨cs,[],heap_alloc_new _ _,rfl,ii _ rfl,rfl,(fun row hr=>by cases hr),NS,fun i row j d hi hj=>by simp at hi⟩)
   ⟨[],ii _ rfl,.inr ⟨_,cs.size,j9 _ _ _,by show(if((A.pop rt).pop sO).next=((A.pop rt).pop sO).next then _ else _)=_;grind,xL _,Ns,rfl⟩⟩
  refine⟨g,rfl,_,_,_,?_,aj.raw (β:=(β.put ((A.pop rt).pop sO).next ⟨w.heap.size,0,1,cs.size⟩).mj ((A.pop rt).pop sO).next (.slice (some ⟨w.heap.size,0,none⟩) 0 cs.size)) ((A.pop rt).pop sO).next ln cs.size ⟨w.heap.size,0,1,cs.size⟩ (j9 _ _ _) aN (by show(if((A.pop rt).pop sO).next=((A.pop rt).pop sO).next then _ else _)=_;grind),qJ,ai.iz g2 (ai.zE _ _ _) (xk _),Nat.le_succ _⟩;rw[j4];have bU9:(Extern.BytealgMakeNoZero.makeNoZero ps #[t] #[.int .i64 (Int.ofNat ln)]).run P w= .ok (.slice (some ⟨w.heap.size,0,none⟩) ln cs.size) (w.drew.drew.alloc (.cells cs e)):=aW;simp[aW];rfl
include ok in
theorem ar9(hf:bU β n g a.tmps){x:Operand}{u:xM}(h:Qd E A t (ev E g x) (pU E g lo) (qI E g hi)=some (u,A'))(inv:Inv w0 E.G β A w):
 ∃v',(Instr.sliceAt t (a.eval x) (lo.map a.eval) (hi.map a.eval) none).run P w= .ok v' w/\aj β u v'/\Inv w0 E.G β A' w/\A.next<=A'.next:=by
 unfold Qd at h;split at h;rotate_left
 ·cases h
 rename_i len e _ _ _ _ B o nd r hr hx oF ht;split at h;rotate_left
 ·cases h
 rename_i z hs;replace h:=aC h;rcases h with⟨hb,h⟩|⟨_,h⟩;rotate_left
 ·cases h
 cases h;simp only [xf] at hb;obtain⟨⟨⟨⟨b0,b1⟩,b2⟩,b3⟩,b4⟩:=hb;have Uf:=xb b0;subst Uf;have e1:=qb b2;have e2:=oQ _ _ b3;have e3:=uX b4;obtain⟨cl,wD⟩:=rG b1;unfold kX at hs;split at hs;rotate_left
 ·cases hs
 rename_i r2 bE;have aV:r2.size=1:=xC hs;have hu:=(ok.ti t _ hr).1;have hq:bY β.d nd:=ok.q _ _ (inv.dX nd Ns);unfold bY at hq;rw[e1] at hq;obtain⟨ds,d,q1,q2,q3⟩:=hq;rw[e2] at q1;rw[e3] at q2;have ry:some (D.bool true)=some d:=q2;cases ry;obtain⟨dx,di,rfl,e5,e6⟩:=jj q1;have EL:some (D.int .i64 (Int.ofNat len))=some dx:=e5;cases EL;obtain⟨k,m,rfl,hm⟩:=NB q3;have e7:aX β.d (pU E g lo)=some (.int k (.ofNat m)):=by rw[wD] at e6⊢;exact e6
 have hv:=kB (a:=a) inv hf x;rw[hx] at hv;generalize j6:a.eval x=xv at hv;have Ld:lo.map a.eval=some (.int k (.ofNat m))\/(lo.map a.eval=none/\m=0):=by
  cases lo with
  |none=>cases wD
  |some y=>
   have hy:=kB (a:=a) inv hf y;have Ei:=fx (v:=ev E g y) e6 hy;left;show some (a.eval y)=_;generalize a.eval y=yv at Ei;cases Ei;rfl
 have Ba:((none:Ji)=none/\hi.map a.eval=none)\/∃k',(none:Ji)=some len/\hi.map a.eval=some (.int k' (.ofNat len)):=by
  cases hi with
  |none=>grind
  |some y=>cases oF
 cases hv with
 |ptr _ _ l hl=>
  obtain⟨m',aW,uF,j4⟩:=Bp (P:=P) (len:=len) (cap:=len) (a:=m) (b:=len) (Nat.le_of_lt hm) (xk _) (xk _) (hb:=none) rfl Ld Ba false w;have hm3:m'=len:=Nat.le_antisymm j4 uF;subst hm3;refine⟨.slice (some ⟨l.b,l.d+o+m,none⟩) (m' - m) (m' - m),?_,.part B o m' m l _ k hl e7 (Nat.le_of_lt hm),inv.pop (fun x hx=>Ns),xk _⟩;have bo: ¬m'=m:=MK
  have yK:r2.size=1:=aV;simp[Instr.sliceAt,run_underlying hu,Instr.sureAddr,aW,eZ ok bE,yK,bo,Addr.add_lit]
include ok in
theorem aM1(hf:bU β n g a.tmps){x:Operand}{u:xM}(h:O6 E A t (ev E g x) (pU E g lo) (qI E g hi)=some (u,A'))(inv:Inv w0 E.G β A w):
 ∃β' v',(Instr.sliceAt t (a.eval x) (lo.map a.eval) (hi.map a.eval) none).run P w= .ok v' w/\aj β' u v'/\Inv w0 E.G β' A' w/\β.grow β' A.next/\A.next<=A'.next:=by
 grind [O6,aw3,ar9,ai.dg]
theorem aD6(fZ:Nat){x':xM}(h:Rd z (.sl rows) x')(c:Nat)(hc:c<=rows.length):
 (∀w,(Builtin.lenOf x').run P w= .ok rows.length w)/\∃x2,Rd z (.sl (rows.take c)) x2/\Builtin.firstCells fZ c x'=Builtin.firstCells fZ c x2:=by
 cases h with
 |qC=>exact⟨fun _=>rfl,_,by simpa using Rd.qC,rfl⟩
 |m8 a cp=>exact⟨fun _=>rfl,_,by simpa using Rd.m8 a cp,rfl⟩
 |sl _ es b o cp cells hz bo dU G9 hs hh=>
  refine⟨fun _=>rfl,.slice (some ⟨b,o,none⟩) (rows.take c).length cp,?_,rfl⟩;by_cases h0:rows.take c=[]
  ·rw[h0];exact .m8 _ _
  ·refine .sl _ es b o cp cells hz h0 (fun row hr=>dU row (List.mem_of_mem_take hr)) Ns hs fun i row j d v h1 h2 h3=> ?_
   grind
include ok in
theorem aI5{tx ty:xN}{d d' x x' v:xM}(h:QT E A t tx d x=some (v,A'))(inv:Inv w0 E.G β A w)(hd:aj β d d')(hx:aj β x x'):jH w0 E.G β A ((Builtin.copy_ #[t,tx] ty #[d',x']).run P w) v A'/\A.next<=A'.next:=by
 unfold QT at h;split at h
 ·rename_i B c e _ _ _ _ hr;split at h;rotate_left
  ·cases h
  rename_i z hs;cases h;cases hx;have hu:=(ok.ti t _ hr).1;unfold kX at hs;split at hs<;>cases hs
  rename_i re fX;cases hd with
  |own _ _ rows a cap ho ha hd=>
   refine⟨⟨β,.int .i64 0,w,?_,.int _ _,inv,ai.dg _ _⟩,xk _⟩;cases a with
   |none=>simp[Builtin.copy_,run_underlying hu,Builtin.lenOf,eZ ok fX,Builtin.firstCells,goInt]
   |some a=>simp[Builtin.copy_,run_underlying hu,Builtin.lenOf,eZ ok fX,Builtin.firstCells,goInt,storeCells]
 rotate_left
 ·cases h
 rename_i B iv off n e _ _ _ _ hr;split at h;rotate_left
 ·cases h
 rename_i z cs es ex LO nd r hs hg ht;split at h;rotate_left
 ·cases h
 rename_i eJ cn dI mJ gu;replace h:=aC h;rcases h with⟨hb,h⟩|⟨_,h⟩;rotate_left
 ·cases h
 cases h;simp only [xf,eH] at hb;obtain⟨⟨⟨⟨⟨⟨⟨b0,b1⟩,b2⟩,b3⟩,b4⟩,b5⟩,b6⟩,b7⟩:=hb;have Uf:=xb b0;subst Uf;have Ue:=qb b3;have b4':=oQ _ _ b4;have ET:=xb b5;have b6':=oR fB _ b6;have b7':=xh b7;have hu:=(ok.ti t _ hr).1;unfold kX at hs;split at hs;rotate_left
 ·cases hs
 rename_i re fX;have Zp:re.size=1:=xC hs;have wk:(∃e',P.underlying tx=some (.slice e'))\/P.underlying tx=some .string:=by
  unfold J8 at b2;split at b2
  ·rename_i hr;exact .inl ⟨_,(ok.ti tx _ hr).1⟩
  ·rename_i hr;exact .inr (ok.ti tx _ hr).1
  ·cases b2
 have hq:bY β.d nd:=ok.q _ _ (inv.dX nd Ns);unfold bY at hq;rw[Ue] at hq;obtain⟨ds,dd,q1,q2,q3⟩:=hq;rw[b4'] at q1;rw[gu] at q2;obtain⟨di,ds1,rfl,e1,q4⟩:=jb q1;obtain⟨dx,MC,rfl,e2,e3⟩:=jb q4;have i2:=inv.pop (r:=r) (fun x hx=>Ns);cases hd with
 |part _ _ _ m l _ k hl hi hm=>
  rw[lE hi] at e1;cases e1;have aJ:PI n (.int k (.ofNat m)) dx MC=some dd:=q3;unfold PI at aJ;split at aJ;rotate_left
  ·cases aJ
  rename_i k0 m0 rows lq;injection lq with _ ng;injection ng with ng;subst ng;split at aJ;rotate_left
  ·cases aJ
  rename_i sa;obtain⟨fS,hmn,l5⟩:=sa;cases aJ;obtain⟨T8,Bc,Bb⟩:=xp.1 (show(aH (eE β.d) (v::dI)).map D.agg=_ from q2);cases Bb;obtain⟨dcn,DL,Gu,r1,r2⟩:=jb Bc;obtain⟨bA7,ag1⟩:=List.cons.inj Gu;subst bA7;have gF:=fx e2 hx;generalize Li:min rows.length (n - m)=jd at*;have jw:jd<=rows.length:=MK
  obtain⟨aE,x2,pX,hfc⟩:=aD6 (P:=P) 1 gF jd jw;have Qv:(rows.take jd).all (fun r=>r.length==1&&r.all D.cell)=true:=by
   rw[List.all_eq_true] at fS⊢;exact fun row hr=>fS row (List.mem_of_mem_take hr)
  have ad8:∀row∈rows.take (n - m),row.length=1:=fun row hr=>by
   grind
  have mF:rows.take (n - m)=rows.take jd:=by
   rw[<-Li];rcases Nat.le_total rows.length (n - m) with h|h
   ·grind
   ·grind
  rw[mF] at ad8 ag1;obtain⟨fl1,TX⟩:=Qy ad8;obtain⟨src,yL,fW,aZ5⟩:=X9 (P:=P) inv.dB (es:=1) wk (xk _) (d:= .sl (rows.take jd)) (rows:=rows.take jd) (show(if(rows.take jd).all (fun r=>r.length==1&&r.all D.cell)=true then some (rows.take jd) else none)=_ by grind) pX;have ux:(rows.take jd).length=jd:=by rw[xz];omega
  rw[ux,Nat.mul_one] at fW;rw[ux] at fl1;have CS:=yL.cells;rw[ux] at CS;obtain⟨aB,e0,fz,k1,k2,k3,k4,k5,k6,k7⟩:=inv.cont B _ l hg hl;have nj:fz=(0,0):=k5 rfl;subst nj;obtain⟨sU,jg⟩:=Fm _ _ _ mJ;rw[Fp] at sU jg;rw[List.length_drop] at jg;have TC:m+jd<=n:=MK
  have lj:n=0\/off+n<=cs.length:=MK
  have bn1:∀j,j<n->eJ[j]? =cs[off+j]? :=fun j hj=>by
   grind
  let F:=(List.range n).map fun i=>if m<=i/\i<m+jd then src.getD (i - m) undef else aB.getD (l.d+off+i) undef
  have hF:∀i,i<n->F[i]? =some (if m<=i/\i<m+jd then src.getD (i - m) undef else aB.getD (l.d+off+i) undef):=fun i hi=>by
   show((List.range n).map _)[i]? =_
   simp_all
  have TM:F.length=n:=by simp[F]
  have kE:∀i d,i<n->MC[i]? =some d->∃v,aB[l.d+off+i]? =some v/\Rd β.z d v:=fun i d hi hd=>by
   have gw:i<eJ.length:=by rw[sU,xz,List.length_drop];omega
   have oD:off+i<cs.length:=MK
   obtain⟨v',h1,h2⟩:=k4 (off+i) _ (xc oD);refine⟨v',by rw[Nat.add_assoc];exact h1,fx (nX e3 hd (xc gw)) ?_⟩;have h4:=bn1 i hi;rw[xc gw,xc oD] at h4;rw[xC h4];exact h2
  have hDL:∀i d,i<n->DL[i]? =some d->∃v,F[i]? =some v/\Rd β.z d v:=fun i d hi hd=>by
   rw[hF i hi];have nq:(MC.take m++(rows.take jd).flatten++MC.drop (m+jd))[i]? =some d:=by
    rw[ag1];exact hd
   refine⟨_,rfl,?_⟩;by_cases h1:i<m
   ·rw[if_neg MK];rw[List.append_assoc,xw Ns,List.getElem?_take,if_pos h1] at nq;obtain⟨v,h2,h3⟩:=kE i d hi nq
    simp_all
   ·by_cases h2:i<m+jd
    ·rw[if_pos ⟨MK,h2⟩];rw[List.append_assoc,xq Ns,xz,Nat.min_eq_left MK,xw Ns] at nq;obtain⟨row,h3,h4⟩:=TX _ _ nq;obtain⟨v,h5,h6⟩:=aZ5 _ row 0 d h3 h4;rw[Nat.mul_one,Nat.add_zero] at h5;rw[List.getD_eq_getElem?_getD,h5];exact h6
    ·rw[if_neg MK];rw[xq Ns,xa,fl1,xz,Nat.min_eq_left MK,List.getElem?_drop,show m+jd+(i - (m+jd))=i by omega] at nq;obtain⟨v,h2,h3⟩:=kE i d hi nq
     simp_all
  have cr2:DL.length=n:=by rw[pz r2,ET]
  have ad5:∀i u,dI[i]? =some u->∃v,F[i]? =some v/\aj β u v/\v.oneCell'=true:=fun i u Te=>by
   have nT:=(xe.1 Te).1;rw[ET] at nT;have hdi:DL[i]? =some DL[i]:=xc MK;obtain⟨v,h1,h2⟩:=hDL i _ nT hdi;obtain⟨c,rfl⟩:=rG (b6' u (xu Te));have h3:=nX r2 hdi Te;obtain⟨h4,h5⟩:=jO (show iF β.d (.chan (some (c+1)))=_ from h3);exact⟨v,h1,.sym c _ v h4 h5 h2,(Fv h2 h5).2⟩
  have jt:aZ β dI F:=⟨by rw[ET,TM],fun i u v h1 h2=>by
   obtain⟨v',h3,h4,_⟩:=ad5 i u h1
   grind⟩
  have ua:∀v∈F,v.oneCell'=true:=fun v hv=>by
   obtain⟨i,hi,rfl⟩:=List.getElem_of_mem hv;have gw:i<dI.length:=by rw[ET,<-TM];exact hi
   obtain⟨v',h3,_,h5⟩:=ad5 i _ (xc gw)
   grind
  rcases xI n with sV|sV
  ·
   have H4:jd=0:=MK
   have bn2:dI=[]:=xA (by rw[ET,sV]);have bm4:src=[]:=xA (by rw[fW,H4]);have cM:Inv w0 E.G β ((A.pop r).put B (some ⟨.cells (lD dI off cs),es,ex,false,LO⟩)) w:=by
    rw[bn2];refine i2.write B l _ _ (show(A.pop r).get B=_ from hg) hl b7' ⟨rfl,rfl,rfl,xk _,fun _ _ _=>rfl⟩ rfl ?_;rw[k1];exact⟨aB,e0,(0,0),rfl,k2,k3,k4,fun _=>rfl,k6,k7⟩
   refine⟨⟨β,.int .i64 (jd:Nat),w,?_,rL r1 (.int _ _),cM,ai.dg _ _⟩,xk _⟩;rw[bm4] at CS;rw[hfc.symm] at CS;have Rx:Nat.min rows.length (n - m)=jd:=Li;simp[Builtin.copy_,run_underlying hu,aE,Rx,eZ ok fX,Zp,CS,goInt,storeCells]
  ·have bx6:off+n<=cs.length:=MK
   obtain⟨w',aW,cM⟩:=NF (P:=P) (E:=E) i2 (show(A.pop r).get B=_ from hg) b7' hl jt (by rw[ET];exact bx6) ua;have bm9:∀u∈src,u.oneCell'=true:=yL.one;have ad6:=run_storeCells_at (P:=P) l.b (l.d+off) e0 F 0 aB w k1 Ns ua;have rm:=run_storeCells_at (P:=P) l.b (l.d+off+m) e0 src 0 aB w k1 Ns bm9;rw[Nat.add_zero] at ad6 rm;have Qq:(aB.toList.take (l.d+off)++F++aB.toList.drop (l.d+off+F.length)).toArray=(aB.toList.take (l.d+off+m)++src++aB.toList.drop (l.d+off+m+src.length)).toArray:=by
    apply Array.ext_getElem?;intro i;rw[zQ _ _ _ Ns,zQ _ _ _ Ns,TM,fW];by_cases h1:l.d+off<=i/\i<l.d+off+n
    ·rw[if_pos h1,hF _ MK];by_cases h2:l.d+off+m<=i/\i<l.d+off+m+jd
     ·rw[if_pos h2,if_pos MK];rw[List.getD_eq_getElem?_getD];have:i - (l.d+off) - m=i - (l.d+off+m):=MK
      rw[this];have bm:i - (l.d+off+m)<src.length:=MK
      grind
     ·rw[if_neg h2,if_neg MK,Array.getD_eq_getD_getElem?];have:l.d+off+(i - (l.d+off))=i:=MK
      rw[this];have bm:i<aB.size:=MK
      grind
    ·rw[if_neg h1,if_neg MK]
   rw[ad6] at aW;rw[Qq] at aW;rw[aW] at rm;refine⟨⟨β,.int .i64 (jd:Nat),w',?_,rL r1 (.int _ _),cM,ai.dg _ _⟩,xk _⟩;rw[hfc.symm] at CS;have Rx:Nat.min rows.length (n - m)=jd:=Li;simp[Builtin.copy_,run_underlying hu,aE,Rx,eZ ok fX,Zp,CS,goInt,rm]
end
theorem VM{v:D}:∀{rows:Ca},cT k rows=none->sJ k v rows=rows++[[.agg k,v]]
 |[],_=>rfl
 |row::t,h=>by
  unfold cT at h;unfold sJ;split at h
  ·cases h
  ·rename_i hk;rw[if_neg hk,VM (by simpa using h)];rfl
theorem NG{v:D}:∀{rows:Ca} {i:Nat},cT k rows=some i->sJ k v rows=rows.set i [.agg k,v]/\i<rows.length
 |[],i,h=>by cases h
 |row::t,i,h=>by
  unfold cT at h;unfold sJ;split at h
  ·grind
  ·rename_i hk;obtain⟨j,hj,rfl⟩:=xp.1 h;obtain⟨e1,e2⟩:=NG (v:=v) hj
   grind
theorem II:∀{rows:Ca},cT k rows=none->jG k rows=none
 |[],_=>rfl
 |row::t,h=>by
  unfold cT at h;unfold jG;split at h
  ·cases h
  ·rename_i hk;rw[if_neg hk,II (by simpa using h)]
theorem zH:∀{rows:Ca} {i:Nat},cT k rows=some i->∃row,rows[i]? =some row/\jG k rows=row[1]?/\kf k row=true
 |[],i,h=>by cases h
 |row::t,i,h=>by
  unfold cT at h;unfold jG;split at h
  ·grind
  ·rename_i hk;obtain⟨j,hj,rfl⟩:=xp.1 h;obtain⟨r,e1,e2,e3⟩:=zH hj
   grind
theorem xQ{k:xO}{ds:Di}(h:fc (k::ks) ds=some vs):∃n cA lT,ds= .int k n::cA/\vs= .int k n::lT/\fc ks cA=some lT:=by
 cases ds with
 |nil=>simp[fc] at h
 |cons d ds=>
  cases d with
  |int j n=>
   have h':(if j=k then(fc ks ds).map (.int j n:: ·) else none)=some vs:=h;split at h'
   ·rename_i hj;subst hj;obtain⟨lT,h1,rfl⟩:=xp.1 h'
    grind
   ·cases h'
  |_=>simp[fc] at h
theorem xV{ds:Di}(h:fc [] ds=some vs):ds=[]/\vs=[]:=by
 cases ds with
 |nil=>cases h;grind
 |cons d ds=>simp[fc] at h
theorem aG3(k:xO):dR k k=true:=by cases k<;>rfl
theorem zL:∀(ks:JI) (a b:Di) (va vb:C3),fc ks a=some va->fc ks b=some vb->eR ks va vb=some (kp a b)
 |[],a,b,va,vb,ha,hb=>by
  obtain⟨rfl,rfl⟩:=xV ha;obtain⟨rfl,rfl⟩:=xV hb;rfl
 |k::ks,a,b,va,vb,ha,hb=>by
  obtain⟨m,a',sI,rfl,rfl,h1⟩:=xQ ha;obtain⟨n,b',LK,rfl,rfl,h2⟩:=xQ hb;have ih:=zL ks a' b' sI LK h1 h2;show bs (dR k k&&dR k k) (match eR ks sI LK with|some r=>some (bs (mC m n) r false)|none=>none) none=_;rw[aG3 k,ih,oU];show some (bs (decide (m=n)) (kp a' b') false)=some (decide (m=n)&&kp a' b');cases decide (m=n)<;>rfl
theorem xS:∀(ks:JI) (a:Di) (va:C3),fc ks a=some va->kp a a=true
 |[],a,va,h=>by obtain⟨rfl,rfl⟩:=xV h;rfl
 |k::ks,a,va,h=>by
  obtain⟨m,a',sI,rfl,rfl,h1⟩:=xQ h;show(decide (m=m)&&kp a' a')=true;rw[xS ks a' sI h1,decide_eq_true rfl];rfl
theorem Jq:∀(ks:JI) (a b:Di) (va vb:C3),fc ks a=some va->fc ks b=some vb->kp a b=true->a=b/\va=vb
 |[],a,b,va,vb,ha,hb,_=>by
  obtain⟨rfl,rfl⟩:=xV ha;obtain⟨rfl,rfl⟩:=xV hb
  grind
 |k::ks,a,b,va,vb,ha,hb,h=>by
  obtain⟨m,a',sI,rfl,rfl,h1⟩:=xQ ha;obtain⟨n,b',LK,rfl,rfl,h2⟩:=xQ hb;have h':(decide (m=n)&&kp a' b')=true:=h;rw[xf] at h';have e:=of_decide_eq_true h'.1;obtain⟨e1,e2⟩:=Jq ks a' b' sI LK h1 h2 h'.2
  grind
theorem xU(β:ai):∀(ks:JI) (a:Di) (va:C3),fc ks a=some va->aZ β va va
 |[],a,va,h=>by obtain⟨rfl,rfl⟩:=xV h;exact aZ.nil β
 |k::ks,a,va,h=>by
  obtain⟨m,a',sI,rfl,rfl,h1⟩:=xQ h;exact aZ.cons (.int _ _) (xU β ks a' sI h1)
theorem zY:∀(ks:JI) (a:Di) (va us:C3),fc ks a=some va->a.length=us.length->(∀(i:Nat) (d:D) (v:xM),a[i]? =some d->us[i]? =some v->Rd z d v)->us=va
 |[],a,va,us,h,hl,hr=>by obtain⟨rfl,rfl⟩:=xV h;grind
 |k::ks,a,va,us,h,hl,hr=>by
  obtain⟨m,a',sI,rfl,rfl,h1⟩:=xQ h;cases us with
  |nil=>cases hl
  |cons u us=>
   have h0:=hr 0 _ _ rfl rfl;cases h0;rw[zY ks a' sI us h1 Ns fun i d v h2 h3=>hr (i+1) d v Ns Ns]
theorem aA5(h:pb β.z ks rows es):il β (sG es) es:=by
 refine⟨by simp[sG],fun i e e' h1 h2=> ?_⟩;unfold sG at h1;rw[xx,h2] at h1;cases h1;have hi:i<rows.length:=by rw[h.1];exact(xe.1 h2).1
 obtain⟨ds,vs,d,_,hf,hk,_,_⟩:=h.2 i _ e' (xc hi) h2;exact⟨rfl,by show aj β e'.key e'.key;grind [hk,aj.mU,xU],.jT _⟩
theorem VA{sq:Cf}(BB:ib sq kt=some ks)(hk:fc ks k=some vs):∀(rows:Ca) (es:FP) (i:Nat),pb z ks rows es->
 pK E sq kt (.agg ⟨vs⟩) (sG es) i=some ((cT k rows).map fun j=>(i+j,J))
 |[],es,i,h=>by
  have:es=[]:=xA h.1.symm;subst this;rfl
 |row::rows,[],i,h=>by have:=h.1;simp at this
 |row::rows,e::es,i,h=>by
  obtain⟨a,va,d,eS,ha,RD,_,_⟩:=h.2 0 row e rfl rfl;have ht:pb z ks rows es:=⟨by have:=h.1;grind,fun j r e h1 h2=>h.2 (j+1) r e Ns Ns⟩;show(match jz E sq kt (.agg ⟨vs⟩) e.key with
   |none=>none
   |some true=>some (some (i,J))
   |some false=>pK E sq kt (.agg ⟨vs⟩) (sG es) (i+1))=_
  have HL:jz E sq kt (.agg ⟨vs⟩) e.key=some (kp k a):=by
   rw[RD];show(match ib sq kt with|some ks=>eR ks vs va|none=>none)=_;rw[BB];exact zL ks k a vs va hk ha
  rw[HL];unfold cT;rw[eS];show _=some (Option.map _ (if kp k a=true then some 0 else _));cases Tj:kp k a with
  |true=>grind
  |false=>
   rw[if_neg Pp];show pK E sq kt (.agg ⟨vs⟩) (sG es) (i+1)=_;rw[VA BB hk rows es (i+1) ht];cases cT k rows with
   |none=>rfl
   |some j=>simp;omega
def sF(g:Nat->xM):FP->Nat->List MapEntry|[],_=>[]|e::es,i=>⟨e.key,g i,e.born⟩::sF g es (i+1)
theorem Og(g:Nat->xM):∀(es:FP) (i:Nat),(sF g es i).length=es.length
 |[],_=>rfl
 |e::es,i=>by unfold sF;simp[Og g es (i+1)]
theorem Oh(g:Nat->xM):∀(es:FP) (i j:Nat) (e:MapEntry),es[j]? =some e->(sF g es i)[j]? =some ⟨e.key,g (i+j),e.born⟩
 |[],i,j,e,h=>by simp at h
 |a::es,i,0,e,h=>by grind [sF]
 |a::es,i,j+1,e,h=>by
  unfold sF;have:=Oh g es (i+1) j e (by simpa using h);rw[List.getElem?_cons_succ,this,show i+1+j=i+(j+1) by omega]
def LB(es:FP)(i:Nat):FP:=sF (fun i=> .chan (some (i+1))) es i
theorem aK3(es:FP)(i:Nat):(LB es i).length=es.length:=Og _ es i
theorem aK4(es:FP)(i j:Nat)(e:MapEntry)(h:es[j]? =some e):(LB es i)[j]? =some ⟨e.key,.chan (some (i+j+1)),e.born⟩:=Oh _ es i j e h
def Hm(ks:JI)(rows:Ca)(es:FP):Prop:=
 rows.length=es.length/\∀(i:Nat) (row:Di) (e:MapEntry),rows[i]? =some row->es[i]? =some e->∃ds vs d,row=[.agg ds,d]/\fc ks ds=some vs/\e.key= .agg ⟨vs⟩
theorem pb.K4(h:pb z ks rows es):Hm ks rows es:=
 ⟨h.1,fun i row e a b=>by
  obtain⟨ds,vs,d,x,y,u,_⟩:=h.2 i row e a b
  grind⟩
theorem lP.K4{b es:Nat}{ty:xN}{tk:Option (Nat×List D)}{jU:FP}(h:lP β b es ty ks tk rows jU):Hm ks rows jU:=
 ⟨h.len,fun i row e a b=>by
  grind [row,h.row]⟩
def DA(β:ai)(rows:Ca):ai:={β with d:=fun i=>rows[i]?.bind fun r=>r[1]? }
theorem WD(h:pb β.z ks rows es):il (DA β rows) (LB es 0) es:=by
 refine⟨aK3 es 0,fun i e e' h1 h2=> ?_⟩;rw[aK4 es 0 i e' h2] at h1;cases h1;have hi:i<rows.length:=by rw[h.1];exact(xe.1 h2).1
 obtain⟨ds,vs,d,eS,hf,hk,hc,hr⟩:=h.2 i _ e' (xc hi) h2;refine⟨rfl,by show aj _ e'.key e'.key;grind [hk,aj.mU,xU],?_⟩;show aj (DA β rows) (.chan (some (0+i+1))) e'.val;rw[Nat.zero_add];refine .sym i d _ ?_ hc hr;show(rows[i]?.bind fun r=>r[1]?)=some d
 grind
theorem Ny{sq:Cf}(BB:ib sq kt=some ks)(g:Nat->xM)(hk:fc ks k=some vs):∀(rows:Ca) (es:FP) (i:Nat),Hm ks rows es->
 pK E sq kt (.agg ⟨vs⟩) (sF g es i) i=some ((cT k rows).map fun j=>(i+j,g (i+j)))
 |[],es,i,h=>by
  have:es=[]:=xA h.1.symm;subst this;rfl
 |row::rows,[],i,h=>by have:=h.1;simp at this
 |row::rows,e::es,i,h=>by
  obtain⟨a,va,d,eS,ha,RD⟩:=h.2 0 row e rfl rfl;have ht:Hm ks rows es:=⟨by have:=h.1;grind,fun j r e h1 h2=>h.2 (j+1) r e Ns Ns⟩;show(match jz E sq kt (.agg ⟨vs⟩) e.key with
   |none=>none
   |some true=>some (some (i,g i))
   |some false=>pK E sq kt (.agg ⟨vs⟩) (sF g es (i+1)) (i+1))=_
  have HL:jz E sq kt (.agg ⟨vs⟩) e.key=some (kp k a):=by
   rw[RD];show(match ib sq kt with|some ks=>eR ks vs va|none=>none)=_;rw[BB];exact zL ks k a vs va hk ha
  rw[HL];unfold cT;rw[eS];show _=some (Option.map _ (if kp k a=true then some 0 else _));cases Tj:kp k a with
  |true=>grind
  |false=>
   rw[if_neg Pp];show pK E sq kt (.agg ⟨vs⟩) (sF g es (i+1)) (i+1)=_;rw[Ny BB g hk rows es (i+1) ht];cases cT k rows with
   |none=>rfl
   |some j=>grind
theorem VB{sq:Cf}(BB:ib sq kt=some ks)(hk:fc ks k=some vs)(rows:Ca)(es:FP)(i:Nat)(h:pb z ks rows es):
 pK E sq kt (.agg ⟨vs⟩) (LB es i) i=some ((cT k rows).map fun j=>(i+j,Value.chan (some (i+j+1)))):=Ny BB _ hk rows es i h.K4
def Rf(A:AW)(k:NK)(us:C3):Im:=
 match A.tape with
 |[]=>none
 |nd::r=>bs (n7 k nd.k) (bs (ri us nd.args) (bs (fB nd.res) (some (nd.res,A.pop r)) none) none) none
theorem aw9{k:NK}{us:C3}{u:xM}(h:Rf A k us=some (u,A')):∃nd r c,A.tape=nd::r/\nd.k=k/\nd.args=us/\nd.res=u/\u= .chan (some (c+1))/\A'=A.pop r:=by
 unfold Rf at h;split at h
 ·cases h
 ·rename_i nd r ht;rcases aC h with⟨h1,h⟩|⟨_,h⟩;rotate_left
  ·cases h
  rcases aC h with⟨h2,h⟩|⟨_,h⟩;rotate_left
  ·cases h
  rcases aC h with⟨h3,h⟩|⟨_,h⟩;rotate_left
  ·cases h
  cases h;obtain⟨c,hc⟩:=rG h3;exact⟨nd,r,c,ht,(qb h1).symm,(rM _ _ h2).symm,rfl,hc,rfl⟩
def z9(E:az)(sq:Cf)(A:AW)(t:xN):xM×AW:=
 match E.ti.get none t with
 |some ⟨.map kt et,_,_,_,_⟩=>match ib sq kt,Jp E et with
  |some ks,some (re,e)=>(.map (some A.next),A.add ⟨.gA ks (.slice none 0 0) none,re.size,false,false,e⟩)
  |some ks,none=>(.map (some A.next),A.add ⟨.jC ks (.slice none 0 0),1,true,false,0⟩)
  |none,_=>JM A
 |_=>JM A
def Q0(E:az)(sq:Cf)(A:AW)(t:xN)(m k v:xM):Option AW:=
 match E.ti.get none t,m with
 |some ⟨.map kt _,_,_,_,_⟩,.map (some B)=>match ib sq kt,A.get B with
  |some ks,some ⟨.jC fU c,a,b,false,d⟩=>bs (mf ks fU&&Nat.ble E.G.n B) (match Rf A (.tI ks) [c,k,v] with
   |some (u,A1)=>some (A1.put B (some ⟨.jC fU u,a,b,false,d⟩))
   |none=>none) none
  |_,_=>QY E A t m k v
 |_,_=>none
def RO(E:az)(sq:Cf)(A:AW)(t:xN)(m k:xM):Im:=
 match E.ti.get none t,m with
 |some ⟨.map kt et,_,_,_,_⟩,.map (some B)=>match ib sq kt,A.get B,x8 E et,A.tape with
  |some ks,some ⟨.jC fU c,_,_,_,_⟩,some z,nd::r=>bs (mf ks fU&&n7 nd.k (.u5 ks)&&ri nd.args [c,k,z]) (some (nd.res,A.pop r)) none
  |_,_,_,_=>none
 |_,_=>none
theorem NE{ck:Nat}{k v:xM}(h:ck=es.length)(hb:∀(i:Nat) (e:MapEntry),es[i]? =some e->e.born=i):∀(i:Nat) (e:MapEntry),(es++[⟨k,v,ck⟩])[i]? =some e->e.born=i:=fun i e h1=>by
 grind
theorem Fs{j:Nat}{e0:MapEntry}{k v:xM}(hb:∀(i:Nat) (e:MapEntry),es[i]? =some e->e.born=i)(h0:es[j]? =some e0):∀(i:Nat) (e:MapEntry),(es.set j ⟨k,v,e0.born⟩)[i]? =some e->e.born=i:=fun i e h1=>by
 grind
def Sw(E:az)(sq:Cf)(A:AW)(t:xN)(m k:xM):Im:=
 match E.ti.get none t,m with
 |some ⟨.map kt et,_,_,_,_⟩,.map (some B)=>match ib sq kt,A.get B,x8 E et,A.tape with
  |some ks,some ⟨.jC fU c,a,b,false,d⟩,some z,nd::r=>match nd.res with
   | .agg ⟨[y,gX,st]⟩=>bs (mf ks fU&&n7 nd.k (.zV ks)&&ri nd.args [c,k,z]&&fB y&&Nat.ble E.G.n B) (some (.tuple ⟨[gX,st]⟩,(A.pop r).put B (some ⟨.jC fU y,a,b,false,d⟩))) none
   |_=>none
  |_,_,_,_=>none
 |_,_=>none
def Su(E:az)(A:AW)(m s v:xM):Option AW:=
 match m with
 | .map (some B)=>match A.get B with
  |some ⟨.jC ks c,a,b,false,d⟩=>bs (Nat.ble E.G.n B) (match nJ A .u4 [c,s,v] with
   |some (u,A1)=>some (A1.put B (some ⟨.jC ks u,a,b,false,d⟩))
   |none=>none) none
  |_=>none
 |_=>none
def O8(E:az)(A:AW)(t:xN)(x lo:xM)(hi:C3):Im:=
 match x,E.ti.get none t,A.tape,hi with
 | .iface B (.chan (some (_+1))),some ⟨.slice e,_,_,_,_⟩,nd::r,[h]=>match A.get B,lo,kX E e with
  |some ⟨.own c,es,_,false,ty⟩,.int _ (.ofNat 0),some _=>bs (n7 nd.k .Dx&&nI nd.args [c,h]&&fB nd.res&&Nat.ble E.G.n B) (match ye (A.pop r) (some B) nd.res es ty with|some A2=>some (.iface A.next nd.res,A2)|none=>none) none
  |_,_,_=>none
 |_,_,_,_=>none
def O5(E:az)(A:AW)(t:xN)(x lo:xM)(hi:C3):Im:=
 match O8 E A t x lo hi with
 |some r=>some r
 |none=>O6 E A t x lo hi
theorem VG(hb:∀(i:Nat) (e:MapEntry),es[i]? =some e->e.born=i){j:Nat}(hj:j<es.length):(⟨es⟩:LH).findIdx? (fun e=>(e.born:Int)==Int.ofNat j)=some j:=by
 have:es.findIdx? (fun e=>(e.born:Int)==Int.ofNat j)=some j:=by
  rw[List.findIdx?_eq_some_iff_getElem];refine⟨hj,?_,fun i hi=> ?_⟩
  ·rw[hb j _ (xc hj)];simp
  ·rw[hb i _ (xc (Nat.lt_trans hi hj))];simp;omega
 grind
section
variable(ok:E.Ok P){sq:Cf}(aU:E.Seq P sq)
theorem ax3(inv:Inv w0 E.G β A w)(t:xN):jH w0 E.G β A ((Instr.makeMap t none).run P w) (z9 E sq A t).1 (z9 E sq A t).2:=by
 unfold z9;split
 ·split
  ·rename_i ks re e dS _;obtain⟨h1,h2⟩:=inv.new ⟨.gA ks (.slice none 0 0) none,re.size,false,false,e⟩ (.map #[] 0) ⟨w.heap.size,0,1,0⟩ rfl ⟨[],0,[],none,rfl,rfl,trivial,⟨rfl,fun i row e h=>by simp at h,fun i j r r' e e' c h=>by simp at h,fun i j r r' h=>by simp at h⟩,rfl,fun i e h=>by simp at h⟩;exact⟨_,.map (some w.heap.size),_,by simp[Instr.makeMap],.map A.next _ (j9 _ _ _),h1,h2⟩
  ·rename_i ks dS _;obtain⟨h1,h2⟩:=inv.new ⟨.jC ks (.slice none 0 0),1,true,false,0⟩ (.map #[] 0) ⟨w.heap.size,0,1,0⟩ rfl ⟨[],0,[],rfl,rfl,⟨rfl,fun i row e h=>by simp at h⟩,rfl,fun i e h=>by simp at h⟩;exact⟨_,.map (some w.heap.size),_,by simp[Instr.makeMap],.map A.next _ (j9 _ _ _),h1,h2⟩
  ·exact Vm inv t
 ·exact Vm inv t
theorem aq3:A.next<=(z9 E sq A t).2.next:=by
 unfold z9;split
 ·split<;>exact Nat.le_succ _
 ·exact Nat.le_succ _
include ok aU in
theorem aL1{k v:xM}(h:Q0 E sq A t m k v=some A')(inv:Inv w0 E.G β A w)(hm:aj β m m')(hk:aj β k k')(hv:aj β v v'):∃w',(Instr.mapUpdate t m' k' v').run P w= .ok () w'/\Inv w0 E.G β A' w'/\A.next<=A'.next:=by
 unfold Q0 at h;split at h;rotate_left
 ·cases h
 rename_i kt et _ _ _ _ B hr;have hu:=(ok.ti t _ hr).1;split at h;rotate_left
 ·grind [aL0,hk]
 rename_i ks fU c a b d dS hg;replace h:=aC h;rcases h with⟨hb,h⟩|⟨_,h⟩;rotate_left
 ·cases h
 split at h;rotate_left
 ·cases h
 rename_i u A1 eC;cases h;rw[xf] at hb;obtain⟨bX,hG⟩:=hb;have jE:=qS _ _ bX;subst jE;have jL:=xh hG;obtain⟨nd,rt,cu,ht,eN,ez,gu,rfl,rfl⟩:=aw9 eC;have hq:bY β.d nd:=ok.q _ _ (inv.dX nd Ns);unfold bY at hq;rw[eN] at hq;obtain⟨ds,dd,q1,q2,q3⟩:=hq;rw[ez] at q1;rw[gu] at q2;obtain⟨q4,q5⟩:=jO q2;obtain⟨dm,ds1,rfl,e1,q7⟩:=jb q1;obtain⟨dk,dv,rfl,e2,e3⟩:=jj q7;cases hm with
 |map _ l hl=>
  obtain⟨ae,ck,rows,g1,g2,g3,g4,g5⟩:=inv.cont B _ l hg hl;rw[lE g2] at e1;cases e1;have aJ:NA ks (.sl rows) dk dv=some dd:=q3;unfold NA at aJ;split at aJ;rotate_left
  ·cases aJ
  rename_i iC kd iE;cases iE;split at aJ;rotate_left
  ·cases aJ
  rename_i sa;rw[xf] at sa;obtain⟨jF,iP⟩:=sa;obtain⟨vs,bH⟩:=Option.isSome_iff_exists.1 jF;cases aJ;have fO:=fx e2 hk;cases fO with
  |agg _ us ni gp=>
  have iX:=zY ks kd vs us bH ni gp;subst iX;have dJ:=fx e3 hv;have tP:=VA (E:=E) (sq:=sq) dS bH rows ae 0 g3;have gY:qX E sq kt (.agg ⟨us⟩)=true:=by
   unfold qX;have:jz E sq kt (.agg ⟨us⟩) (.agg ⟨us⟩)=some true:=by
    show(match ib sq kt with|some ks=>eR ks us us|none=>none)=_;rw[dS];show eR ks us us=_;rw[zL ks kd kd us us bH bH,xS ks kd us bH]
   rw[this]
  obtain⟨⟨r',f1,f2⟩,f3,f4,f5,f6⟩:=FE (P:=P) ok aU gY (aj.mU (β:=β) (xU β ks kd us bH)) tP (aA5 g3) w;have ja:(getObj l.b).run P w= .ok (.map ⟨ae⟩ ck) w:=by simp[getObj,Sem.run,g1]
  have bm:l.b<w.heap.size:=(Array.getElem?_eq_some_iff.1 g1).1;have fin:∀(es2:FP) (ck2:Nat),pb β.z ks (sJ kd dv rows) es2->ck2=es2.length->(∀(i:Nat) (e:MapEntry),es2[i]? =some e->e.born=i)->(setObj l.b (.map ⟨es2⟩ ck2)).run P w= .ok () {w with heap:=w.heap.setIfInBounds l.b (.map ⟨es2⟩ ck2)}/\Inv w0 E.G β ((A.pop rt).put B (some ⟨.jC ks (.chan (some (cu+1))),a,b,false,d⟩)) {w with heap:=w.heap.setIfInBounds l.b (.map ⟨es2⟩ ck2)}:=fun es2 ck2 j4 bM bP=>by
   refine⟨by simp[setObj,Sem.run,g1],?_⟩;have i2:=inv.pop (r:=rt) (fun x hx=>Ns);refine i2.write B l _ _ hg hl jL ⟨rfl,rfl,rfl,NS,fun k hk bo=> ?_⟩ NS ?_
   ·grind
   ·show gB β l _ ((w.heap.setIfInBounds l.b _)[l.b]?);rw[Array.getElem?_setIfInBounds_self_of_lt bm];exact⟨es2,ck2,_,rfl,by show(β.d cu).bind _=_;rw[q4];rfl,j4,bM,bP⟩
  cases dT:cT kd rows with
  |none=>
   rw[dT] at f2;have cF:r'=none:=by
    rcases f2 with⟨_,e⟩|⟨_,_,_,e,_⟩
    ·exact e
    ·cases e
   subst cF;have wi:=VM (v:=dv) dT;obtain⟨aW,cM⟩:=fin (ae++[⟨.agg ⟨us⟩,v',ck⟩]) (ck+1) (by
    rw[wi];refine⟨by simp[g3.1],fun i row e h1 h2=> ?_⟩;by_cases hi:i<rows.length
    ·rw[xw hi] at h1;rw[xw (by rw[<-g3.1];exact hi)] at h2;exact g3.2 i row e h1 h2
    ·rw[xq MK] at h1;rw[xq (by rw[<-g3.1];omega),<-g3.1] at h2
     grind) (by simp[g4]) (NE g4 g5)
   refine⟨_,?_,cM,xk _⟩;have Da:(⟨ae⟩:LH).push ⟨.agg ⟨us⟩,v',ck⟩=⟨ae++[⟨.agg ⟨us⟩,v',ck⟩]⟩:=by apply Array.ext';simp
   simp only [Instr.mapUpdate,Sem.run_bind,run_underlying hu,ja,f3,f1,Result.andThen_ok]
   grind
  |some j0=>
   rw[dT] at f2;obtain⟨wi,jJ⟩:=NG (v:=dv) dT;have cF:∃v1,r'=some (j0,v1):=by
    rcases f2 with⟨e,_⟩|⟨j1,v1,ru,e,e2,_⟩
    ·cases e
    ·grind
   obtain⟨ru,rfl⟩:=cF;have fH:j0<ae.length:=by rw[<-g3.1];exact jJ
   have cw:ae[j0]? =some ae[j0]:=xc fH;obtain⟨KV,gH,_,rn⟩:=zH dT;obtain⟨wM,ul,d0,ey,oG,pH,_,_⟩:=g3.2 j0 _ _ gH cw;have uy:us=ul:=by
    rw[ey] at rn;exact(Jq ks kd wM us ul bH oG rn).2
   subst uy;obtain⟨aW,cM⟩:=fin (ae.set j0 ⟨.agg ⟨us⟩,v',ae[j0].born⟩) ck (by
    rw[wi];refine⟨by simp[g3.1],fun i row e h1 h2=> ?_⟩;rw[List.getElem?_set] at h1 h2;by_cases hi:j0=i
    ·grind
    ·rw[if_neg hi] at h1 h2;exact g3.2 i row e h1 h2) (by simp[g4]) (Fs g5 cw)
   refine⟨_,?_,cM,xk _⟩;have A8:=B9 cw (fun e=>{e with key:= .agg ⟨us⟩,val:=v'});have A9:(Instr.keyThatStays ((((⟨ae⟩:LH)[j0]?).map (·.key)).getD (.agg ⟨us⟩)) (.agg ⟨us⟩)).run P w= .ok (.agg ⟨us⟩) w:=by
    have:(((⟨ae⟩:LH)[j0]?).map (·.key)).getD (.agg ⟨us⟩)= .agg ⟨us⟩:=by simp[cw,pH]
    rw[this];simp[Instr.keyThatStays,f5]
   simp only [Instr.mapUpdate,Sem.run_bind,run_underlying hu,ja,f3,f1,Result.andThen_ok,A9]
   grind
include ok aU in
theorem Wf{et:xN}(hu:P.underlying t=some (.map kt et))(dS:ib sq kt=some ks){z v:xM}(hz:x8 E et=some z){dz:D}(e3:bR β.d z=some dz){l:Loc}{ae:FP}{ck:Nat}(g1:w.heap[l.b]? =some (.map ⟨ae⟩ ck))(g3:pb β.z ks rows ae)
 {kd:Di} {us:C3} (bH:fc ks kd=some us) (q2:iF β.d v=some ((jG kd rows).getD dz)\/v=z/\jG kd rows=none):∃v',(Instr.lookup t (.map (some l.b)) (.agg ⟨us⟩) false).run P w= .ok v' w/\aj β v v':=by
 have tP:=VB (E:=E) (sq:=sq) dS bH rows ae 0 g3;have gY:qX E sq kt (.agg ⟨us⟩)=true:=by
  unfold qX;have:jz E sq kt (.agg ⟨us⟩) (.agg ⟨us⟩)=some true:=by
   show(match ib sq kt with|some ks=>eR ks us us|none=>none)=_;rw[dS];show eR ks us us=_;rw[zL ks kd kd us us bH bH,xS ks kd us bH]
  rw[this]
 obtain⟨⟨r',f1,f2⟩,f3,f4,f5,f6⟩:=FE (P:=P) ok aU gY (aj.mU (β:=DA β rows) (xU _ ks kd us bH)) tP (WD g3) w;have ja:(getObj l.b).run P w= .ok (.map ⟨ae⟩ ck) w:=by simp[getObj,Sem.run,g1]
 cases dT:cT kd rows with
 |none=>
  rw[dT] at f2;have cF:r'=none:=by
   rcases f2 with⟨_,e⟩|⟨_,_,_,e,_⟩
   ·exact e
   ·cases e
  subst cF;rw[II dT] at q2;obtain⟨z',mD,fV⟩:=I4 (P:=P) ok hz w;refine⟨z',?_,q2.elim (fun q2=>uV q2 (fx e3 (fV β))) fun q2=>q2.1▸fV β⟩;simp[Instr.lookup,run_underlying hu,f3,f1,mD,getObj,Sem.run,g1]
 |some j0=>
  rw[dT] at f2;obtain⟨KV,gH,kZ,rn⟩:=zH dT;have cF:∃v1,r'=some (j0,v1)/\aj (DA β rows) (.chan (some (j0+1))) v1:=by
   rcases f2 with⟨e,_⟩|⟨j1,v1,ru,e,e2,e5⟩
   ·cases e
   ·grind
  obtain⟨ru,rfl,lX⟩:=cF;have gF:∃d,KV[1]? =some d/\Rd β.z d ru:=by
   cases lX with
   |sym _ d _ hd hc hr=>
    have nq:(rows[j0]?.bind fun r=>r[1]?)=some d:=hd;rw[gH] at nq;exact⟨d,nq,hr⟩
  obtain⟨d1,np,ey⟩:=gF;rw[kZ,np] at q2;refine⟨ru,?_,uV (q2.elim id fun q2=>nomatch q2.2) ey⟩;simp[Instr.lookup,run_underlying hu,f3,f1,getObj,Sem.run,g1]
include ok aU in
theorem aR2{k v:xM}(h:RO E sq A t m k=some (v,A'))(inv:Inv w0 E.G β A w)(hm:aj β m m')(hk:aj β k k'):∃v',(Instr.lookup t m' k' false).run P w= .ok v' w/\aj β v v'/\Inv w0 E.G β A' w/\A.next<=A'.next:=by
 unfold RO at h;split at h;rotate_left
 ·cases h
 rename_i kt et _ _ _ _ B hr;have hu:=(ok.ti t _ hr).1;split at h;rotate_left
 ·cases h
 rename_i ks fU c a b d ty z nd r dS hg hz ht;replace h:=aC h;rcases h with⟨hb,h⟩|⟨_,h⟩;rotate_left
 ·cases h
 cases h;simp only [xf] at hb;obtain⟨⟨b1,b2⟩,b3⟩:=hb;have jE:=qS _ _ b1;subst jE;have eN:=qb b2;have ez:=rM _ _ b3;have hq:bY β.d nd:=ok.q _ _ (inv.dX nd Ns);unfold bY at hq;rw[eN] at hq;obtain⟨ds,dd,q1,q2,q3⟩:=hq;rw[ez] at q1;obtain⟨dm,ds1,rfl,e1,q7⟩:=jb q1;obtain⟨dk,dz,rfl,e2,e3⟩:=jj q7;have i2:=inv.pop (r:=r) (fun x hx=>Ns);cases hm with
 |map _ l hl=>
  obtain⟨ae,ck,rows,g1,g2,g3,g4,g5⟩:=inv.cont B _ l hg hl;rw[lE g2] at e1;cases e1;have aJ:E6 ks (.sl rows) dk dz=some dd:=q3;unfold E6 at aJ;split at aJ;rotate_left
  ·cases aJ
  rename_i iC kd iE;cases iE;split at aJ;rotate_left
  ·cases aJ
  rename_i jF;obtain⟨vs,bH⟩:=Option.isSome_iff_exists.1 jF;cases aJ;have fO:=fx e2 hk;cases fO with
  |agg _ us ni gp=>
  have iX:=zY ks kd vs us bH ni gp;subst iX;obtain⟨v',h1,h2⟩:=Wf (P:=P) ok aU hu dS hz e3 g1 g3 bH (.inl q2);exact⟨v',h1,h2,i2,xk _⟩
include ok aU in
theorem aS7{k v:xM}(h:Sw E sq A t m k=some (v,A'))(inv:Inv w0 E.G β A w)(hm:aj β m m')(hk:aj β k k'):∃v' w',(Instr.mapEntry t m' k').run P w= .ok v' w'/\aj β v v'/\Inv w0 E.G β A' w'/\A.next<=A'.next:=by
 unfold Sw at h;split at h;rotate_left
 ·cases h
 rename_i kt et _ _ _ _ B hr;have hu:=(ok.ti t _ hr).1;split at h;rotate_left
 ·cases h
 rename_i ks fU c a b d z nd rt dS hg hz ht;split at h;rotate_left
 ·cases h
 rename_i y gX st gu;replace h:=aC h;rcases h with⟨hb,h⟩|⟨_,h⟩;rotate_left
 ·cases h
 cases h;simp only [xf] at hb;obtain⟨⟨⟨⟨b1,b2⟩,b3⟩,b4⟩,b5⟩:=hb;have jE:=qS _ _ b1;subst jE;have eN:=qb b2;have ez:=rM _ _ b3;have jL:=xh b5;have hq:bY β.d nd:=ok.q _ _ (inv.dX nd Ns);unfold bY at hq;rw[eN] at hq;obtain⟨ds,dd,q1,q2,q3⟩:=hq;rw[ez] at q1;rw[gu] at q2;obtain⟨dm,ds1,rfl,e1,q7⟩:=jb q1;obtain⟨dk,dz,rfl,e2,e3⟩:=jj q7;cases hm with
 |map _ l hl=>
  obtain⟨ae,ck,rows,g1,g2,g3,g4,g5⟩:=inv.cont B _ l hg hl;rw[lE g2] at e1;cases e1;have aJ:Nb ks (.sl rows) dk dz=some dd:=q3;unfold Nb at aJ;split at aJ;rotate_left
  ·cases aJ
  rename_i iC kd iE;cases iE;split at aJ;rotate_left
  ·cases aJ
  rename_i sa;rw[xf] at sa;obtain⟨jF,iP⟩:=sa;obtain⟨vs,bH⟩:=Option.isSome_iff_exists.1 jF;cases aJ;obtain⟨T8,Bc,Bb⟩:=xp.1 (show(aH (eE β.d) [y,gX,st]).map D.agg=_ from q2);cases Bb;obtain⟨dy,DL,Gu,r1,r2⟩:=jb Bc;obtain⟨rfl,rfl⟩:=List.cons.inj Gu;obtain⟨do',dst,ba1,r3,r4⟩:=jj r2;obtain⟨rfl,ba0⟩:=List.cons.inj ba1;obtain⟨rfl,_⟩:=List.cons.inj ba0;obtain⟨cy,rfl⟩:=rG b4;obtain⟨r5,r6⟩:=jO (show iF β.d (.chan (some (cy+1)))=_ from r1);have fO:=fx e2 hk;cases fO with
  |agg _ us ni gp=>
  have iX:=zY ks kd vs us bH ni gp;subst iX;have tP:=VB (E:=E) (sq:=sq) dS bH rows ae 0 g3;have gY:qX E sq kt (.agg ⟨us⟩)=true:=by
   unfold qX;have:jz E sq kt (.agg ⟨us⟩) (.agg ⟨us⟩)=some true:=by
    show(match ib sq kt with|some ks=>eR ks us us|none=>none)=_;rw[dS];show eR ks us us=_;rw[zL ks kd kd us us bH bH,xS ks kd us bH]
   rw[this]
  obtain⟨⟨r',f1,f2⟩,f3,f4,f5,f6⟩:=FE (P:=P) ok aU gY (aj.mU (β:=DA β rows) (xU _ ks kd us bH)) tP (WD g3) w;have ja:(getObj l.b).run P w= .ok (.map ⟨ae⟩ ck) w:=by simp[getObj,Sem.run,g1]
  have bm:l.b<w.heap.size:=(Array.getElem?_eq_some_iff.1 g1).1;have fin:∀(es2:FP) (ck2:Nat) (dZ:Ca),aX β.d (.chan (some (cy+1)))=some (.sl dZ)->pb β.z ks dZ es2->ck2=es2.length->(∀(i:Nat) (e:MapEntry),es2[i]? =some e->e.born=i)->(setObj l.b (.map ⟨es2⟩ ck2)).run P w= .ok () {w with heap:=w.heap.setIfInBounds l.b (.map ⟨es2⟩ ck2)}/\Inv w0 E.G β ((A.pop rt).put B (some ⟨.jC ks (.chan (some (cy+1))),a,b,false,d⟩)) {w with heap:=w.heap.setIfInBounds l.b (.map ⟨es2⟩ ck2)}:=fun es2 ck2 dZ fJ j4 bM bP=>by
   refine⟨by simp[setObj,Sem.run,g1],?_⟩;have i2:=inv.pop (r:=rt) (fun x hx=>Ns);refine i2.write B l _ _ hg hl jL ⟨rfl,rfl,rfl,NS,fun k hk bo=> ?_⟩ NS ?_
   ·grind
   ·show gB β l _ ((w.heap.setIfInBounds l.b _)[l.b]?);rw[Array.getElem?_setIfInBounds_self_of_lt bm];exact⟨es2,ck2,dZ,rfl,fJ,j4,bM,bP⟩
  have qL:∀dZ,β.d cy=some (.sl dZ)->aX β.d (.chan (some (cy+1)))=some (.sl dZ):=fun dZ hh=>by
   show(β.d cy).bind _=_;rw[hh];rfl
  cases dT:cT kd rows with
  |none=>
   rw[dT] at f2;have cF:r'=none:=by
    rcases f2 with⟨_,e⟩|⟨_,_,_,e,_⟩
    ·exact e
    ·cases e
   subst cF;obtain⟨z',mD,fV⟩:=I4 (P:=P) ok hz w;have hzr:=fx e3 (fV β);have yW:eE β.d gX=some dz:=by rw[r3,II dT];rfl
   have SW:eE β.d st=some (.int .i64 (rows.length:Nat)):=by rw[r4,dT];rfl
   have SV:β.d cy=some (.sl (rows++[[.agg kd,dz]])):=by rw[r5,dT];rfl
   obtain⟨aW,cM⟩:=fin (ae++[⟨.agg ⟨us⟩,z',ck⟩]) (ck+1) _ (qL _ SV) (by
    refine⟨by simp[g3.1],fun i row e h1 h2=> ?_⟩;by_cases hi:i<rows.length
    ·rw[xw hi] at h1;rw[xw (by rw[<-g3.1];exact hi)] at h2;exact g3.2 i row e h1 h2
    ·rw[xq MK] at h1;rw[xq (by rw[<-g3.1];omega),<-g3.1] at h2
     grind) (by simp[g4]) (NE g4 g5)
   have RJ:ck=rows.length:=by rw[g4,g3.1]
   refine⟨.tuple #[z',goInt ck],_,?_,aj.rK ((aZ.nil β).cons (by rw[RJ];exact rL SW (.int _ _))|>.cons (rL yW hzr)),cM,xk _⟩;have Da:(⟨ae⟩:LH).push ⟨.agg ⟨us⟩,z',ck⟩=⟨ae++[⟨.agg ⟨us⟩,z',ck⟩]⟩:=by apply Array.ext';simp
   simp only [Instr.mapEntry,Sem.run_bind,run_underlying hu,ja,f3,f1,Result.andThen_ok,mD];rw[Da,aW];rfl
  |some j0=>
   rw[dT] at f2;obtain⟨_,jJ⟩:=NG (v:=dz) dT;obtain⟨KV,gH,kZ,rn⟩:=zH dT;have cF:∃v1,r'=some (j0,v1)/\aj (DA β rows) (.chan (some (j0+1))) v1:=by
    rcases f2 with⟨e,_⟩|⟨j1,v1,ru,e,e2,e5⟩
    ·cases e
    ·grind
   obtain⟨ru,rfl,lX⟩:=cF;have gF:∃d,KV[1]? =some d/\Rd β.z d ru:=by
    cases lX with
    |sym _ d _ hd hc hr=>
     have nq:(rows[j0]?.bind fun r=>r[1]?)=some d:=hd;rw[gH] at nq;exact⟨d,nq,hr⟩
   obtain⟨d1,np,ey⟩:=gF;have fH:j0<ae.length:=by rw[<-g3.1];exact jJ
   have cw:ae[j0]? =some ae[j0]:=xc fH;obtain⟨wM,ul,d0,bE,oG,pH,H4,ov⟩:=g3.2 j0 _ _ gH cw;have uy:us=ul:=by
    rw[bE] at rn;exact(Jq ks kd wM us ul bH oG rn).2
   subst uy;have yW:eE β.d gX=some d1:=by rw[r3,kZ,np];rfl
   have SW:eE β.d st=some (.int .i64 (j0:Nat)):=by rw[r4,dT];rfl
   have SV:β.d cy=some (.sl rows):=by rw[r5,dT];rfl
   obtain⟨aW,cM⟩:=fin (ae.set j0 ⟨.agg ⟨us⟩,ae[j0].val,ae[j0].born⟩) ck _ (qL _ SV) (by
    refine⟨by simp[g3.1],fun i row e h1 h2=> ?_⟩;rw[List.getElem?_set] at h2;by_cases hi:j0=i
    ·grind
    ·rw[if_neg hi] at h2;exact g3.2 i row e h1 h2) (by simp[g4]) (Fs g5 cw)
   have TD:=g5 j0 _ cw;refine⟨.tuple #[ru,goInt j0],_,?_,aj.rK ((aZ.nil β).cons (rL SW (.int _ _))|>.cons (rL yW ey)),cM,xk _⟩;have A8:=B9 cw (fun e=>{e with key:= .agg ⟨us⟩});have A9:(Instr.keyThatStays ((((⟨ae⟩:LH)[j0]?).map (·.key)).getD (.agg ⟨us⟩)) (.agg ⟨us⟩)).run P w= .ok (.agg ⟨us⟩) w:=by
    have:(((⟨ae⟩:LH)[j0]?).map (·.key)).getD (.agg ⟨us⟩)= .agg ⟨us⟩:=by simp[cw,pH]
    rw[this];simp[Instr.keyThatStays,f5]
   have ze:(((⟨ae⟩:LH)[j0]?).map (fun x=>(x.born:Int))).getD 0=(j0:Int):=by simp[cw,TD]
   simp only [Instr.mapEntry,Sem.run_bind,run_underlying hu,ja,f3,f1,Result.andThen_ok,A9,ze]
   simp_all
include ok in
theorem aS5{s s' v:xM}(h:Su E A m s v=some A')(inv:Inv w0 E.G β A w)(hm:aj β m m')(hs:aj β s s')(hv:aj β v v'):∃w',(Instr.entryStore t m' s' v').run P w= .ok () w'/\Inv w0 E.G β A' w'/\A.next<=A'.next:=by
 unfold Su at h;split at h;rotate_left
 ·cases h
 rename_i B;split at h;rotate_left
 ·cases h
 rename_i ks c a b d hg;replace h:=aC h;rcases h with⟨hG,h⟩|⟨_,h⟩;rotate_left
 ·cases h
 split at h;rotate_left
 ·cases h
 rename_i u A1 eC;cases h;have jL:=xh hG;obtain⟨nd,rt,cu,ht,eN,ez,gu,rfl,rfl⟩:=nW eC;have hq:bY β.d nd:=ok.q _ _ (inv.dX nd Ns);unfold bY at hq;rw[eN] at hq;obtain⟨ds,dd,q1,q2,q3⟩:=hq;rw[ez] at q1;rw[gu] at q2;obtain⟨q4,q5⟩:=jO q2;obtain⟨dm,ds1,rfl,e1,q7⟩:=jb q1;obtain⟨dk,dv,rfl,e2,e3⟩:=jj q7;cases hm with
 |map _ l hl=>
  obtain⟨ae,ck,rows,g1,g2,g3,g4,g5⟩:=inv.cont B _ l hg hl;rw[lE g2] at e1;cases e1;have aJ:EZ (.sl rows) dk dv=some dd:=q3;unfold EZ at aJ;split at aJ;rotate_left
  ·cases aJ
  rename_i iC j0 iE;cases iE;split at aJ;rotate_left
  ·cases aJ
  rename_i kd od gH;split at aJ;rotate_left
  ·cases aJ
  rename_i iP;cases aJ;have cJ:=fx e2 hs;cases cJ;have dJ:=fx e3 hv;have jJ:j0<rows.length:=(xe.1 gH).1;have fH:j0<ae.length:=by rw[<-g3.1];exact jJ
  have cw:ae[j0]? =some ae[j0]:=xc fH;obtain⟨wM,ul,d0,bE,oG,pH,H4,ov⟩:=g3.2 j0 _ _ gH cw;cases bE;have ja:(getObj l.b).run P w= .ok (.map ⟨ae⟩ ck) w:=by simp[getObj,Sem.run,g1]
  have bm:l.b<w.heap.size:=(Array.getElem?_eq_some_iff.1 g1).1;have A8:=B9 cw (fun e=>{e with val:=v'});have DM:=VG g5 fH;have i2:=inv.pop (r:=rt) (fun x hx=>Ns);refine⟨{w with heap:=w.heap.setIfInBounds l.b (.map ⟨ae.set j0 ⟨ae[j0].key,v',ae[j0].born⟩⟩ ck)},?_,i2.write B l _ _ hg hl jL ⟨rfl,rfl,rfl,NS,fun k hk bo=> ?_⟩ NS ?_,xk _⟩
  ·simp only [Instr.entryStore,Sem.run_bind,ja,Result.andThen_ok,asInt,asIntOf,Sem.run_pure,DM]
   grind [setObj,Sem.run]
  ·grind
  ·show gB β l _ ((w.heap.setIfInBounds l.b _)[l.b]?);rw[Array.getElem?_setIfInBounds_self_of_lt bm];refine⟨_,ck,_,rfl,by show(β.d cu).bind _=_;rw[q4];rfl,⟨by simp[g3.1],fun i row e h1 h2=> ?_⟩,by simp[g4],Fs g5 cw⟩;rw[List.getElem?_set] at h1 h2;by_cases hi:j0=i
   ·grind
   ·rw[if_neg hi] at h1 h2;exact g3.2 i row e h1 h2
include ok in
theorem as0(hf:bU β n g a.tmps){x:Operand}{u:xM}(h:O8 E A t (ev E g x) (pU E g lo) (qI E g hi)=some (u,A'))(inv:Inv w0 E.G β A w):
 ∃β' v',(Instr.sliceAt t (a.eval x) (lo.map a.eval) (hi.map a.eval) none).run P w= .ok v' w/\aj β' u v'/\Inv w0 E.G β' A' w/\β.grow β' A.next/\A.next<=A'.next:=by
 have E1:=kB (a:=a) inv hf;unfold O8 at h;split at h;rotate_left
 ·cases h
 rename_i B c0 e _ _ _ _ nd r hv hxv hr ht hhv;split at h;rotate_left
 ·cases h
 rename_i c es ex ty k0 sz hg by5 aV;rcases aC h with⟨hb,h⟩|⟨_,h⟩;rotate_left
 ·cases h
 split at h;rotate_left
 ·cases h
 rename_i A2 iT;cases h;simp only [xf] at hb;obtain⟨⟨⟨b1,b2⟩,b3⟩,b4⟩:=hb;have jL:=xh b4;have hu:=(ok.ti t _ hr).1;obtain⟨cu,hcu⟩:=rG b3;have Ld:(lo.map a.eval=some (.int k0 (.ofNat 0)))\/(lo.map a.eval=none/\(0:Nat)=0):=by
  cases lo with
  |none=>grind
  |some y=>
   have h1:=E1 y;rw[show ev E g y= .int k0 (.ofNat 0) from by5] at h1;generalize hq:a.eval y=y' at h1;cases h1
   grind
 obtain⟨dY,rfl,bz6⟩:∃dY,hi=some dY/\ev E g dY=hv:=by
  cases hi with
  |none=>cases hhv
  |some y=>exact⟨y,rfl,(List.cons.inj hhv).1⟩
 have hq:bY β.d nd:=ok.q _ _ (inv.dX nd Ns);unfold bY at hq;rw[qb b1,oQ _ _ b2,hcu] at hq;obtain⟨ds,d,q1,q2,q3⟩:=hq;obtain⟨q4,q5⟩:=jO q2;obtain⟨dc,dh,rfl,e1,e2⟩:=jj q1;obtain⟨rows,o1,o2⟩:=inv.own B _ hg;rw[lE o1] at e1;cases e1;have aJ:OP (.sl rows) dh=some d:=q3;unfold OP at aJ;split at aJ;rotate_left
 ·cases aJ
 rename_i Gk kh m iE;cases iE;split at aJ;rotate_left
 ·cases aJ
 rename_i hm;cases aJ;rw[<-bz6] at e2;have hhr:=fx e2 (E1 dY);have hx:=E1 x;rw[hxv] at hx;generalize Ma:a.eval x=xv at hx;generalize hhe:a.eval dY=dJ at hhr;cases hhr;have i2:=inv.pop (r:=r) (fun x hx=>Ns);have ik:=i2.kill B;unfold ye at iT;simp only [Eg] at iT;split at iT;rotate_left
 ·cases iT
 rename_i T9 T6 T4 SP j6;cases iT;rw[hcu] at*;have uC:β.o A.next=none:=by
  cases hq:β.o A.next with
  |none=>rfl
  |some v=>have:=inv.iG _ _ hq;omega
 unfold kX at aV;split at aV<;>cases aV
 rename_i re fX;have af3:(some m:Ji)=none/\(Option.map a.eval (some dY))=none\/∃k',(some m:Ji)=some m/\(Option.map a.eval (some dY))=some (.int k' (.ofNat m)):= .inr ⟨kh,rfl,Ns⟩;cases hx with
 |own _ _ iC a0 ct0 ho ha hd=>
  rcases o2 with⟨iE,bv0⟩|⟨l,cap,hl,oo,bv2,bv1,oes⟩
  ·rw[bv0] at ho;cases iE;have iY:=xC ho;injection iY with w1 w2 w3;subst w1;have ng:m=0:=by simpa using hm
   subst ng;have gp:iC=[]:=xE.1 w2.symm;subst gp;subst w3;obtain⟨m',aW,uF,j4⟩:=Bp (P:=P) (len:=0) (cap:=0) (a:=0) (b:=0) (xk _) (xk _) (xk _) rfl Ld af3 true w;obtain rfl:m'=0:=MK
   replace aW:(Instr.sliceBounds true 0 0 (lo.map a.eval) (some (a.eval dY)) none).run P w= .ok (0,0,0) w:=aW;have hr:=ik.Ot ⟨.cells [],es,false,false,ty⟩;have ze:β A.next=none:=by
    cases hc:β A.next with
    |none=>rfl
    |some l=>exact absurd (inv.ft _ l hc) (Nat.lt_irrefl _)
   have qJ:=hr.relabel (B:=A.next) (blk':=⟨.own (.chan (some (cu+1))),es,false,false,ty⟩) (v:= .slice none 0 0) j6 (Nat.lt_succ_self _) uC rfl (fun l hl=>Ns)
    ⟨[],(by show(β.d cu).bind _=_;rw[q4];rfl),.inl ⟨rfl,by show(if A.next=A.next then _ else _)=_;grind⟩⟩
   refine⟨_,.slice none 0 0,?_,?_,qJ,ai.zE β A.next _,Nat.le_succ _⟩
   ·simp[Instr.sliceAt,run_underlying hu,Instr.slice,aW,eZ ok fX]
   ·exact aj.own (β:=β.mj A.next (.slice none 0 0)) A.next cu [] none 0 (by show(if A.next=A.next then _ else _)=_;grind) (.inl ⟨rfl,rfl⟩) q4
  ·rw[oo] at ho;have iY:=xC ho;injection iY with w1 w2 w3;subst w1;subst w3;rw[<-w2];obtain⟨m',aW,uF,j4⟩:=Bp (P:=P) (len:=rows.length) (cap:=cap) (a:=0) (b:=m) (xL _) hm bv2 rfl Ld af3 true w;replace aW:(Instr.sliceBounds true rows.length cap (lo.map a.eval) (some (a.eval dY)) none).run P w= .ok (0,m,m') w:=aW;obtain⟨aB,bj7,c1,c2,c3,c4,c5,c6,c7⟩:=inv.cont B _ l hg hl;have c3':aX β.d c=some (.sl bj7):=c3;rw[o1] at c3';cases c3';have S7:β.z l.b=none:=inv.sep B l _ jL hl hg rfl;obtain⟨Qu,Qt⟩:=inv.loc B l hl;have jh:∀C lc,β C=some lc->lc.b=l.b->((A.pop r).put B none).get C=none:=fun C lc hC eG=>by
    rcases(A.pop r).gd B none C with⟨e1,_⟩|⟨e1,_⟩|⟨e1,bo⟩
    ·exact e1
    ·exact e1
    ·rw[e1];cases Mn:(A.pop r).get C with
     |none=>rfl
     |some kk=>exact absurd (inv.inj C B lc l hC hl eG (by rw[show A.get C=some kk from Mn];rfl) (by rw[hg];rfl)) bo
   have Rh:l.es=es:=oes;obtain⟨uM,s8⟩:=Inv.QW (E:=E) ik (w':=w) ⟨l.b,l.d,es,l.sz⟩ ⟨.cells [],es,false,false,ty⟩ Qu (Qt.resolve_left (Nat.not_lt.2 jL)) S7 (show β.y l.b=none from inv.FN hl (by rw[hg];rfl)) jh ⟨rfl,rfl,rfl,xk _,fun _ _ _=>rfl⟩ rfl (by
    show∃vQ e2 fz,w.heap[l.b]? =_/\_
    grind)
   have hN:((A.pop r).put B none).next=A.next:=rfl;rw[hN] at uM s8;have ii:∀(v:xM),aX ((β.put A.next ⟨l.b,l.d,es,l.sz⟩).mj A.next v).d (.chan (some (cu+1)))=some (.sl (rows.take m)):=fun v=>by
    show(β.d cu).bind _=_;rw[q4];rfl
   have bm:(rows.take m).length=m:=by rw[xz];omega
   have hmm:m*es<=rows.length*es:=xD _ hm;have H3:m'*es<=cap*es:=xD _ j4;have bU8:l.d+cap*es<=l.sz:=by rw[<-Rh];exact bv1
   have c6':l.d+rows.length*es<=l.sz:=by rw[<-Rh];exact c6
   have qJ:=uM.relabel (B:=A.next) (blk':=⟨.own (.chan (some (cu+1))),es,false,false,ty⟩) (v:= .slice (some ⟨l.b,l.d,none⟩) (rows.take m).length m') j6 (Nat.lt_succ_self _) (by show β.o A.next=none;exact uC) rfl (fun l2 aL=>by
    rw[show(β.put A.next ⟨l.b,l.d,es,l.sz⟩) A.next=some ⟨l.b,l.d,es,l.sz⟩ from j9 _ _ _] at aL;cases aL;refine⟨aB,rows.take m,c1,c2,ii _,rfl,fun row hr=> ?_,?_,fun i row j d hi hj=> ?_⟩
    ·grind
    ·grind
    ·have gw:rows[i]? =some row:=by
      rw[List.getElem?_take] at hi;split at hi
      ·exact hi
      ·cases hi
     have:=c7 i row j d gw hj;rw[Rh] at this;exact this) ⟨rows.take m,ii _,.inr ⟨⟨l.b,l.d,es,l.sz⟩,m',j9 _ _ _,by show(if A.next=A.next then _ else _)=_;grind,Ns,Ns,rfl⟩⟩
   refine⟨_,.slice (some ⟨l.b,l.d,none⟩) m m',?_,?_,qJ,ai.iz s8 (ai.zE _ A.next _) (xk _),Nat.le_succ _⟩
   ·simp[Instr.sliceAt,run_underlying hu,Instr.slice,aW,eZ ok fX,Addr.add]
   ·have:=aj.own (β:=(β.put A.next ⟨l.b,l.d,es,l.sz⟩).mj A.next (.slice (some ⟨l.b,l.d,none⟩) (rows.take m).length m')) A.next cu (rows.take m) (some ⟨l.b,l.d,none⟩) m' (by show(if A.next=A.next then _ else _)=_;grind) (.inr ⟨⟨l.b,l.d,es,l.sz⟩,j9 _ _ _,rfl⟩) q4
    grind
include ok in
theorem aM0(hf:bU β n g a.tmps){x:Operand}{u:xM}(h:O5 E A t (ev E g x) (pU E g lo) (qI E g hi)=some (u,A'))(inv:Inv w0 E.G β A w):
 ∃β' v',(Instr.sliceAt t (a.eval x) (lo.map a.eval) (hi.map a.eval) none).run P w= .ok v' w/\aj β' u v'/\Inv w0 E.G β' A' w/\β.grow β' A.next/\A.next<=A'.next:=by
 grind [O5,as0,aM1]
end
end
end Go.Ex
