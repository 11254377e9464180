/- A verified evaluator of Go functions. -/
import Derived.Test.YthicpeihkkokmaaGreatDoorX9
import Derived.Deep.Slices
import Derived.Deep.Strs
import Derived.Test.YthicpeihkkokmaaGreatDoorX10
set_option linter.unusedVariables false
set_option linter.unusedSimpArgs false
namespace Go.Ex
variable{P:Program}{ds:Di}
open Go.RowKit
noncomputable section
def vh(P:Program):Nat->xN->Bool
 |0,_=>false
 |n+1,t=>match P.underlying t with
  |some (.int _)=>P.cellsOf t==1
  |some .bool=>P.cellsOf t==1
  |some .string=>P.cellsOf t==1
  |some (.slice e)=>P.cellsOf t==1&&Nat.blt 0 (P.cellsOf e)&&vh P n e
  |some (.struct fs)=>(fs.toList.foldr (fun f k o=>f.offset==o&&vh P n f.type&&k (o+P.cellsOf f.type)) (fun o=>o==P.cellsOf t)) 0
  |_=>false
mutual
inductive TR (P:Program):xN->Di->Prop
 |int {t:xN} {k:xO} {n:Int} (h:P.underlying t=some (.int k)) (hw:(Lit.int k n).wf=true):TR P t [.int k n]
 |bool {t:xN} {b:Bool} (h:P.underlying t=some .bool):TR P t [.bool b]
 |str {t:xN} {l:EH} (h:P.underlying t=some .string) (hw:l.length<=maxLen):TR P t [.str l]
 |slice {t e:xN} {rows:Ca} (h:P.underlying t=some (.slice e)) (hl:rows.length<=maxLen) (hr:∀row∈rows,TR P e row):TR P t [.sl rows]
 |struct {t:xN} {fs:Array Field} {ds:Di} (h:P.underlying t=some (.struct fs)) (hf:tq P fs.toList ds):TR P t ds
inductive tq (P:Program):List Field->List D->Prop
 |nil:tq P [] []
 |cons {f:Field} {r:List Field} {a b:Di} (h:TR P f.type a) (hr:tq P r b):tq P (f::r) (a++b)
end
section
variable{t:xN}
theorem TR.aQ4{k:xO}(hu:P.underlying t=some (.int k))(h:TR P t ds):∃n,ds=[.int k n]/\(Lit.int k n).wf=true:=by
 cases h with
 |int h hw=>rw[hu] at h;cases h;exact⟨_,rfl,hw⟩
 |bool h=>rw[hu] at h;cases h
 |str h=>rw[hu] at h;cases h
 |slice h=>rw[hu] at h;cases h
 |struct h=>rw[hu] at h;cases h
theorem TR.Nl{e:xN}(hu:P.underlying t=some (.slice e))(h:TR P t ds):∃rows,ds=[.sl rows]/\rows.length<=maxLen/\∀row∈rows,TR P e row:=by
 cases h with
 |int h hw=>rw[hu] at h;cases h
 |bool h=>rw[hu] at h;cases h
 |str h=>rw[hu] at h;cases h
 |slice h hl hr=>rw[hu] at h;cases h;exact⟨_,rfl,hl,hr⟩
 |struct h=>rw[hu] at h;cases h
theorem TR.MY{fs:Array Field}(hu:P.underlying t=some (.struct fs))(h:TR P t ds):tq P fs.toList ds:=by
 cases h with
 |int h hw=>rw[hu] at h;cases h
 |bool h=>rw[hu] at h;cases h
 |str h=>rw[hu] at h;cases h
 |slice h=>rw[hu] at h;cases h
 |struct h hf=>rw[hu] at h;cases h;exact hf
theorem tq.cons_inv{f:Field}{r:List Field}(h:tq P (f::r) ds):∃a b,ds=a++b/\TR P f.type a/\tq P r b:=by
 cases h with|cons h hr=>exact⟨_,_,rfl,h,hr⟩
theorem tq.OB(h:tq P [] ds):ds=[]:=by cases h;rfl
end
theorem Jc{α:Type}{f:α->Di}:∀{rows:Ca},(∀row∈rows,∃a,row=f a)->∃l:List α,rows=l.map f
 |[],_=>⟨[],rfl⟩
 |r::rows,h=>by
  obtain⟨a,rfl⟩:=h r xn;obtain⟨l,rfl⟩:=Jc (rows:=rows) fun x hx=>h x (xo _ hx)
  exact⟨a::l,rfl⟩
def zW(W:World):GU:=fun b=>match W.heap[b]? with|some (.cells cs _ _)=>some cs|_=>none
theorem av5(W:World):vq (zW W) W:=fun b cs h=>by
 unfold zW at h;split at h
 ·rename_i bB e fz hb;cases h;exact⟨e,fz,hb⟩
 ·cases h
def qn(W:World)(ds:Di)(cs:C3):Prop:=ds.length=cs.length/\(∀d∈ds,d.cell=true)/\∀(i:Nat) (d:D) (v:xM),ds[i]? =some d->cs[i]? =some v->Rd (zW W) d v
theorem CL{W:World}{d:D}{v:xM}(hc:d.cell=true)(h:Rd (zW W) d v):qn W [d] [v]:=by
 refine⟨rfl,fun x hx=>by rw[xy.1 hx];exact hc,fun i d' v' h1 h2=> ?_⟩;cases i with
 |zero=>simp at h1 h2;subst h1;subst h2;exact h
 |succ i=>simp at h1
theorem qn.app{W:World}{a b:Di}{x y:C3}(h:qn W a x)(k:qn W b y):qn W (a++b) (x++y):=by
 refine⟨by rw[xa,xa,h.1,k.1],fun d hd=>(xF.1 hd).elim (h.2.1 d) (k.2.1 d),fun i d v h1 h2=> ?_⟩;by_cases hi:i<a.length
 ·rw[xw hi] at h1;rw[xw (h.1▸hi)] at h2;exact h.2.2 i d v h1 h2
 ·rw[xq MK] at h1;rw[xq (by rw[<-h.1];omega),<-h.1] at h2;exact k.2.2 _ d v h1 h2
section
variable{H:Type}{enc:xN×xM->H}{W:World}
theorem OV{W:World}{a:Addr}{v:xM}(h:W.cell? a=some v):a.spot=none/\∃cs,zW W a.block=some cs/\cs[a.off]? =some v:=by
 unfold World.cell? at h;split at h
 ·rename_i c e fz hb;split at h
  ·cases h
  ·rename_i hs;refine⟨by simpa using hs,c,by unfold zW;rw[hb],h⟩
 ·cases h
theorem US{n:Nat}{total:Nat}{cs:C3}{xs:List (DataW H×List MemPlace)}(IH:∀(t:xN) (aT:Nat) (cs:C3) (x:DataW H×List MemPlace),vh P n t=true->DataW.trod enc P W 0 (fun _=>true) true aT t cs=some x->∃ds,TR P t ds/\qn W ds cs)(df:cs.length=total){m:Nat}:
 ∀(fs:List Field) (o:Nat),(fs.foldr (fun f k o=>f.offset==o&&vh P n f.type&&k (o+P.cellsOf f.type)) (fun o=>o==total)) o=true->
  (∀f∈fs,∃x,DataW.trod enc P W 0 (fun _=>true) true m f.type ((cs.drop f.offset).take (P.cellsOf f.type))=some x)->
  o<=total->∃ds,tq P fs ds/\qn W ds (cs.drop o)
 |[],o,h,_,_=>by
  have h:o=total:=by simpa using h
  subst h;refine⟨[],.nil,?_,fun d hd=>by simp at hd,fun i d v h1=>by simp at h1⟩;simp[df]
 |f::fs,o,h,hx,ho=>by
  simp only [List.foldr_cons,xf,beq_iff_eq] at h;obtain⟨⟨h1,h2⟩,h3⟩:=h;obtain⟨x,qE⟩:=hx f xn;rw[h1] at qE;obtain⟨ds,t1,t2⟩:=IH _ _ _ _ h2 qE;by_cases aN:o+P.cellsOf f.type<=total
  ·obtain⟨cA,t3,t4⟩:=US (total:=total) (xs:=xs) IH df fs _ h3 (fun g hg=>hx g (xo _ hg)) aN;refine⟨ds++cA,.cons t1 t3,?_⟩;have e:cs.drop o=(cs.drop o).take (P.cellsOf f.type)++cs.drop (o+P.cellsOf f.type):=by
    rw[<-List.drop_drop,List.take_append_drop]
   rw[e];exact t2.app t4
  ·exfalso;have:∀(gs:List Field) (o:Nat),(gs.foldr (fun f k o=>f.offset==o&&vh P n f.type&&k (o+P.cellsOf f.type)) (fun o=>o==total)) o=true->o<=total:=by
    intro gs
    induction gs with
    |nil=>
     intro o h;have:o=total:=by simpa using h
     omega
    |cons g gs ih=>
     intro o h;simp only [List.foldr_cons,xf,beq_iff_eq] at h;have:=ih _ h.2;omega
   exact aN (this _ _ h3)
theorem Uy:∀(n:Nat) (t:xN) (aT:Nat) (cs:C3) (x:DataW H×List MemPlace),vh P n t=true->DataW.trod enc P W 0 (fun _=>true) true aT t cs=some x->∃ds,TR P t ds/\qn W ds cs:=by
 intro n
 induction n with
 |zero=>intro t aT cs x h;cases h
 |succ n ih=>
  intro t aT cs x hp h;unfold vh at hp;split at hp
  ·rename_i k hu;obtain⟨z,rfl,_,hw⟩:=DataW.trod_int hu h;exact⟨_,.int hu hw,CL rfl (.int _ _)⟩
  ·rename_i hu;obtain⟨b,rfl,_⟩:=DataW.trod_bool hu h;exact⟨_,.bool (b:=b) hu,CL rfl (.bool _)⟩
  ·rename_i hu;obtain⟨s,rfl,_,hs⟩:=DataW.trod_string hu h;refine⟨[.str s.data.toList],.str hu (by rw[Array.length_toList];exact hs),CL rfl ?_⟩;have:s=⟨⟨s.data.toList⟩⟩:=by cases s;rfl
   exact this▸Rd.str s.data.toList
  ·rename_i e hu;simp only [xf,beq_iff_eq] at hp;obtain⟨⟨po,aO⟩,bF⟩:=hp;have aO:0<P.cellsOf e:=by simpa using aO
   rcases Deep.open_slice hu h with⟨rfl,_⟩|⟨a,len,cap,m,fu,DD,Pl,rfl,_,eK,TC,hm,_,hi⟩
   ·exact⟨[.sl []],.slice hu (xL _) (fun r hr=>by simp at hr),CL rfl .qC⟩
   ·have hm:m=cap:=by simpa using hm
    subst hm;have el:∀i,i<m->∃ds bB,W.cells? 0 (a.add (i*P.cellsOf e)) (P.cellsOf e)=some bB/\TR P e ds/\qn W ds bB:=fun i bm=>by
     obtain⟨bB,h1,h2⟩:=hi i bm;obtain⟨ds,t1,t2⟩:=ih _ _ _ _ bF h2;exact⟨ds,bB,h1,t1,t2⟩
    by_cases h0:len=0
    ·subst h0;exact⟨[.sl []],.slice hu (xL _) (fun r hr=>by simp at hr),CL rfl (.m8 _ _)⟩
    ·
     have first:∃v,W.cell? a=some v:=by
      obtain⟨ds,bB,h1,_,_⟩:=el 0 MK;obtain⟨_,hl,ao⟩:=World.cells?_some h1;have:=ao 0 aO;rw[Nat.zero_mul,Addr.add_zero',Addr.add_zero',xc MK] at this;exact⟨_,this⟩
     obtain⟨v0,ov⟩:=first
     obtain⟨Ti,cells,hz,_⟩:=OV ov;obtain⟨b,off,sp⟩:=a;simp only at Ti hz;subst Ti;have get:∀i,i<m->∃ds,TR P e ds/\ds.length=P.cellsOf e/\(∀d∈ds,d.cell=true)/\∀(j:Nat) (d:D) (v:xM),ds[j]? =some d->cells[off+(i*P.cellsOf e+j)]? =some v->Rd (zW W) d v:=fun i bm=>by
      obtain⟨ds,bB,h1,t1,t2⟩:=el i bm;obtain⟨_,hl,ao⟩:=World.cells?_some h1;refine⟨ds,t1,t2.1.trans hl,t2.2.1,fun j d v hd hv=> ?_⟩;have hj:j<bB.length:=by rw[<-t2.1];exact(xe.1 hd).1
      have h3:=ao j MK;rw[Addr.add_lit,Addr.add_lit] at h3;rw[xc hj] at h3;obtain⟨_,EN,fV,dJ⟩:=OV h3;simp only at fV dJ;rw[hz] at fV;cases fV;rw[Nat.add_assoc,hv] at dJ;exact t2.2.2 j d v hd (by rw[xc hj];exact dJ.symm)
     have aV:off+m*P.cellsOf e<=cells.size:=by
      obtain⟨ds,bB,h1,t1,t2⟩:=el (m - 1) MK;obtain⟨_,hl,ao⟩:=World.cells?_some h1;have h3:=ao (P.cellsOf e - 1) MK;rw[Addr.add_lit,Addr.add_lit,xc MK] at h3;obtain⟨_,EN,fV,dJ⟩:=OV h3;simp only at fV dJ;rw[hz] at fV;cases fV;have h4:=(Array.getElem?_eq_some_iff.1 dJ).1;have h5:(m - 1)*P.cellsOf e+P.cellsOf e=m*P.cellsOf e:=by
       rw[<-Nat.succ_mul];congr 1;omega
      omega
     obtain⟨rows,ey,bE⟩:∃rows:Ca,rows.length=len/\∀i row,rows[i]? =some row->TR P e row/\row.length=P.cellsOf e/\(∀d∈row,d.cell=true)/\∀(j:Nat) (d:D) (v:xM),row[j]? =some d->cells[off+(i*P.cellsOf e+j)]? =some v->Rd (zW W) d v:=by
      have:∀k,k<=len->∃rows:Ca,rows.length=k/\∀i row,rows[i]? =some row->TR P e row/\row.length=P.cellsOf e/\(∀d∈row,d.cell=true)/\∀(j:Nat) (d:D) (v:xM),row[j]? =some d->cells[off+(i*P.cellsOf e+j)]? =some v->Rd (zW W) d v:=by
       intro k
       induction k with
       |zero=>exact fun _=>⟨[],rfl,fun i row h=>by simp at h⟩
       |succ k ihk=>
        intro hk;obtain⟨rows,g1,g2⟩:=ihk MK;obtain⟨ds,g3⟩:=get k MK;refine⟨rows++[ds],by rw[xa,g1];rfl,fun i row eS=> ?_⟩;by_cases hik:i<rows.length
        ·rw[xw hik] at eS;exact g2 i row eS
        ·have hl:=(xe.1 eS).1;rw[xa] at hl;have:i=rows.length:=by
          have:[ds].length=1:=rfl;omega
         subst this;rw[xq (xk _),Nat.sub_self] at eS;cases eS;rw[g1];exact g3
      exact this len (xk _)
     refine⟨[.sl rows],.slice hu MK (fun row eS=> ?_),CL rfl ?_⟩
     ·obtain⟨i,sW,rfl⟩:=List.getElem_of_mem eS;exact(bE i _ (xc sW)).1
     ·have:=Rd.sl (z:=zW W) rows (P.cellsOf e) b off m cells hz (fun h=>by rw[h] at ey;simp at ey;omega) (fun row eS=>by
       obtain⟨i,sW,rfl⟩:=List.getElem_of_mem eS;exact(bE i _ (xc sW)).2.1) MK aV (fun i row j d v h1 h2 h3=>(bE i row h1).2.2.2 j d v h2 h3)
      rw[ey] at this;exact this
  ·rename_i fs hu;obtain⟨xs,m,rfl,_,aE,hxl,hf⟩:=DataW.trod_struct hu h;obtain⟨ds,t1,t2⟩:=US (n:=n) (total:=P.cellsOf t) (xs:=xs) (m:=m) ih aE fs.toList 0 hp (fun f Tv=>by
    obtain⟨i,sW,he⟩:=List.getElem_of_mem Tv;have h1:fs[i]? =some f:=by
     rw[<-he,<-Array.getElem?_toList];exact xc sW
    have h2:=hf i f h1;have h3:i<xs.length:=by rw[hxl];simpa using sW
    rw[xc h3] at h2;exact⟨_,h2⟩) (xL _)
   exact⟨ds,.struct hu t1,t2⟩
  ·cases hp
end
section
variable{LL:World->Prop}{k:Nat}{L:Gy}
theorem ap4{f:FuncId}{sg:ia}{b:Bool}(hp:sg.hp=[])(hrv:sg.rv= .chan (some 1))(h:zy P LL k L f sg ds [.bool b]){w:World}(hL:PQ L w)(TJ:LL w)(aV:L.length<=w.heap.size){args':C3}
 (iS:aZ (AP L (fun c=>ds[c]?) (zW w)) sg.args args'):Calls P f ⟨args'⟩ w fun e w'=>e= .returned (.bool b)/\Below w.heap.size w w':=by
 have inv:Inv w (G0 L LL) (AP L (fun c=>ds[c]?) (zW w)) ((m4 sg.hp).aw k L []) w:=by
  have h0:=aw2 (k:=k) hL (fun _ _=>True) LL (fun c=>ds[c]?) (zW w) [] TJ aV (av5 w) (fun nd h=>by cases h);have e:(m4 sg.hp).aw k L []=(vK k L).pop []:=by
   rw[hp];show(vK k (iR L (Al []))).pop []=_;rw[show iR L (Al [])=L from ?_];rw[mQ];exact xj L
  rw[e];exact h0
 refine(h w _ args' inv rfl iS).mono fun e w' ⟨v,β',he,AZ,hv,_,_,Rv,hx⟩=>⟨?_,?_⟩
 ·rw[hrv] at hv;have hd:=Rv 0 (.bool b) rfl;cases hv with
  |sym c d v h hc hr=>rw[hd] at h;cases h;cases hr;exact he
 ·refine AZ.below.below fun k hk=> ?_
  rw[hx] at hk;exact hk
end
def dQ(p:FD->Prop):List FD->Prop|[]=>True|fd::l=>p fd/\dQ p l
theorem dQ.get{p:FD->Prop}:∀{l:List FD},dQ p l->∀(i:Nat) (fd:FD),l[i]? =some fd->p fd
 |[],_,i,fd,h=>by simp at h
 |x::l,ha,0,fd,h=>by cases h;exact ha.1
 |x::l,ha,i+1,fd,h=>ha.2.get i fd h
theorem dQ.app{p:FD->Prop}:∀{a b:List FD},dQ p a->dQ p b->dQ p (a++b)
 |[],_,_,h=>h
 |_::_,_,h,k=>⟨h.1,h.2.app k⟩
theorem bk8{β:ai}{cs:C3}{a n:Nat}(hn:ds.length=n)(h:∀(i:Nat) (d:D) (v:xM),ds[i]? =some d->cs[i]? =some v->β.d (a+i)=some d/\d.cell=true/\Rd β.z d v)(hl:ds.length=cs.length){us:C3}(hu:us=(List.range n).map fun i=>Value.chan (some (a+i+1))):aj β (.agg ⟨us⟩) (.agg ⟨cs⟩):=by
 refine .agg us cs (by rw[hu,xm,List.length_range];omega) fun i v v' h1 h2=> ?_
 subst hu;rw[xx] at h1;obtain⟨j,hj,rfl⟩:=xp.1 h1;obtain⟨hj1,ju⟩:=xe.1 hj;rw[List.getElem_range] at ju;subst ju;rw[List.length_range] at hj1;obtain⟨e1,e2,e3⟩:=h i _ v' (xc MK) h2;exact .sym (a+i) _ _ e1 e2 e3
mutual
def dq(a b:D):Bool:=match a with
 | .int k m=>match b with| .int k' n=>dR k k'&&decide (m=n)|_=>false
 | .bool x=>match b with| .bool y=>bs x y (not y)|_=>false
 | .str x=>match b with| .str y=>decide (x=y)|_=>false
 | .sl x=>match b with| .sl y=>MB x y|_=>false
 | .agg x=>match b with| .agg y=>BZ x y|_=>false
 |_=>false
termination_by structural a
def BZ(a b:Di):Bool:=match a with
 |[]=>b.isEmpty
 |x::l=>match b with|y::m=>dq x y&&BZ l m|[]=>false
termination_by structural a
def MB(a b:Ca):Bool:=match a with
 |[]=>b.isEmpty
 |x::l=>match b with|y::m=>BZ x y&&MB l m|[]=>false
termination_by structural a
end
mutual
theorem bq7:∀(a b:D),dq a b=true->a=b
 | .int k m,b,h=>by
  cases b<;>first|exact absurd h Bool.false_ne_true|skip
  rename_i k' n;have h:(dR k k'&&decide (m=n))=true:=h;rw[xf] at h;rw[qg h.1,of_decide_eq_true h.2]
 | .bool x,b,h=>by
  cases b<;>first|exact absurd h Bool.false_ne_true|skip
  rename_i y;cases x<;>cases y<;>first|rfl|exact absurd h Bool.false_ne_true
 | .str x,b,h=>by cases b<;>first|exact absurd h Bool.false_ne_true|exact congrArg D.str (of_decide_eq_true h)
 | .sl x,b,h=>by cases b<;>first|exact absurd h Bool.false_ne_true|exact congrArg D.sl (YK x _ h)
 | .agg x,b,h=>by cases b<;>first|exact absurd h Bool.false_ne_true|exact congrArg D.agg (JY x _ h)
 | .o6,b,h| .AU,b,h| .AT,b,h| .AS,b,h| .ptr _ _,b,h| .yU _,b,h| .func _ _ _,b,h=>absurd h Bool.false_ne_true
theorem JY:∀(a b:Di),BZ a b=true->a=b
 |[],b,h=>by cases b<;>first|rfl|exact absurd h Bool.false_ne_true
 |x::l,b,h=>by
  cases b<;>first|exact absurd h Bool.false_ne_true|skip
  rename_i y m;have h:(dq x y&&BZ l m)=true:=h;rw[xf] at h;rw[bq7 x y h.1,JY l m h.2]
theorem YK:∀(a b:Ca),MB a b=true->a=b
 |[],b,h=>by cases b<;>first|rfl|exact absurd h Bool.false_ne_true
 |x::l,b,h=>by
  cases b<;>first|exact absurd h Bool.false_ne_true|skip
  rename_i y m;have h:(BZ x y&&MB l m)=true:=h;rw[xf] at h;rw[JY x y h.1,YK l m h.2]
end
def Hk(nk:Nat)(g:List D->Option (List D))(env:Di)(left:Ca)(ah:Di):Nat->Bool
 |0=>true
 |n+1=>(match(qa nk env left n).bind g with|some o=>BZ o ah|none=>false)&&Hk nk g env left ah n
def T5(call:Bv)(jump:Bv)(t:DT)(env:Di):Option (List D):=match t with
 | .pick nk a _ h1 h2 _ _ cZ _ _ gC=>match lk env a with
  |some (.sl [])=>(aH (aX (lk env)) gC).bind (jump h2)
  |some (.sl (r::l))=>match(qa nk env (r::l) 0).bind (fun e=>(aH (aX (lk e)) cZ).bind (jump h1)) with
   |some ah=>bs (Hk nk (fun e=>(aH (aX (lk e)) cZ).bind (jump h1)) env (r::l) ah (r::l).length) (some ah) none
   |none=>none
  |_=>none
 |t=>bJ call jump t env
theorem WA{nk:Nat}{g:List D->Option (List D)}{env:Di}{left:Ca}{ah:Di}:∀{n:Nat},Hk nk g env left ah n=true->∀i,i<n->(qa nk env left i).bind g=some ah
 |0,_,i,h=>absurd h (Nat.not_lt_zero i)
 |n+1,h,i,hi=>by
  unfold Hk at h;rw[xf] at h;obtain⟨h1,h2⟩:=h;split at h1
  ·rename_i o ho;rcases Nat.lt_or_ge i n with h|h
   ·exact WA h2 i h
   ·obtain rfl:i=n:=MK
    rw[ho,JY _ _ h1]
  ·cases h1
theorem bd7{call:Bv}{jump:Bv}{t:DT}{env o:Di}(h:T5 call jump t env=some o):bJ call jump t env=some o:=by
 unfold T5 at h;split at h
 ·unfold bJ;split at h
  ·rename_i h1;rw[h1];exact h
  ·rename_i r l h1;rw[h1];show(if r::l=[] then _ else _)=_;rw[if_neg NS];split at h
   ·rename_i ah ho;cases hb:Hk _ (fun e=>(aH (aX (lk e)) _).bind (jump _)) env (r::l) ah (r::l).length with
    |true=>
     rw[hb] at h;cases h;exact(zA NS).2 (WA hb)
    |false=>rw[hb] at h;cases h
   ·cases h
  ·cases h
 ·exact h
def Dk(F:List FD)(O:Bv):Nat->Nat->Bv
 |0,_,_,_=>none
 |n+1,i,h,ds=>match h,O i ds with
  |0,some o=>some o
  |h,_=>match F[i]? with
   |none=>none
   |some fd=>match fd.hs[h]?,fd.qP[h]? with
    |some s,some t=>bs (Nat.beq ds.length s.m) (T5 (fun j ds=>Dk F O n j 0 ds) (fun h' ds=>Dk F O n i h' ds) t ds) none
    |_,_=>none
theorem N7{F:List FD}{X O:Bv}(hO:∀i ds o,O i ds=some o->run F X i 0 ds=some o):∀(n i h:Nat) (ds o:Di),Dk F O n i h ds=some o->run F X i h ds=some o
 |0,_,_,_,_,e=>by unfold Dk at e;cases e
 |n+1,i,h,ds,o,e=>by
  unfold Dk at e;split at e
  ·rename_i ho;cases e;exact hO _ _ _ ho
  ·split at e
   ·cases e
   ·rename_i fd hf;split at e
    ·rename_i s t hs ht;cases hm:Nat.beq ds.length s.m with
     |true=>
      rw[hm] at e;have e2:=p8 (fun j ds o h=>N7 hO n j 0 ds o h) (fun h' ds o h=>N7 hO n i h' ds o h) _ _ _ (bd7 e);obtain⟨o',r1,r2⟩:=Rn.of (Q:=(·=o)) hf hs ht (xb hm) ⟨o,e2,rfl⟩;rw[r1,r2]
     |false=>rw[hm] at e;cases e
    ·cases e
end
end Go.Ex
