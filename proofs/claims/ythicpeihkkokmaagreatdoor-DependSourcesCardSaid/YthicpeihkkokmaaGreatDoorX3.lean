/- A verified evaluator of Go functions. -/
import Derived.Test.YthicpeihkkokmaaGreatDoorX2
import Derived.Lib.ConvBytes
import Derived.Laws.IdiomStrings
import Derived.Lib.UnsafeStr
set_option linter.unusedVariables false
set_option linter.unusedSimpArgs false
namespace Go.Ex
variable{P:Program}{E:au}{w0 w:World}{β:af}{A:AW}{t ty e:xN}{x' y':xM}{α:Type}{es':a0k}{b n es len cap a lb:Nat}{r:Row}{d:D}{fz:Nat×Nat}{g:Gt}{nd:Node}{z:a0n}{neg:Bool}{row:a0d}{k:xO}{rows:a0b}{gy gx:a0t}{hb:a0r}
open Go.RowKit
noncomputable section
section
variable(ok:E.Ok P)(inv:Inv w0 E.G β A w)
def DW(E:au)(A:AW)(t:xN)(x:xM):a0q:=
 match E.ti.get none t,x with
 |some ⟨.map _ _,_,_,_,_⟩,.map (some B)=>match A.get B with
  |some ⟨.jV _ c,_,_,_,_⟩=>some (.pointer (some ⟨A.next,0,none⟩),A.add ⟨.qa B c c [],1,true,false,0⟩)
  |_=>none
 |_,_=>none
theorem aF5(rows:a0b):p8 [] rows=rows:=by
 unfold p8;rw[List.filter_eq_self.2 (fun p _=>a0C)];simp
theorem ax9{x v:xM}{A':AW}(h:DW E A t x=some (v,A')):A.next<=A'.next:=by
 unfold DW at h;split at h
 ·split at h
  ·cases h;exact Nat.le_succ _
  ·cases h
 ·cases h
include ok inv in
theorem aM5{x v:xM}{A':AW}(h:DW E A t x=some (v,A'))(hx:aj β x x'):hY w0 E.G β A ((Instr.range t x').run P w) v A':=by
 unfold DW at h;split at h
 ·rename_i B hr;have hu:=(ok.ti t _ hr).1;split at h
  ·rename_i ks c es ex ro ty hg;cases h;cases hx with
   |map _ l hl=>
    obtain⟨es',ck,rows,bw1,hd,hm,nR,_⟩:=inv.cont B _ l hg hl;have aK:β.le (β.put A.next ⟨w.heap.size,0,1,0⟩):=inv.gC (af.vT β A.next _);have ot:rows.length=ck:=by rw[nR];exact hm.1
    obtain⟨h1,h2⟩:=inv.new ⟨.qa B c c [],1,true,false,0⟩ (.mapIter (some l.b) ck #[] ck) ⟨w.heap.size,0,1,0⟩ rfl ⟨rfl,l,rows,rows,[],by rw[ot],aK.f _ _ hl,hd,hd,(aF5 rows).symm,.inl rfl⟩;refine⟨_,.pointer (some ⟨w.heap.size,0+0,none⟩),_,?_,.ptr A.next 0 _ (ju _ _ _),h1,h2⟩;have jr:(getObj l.b).run P w= .ok (.map ⟨es'⟩ ck) w:=by simp[getObj,Sem.run,bw1]
    simp[Instr.range,run_underlying hu,jr]
  ·cases h
 ·cases h
def DJ(A:AW)(R:Nat)(o:AO):AW:=match A.get R with|some ⟨_,a,b,c,d⟩=>A.put R (some ⟨o,a,b,c,d⟩)|none=>A
theorem VK(R:Nat)(o:AO):(DJ A R o).next=A.next:=by unfold DJ;split<;>rfl
def jF(f:α->Bool)(l:List α):List α:=List.rec (motive:=fun _=>List α) [] (fun a _ ih=>bs (f a) (a::ih) ih) l
theorem vN(f:α->Bool)(l:List α):jF f l=l.filter f:=by
 induction l with
 |nil=>rfl
 |cons a l ih=>
  show bs (f a) (a::jF f l) (jF f l)=_;rw[ih,List.filter_cons];cases f a<;>rfl
def Ft(i:Nat)(l:a0g):Bool:=List.rec (motive:=fun _=>Bool) false (fun a _ ih=>bs (Nat.beq a i) true ih) l
theorem Gz{i:Nat}:∀{l:a0g},Ft i l=true->i∈l
 |[],h=>by cases h
 |a::l,h=>by
  have h':bs (Nat.beq a i) true (Ft i l)=true:=h;cases hb:Nat.beq a i with
  |true=>rw[xb hb];exact xn
  |false=>rw[hb,ku] at h';exact xo _ (Gz h')
theorem iC.filter{es:a0k}{p p':MapEntry->Bool}(hp:∀e e',e.born=e'.born->p e=p' e'):iC β es es'->iC β (es.filter p) (es'.filter p'):=by
 induction es generalizing es' with
 |nil=>intro h;rw[h.qD];exact⟨rfl,fun i e e' h=>by simp at h⟩
 |cons e es ih=>
  intro h;obtain⟨e',Ir,rfl,he,hm⟩:=h.pc;have hpp:=hp e e' he.1;have Uf:=ih hm;rw[List.filter_cons,List.filter_cons,<-hpp];cases p e with
  |false=>exact Uf
  |true=>
   refine⟨by simpa using Uf.1,fun i a b ha hb=> ?_⟩;cases i with
   |zero=>grind
   |succ i=>simp at ha hb;exact Uf.2 i a b ha hb
theorem iC.append{a a' b b':a0k}(h:iC β a a')(k:iC β b b'):iC β (a++b) (a'++b'):=by
 induction a generalizing a' with
 |nil=>rw[h.qD];exact k
 |cons e a ih=>
  obtain⟨e',l',rfl,h1,h2⟩:=h.pc;have:=ih h2;refine⟨by simpa using this.1,fun i x y hx hy=> ?_⟩;cases i with
  |zero=>grind
  |succ i=>simp at hx hy;exact this.2 i x y hx hy
def Lq(E:au)(A:AW)(it:xM):Option (List (xM×AW)):=
 match it with
 | .pointer (some ⟨R,0,none⟩)=>bs (Nat.ble E.G.n R) (match A.get R with
  |some ⟨.qa B (.chan (some n)) lc _,_,_,_,_⟩=>(match A.get B with
   |some ⟨.jV _ (.chan (some n')),_,_,_,_⟩=>bs (Nat.beq n n') (some [(.tuple ⟨[.bool true,J,J]⟩,DJ A R (.Bq B (.chan (some n)) lc false)),(.tuple ⟨[.bool false]⟩,DJ A R (.Bq B (.chan (some n)) lc true))]) none
   |_=>none)
  |_=>none) none
 |_=>none
theorem aB0(seen:a0g)(rows:a0b){i:Nat}(hi:i<(p8 seen rows).length):∃j row,rows[j]? =some row/\(p8 seen rows)[i]? =some row/\j∉seen/\p8 (seen++[j]) rows=(p8 seen rows).eraseIdx i/\
 (rows.zipIdx.filter fun p=> !seen.contains p.2)[i]? =some (row,j):=by
 have aD:i<(rows.zipIdx.filter fun p=> !seen.contains p.2).length:=by simpa[p8] using hi
 have lJ:=xc aD;generalize hp:(rows.zipIdx.filter fun p=> !seen.contains p.2)[i]=p at lJ;obtain⟨row,j⟩:=p;have qV:(row,j)∈rows.zipIdx.filter fun p=> !seen.contains p.2:=xu lJ
 obtain⟨mZ,fU⟩:=List.mem_filter.1 qV;have fb:=List.mem_zipIdx_iff_getElem?.1 mZ;refine⟨j,row,fb,by grind [p8],a0D,?_,lJ⟩;have dj:((rows.zipIdx.filter fun p=> !seen.contains p.2).map (·.2)).Nodup:=by
  refine List.Sublist.nodup ((List.filter_sublist (l:=rows.zipIdx)).map _) ?_;rw[List.zipIdx_map_snd];exact List.nodup_range'
 unfold p8;have Nv:(rows.zipIdx.filter fun p=> !(seen++[j]).contains p.2)=(rows.zipIdx.filter fun p=> !seen.contains p.2).filter (fun p=>p.2≠j):=by
  rw[List.filter_filter];refine List.filter_congr fun p _=> ?_
  simp[Bool.and_comm]
 rw[Nv];generalize (rows.zipIdx.filter fun p=> !seen.contains p.2)=l at*;clear Nv qV mZ fU fb hp hi
 induction l generalizing i with
 |nil=>simp at aD
 |cons q l ih=>
  obtain⟨q1,q2⟩:=q;rw[List.map_cons,List.nodup_cons] at dj;cases i with
  |zero=>
   simp at lJ;obtain⟨rfl,rfl⟩:=lJ
   grind [List.filter_cons_of_neg,List.eraseIdx_cons_zero,List.filter_eq_self]
  |succ i=>
   grind
theorem aA6{r:Nat}{kx st ck:Nat}(sn:Array Nat)(es:a0z)(cs:Array (Option MapEntry)){i:Nat}{dr:Nat}
 (jr:(getObj r).run P w= .ok (.mapIter (some b) kx sn st) w) (ET:(getObj b).run P w= .ok (.map es ck) w)
 (fB:(!sn.isEmpty&& !es.isEmpty&&es.all (fun e=>decide (e.born≥st)))=false)
 (cJ:cs=(if((es.filter fun e=> !sn.contains e.born).filter (·.born<kx)).isEmpty then #[none] else #[])++(((es.filter fun e=> !sn.contains e.born).filter (·.born<kx))++((es.filter fun e=> !sn.contains e.born).filter (·.born≥kx))).map some)
 (hch:(choose (.mapNext cs.size)).run P w= .ok i {w with drawn:=dr}):
 (Instr.next (.pointer (some ⟨r,0,none⟩)) false ty).run P w=(match cs[i]? with
  |some (some e)=>(do
   setObj r (.mapIter (some b) kx (sn.push e.born) ck)
   pure (.tuple #[.bool true,e.key,e.val]):Sem xM)
  |some none=>pure (.tuple #[.bool false])
  |none=>stuck "Next: no such candidate").run P {w with drawn:=dr}:=by
 subst cJ;simp only [Instr.next,Sem.run_bind,jr,Result.andThen_ok,ET,fB,Bool.false_eq_true,if_false,Sem.run_pure,hch];rfl
theorem az2(n:Nat)(hn:0<n)(w:World):∃i d,i<n/\(choose (.mapNext n)).run P w= .ok i {w with drawn:=d}:=by
 by_cases h:n<=1
 ·refine⟨0,w.drawn,hn,?_⟩;simp[choose,Sem.run,Question.forced,h]
 ·refine⟨w.tape w.drawn (.mapNext n)%n,w.drawn+1,Nat.mod_lt _ hn,?_⟩;simp[choose,Sem.run,Question.forced,h,Question.cut]
def uL(kx:Nat)(seen:a0g)(es':a0k):List (Option MapEntry):=
 (if(es'.filter (fun e=>decide (e.born<kx)&& !seen.contains e.born)).isEmpty then[none] else[])++
  ((es'.filter (fun e=>decide (e.born<kx)&& !seen.contains e.born))++(es'.filter (fun e=>decide (kx<=e.born)&& !seen.contains e.born))).map some
theorem aH9(kx:Nat)(seen:a0g)(es':a0k):(⟨uL kx seen es'⟩:Array (Option MapEntry))=(if((⟨es'⟩:a0z).filter (fun e=> !(⟨seen⟩:Array Nat).contains e.born)|>.filter (·.born<kx)).isEmpty then #[none] else #[])++(((⟨es'⟩:a0z).filter (fun e=> !(⟨seen⟩:Array Nat).contains e.born)|>.filter (·.born<kx))++((⟨es'⟩:a0z).filter (fun e=> !(⟨seen⟩:Array Nat).contains e.born)|>.filter (·.born≥kx))).map some:=by
 apply Array.ext';unfold uL;have cJ:∀x,(⟨seen⟩:Array Nat).contains x=seen.contains x:=fun x=>a0C
 have he:((⟨es'⟩:a0z).filter (fun e=> !(⟨seen⟩:Array Nat).contains e.born)|>.filter (fun x=>decide (x.born<kx))).isEmpty=(es'.filter (fun e=>decide (e.born<kx)&& !seen.contains e.born)).isEmpty:=by
  rw[<-Array.isEmpty_toList];simp only [Array.toList_filter',List.filter_filter,cJ]
 rw[he];simp only [Array.toList_append,Array.toList_map,Array.toList_filter',List.filter_filter,cJ]
 grind
theorem aX7(hb:∀(i:Nat) (e:MapEntry),es'[i]? =some e->e.born=i)(seen:a0g)(hn:n=es'.length):
 es'.filter (fun e=>decide (e.born<n)&& !seen.contains e.born)=(es'.zipIdx.filter fun p=> !seen.contains p.2).map (·.1)/\es'.filter (fun e=>decide (n<=e.born)&& !seen.contains e.born)=[]:=by
 refine⟨?_,?_⟩
 ·have h0:es'=es'.zipIdx.map (·.1):=(List.zipIdx_map_fst 0 es').symm;have h1:es'.filter (fun e=>decide (e.born<n)&& !seen.contains e.born)=(es'.zipIdx.map (·.1)).filter (fun e=>decide (e.born<n)&& !seen.contains e.born):=by rw[<-h0]
  rw[h1,List.filter_map]
  congr 1
  refine List.filter_congr fun p hp=> ?_
  grind
 grind [List.filter_eq_nil_iff,List.mem_iff_getElem?,xe,decide_eq_false]
theorem KA(l:List α)(seen:a0g):(l.zipIdx.filter fun p=> !seen.contains p.2).map (·.2)=(List.range' 0 l.length).filter fun j=> !seen.contains j:=by
 rw[<-List.zipIdx_map_snd,List.filter_map];rfl
include inv in
theorem PM{it IK:xM}{l:List (xM×AW)}{ty0:xN}(h:Lq E A it=some l)(hi:aj β it IK):∃p∈l,hY w0 E.G β A ((Instr.next IK false ty0).run P w) p.1 p.2/\A.next<=p.2.next:=by
 unfold Lq at h;split at h
 ·rename_i R;replace h:=ax h;rcases h with⟨hG,h⟩|⟨_,h⟩
  ·have jd:=xh hG;cases hi with
   |ptr _ _ lr jN=>
    split at h
    ·rename_i B n lc aB es ex ro ty hg;split at h
     ·rename_i ks n' es2 ym M5 qj fA;replace h:=ax h;rcases h with⟨hb,h⟩|⟨_,h⟩
      ·cases h;obtain rfl:=xb hb;obtain⟨vA,lb,rows,left,seen,h1,h2,h3,h4,h5,_⟩:=inv.cont R _ lr hg jN;obtain⟨es',ck,Lj,g1,g2,g3,g4,g5⟩:=inv.cont B _ lb fA h2;rw[h3] at g2;cases g2;have aD:rows.length=es'.length:=g3.1;obtain⟨hO,hN⟩:=aX7 g5 seen aD;have pK:(rows.zipIdx.filter fun p=> !seen.contains p.2).length=(es'.zipIdx.filter fun p=> !seen.contains p.2).length:=by
        have:=congrArg List.length (KA rows seen);have h2:=congrArg List.length (KA es' seen);rw[xm] at this h2;rw[this,h2,aD]
       have kJ:left.length=(es'.zipIdx.filter fun p=> !seen.contains p.2).length:=by rw[h5,<-pK];unfold p8;rw[xm]
       have zO:uL rows.length seen es'=(if left=[] then[none] else[])++((es'.zipIdx.filter fun p=> !seen.contains p.2).map (·.1)).map some:=by
        unfold uL;rw[hO,hN,xj]
        congr 1
        by_cases aK:left=[]
        ·grind
        ·rw[if_neg aK,if_neg]
         grind [List.isEmpty_iff,List.map_eq_nil_iff,xA]
       have Mp:0<(uL rows.length seen es').length:=by
        rw[zO];by_cases aK:left=[]
        ·grind
        ·grind
       obtain⟨ci,dr,o7,bI0⟩:=az2 (P:=P) (uL rows.length seen es').length Mp w;have jr:(getObj lr.b).run P w= .ok (.mapIter (some lb.b) rows.length ⟨seen⟩ rows.length) w:=by simp[getObj,Sem.run,h1]
       have ET:(getObj lb.b).run P w= .ok (.map ⟨es'⟩ ck) w:=by simp[getObj,Sem.run,g1]
       have fB:(!(⟨seen⟩:Array Nat).isEmpty&& !(⟨es'⟩:a0z).isEmpty&& (⟨es'⟩:a0z).all (fun e=>decide (e.born≥rows.length)))=false:=by
        cases dS:es' with
        |nil=>simp
        |cons e0 er=>
         have h0:=g5 0 e0 (by rw[dS];rfl)
         grind
       have bj6:=aA6 (P:=P) (ty:=ty0) (⟨seen⟩:Array Nat) (⟨es'⟩:a0z) (⟨uL rows.length seen es'⟩:Array (Option MapEntry)) jr ET fB (aH9 _ _ _) (by rw[List.size_toArray];exact bI0);have bG7:(Value.pointer (some ⟨lr.b,lr.d+0,none⟩))= .pointer (some ⟨lr.b,0,none⟩):=by rw[vA]
       rw[bG7,bj6];have hca:(⟨uL rows.length seen es'⟩:Array (Option MapEntry))[ci]? =(uL rows.length seen es')[ci]? :=a0C
       rw[hca];have bk:lr.b<w.heap.size:=(Array.getElem?_eq_some_iff.1 h1).1;by_cases aK:left=[]
       ·rw[if_pos aK] at zO;have hz:(es'.zipIdx.filter fun p=> !seen.contains p.2)=[]:=by rw[aK] at kJ;exact xA kJ.symm
        rw[hz] at zO;have CP:ci=0:=by rw[zO] at o7;simpa using o7
        refine⟨_,xo _ xn,⟨β,.tuple #[.bool false],{w with drawn:=dr},?_,aj.sK ((aX.nil β).cons (.bool false)),?_,af.cb _ _⟩,by rw[VK];grind⟩
        ·rw[zO,CP];rfl
        ·unfold DJ;rw[hg];refine(inv.drew dr).write R lr _ _ hg jN jd ⟨rfl,rfl,rfl,xk _,fun _ _ _=>rfl⟩ rfl ?_;exact⟨vA,lb,rows,left,seen,h2,h3,h4,h5,.inl ⟨rfl,aK,h1⟩⟩
       ·rw[if_neg aK,List.nil_append] at zO;have am5:ci<(p8 seen rows).length:=by rw[zO,xm,xm,<-kJ,h5] at o7;exact o7
        obtain⟨j,row,q1,q2,q3,q4,q5⟩:=aB0 seen rows am5;have am4:ci<(es'.zipIdx.filter fun p=> !seen.contains p.2).length:=by rw[<-kJ,h5];exact am5
        have EQ:(es'.zipIdx.filter fun p=> !seen.contains p.2)[ci].2=j:=by
         have e1:=congrArg (fun l=>l[ci]?) (KA es' seen);have e2:=congrArg (fun l=>l[ci]?) (KA rows seen);simp only [xx] at e1 e2;rw[q5] at e2;rw[<-aD,<-e2,xc am4] at e1;simpa using e1
        obtain⟨e',jZ⟩:∃e',(es'.zipIdx.filter fun p=> !seen.contains p.2)[ci]? =some (e',j):=⟨_,by rw[xc am4,<-EQ]⟩;have yh:e'.born=j:=by
         have hm:=(List.mem_filter.1 (xu jZ)).1;exact g5 j e' (List.mem_zipIdx_iff_getElem?.1 hm)
        have I8:(uL rows.length seen es')[ci]? =some (some e'):=by rw[zO,xx,xx,jZ];rfl
        rw[I8];have Ei:(⟨seen⟩:Array Nat).push e'.born=⟨seen++[j]⟩:=by apply Array.ext';simp[yh]
        refine⟨_,xn,⟨β,.tuple #[.bool true,e'.key,e'.val],{w with drawn:=dr,heap:=w.heap.setIfInBounds lr.b (.mapIter (some lb.b) rows.length ⟨seen++[j]⟩ rows.length)},?_,aj.sK (((aX.nil β).cons (.jW _)|>.cons (.jW _)).cons (.bool true)),?_,af.cb _ _⟩,by rw[VK];grind⟩
        ·show Sem.run P (do setObj lr.b (.mapIter (some lb.b) rows.length ((⟨seen⟩:Array Nat).push e'.born) ck);pure (.tuple #[.bool true,e'.key,e'.val]):Sem xM) _=_;rw[Ei,g4,<-aD];have jY:(setObj lr.b (.mapIter (some lb.b) rows.length ⟨seen++[j]⟩ rows.length)).run P {w with drawn:=dr}= .ok () {w with drawn:=dr,heap:=w.heap.setIfInBounds lr.b (.mapIter (some lb.b) rows.length ⟨seen++[j]⟩ rows.length)}:=by simp[setObj,Sem.run,h1]
         simp_all
        ·unfold DJ;rw[hg];refine(inv.drew dr).write R lr _ _ hg jN jd ⟨rfl,rfl,rfl,a0C,fun k hk bq=> ?_⟩ a0C ?_
         ·grind
         ·show gb β lr _ ((w.heap.setIfInBounds lr.b _)[lr.b]?);rw[Array.getElem?_setIfInBounds_self_of_lt bk];exact⟨vA,lb,rows,left,seen,h2,h3,h4,h5,.inr ⟨rfl,ci,j,row,q1,a0D,a0D,rfl⟩⟩
      ·cases h
     ·cases h
    ·cases h
  ·cases h
 ·cases h
end
section
variable(ok:E.Ok P)(inv:Inv w0 E.G β A w)
def TM(E:au)(t:xN)(x:xM):a0t:=
 match E.ti.get none t,x with
 |some ⟨.slice _,_,_,_,_⟩,.slice none 0 0=>some (.int .i64 0)
 |_,_=>none
include ok in
theorem bp1{x v:xM}(h:TM E t x=some v)(hx:aj β x x'):∃v',(Builtin.cap_ #[t] ty #[x']).run P w= .ok v' w/\aj β v v':=by
 unfold TM at h;split at h
 ·rename_i hr;have hu:=(ok.ti t _ hr).1;cases h;cases hx;exact⟨_,by simp[Builtin.cap_,run_underlying hu,goInt],.int _ _⟩
 ·cases h
end
theorem VE(w:World)(e:xN)(s:ByteArray):Lib.bytesWorld w e s=w.drew.alloc (.cells (Lib.bytesCells w e s) e ((Lib.bytesCells w e s).size,(Lib.bytesCells w e s).size+1)):=by
 have h:(Lib.bytesWorld w e s).heap=(w.drew.alloc (.cells (Lib.bytesCells w e s) e ((Lib.bytesCells w e s).size,(Lib.bytesCells w e s).size+1))).heap:=by
  apply Array.ext_getElem?;intro i;rcases Nat.lt_trichotomy i w.heap.size with h|h|h
  ·rw[Lib.bytesWorld_at_old w e s i h,Below.heap_alloc w.drew _ i (by simpa using h)];rfl
  ·subst h;rw[Lib.bytesWorld_at_new];exact(heap_alloc_new w.drew _).symm
  ·rw[Array.getElem?_eq_none (by rw[Lib.bytesWorld_size];omega),Array.getElem?_eq_none a0F]
 have e1:Lib.bytesWorld w e s={Lib.bytesWorld w e s with heap:=(w.drew.alloc (.cells (Lib.bytesCells w e s) e ((Lib.bytesCells w e s).size,(Lib.bytesCells w e s).size+1))).heap}:=by rw[<-h]
 exact e1.trans rfl
section
variable(ok:E.Ok P)(inv:Inv w0 E.G β A w)
def Sw(e u o:Nat)(l:List (Nat×Nat×Nat)):Bool:=List.rec (motive:=fun _=>Bool) false (fun a _ ih=>bs (Nat.beq a.1 e&&Nat.beq a.2.1 u&&Nat.beq a.2.2 o) true ih) l
theorem Xw{e u o:Nat}:∀{l:List (Nat×Nat×Nat)},Sw e u o l=true->(e,u,o)∈l
 |[],h=>by cases h
 |a::l,h=>by
  have h':bs (Nat.beq a.1 e&&Nat.beq a.2.1 u&&Nat.beq a.2.2 o) true (Sw e u o l)=true:=h;cases hb:(Nat.beq a.1 e&&Nat.beq a.2.1 u&&Nat.beq a.2.2 o) with
  |true=>
   simp only [xf] at hb
   grind [xb,xn]
  |false=>
   rw[hb,ku] at h';exact xo _ (Xw h')
def Q2(E:au)(A:AW)(s d:xN)(x:xM):a0t:=
 match E.ti.get none s,E.ti.get none d,x with
 |some ⟨.pointer t,_,_,_,_⟩,some ⟨.unsafePointer,_,_,_,_⟩,.pointer (some ⟨B,o,none⟩)=>match E.ti.get none t,A.get B with
  |some r,some ⟨.cells cs,_,_,_,_⟩=>bs (Nat.ble 1 r.size&&Nat.blt o (bA cs)) (some x) none
  |_,_=>none
 |some ⟨.unsafePointer,_,_,_,_⟩,some ⟨.pointer u,_,_,_,_⟩,.pointer (some ⟨B,o,none⟩)=>match E.ti.get none u,A.get B with
  |some r,some ⟨.cells cs,_,true,_,ty⟩=>match E.ti.get none ty with
   |some rt=>bs (Nat.ble 1 r.size&&Nat.ble 1 rt.size&&Sw ty u o E.lay&&Nat.beq (bA cs) rt.size) (some x) none
   |none=>none
  |_,_=>none
 |_,_,_=>none
theorem Wh{s:Nat}(hs:1<=s)(hc:P.cellsOf e=s)(dw i n:Nat)(hn:i+n<=dw):liesAt P P.depth e dw (i*s) e n=true:=by
 have hd:P.depth=(2*(P.types.size+Made.depth)+1)+1:=rfl;rw[hd];simp only [liesAt,Bool.or_eq_true];left;rw[hd];have h0: ¬s=0:=a0B
 simp[rowAt,hc,hn,sameLayout,h0,Nat.mul_div_cancel i (show 0<s by omega)]
include inv in
theorem yI{B:Nat}{cs:a0e}{ex ro:Bool}(hg:A.get B=some ⟨.cells cs,es,ex,ro,ty⟩){l:Loc}(hl:β B=some l):∃eN,w.shape? l.b=some (eN,l.sz)/\(ty≠jS->eN=ty)/\l.d+cs.length<=l.sz/\(ex=true->l.d=0/\l.d+cs.length=l.sz):=by
 obtain⟨aB,e,fz,k1,k2,k3,k4,k5,k6,k7⟩:=inv.cont B _ l hg hl;refine⟨e,?_,k7.2,k3,k6⟩
 grind [World.shape?]
theorem Py(ok:E.Ok P)(h:E.ti.get none t=some r):P.cellsOf t=r.size:=by
 obtain⟨_,i,hi,hs,_⟩:=ok.ti t r h;simp[Program.cellsOf,hi,hs]
include ok inv in
theorem aU0{s d:xN}{x v:xM}(h:Q2 E A s d x=some v)(hx:aj β x x'):∃v',(convert s d x').run P w= .ok v' w/\aj β v v':=by
 unfold Q2 at h;split at h
 ·rename_i t _ _ _ _ _ _ _ _ B o hs hd;split at h
  ·rename_i r cs es ex ro ty hr hg;replace h:=ax h;rcases h with⟨hb,h⟩|⟨_,h⟩
   ·simp only [xf,du] at hb;have bY:=xh hb.1;have bM:o<cs.length:=xh hb.2;cases h;refine⟨x',?_,hx⟩;cases hx with
    |ptr _ _ l hl=>
     obtain⟨eN,s1,_,s2,_⟩:=yI inv hg hl;have h1:=(ok.ti s _ hs).1;have h2:=(ok.ti d _ hd).1;have h3: ¬(l.sz<=l.d+o):=a0B
     have h4: ¬(r.size=0):=a0B
     simp[convert,run_underlying h1,run_underlying h2,Conv.unsafePointer,Conv.seenAt,viewAt,cellsIn,s1,dL ok hr,h3,h4]
   ·cases h
  ·cases h
 ·rename_i _ _ _ _ u _ _ _ _ B o hs hd;split at h
  ·rename_i r cs es ro ty hr hg;split at h
   ·rename_i rt hrt;replace h:=ax h;rcases h with⟨hb,h⟩|⟨_,h⟩
    ·simp only [xf,du] at hb;obtain⟨⟨⟨bY,CR⟩,bM⟩,qv⟩:=hb;have cx8:=xh bY;have cx9:=xh CR;have bI4:=ok.lay _ _ _ (Xw bM);have cx7:=xb qv;cases h;refine⟨x',?_,hx⟩;cases hx with
     |ptr _ _ l hl=>
      obtain⟨eN,s1,Ab,s2,s3⟩:=yI inv hg hl;obtain rfl:=(Ab (fun e=>by grind [ok.any])).symm;obtain⟨s4,s5⟩:=s3 rfl;have h1:=(ok.ti s _ hs).1;have h2:=(ok.ti d _ hd).1;have h4: ¬(r.size=0):=a0B
      have h5:=Py ok hrt;have h6:l.sz/P.cellsOf ty=1:=by rw[h5,show l.sz=rt.size by omega,Nat.div_self a0B]
      simp[convert,run_underlying h1,run_underlying h2,Conv.unsafePointer,Conv.seenAt,viewAt,s1,dL ok hr,h4,variablesAt,h6,s4,bI4]
    ·cases h
   ·cases h
  ·cases h
 ·cases h
theorem VM(w:World)(b o n:Nat):w.grownBy (w.freeze ⟨b,o,none⟩ n) (some b):=by
 unfold World.freeze;split
 ·exact⟨rfl,rfl,rfl,xk _,fun k _ _=>rfl⟩
 ·refine⟨rfl,rfl,rfl,a0C,fun k hk bq=> ?_⟩
  grind
theorem VZ(w:World)(b o n:Nat):(w.freeze ⟨b,o,none⟩ n).heap.size=w.heap.size:=by
 grind [World.freeze]
theorem WR(w:World)(b o n:Nat){c:a0x}(h:w.heap[b]? =some (.cells c e fz)):∃Jg,(w.freeze ⟨b,o,none⟩ n).heap[b]? =some (.cells c e Jg):=by
 unfold World.freeze
 grind
end
section
variable(ok:E.Ok P)(inv:Inv w0 E.G β A w)
def KW(A:AW)(it:xM):a0t:=
 match it with
 | .pointer (some ⟨R,0,none⟩)=>match A.get R with
  |some ⟨.qa B (.chan (some n)) _ [k,v],_,_,_,_⟩=>match A.get B with
   |some ⟨.jV _ (.chan (some n')),_,_,_,_⟩=>bs (Nat.beq n n') (some (.tuple ⟨[k,v]⟩)) none
   |_=>none
  |_=>none
 |_=>none
theorem XC(z:a0n):∀(ks:a0u) (a:a0d) (va:a0e),fC ks a=some va->a.length=va.length/\∀(i:Nat) (d:D) (v:xM),a[i]? =some d->va[i]? =some v->Rd z d v
 |[],[],va,h=>by cases h;grind
 |[],_::_,va,h=>by cases h
 |k::ks,[],va,h=>by cases h
 |k::ks,d::ds,va,h=>by
  unfold fC at h;split at h
  ·grind
  ·rename_i k2 oY j n pV h1 h2;cases h1;cases h2;split at h
   ·rename_i hk;obtain⟨l,hl,rfl⟩:=xp.1 h;obtain⟨e1,e2⟩:=XC z ks ds l hl;refine⟨by simp[e1],fun i d v a b=> ?_⟩;cases i with
    |zero=>simp at a b;subst a;subst b;exact .int _ _
    |succ i=>grind
   ·cases h
  ·cases h
theorem ay8{r kx ck:Nat}(sn:Array Nat)(es:a0z){s:Nat}{e':MapEntry}(jr:(getObj r).run P w= .ok (.mapIter (some b) kx sn ck) w)(ET:(getObj b).run P w= .ok (.map es ck) w)(hb:sn.back?=some s)(hf:es.find? (·.born==s)=some e'):
 (Instr.entry (.pointer (some ⟨r,0,none⟩))).run P w= .ok (.tuple #[e'.key,e'.val]) w:=by
 simp[Instr.entry,jr,ET,hb,hf]
include inv in
theorem aP1{it IK v:xM}(h:KW A it=some v)(hi:aj β it IK):∃v',(Instr.entry IK).run P w= .ok v' w/\aj β v v':=by
 unfold KW at h;split at h
 ·rename_i R;cases hi with
  |ptr _ _ lr jN=>
   split at h
   ·rename_i B n lc k vv es ex ro ty hg;split at h
    ·rename_i ks n' es2 ym M5 qj fA;replace h:=ax h;rcases h with⟨hb,h⟩|⟨_,h⟩
     ·cases h;obtain rfl:=xb hb;obtain⟨vA,lb,rows,left,seen,h1,h2,h3,h4,h5,h6⟩:=inv.cont R _ lr hg jN;obtain⟨es',ck,Lj,g1,g2,g3,g4,g5⟩:=inv.cont B _ lb fA h2;rw[h3] at g2;cases g2;rcases h6 with h6|⟨Ho,i,row,p1,p2,p3⟩
      ·cases h6
      ·have hi:i<es'.length:=by rw[<-g3.1];exact(xe.1 p2).1
       have he:=xc hi;obtain⟨ds,vs,d,q1,q2,q3,q4,q5⟩:=g3.2 i row _ p2 he;subst q1;obtain⟨dk,dv,e0,e1,e2⟩:=je p3;cases e0;have jr:(getObj lr.b).run P w= .ok (.mapIter (some lb.b) rows.length ⟨seen⟩ ck) w:=by rw[g4,<-g3.1];simp[getObj,Sem.run,h1]
       have ET:(getObj lb.b).run P w= .ok (.map ⟨es'⟩ ck) w:=by simp[getObj,Sem.run,g1]
       have cc5:(⟨seen⟩:Array Nat).back?=some i:=by rw[p1];simp
       have uK:(⟨es'⟩:a0z).find? (·.born==i)=some es'[i]:=by
        have:es'.find? (·.born==i)=some es'[i]:=by
         rw[List.find?_eq_some_iff_getElem];refine⟨a0D,i,hi,rfl,fun j hj=> ?_⟩;rw[g5 j _ (xc a0B)];simp;omega
        simpa using this
       obtain⟨r1,r2⟩:=XC β.z ks ds vs q2;refine⟨.tuple #[es'[i].key,es'[i].val],?_,aj.sK (((aX.nil β).cons (vS e2 q5)).cons (vS e1 (by rw[q3];exact .agg ds vs r1 r2)))⟩
       grind [ay8]
     ·cases h
    ·cases h
   ·cases h
 ·cases h
end
def qe(a b:xM):Bool:=
 match a,b with
 | .bool x,.bool y=>bs x y (not y)
 | .int k x,.int j y=>dA k j&&mo x y
 | .string ⟨⟨x⟩⟩,.string ⟨⟨y⟩⟩=>u7 x y
 | .pointer none,.pointer none=>true
 | .pointer (some ⟨B,o,none⟩),.pointer (some ⟨B',o',none⟩)=>Nat.beq B B'&&Nat.beq o o'
 | .slice none n c,.slice none n' c'=>Nat.beq n n'&&Nat.beq c c'
 | .slice (some ⟨B,o,none⟩) n c,.slice (some ⟨B',o',none⟩) n' c'=>Nat.beq B B'&&Nat.beq o o'&&Nat.beq n n'&&Nat.beq c c'
 | .map none,.map none=>true
 | .map (some x),.map (some y)=>Nat.beq x y
 | .nilFunc,.nilFunc=>true
 | .nilIface,.nilIface=>true
 | .func (.func f) ⟨[]⟩ ⟨[]⟩,.func (.func f') ⟨[]⟩ ⟨[]⟩=>Nat.beq f f'
 | .chan (some x),.chan (some y)=>Nat.beq x y
 | .iface x (.chan (some c)),.iface y (.chan (some c'))=>Nat.beq x y&&Nat.beq c c'
 |_,_=>false
def kS(a:a0e):a0e->Bool:=
 List.rec (motive:=fun _=>a0e->Bool) (fun b=>List.rec (motive:=fun _=>Bool) true (fun _ _ _=>false) b)
  (fun x _ ih b=>List.rec (motive:=fun _=>Bool) false (fun y t _=>bs (qe x y) (ih t) false) b) a
def vg(a b:xM):Bool:=
 match a,b with
 | .agg ⟨x⟩,.agg ⟨y⟩=>kS x y
 | .tuple ⟨x⟩,.tuple ⟨y⟩=>kS x y
 | .func (.func f) ⟨p⟩ ⟨q⟩,.func (.func f') ⟨p'⟩ ⟨q'⟩=>Nat.beq f f'&&kS p p'&&kS q q'
 | .iface x (.agg ⟨p⟩),.iface y (.agg ⟨q⟩)=>Nat.beq x y&&kS p q
 |a,b=>qe a b
def r8(a:a0e):a0e->Bool:=
 List.rec (motive:=fun _=>a0e->Bool) (fun b=>List.rec (motive:=fun _=>Bool) true (fun _ _ _=>false) b)
  (fun x _ ih b=>List.rec (motive:=fun _=>Bool) false (fun y t _=>bs (vg x y) (ih t) false) b) a
theorem uu{a b:xM}(h:qe a b=true):a=b:=by
 unfold qe at h;split at h<;>(try simp only [xf] at h)
 ·rename_i x y;cases x<;>cases y<;>first|rfl|cases h
 ·obtain⟨h1,h2⟩:=h;rw[oG] at h2;rw[pY h1,of_decide_eq_true h2]
 ·rw[yS] at h;grind
 ·rfl
 ·simp_all
 ·simp_all
 ·simp_all
 ·rfl
 ·simp_all
 ·rfl
 ·rfl
 ·simp_all
 ·simp_all
 ·simp_all
 ·cases h
theorem mB:∀(a b:a0e),kS a b=true->a=b
 |[],[],_=>rfl
 |[],_::_,h=>by cases h
 |_::_,[],h=>by cases h
 |x::a,y::b,h=>by
  have h':bs (qe x y) (kS a b) false=true:=h;cases hb:qe x y with
  |false=>rw[hb] at h';cases h'
  |true=>
   rw[hb,eQ] at h';rw[uu hb,mB a b h']
theorem DQ{a b:xM}(h:vg a b=true):a=b:=by
 unfold vg at h;split at h
 ·rw[mB _ _ h]
 ·rw[mB _ _ h]
 ·simp only [xf] at h
  grind [xb,mB]
 ·rw[xf] at h
  grind [xb,mB]
 ·exact uu h
theorem sM:∀(a b:a0e),r8 a b=true->a=b
 |[],[],_=>rfl
 |[],_::_,h=>by cases h
 |_::_,[],h=>by cases h
 |x::a,y::b,h=>by
  have h':bs (vg x y) (r8 a b) false=true:=h;cases hb:vg x y with
  |false=>rw[hb] at h';cases h'
  |true=>
   rw[hb,eQ] at h';rw[DQ hb,sM a b h']
def L3:BinOp->Nat| .add=>0| .sub=>1| .mul=>2| .quo=>3| .rem=>4| .and=>5| .or=>6| .xor=>7| .shl=>8| .shr=>9| .andNot=>10| .eql=>11| .neq=>12| .lss=>13| .leq=>14| .gtr=>15| .geq=>16
theorem aS1{a b:BinOp}(h:L3 a=L3 b):a=b:=by cases a<;>cases b<;>first|rfl|(exact absurd h a0I)
def Ld:UnOp->Nat| .neg=>0| .xor=>1| .not=>2| .plus=>3
theorem aJ8{a b:UnOp}(h:Ld a=Ld b):a=b:=by cases a<;>cases b<;>first|rfl|(exact absurd h a0I)
def mI(a:a0u):a0u->Bool:=
 List.rec (motive:=fun _=>a0u->Bool) (fun b=>List.rec (motive:=fun _=>Bool) true (fun _ _ _=>false) b)
  (fun x _ ih b=>List.rec (motive:=fun _=>Bool) false (fun y t _=>bs (dA x y) (ih t) false) b) a
theorem rM:∀(a b:a0u),mI a b=true->a=b
 |[],[],_=>rfl
 |[],_::_,h=>by cases h
 |_::_,[],h=>by cases h
 |x::a,y::b,h=>by
  have h':bs (dA x y) (mI a b) false=true:=h;cases hb:dA x y with
  |false=>rw[hb] at h';cases h'
  |true=>
   rw[hb,eQ] at h';rw[pY hb,rM a b h']
theorem bp5{r r':Bool}(h:bs r r' (not r')=true):r=r':=by cases r<;>cases r'<;>first|rfl|cases h
def nF(a b:NK):Bool:=
 match a,b with
 | .bin o c,.bin o' c'=>Nat.beq (L3 o) (L3 o')&&Nat.beq c c'
 | .vI k n,.vI k' n'=>mI k k'&&bs n n' (not n')
 | .un o,.un o'=>Nat.beq (Ld o) (Ld o')
 | .mv k,.mv k'=>dA k k'
 | .F2,.F2=>true
 | .H4,.H4=>true
 | .uT,.uT=>true
 | .EN,.EN=>true
 | .HT,.HT=>true
 | .qk a,.qk b=>Nat.beq a b
 | .uU a,.uU b=>Nat.beq a b
 | .tI a,.tI b=>Nat.beq a b
 | .ld,.ld=>true
 | .xW a,.xW b=>Nat.beq a b
 | .Hs,.Hs=>true
 | .own a,.own b=>Nat.beq a b
 | .call a,.call b=>Nat.beq a b
 | .mj a,.mj b=>Nat.beq a b
 | .cP a b,.cP c d=>Nat.beq a c&&Nat.beq b d
 | .Ik a,.Ik b=>Nat.beq a b
 | .app a b,.app a' b'=>Nat.beq a a'&&Nat.beq b b'
 | .jf,.jf=>true
 | .qK a b r,.qK a' b' r'=>Nat.beq a a'&&Nat.beq b b'&&bs r r' (not r')
 | .vk e a b r,.vk e' a' b' r'=>Nat.beq e e'&&Nat.beq a a'&&Nat.beq b b'&&bs r r' (not r')
 | .ky a,.ky b=>Nat.beq a b
 | .n5 a b,.n5 a' b'=>Nat.beq a a'&&Nat.beq b b'
 | .strOf,.strOf=>true
 | .mx,.mx=>true
 | .mn,.mn=>true
 | .Ea,.Ea=>true
 | .Ef,.Ef=>true
 | .F4 a,.F4 b=>Nat.beq a b
 | .uB a,.uB b=>mI a b
 | .DF a,.DF b=>mI a b
 | .AU a,.AU b=>mI a b
 | .vY,.vY=>true
 | .HU,.HU=>true
 | .DG a,.DG b=>mI a b
 | .DC a,.DC b=>mI a b
 | .DE a,.DE b=>mI a b
 | .DH,.DH=>true
 | .B1 r,.B1 r'=>bs r r' (not r')
 | .tj a b,.tj a' b'=>Nat.beq a a'&&Nat.beq b b'
 |_,_=>false
theorem ph{a b:NK}(h:nF a b=true):a=b:=by
 unfold nF at h;split at h<;>(try simp only [xf] at h)
 all_goals first|rfl|(cases h;done)|grind [aS1,aJ8,pY,rM,bp5,xb]
def C5(E:au)(t:xN):Nat:=
 match E.ti.get none t with
 |some ⟨.bool,_,_,_,_⟩=>1
 |some ⟨.pointer _,_,_,_,_⟩=>2
 |some ⟨.string,_,_,_,_⟩=>3
 |_=>0
def jG(E:au)(t:xN):a0r:=match E.ti.get none t with|some r=>some r.size|none=>none
def qm(E:au)(g:Gt)(x:Option Operand):xM:=match x with|some x=>ev E g x|none=> .int .i64 (.ofNat 0)
def rz(E:au)(g:Gt)(x:Option Operand):a0e:=match x with|some x=>[ev E g x]|none=>[]
def keyOf(E:au)(sq:a0c)(g:Gt)(op:Op):Option (NK×List xM):=
 match op with
 | .binOp Ax t x y _=>match iw sq t with
  |some ks=>match Ax with
   | .eql=>some (.vI ks false,[ev E g x,ev E g y])
   | .neq=>some (.vI ks true,[ev E g x,ev E g y])
   |_=>none
  |none=>match E.ti.get none t with
   |some ⟨.slice _,_,_,_,_⟩=>match ev E g y with
    | .slice none 0 0=>match Ax with
     | .eql=>some (.B1 false,[ev E g x])
     | .neq=>some (.B1 true,[ev E g x])
     |_=>none
    |_=>none
   |_=>some (.bin Ax (C5 E t),[ev E g x,ev E g y])
 | .unOp MY _ x=>some (.un MY,[ev E g x])
 | .convert s d x=>match E.ti.get none s,E.ti.get none d with
  |some _,some ⟨.int k,_,_,_,_⟩=>some (.mv k,[ev E g x])
  |some _,some ⟨.string,_,_,_,_⟩=>some (.F2,[ev E g x])
  |_,_=>none
 | .call ⟨.builtin .len,⟨[x]⟩,⟨[t]⟩⟩=>match E.ti.get none t with
  |some ⟨.string,_,_,_,_⟩=>some (.H4,[ev E g x])
  |some ⟨.slice _,_,_,_,_⟩=>some (.uT,[ev E g x])
  |_=>none
 | .call ⟨.builtin .max,⟨l⟩,_⟩=>some (.mx,eY (ev E g) l)
 | .call ⟨.builtin .min,⟨l⟩,_⟩=>some (.mn,eY (ev E g) l)
 | .index t x i=>match E.ti.get none t with
  |some ⟨.string,_,_,_,_⟩=>some (.EN,[ev E g x,ev E g i])
  |_=>none
 | .slice t x lo hi none=>match E.ti.get none t with
  |some ⟨.string,_,_,_,_⟩=>some (.HT,ev E g x::qm E g lo::rz E g hi)
  |some ⟨.slice e,_,_,_,_⟩=>match jG E e with|some n=>some (.qk n,ev E g x::qm E g lo::rz E g hi)|none=>none
  |_=>none
 | .indexAddr t x i=>match E.ti.get none t with
  |some ⟨.slice e,_,_,_,_⟩=>match jG E e with|some n=>some (.uU n,[ev E g x,ev E g i])|none=>none
  |_=>none
 | .fieldAddr t x f=>match E.ti.get none t with
  |some ⟨.struct ⟨fs⟩,_,_,_,_⟩=>match dP fs f with
   |some fd=>match E.ti.get none fd.type with
    |some r=>bs (Nat.beq r.size 0) none (some (.tI fd.offset,[ev E g x]))
    |none=>none
   |none=>none
  |_=>none
 | .load t x=>match E.ti.get none t with
  |some r=>bs (nq r.desc) (some (.xW r.size,[ev E g x])) (some (.ld,[ev E g x]))
  |none=>none
 | .nilCheck x=>some (.Hs,[ev E g x])
 |_=>none
def zk(E:au)(sq:a0c)(g:Gt)(op:Op)(nd:Node):a0t:=
 match keyOf E sq g op with
 |some (k,args)=>bs (nF k nd.k) (bs (r8 args nd.args) (some nd.res) none) none
 |none=>none
theorem az9{sq:a0c}{op:Op}{v:xM}(h:zk E sq g op nd=some v):v=nd.res/\keyOf E sq g op=some (nd.k,nd.args):=by
 unfold zk at h;split at h
 ·rename_i k args hk;rcases ax h with⟨h1,h⟩|⟨_,h⟩
  ·rcases ax h with⟨h2,h⟩|⟨_,h⟩
   ·cases h;rw[<-ph h1,<-sM _ _ h2]
    grind
   ·cases h
  ·cases h
 ·cases h
def kT(z:a0n)(b o:Nat):af:=⟨fun _=>some ⟨b,o,0,0⟩,z,fun _=>none,⟨fun _=>False,z⟩,fun _=>none,fun _=>none⟩
theorem aN3{x:a0t}{v v':xM}(h:ofInt x=some d)(hx:x=some v)(hv:aj β v v'):Rd z d v':=by
 subst hx;unfold ofInt at h;split at h
 ·rename_i e;cases e;cases h;cases hv;exact .int _ _
 ·rename_i e;cases e;cases h;cases hv;exact .bool _
 ·cases h
section
variable(ok:E.Ok P){sq:a0c}(aR:E.Seq P sq)
include ok aR in
theorem bp8{op:BinOp}{x y:D}(h:K7 op (C5 E t) x y=some d)(hx:Rd z x x')(hy:Rd z y y')(p q:Operand)(w:World):
 ∃v',(do eqGuard op t p q x' y';binOp op t x' y':Sem xM).run P w= .ok v' w/\Rd z d v':=by
 have ac9:C5 E t=2->∃u a b c e,E.ti.get none t=some ⟨.pointer u,a,b,c,e⟩:=fun h=>by
  grind [C5]
 unfold K7 at h;split at h
 ·rename_i k a k' b;cases hx;cases hy;cases hi:B6 op k a k' b with
  |none=>rw[hi] at h;cases h
  |some v=>
   have hb:ft E sq op t (.int k a) (.int k' b)=some v:=hi;obtain⟨v',h1,h2⟩:=pZ ok aR (β:=kT z 0 0) hb (.int k a) (.int k' b) p q w
   grind [aN3]
 ·rename_i a b;cases hx;cases hy;split at h
  ·split at h<;>cases h
   rename_i aK;have hb:ft E sq .add t (.string ⟨⟨a⟩⟩) (.string ⟨⟨b⟩⟩)=some (.string ⟨⟨iU a b⟩⟩):=by
    simp only [ft];rw[du,du,show Nat.ble (Nat.add a.length b.length) 9223372036854775807=true from Nat.ble_eq_true_of_le aK,eQ]
   obtain⟨v',h1,h2⟩:=pZ ok aR (β:=kT z 0 0) hb (.string _) (.string _) p q w;rw[mF] at h2;cases h2;exact⟨_,h1,.str _⟩
  ·unfold zS at h;split at h<;>cases h
   ·have hb:ft E sq .eql t (.string ⟨⟨a⟩⟩) (.string ⟨⟨b⟩⟩)=some (.bool (u7 a b)):=rfl;obtain⟨v',h1,h2⟩:=pZ ok aR (β:=kT z 0 0) hb (.string _) (.string _) p q w;rw[yS] at h2;cases h2;exact⟨_,h1,.bool _⟩
   ·have hb:ft E sq .neq t (.string ⟨⟨a⟩⟩) (.string ⟨⟨b⟩⟩)=some (.bool (not (u7 a b))):=rfl;obtain⟨v',h1,h2⟩:=pZ ok aR (β:=kT z 0 0) hb (.string _) (.string _) p q w;rw[yS] at h2;cases h2;exact⟨_,h1,.bool _⟩
 ·split at h<;>cases h
  rename_i row o hc;obtain⟨hc,rfl⟩:=hc;cases hy;obtain⟨_,_,_,_,_,hr⟩:=ac9 hc;cases hx with
  |ptr _ _ b o0 cells hz hs hh=>
   obtain⟨v',h1,h2⟩:=pZ ok aR (show ft E sq .eql t (.pointer (some ⟨0,0,none⟩)) (.pointer none)=some (.bool false) by simp only [ft,qw,hr];rfl) (.ptr (β:=kT z b (o0+o)) 0 0 ⟨b,o0+o,0,0⟩ rfl) .qf p q w;cases h2;exact⟨_,h1,.bool _⟩
 ·split at h<;>cases h
  rename_i hc;obtain⟨hc,rfl⟩:=hc;cases hx;cases hy;obtain⟨_,_,_,_,_,hr⟩:=ac9 hc;obtain⟨v',h1,h2⟩:=pZ ok aR (β:=kT z 0 0) (show ft E sq .eql t (.pointer none) (.pointer none)=some (.bool true) by simp only [ft,qw,hr];rfl) .qf .qf p q w;cases h2;exact⟨_,h1,.bool _⟩
 ·cases h
include ok aR in
theorem Yr{x:D}{e a1 a2 a3 a4}(hr:E.ti.get none t=some ⟨.slice e,a1,a2,a3,a4⟩)(h:GJ neg x=some d)(hx:Rd z x x')(hy:aj β (.slice none 0 0) y')(p q:Operand)(w:World):
 ∃v',(do eqGuard (if neg then .neq else .eql) t p q x' y';binOp (if neg then .neq else .eql) t x' y':Sem xM).run P w= .ok v' w/\Rd z d v':=by
 cases hy;unfold GJ at h;split at h<;>cases h
 rename_i r0 rs;cases hx with
 |sl rows es b o c cells hz bq dS hc hs hh=>
  let γ:af:=⟨fun _=>some ⟨b,o,0,o⟩,z,fun _=>none,⟨fun _=>False,z⟩,fun _=>none,fun _=>none⟩
  have hv:aj γ (.slice (some ⟨0,0,none⟩) (r0::rs).length c) (.slice (some ⟨b,o,none⟩) (r0::rs).length c):= .slice (β:=γ) 0 0 _ c c ⟨b,o,0,o⟩ rfl hc (xk _) a0C;have hb:ft E sq .eql t (.slice (some ⟨0,0,none⟩) (r0::rs).length c) (.slice none 0 0)=some (.bool false):=by simp only [ft,qw,hr];rfl
  obtain⟨v',h1,h2⟩:=pZ ok aR hb hv .rP p q w;cases h2;exact⟨_,h1,.bool _⟩
include ok aR in
theorem ZO{ks:a0u}{a b:a0d}{r:Bool}(hk:iw sq t=some ks)(h:sU ks a b=some r)(hx:Rd z (.agg a) x')(hy:Rd z (.agg b) y')(p q:Operand)(w:World):
 (do eqGuard (if neg then .neq else .eql) t p q x' y';binOp (if neg then .neq else .eql) t x' y':Sem xM).run P w= .ok (.bool (r !=neg)) w:=by
 have key:∀(ks:a0u) (a b:a0d) (r:Bool),sU ks a b=some r->∀(va vb:a0e),a.length=va.length->b.length=vb.length->(∀(i:Nat) (d:D) (v:xM),a[i]? =some d->va[i]? =some v->Rd z d v)->(∀(i:Nat) (d:D) (v:xM),b[i]? =some d->vb[i]? =some v->Rd z d v)->
  eZ ks va vb=some r/\aX (kT z 0 0) va va/\aX (kT z 0 0) vb vb:=by
  intro ks
  induction ks with
  |nil=>
   intro a b r h va vb h1 h2 _ _
   match a,b,h with
   |[],[],h=>
    obtain rfl:va=[]:=xA h1.symm;obtain rfl:vb=[]:=xA h2.symm;cases h;exact⟨rfl,aX.nil _,aX.nil _⟩
  |cons k ks ih=>
   intro a b r h va vb h1 h2 h3 h4
   match a,b,h with
   | .int k1 m::a,.int k2 n::b,h=>
    have h':(if k1=k/\k2=k then(sU ks a b).map fun r=>decide (m=n)&&r else none)=some r:=h;split at h'
    ·rename_i gU;obtain⟨r0,fG,rfl⟩:=xp.1 h'
     match va,vb,h1,h2,h3,h4 with
     |x::va,y::vb,h1,h2,h3,h4=>
      have hx:=h3 0 _ _ rfl rfl;have hy:=h4 0 _ _ rfl rfl;cases hx;cases hy;obtain⟨i1,i2,i3⟩:=ih a b r0 fG va vb a0D a0D (fun i d v e1 e2=>h3 (i+1) d v a0D a0D) (fun i d v e1 e2=>h4 (i+1) d v a0D a0D);refine⟨?_,i2.cons (.int _ _),i3.cons (.int _ _)⟩;show n7 k (eZ ks) (Value.int k1 m::va) (Value.int k2 n::vb)=_;unfold n7;have e1:dA k1 k=true:=by rw[gU.1];cases k<;>rfl
      have e2:dA k2 k=true:=by rw[gU.2];cases k<;>rfl
      simp only [e1,e2,Bool.and_self,eQ,i1];rw[oG];cases decide (m=n)<;>rfl
    ·cases h'
 cases hx with
 |agg _ va IV h1=>
  cases hy with
  |agg _ vb lm h2=>
   obtain⟨e1,e2,e3⟩:=key ks a b r h va vb IV lm h1 h2;have hb:ft E sq (if neg then .neq else .eql) t (.agg ⟨va⟩) (.agg ⟨vb⟩)=some (.bool (r !=neg)):=by
    cases neg
    ·simp only [ft,qw,hk,e1,Option.map_some];cases r<;>rfl
    ·simp only [ft,qw,hk,e1,Option.map_some];cases r<;>rfl
   obtain⟨v',h3,h4⟩:=pZ ok aR (β:=kT z 0 0) hb (aj.nu e2) (aj.nu e3) p q w;cases h4;exact h3
theorem br2{op:UnOp}{x:D}(h:LY op x=some d)(hx:Rd z x x')(w:World):∃v',(Op.unary op x').run P w= .ok v' w/\Rd z d v':=by
 unfold LY at h;split at h
 ·rename_i k n;split at h
  ·cases h
  ·rename_i hs;have hs:k.signed=false:=by simpa using hs
   obtain⟨r,hr,rfl⟩:=xp.1 h;cases hx;obtain⟨v',h1,h2⟩:=Le (β:=kT z 0 0) (show Cq .xor (.int k n)=some (.int k r) by show bs k.signed none (Option.map (Value.int k) (n8 BinOp.xor k (Int.ofNat ((mk k).sub 1)) n))=_;rw[hs,hr];rfl) (.int _ _) P w;cases h2;exact⟨_,h1,.int _ _⟩
 ·cases h
include ok in
theorem aZ6{a1 a2 a3 a4}{x i:D}{i':xM}(hr:E.ti.get none t=some ⟨.string,a1,a2,a3,a4⟩)(h:Kr x i=some d)(hx:Rd z x x')(hi:Rd z i i')(w:World):∃v',(Instr.index t x' i').run P w= .ok v' w/\Rd z d v':=by
 unfold Kr at h;split at h
 ·rename_i l k m;obtain⟨b,hb,rfl⟩:=xp.1 h;cases hx;cases hi;have hv:DZ E t (.string ⟨⟨l⟩⟩) (.int k (.ofNat m))=some (.int .u8 (.ofNat b.toNat)):=by simp only [DZ,hr,fK,hb]
  obtain⟨v',h1,h2⟩:=Dt (β:=kT z 0 0) ok hv (.string _) (.int _ _) w;cases h2;exact⟨_,h1,.int _ _⟩
 ·cases h
def wk(z:a0n)(w:World):Prop:=∀b cs,z b=some cs->∃e fz,w.heap[b]? =some (.cells cs e fz)
include ok in
theorem bt8{x:D}(bg:wk z w)(hr:E.ti.get none t=some r)(hd:nq r.desc=false)(h:LZ x=some d)(hx:Rd z x x'):∃v',(Instr.loadAt t x').run P w= .ok v' w/\Rd z d v':=by
 unfold LZ at h;split at h
 ·rename_i row o;obtain⟨d2,h1,h⟩:=xr.1 h;split at h<;>cases h
  cases hx with
  |ptr _ _ b o0 cells hz hs hh=>
   obtain⟨e,fz,hb⟩:=bg b cells hz;have bk:=(xe.1 h1).1;have SI:o0+o<cells.size:=a0B
   refine⟨cells[o0+o],?_,hh o _ _ h1 (by simp[SI])⟩;have iz:w.cell? ⟨b,o0+o,none⟩=some cells[o0+o]:=by rw[cell_of_row w b _ cells e fz hb];simp[SI]
   simp[Instr.loadAt,Instr.sureAddr,loadVar,Gd ok hr,hd,load,Sem.run,iz]
 ·cases h
include ok in
theorem bi7{x:D}(bg:wk z w)(hr:E.ti.get none t=some r)(hd:nq r.desc=true)(h:K6 r.size x=some d)(hx:Rd z x x'):∃v',(Instr.loadAt t x').run P w= .ok v' w/\Rd z d v':=by
 unfold K6 at h;split at h
 ·rename_i row o;split at h<;>cases h
  rename_i aK;cases hx with
  |ptr _ _ b o0 cells hz hs hh=>
   obtain⟨e,fz,hb⟩:=bg b cells hz;have lJ:∀j,j<r.size->((cells.toList.drop (o0+o)).take r.size)[j]? =cells[o0+o+j]? :=fun j hj=>by
    grind
   have aD:((cells.toList.drop (o0+o)).take r.size).length=r.size:=by simp;omega
   refine⟨.agg ⟨(cells.toList.drop (o0+o)).take r.size⟩,?_,?_⟩
   ·have aW:(loadCells ⟨b,o0+o,none⟩ r.size).run P w= .ok ((cells.toList.drop (o0+o)).take r.size).toArray w:=by
     have:=run_loadCells_list (P:=P) w ⟨b,o0+o,none⟩ ((cells.toList.drop (o0+o)).take r.size) (fun j u hu=>by
      rw[Addr.add_mid];have hj:j<r.size:=by have:=(xe.1 hu).1;omega
      grind [cell_of_row])
     rw[aD] at this;exact this
    simp[Instr.loadAt,Instr.sureAddr,loadVar,Gd ok hr,hd,dL ok hr,aW]
   ·refine .agg _ _ a0D fun i d v h1 h2=> ?_
    grind
 ·cases h
include ok in
theorem ba9{fs:List Field}{a1 a2 a3 a4}{f:Nat}{fd:Field}{o:Nat}(hr:E.ti.get none t=some ⟨.struct ⟨fs⟩,a1,a2,a3,a4⟩)(hf:fs[f]? =some fd)(bu:E.ti.get none fd.type=some r)(hz:Nat.beq r.size 0=false)
 (hx:Rd z (.ptr row o) x') (w:World):∃v',(Instr.fieldAt t x' f).run P w= .ok v' w/\Rd z (.ptr row (o+fd.offset)) v':=by
 rw[oQ] at hz;have tV: ¬r.size=0:=by simpa using hz
 cases hx with
 |ptr _ _ b o0 cells xY hs hh=>
  refine⟨.pointer (some ⟨b,o0+(o+fd.offset),none⟩),?_,.ptr row (o+fd.offset) b o0 cells xY hs hh⟩;have hu:=(ok.ti t _ hr).1;simp[Instr.fieldAt,run_underlying hu,hf,Instr.sureAddr,fieldPlace,dL ok bu,tV,Addr.add_lit,Nat.add_assoc]
include ok in
theorem aZ8{a1 a2 a3 a4}{x i:D}{i':xM}(hr:E.ti.get none t=some ⟨.slice e,a1,a2,a3,a4⟩)(hs:jG E e=some n)(h:Kt n x i=some d)(hx:Rd z x x')(hi:Rd z i i')(w:World):∃v',(Instr.indexAt t x' i').run P w= .ok v' w/\Rd z d v':=by
 unfold jG at hs;split at hs<;>cases hs
 rename_i r bu;unfold Kt at h;split at h
 ·rename_i rows k m;obtain⟨row,h1,h⟩:=xr.1 h;split at h<;>cases h
  rename_i ot;have bk:=(xe.1 h1).1;cases hi;cases hx with
  |rj=>simp at bk
  |nO=>simp at bk
  |sl _ es b o c cells hz bq dS hc hs hh=>
   have bH1:es=r.size:=by rw[<-dS row (xu h1),ot]
   subst bH1;have hu:=(ok.ti t _ hr).1;refine⟨.pointer (some ⟨b,o+m*r.size+0,none⟩),?_,.ptr row 0 b (o+m*r.size) cells hz ?_ fun j d v e1 e2=>hh m row j d v h1 e1 a0D⟩
   ·simp[Instr.indexAt,asIntOf,run_underlying hu,dL ok bu,Addr.add_lit,Nat.add_assoc,bk]
   ·rw[ot];have:(m+1)*r.size<=c*r.size:=xD _ a0B
    grind
 ·cases h
include ok in
theorem bo6{s d:xN}{j:xO}{n:Int}{a1 a2 a3 a4}(hs:E.ti.get none s=some r)(hd:E.ti.get none d=some ⟨.int k,a1,a2,a3,a4⟩)(w:World):(convert s d (.int j n)).run P w= .ok (.int k (k.wrap n)) w:=by
 have hv:BJ E s d (.int j n)=some (.int k (gG k n)):=by simp only [BJ,hs,hd]
 obtain⟨v',h1,h2⟩:=P8 (β:=kT (fun _=>none) 0 0) ok hv (.int _ _) w;cases h2
 grind [lW]
include ok in
theorem bo5{s d:xN}{l:a0h}{a1 a2 a3 a4}(hs:E.ti.get none s=some r)(hd:E.ti.get none d=some ⟨.string,a1,a2,a3,a4⟩)(w:World):(convert s d (.string ⟨⟨l⟩⟩)).run P w= .ok (.string ⟨⟨l⟩⟩) w:=by
 have hv:BJ E s d (.string ⟨⟨l⟩⟩)=some (.string ⟨⟨l⟩⟩):=by simp only [BJ,hs,hd]
 obtain⟨v',h1,h2⟩:=P8 (β:=kT (fun _=>none) 0 0) ok hv (.string _) w;cases h2;exact h1
include ok in
theorem aY6{l:a0h}{a1 a2 a3 a4}(hr:E.ti.get none t=some ⟨.string,a1,a2,a3,a4⟩)(w:World):(Builtin.len_ #[t] ty #[.string ⟨⟨l⟩⟩]).run P w= .ok (.int .i64 l.length) w:=by
 have hu:=(ok.ti t _ hr).1;simp[Builtin.len_,run_underlying hu,goInt];rfl
include ok in
theorem aY7{a1 a2 a3 a4}(hr:E.ti.get none t=some ⟨.slice e,a1,a2,a3,a4⟩)(hx:Rd z (.sl rows) x')(w:World):(Builtin.len_ #[t] ty #[x']).run P w= .ok (.int .i64 rows.length) w:=by
 have hu:=(ok.ti t _ hr).1;cases hx<;>simp[Builtin.len_,run_underlying hu,goInt]
theorem Cs(iO:a<=b)(Ap:b<=len)(dt:len<=cap)(fY:hb.getD len=b)(jB:gy=some (.int k (.ofNat a))\/(gy=none/\a=0))(jq:(hb=none/\gx=none)\/∃k',hb=some b/\gx=some (.int k' (.ofNat b)))(s:Bool)(w:World):
 ∃m',(Instr.sliceBounds s len cap gy gx none).run P w= .ok (a,b,m') w/\len<=m'/\m'<=cap:=by
 have e1:uh gx len len=some b:=by
  rcases jq with⟨h1,rfl⟩|⟨k',h1,rfl⟩
  ·rw[h1] at fY;exact congrArg some fY
  ·show bs (Nat.ble b len) (some b) none=some b;rw[Nat.ble_eq_true_of_le Ap];rfl
 have e2:uh gy 0 b=some a:=by
  rcases jB with rfl|⟨rfl,rfl⟩
  ·show bs (Nat.ble a b) (some a) none=some a;rw[Nat.ble_eq_true_of_le iO];rfl
  ·rfl
 have hB:uC len gy gx=some (a,b):=by simp only [uC,e1,e2]
 have rl:pF (kT (fun _=>none) 0 0) gy gy:=by rcases jB with rfl|⟨rfl,_⟩;exact .int _ _;trivial
 have rh:pF (kT (fun _=>none) 0 0) gx gx:=by rcases jq with⟨_,rfl⟩|⟨_,_,rfl⟩;trivial;exact .int _ _
 exact⟨cap,(sG (P:=P) hB rl rh dt s w).1,dt,xk _⟩
include ok in
theorem Ze{a1 a2 a3 a4}{x:D}(hr:E.ti.get none t=some ⟨.slice e,a1,a2,a3,a4⟩)(hs:jG E e=some n)(h:Bh n x (some a) hb=some d)(hx:Rd z x x')
 (jB:gy=some (.int k (.ofNat a))\/(gy=none/\a=0)) (jq:(hb=none/\gx=none)\/∃k',hb=some b/\gx=some (.int k' (.ofNat b))) (w:World):∃v',(Instr.sliceAt t x' gy gx none).run P w= .ok v' w/\Rd z d v':=by
 unfold jG at hs;split at hs<;>cases hs
 rename_i r bu;have hu:=(ok.ti t _ hr).1;unfold Bh at h;split at h
 ·rename_i rows a0 e0;cases e0;split at h<;>cases h
  rename_i aK;have B9:(hb=none/\gx=none)\/∃k',hb=some (hb.getD rows.length)/\gx=some (.int k' (.ofNat (hb.getD rows.length))):=by
   rcases jq with h|⟨k',rfl,h⟩
   ·exact .inl h
   ·grind
  generalize I1:hb.getD rows.length=b2 at*;cases hx with
  |rj=>
   obtain rfl:b2=0:=a0D
   obtain rfl:a=0:=a0B
   obtain⟨m',aM,_,hm⟩:=Cs (P:=P) (len:=0) (cap:=0) (a:=0) (b:=0) (xk _) (xk _) (xk _) I1 jB B9 true w;obtain rfl:m'=0:=a0B
   exact⟨.slice none 0 0,by simp[Instr.sliceAt,run_underlying hu,Instr.slice,aM,dL ok bu],.rj⟩
  |nO ad c=>
   obtain rfl:b2=0:=a0D
   obtain rfl:a=0:=a0B
   obtain⟨m',aM,_,hm⟩:=Cs (P:=P) (len:=0) (cap:=c) (a:=0) (b:=0) (xk _) (xk _) (xL _) I1 jB B9 true w;exact⟨.slice (some ad) 0 m',by simp[Instr.sliceAt,run_underlying hu,Instr.slice,aM,dL ok bu,Addr.add],.nO _ _⟩
  |sl _ es bb o c cells hz bq dS hc aS hh=>
   obtain⟨m',aM,mZ,fU⟩:=Cs (P:=P) (len:=rows.length) (cap:=c) (a:=a) (b:=b2) aK.1 aK.2.1 hc I1 jB B9 true w;have aD:((rows.drop a).take (b2 - a)).length=b2 - a:=by rw[xz,List.length_drop];omega
   have gA:∀ib,b2 - a<=ib->o+a*es+ib*es<=cells.size->Rd z (.sl ((rows.drop a).take (b2 - a))) (.slice (some ⟨bb,o+a*es,none⟩) (b2 - a) ib):=fun ib h1 h2=>by
    by_cases he:(rows.drop a).take (b2 - a)=[]
    ·rw[he] at aD⊢;rw[<-aD];exact .nO _ _
    ·have:=Rd.sl (z:=z) ((rows.drop a).take (b2 - a)) es bb (o+a*es) ib cells hz he (fun row fb=>dS row (List.mem_of_mem_drop (List.mem_of_mem_take fb))) a0D h2 (fun i row j d v e1 e2 e3=>by
      grind)
     grind
   have sf:∀m,m<=c->a<=m->o+a*es+(m - a)*es<=cells.size:=fun m h1 h2=>by
    have h3:a*es+(m - a)*es=m*es:=by rw[<-Nat.add_mul];congr 1;omega
    have h4:m*es<=c*es:=xD _ h1;omega
   by_cases US:a=0
   ·subst US;have:=gA m' a0B a0D;simp only [Nat.zero_mul,Nat.add_zero,Nat.sub_zero] at this;exact⟨.slice (some ⟨bb,o,none⟩) b2 m',by simp[Instr.sliceAt,run_underlying hu,Instr.slice,aM,dL ok bu,Addr.add],this⟩
   ·by_cases ham:m'=a
    ·have hba:b2=a:=a0B
     subst hba;subst ham;have he:(rows.drop m').take (m' - m')=[]:=a0C
     refine⟨.slice (some ⟨bb,o,none⟩) 0 0,by simp[Instr.sliceAt,run_underlying hu,Instr.slice,aM,dL ok bu],?_⟩;rw[he];exact .nO _ _
    ·have mP:es=r.size:=by
      have hf:=aK.2.2.resolve_left US;unfold Gq at hf;split at hf
      ·grind
      ·grind
     subst mP;exact⟨.slice (some ⟨bb,o+a*r.size,none⟩) (b2 - a) (m' - a),by simp[Instr.sliceAt,run_underlying hu,Instr.slice,aM,dL ok bu,Addr.add_lit,ham],gA _ a0B (sf m' fU a0B)⟩
 ·cases h
include ok in
theorem aV2{a1 a2 a3 a4}{x:D}(hr:E.ti.get none t=some ⟨.string,a1,a2,a3,a4⟩)(h:GH x (some a) hb=some d)(hx:Rd z x x')
 (jB:gy=some (.int k (.ofNat a))\/(gy=none/\a=0)) (jq:(hb=none/\gx=none)\/∃k',hb=some b/\gx=some (.int k' (.ofNat b))) (w:World):∃v',(Instr.sliceAt t x' gy gx none).run P w= .ok v' w/\Rd z d v':=by
 have hu:=(ok.ti t _ hr).1;unfold GH at h;split at h
 ·rename_i l a0 e0;cases e0;split at h<;>cases h
  rename_i aK;have B9:(hb=none/\gx=none)\/∃k',hb=some (hb.getD l.length)/\gx=some (.int k' (.ofNat (hb.getD l.length))):=by
   rcases jq with h|⟨k',rfl,h⟩
   ·exact .inl h
   ·grind
  generalize I1:hb.getD l.length=b2 at*;cases hx;obtain⟨m',aM,_⟩:=Cs (P:=P) (len:=l.length) (cap:=l.length) (a:=a) (b:=b2) aK.1 aK.2 (xk _) I1 jB B9 false w;refine⟨_,?_,.str _⟩;have aS:(⟨⟨l⟩⟩:ByteArray).size=l.length:=rfl;simp[Instr.sliceAt,run_underlying hu,Instr.slice,aS,aM,VP]
 ·cases h
end
theorem WC(h:tA d=some a):∃k,d= .int k (.ofNat a):=by
 unfold tA at h;split at h
 ·simp_all
 ·cases h
theorem P'{yp:Act}(E1:∀x d,bR β.d (ev E g x)=some d->Rd β.z d (yp.eval x)){u:xM}{lo hi:Option Operand}{f:D->Option Nat->Option Nat->a0w}(hf:∀x b,f x none b=none){ds:a0d}
 (h1:aI (bR β.d) (u::qm E g lo::rz E g hi)=some ds) (h2:Fj f ds=some d):
 ∃dx al hb k b,bR β.d u=some dx/\f dx (some al) hb=some d/\(lo.map yp.eval=some (.int k (.ofNat al))\/(lo.map yp.eval=none/\al=0))/\((hb=none/\hi.map yp.eval=none)\/∃k',hb=some b/\hi.map yp.eval=some (.int k' (.ofNat b))):=by
 obtain⟨dx,r1,rfl,e1,h1⟩:=iu h1;obtain⟨dl,r2,rfl,e2,h1⟩:=iu h1;have jB:∀al,tA dl=some al->∃k,lo.map yp.eval=some (.int k (.ofNat al))\/(lo.map yp.eval=none/\al=0):=fun al aQ=>by
  obtain⟨k,rfl⟩:=WC aQ;cases lo with
  |none=>
   have e2:some (D.int .i64 (.ofNat 0))=some (D.int k (.ofNat al)):=e2;cases e2
   simp_all
  |some y=>
   have:=E1 y _ e2;generalize hg:yp.eval y=yv at this;cases this
   grind
 cases hi with
 |none=>
  have:r2=[]:=XF h1;subst this;have h2:f dx (tA dl) none=some d:=h2;cases aQ:tA dl with
  |none=>grind
  |some al=>
   grind
 |some y=>
  obtain⟨db,rfl,e3⟩:=kP h1;have h2:((tA db).bind fun b=>f dx (tA dl) (some b))=some d:=h2;obtain⟨b,hb,h4⟩:=xr.1 h2;clear h2;obtain⟨k',rfl⟩:=WC hb;cases aQ:tA dl with
  |none=>grind
  |some al=>
   rw[aQ] at h4;obtain⟨k,hk⟩:=jB al aQ;have:=E1 y _ e3;generalize hg:yp.eval y=yv at this;cases this
   grind
section
variable(ok:E.Ok P){sq:a0c}(aR:E.Seq P sq)(inv:Inv w0 E.G β A w)
include ok aR inv
omit ok aR inv in
theorem Yv:∀{l:a0d} {l':a0e} {x:Int},Lv k l x=some d->l.length=l'.length->(∀(i:Nat) (d:D) (v:xM),l[i]? =some d->l'[i]? =some v->Rd z d v)->∃n,d= .int k n/\(l'.foldlM Builtin.max2 (.int k x)).run P w= .ok (.int k n) w
 |[],l',x,h,hl,hr=>by
  have:l'=[]:=xA hl.symm;subst this;cases h
  simp_all
 |y::r,[],x,h,hl,hr=>by cases hl
 |y::r,y'::r',x,h,hl,hr=>by
  have qh:∃k2 n,y= .int k2 n/\Lv k r (if x<n then n else x)=some d:=by
   cases y<;>first|(cases h;done)|exact⟨_,_,rfl,h⟩
  obtain⟨k2,n,rfl,h2⟩:=qh;have hy:=hr 0 _ y' rfl rfl;cases hy;obtain⟨m,e1,e2⟩:=Yv h2 (by simpa using hl) (fun i d v a b=>hr (i+1) d v (by simpa using a) (by simpa using b))
  grind [Builtin.max2,pure]
omit ok aR inv in
theorem NN:∀{l:a0d} {l':a0e} {x:Int},EK k l x=some d->l.length=l'.length->(∀(i:Nat) (d:D) (v:xM),l[i]? =some d->l'[i]? =some v->Rd z d v)->∃n,d= .int k n/\(l'.foldlM Builtin.min2 (.int k x)).run P w= .ok (.int k n) w
 |[],l',x,h,hl,hr=>by
  have:l'=[]:=xA hl.symm;subst this;cases h
  simp_all
 |y::r,[],x,h,hl,hr=>by cases hl
 |y::r,y'::r',x,h,hl,hr=>by
  have qh:∃k2 n,y= .int k2 n/\EK k r (if n<x then n else x)=some d:=by
   cases y<;>first|(cases h;done)|exact⟨_,_,rfl,h⟩
  obtain⟨k2,n,rfl,h2⟩:=qh;have hy:=hr 0 _ y' rfl rfl;cases hy;obtain⟨m,e1,e2⟩:=NN h2 (by simpa using hl) (fun i d v a b=>hr (i+1) d v (by simpa using a) (by simpa using b))
  grind [Builtin.min2,pure]
theorem aU5{a:Act}(hf:bU β n g a.tmps){o:Oper}{v:xM}(h:zk E sq g o.op nd=some v)(hq:bP β.d nd):∃v',(execOp a.eval o).run P w= .ok (.value v') w/\aj β v v':=by
 obtain⟨rfl,hk⟩:=az9 h;have bg:wk β.z w:=inv.cP;have E1:=fun(x:Operand) (d:D) (hd:bR β.d (ev E g x)=some d)=>eU hd (j7 (a:=a) inv hf x)
 obtain⟨dst,op,type,cw,after,guard⟩:=o;obtain⟨nk,Ls,BX⟩:=nd;have fin:∀{s:Sem xM} {d:D} {v':xM},s.run P w= .ok v' w->iA β.d BX=some d->Rd β.z d v'->(∃ID,(do pure (Next.value (<-s)):Sem Next).run P w= .ok (.value ID) w/\aj β BX ID):=fun{s d v'} h1 h2 h3=>⟨v',by simp[h1],vS h2 h3⟩
 unfold keyOf at hk;simp only at hk hq⊢;split at hk
 ·
  rename_i Ax t x y ty;split at hk
  ·rename_i ks dW;split at hk<;>cases hk
   ·obtain⟨ds,d,h1,h2,h3⟩:=hq;obtain⟨da,db,rfl,e1,e2⟩:=je h1;have h3:He ks false da db=some d:=h3;unfold He at h3;split at h3
    ·obtain⟨r,hr,rfl⟩:=xp.1 h3;exact fin (ZO ok aR (neg:=false) dW hr (E1 x _ e1) (E1 y _ e2) x y w) h2 (.bool _)
    ·cases h3
   ·obtain⟨ds,d,h1,h2,h3⟩:=hq;obtain⟨da,db,rfl,e1,e2⟩:=je h1;have h3:He ks true da db=some d:=h3;unfold He at h3;split at h3
    ·obtain⟨r,hr,rfl⟩:=xp.1 h3;exact fin (ZO ok aR (neg:=true) dW hr (E1 x _ e1) (E1 y _ e2) x y w) h2 (.bool _)
    ·cases h3
  ·split at hk
   ·rename_i hr;split at hk
    ·rename_i hy;have Fw:=j7 (a:=a) inv hf y;rw[hy] at Fw;split at hk<;>cases hk
     ·obtain⟨ds,d,h1,h2,h3⟩:=hq;obtain⟨da,rfl,e1⟩:=kP h1;obtain⟨v',r1,r2⟩:=Yr ok aR (neg:=false) hr (show GJ false da=some d from h3) (E1 x _ e1) Fw x y w;exact fin r1 h2 r2
     ·obtain⟨ds,d,h1,h2,h3⟩:=hq;obtain⟨da,rfl,e1⟩:=kP h1;obtain⟨v',r1,r2⟩:=Yr ok aR (neg:=true) hr (show GJ true da=some d from h3) (E1 x _ e1) Fw x y w;exact fin r1 h2 r2
    ·cases hk
   ·cases hk;obtain⟨ds,d,h1,h2,h3⟩:=hq;obtain⟨da,db,rfl,e1,e2⟩:=je h1;obtain⟨v',r1,r2⟩:=bp8 ok aR (show K7 Ax (C5 E t) da db=some d from h3) (E1 x _ e1) (E1 y _ e2) x y w;exact fin r1 h2 r2
 ·
  rename_i MY t x;cases hk;obtain⟨ds,d,h1,h2,h3⟩:=hq;obtain⟨da,rfl,e1⟩:=kP h1;obtain⟨v',r1,r2⟩:=br2 (P:=P) (show LY MY da=some d from h3) (E1 x _ e1) w;exact fin r1 h2 r2
 ·
  rename_i s d0 x;split at hk<;>cases hk
  ·rename_i hs hd;obtain⟨ds,d,h1,h2,h3⟩:=hq;obtain⟨da,rfl,e1⟩:=kP h1;have h3:QP _ da=some d:=h3;have hx:=E1 x _ e1;unfold QP at h3;split at h3<;>cases h3
   generalize hg:a.eval x=xv at hx;cases hx;exact fin (by grind [bo6]) h2 (.int _ _)
  ·rename_i hs hd;obtain⟨ds,d,h1,h2,h3⟩:=hq;obtain⟨da,rfl,e1⟩:=kP h1;have h3:Hf da=some d:=h3;have hx:=E1 x _ e1;unfold Hf at h3;split at h3<;>cases h3
   generalize hg:a.eval x=xv at hx;cases hx;exact fin (by grind [bo5]) h2 (.str _)
 ·
  rename_i x t;split at hk<;>cases hk
  ·rename_i hr;obtain⟨ds,d,h1,h2,h3⟩:=hq;obtain⟨da,rfl,e1⟩:=kP h1;have h3:P5 da=some d:=h3;have hx:=E1 x _ e1;unfold P5 at h3;split at h3<;>cases h3
   generalize hg:a.eval x=xv at hx;cases hx;have:=fin (aY6 (P:=P) (ty:=type) ok hr w) h2 (.int _ _)
   grind [execOp,resolve,invoke,builtin]
  ·rename_i hr;obtain⟨ds,d,h1,h2,h3⟩:=hq;obtain⟨da,rfl,e1⟩:=kP h1;have h3:DM da=some d:=h3;have hx:=E1 x _ e1;unfold DM at h3;split at h3<;>cases h3
   have:=fin (aY7 (P:=P) (ty:=type) ok hr hx w) h2 (.int _ _)
   grind [execOp,resolve,invoke,builtin]
 ·
  rename_i l _;cases hk;obtain⟨ds,d,h1,h2,h3⟩:=hq;have h3:RY ds=some d:=h3;rw[pj] at h1;have gA:∀(i:Nat) (d:D) (v:xM),ds[i]? =some d->(l.map a.eval)[i]? =some v->Rd β.z d v:=fun i d v e1 e2=>by
   rw[xx] at e2;obtain⟨x,hx,rfl⟩:=xp.1 e2
   grind [ng]
  have aD:ds.length=(l.map a.eval).length:=by rw[pd h1,xm,xm]
  unfold RY at h3;split at h3
  ·rename_i k x r _;generalize fj:l.map a.eval=l' at gA aD
   match l',aD with
   |[],aD=>cases aD
   |y'::r',aD=>
    have hy:=gA 0 _ y' rfl rfl;cases hy;obtain⟨m,e1,e2⟩:=Yv (P:=P) (w:=w) h3 (by simpa using aD) (fun i d v a b=>gA (i+1) d v (by simpa using a) (by simpa using b));subst e1;have:=fun ts:Array xN=>fin (s:=Builtin.max_ ts type ⟨.int k x::r'⟩) (by show(r'.foldlM Builtin.max2 (.int k x)).run P w=_;exact e2) h2 (.int _ _)
    simpa[execOp,resolve,invoke,builtin,fj] using this _
  ·cases h3
 ·
  rename_i l _;cases hk;obtain⟨ds,d,h1,h2,h3⟩:=hq;have h3:K8 ds=some d:=h3;rw[pj] at h1;have gA:∀(i:Nat) (d:D) (v:xM),ds[i]? =some d->(l.map a.eval)[i]? =some v->Rd β.z d v:=fun i d v e1 e2=>by
   rw[xx] at e2;obtain⟨x,hx,rfl⟩:=xp.1 e2
   grind [ng]
  have aD:ds.length=(l.map a.eval).length:=by rw[pd h1,xm,xm]
  unfold K8 at h3;split at h3
  ·rename_i k x r _;generalize fj:l.map a.eval=l' at gA aD
   match l',aD with
   |[],aD=>cases aD
   |y'::r',aD=>
    have hy:=gA 0 _ y' rfl rfl;cases hy;obtain⟨m,e1,e2⟩:=NN (P:=P) (w:=w) h3 (by simpa using aD) (fun i d v a b=>gA (i+1) d v (by simpa using a) (by simpa using b));subst e1;have:=fun ts:Array xN=>fin (s:=Builtin.min_ ts type ⟨.int k x::r'⟩) (by show(r'.foldlM Builtin.min2 (.int k x)).run P w=_;exact e2) h2 (.int _ _)
    simpa[execOp,resolve,invoke,builtin,fj] using this _
  ·cases h3
 ·
  rename_i t x i;split at hk<;>cases hk
  rename_i hr;obtain⟨ds,d,h1,h2,h3⟩:=hq;obtain⟨da,db,rfl,e1,e2⟩:=je h1;obtain⟨v',r1,r2⟩:=aZ6 ok hr (show Kr da db=some d from h3) (E1 x _ e1) (E1 i _ e2) w;exact fin r1 h2 r2
 ·
  rename_i t x lo hi;split at hk
  ·rename_i hr;cases hk;obtain⟨ds,d,h1,h2,h3⟩:=hq;have h3:Fj GH ds=some d:=h3;obtain⟨dx,al,hb,k,b,e1,e2,e3,e4⟩:=P' E1 (fun x b=>by grind [GH]) h1 h3;obtain⟨v',r1,r2⟩:=aV2 ok hr e2 (E1 x _ e1) e3 e4 w;exact fin r1 h2 r2
  ·rename_i hr;split at hk<;>cases hk
   rename_i hs;obtain⟨ds,d,h1,h2,h3⟩:=hq;have h3:Fj (Bh _) ds=some d:=h3;obtain⟨dx,al,hb,k,b,e1,e2,e3,e4⟩:=P' E1 (fun x b=>by grind [Bh]) h1 h3;obtain⟨v',r1,r2⟩:=Ze ok hr hs e2 (E1 x _ e1) e3 e4 w;exact fin r1 h2 r2
  ·cases hk
 ·
  rename_i t x i;split at hk
  ·rename_i hr;split at hk<;>cases hk
   rename_i hs;obtain⟨ds,d,h1,h2,h3⟩:=hq;obtain⟨da,db,rfl,e1,e2⟩:=je h1;obtain⟨v',r1,r2⟩:=aZ8 ok hr hs (show Kt _ da db=some d from h3) (E1 x _ e1) (E1 i _ e2) w;exact fin r1 h2 r2
  ·cases hk
 ·
  rename_i t x f;split at hk
  ·rename_i hr;split at hk
   ·rename_i fd m4;rw[fK] at m4;split at hk
    ·rename_i r bu;replace hk:=ax hk;rcases hk with⟨_,hk⟩|⟨hz,hk⟩<;>cases hk
     obtain⟨ds,d,h1,h2,h3⟩:=hq;obtain⟨da,rfl,e1⟩:=kP h1;have h3:QO _ da=some d:=h3;have hx:=E1 x _ e1;unfold QO at h3;split at h3<;>cases h3
     obtain⟨v',r1,r2⟩:=ba9 (P:=P) ok hr m4 bu hz hx w;exact fin r1 h2 r2
    ·cases hk
   ·cases hk
  ·cases hk
 ·
  rename_i t x;split at hk
  ·rename_i r hr;replace hk:=ax hk;rcases hk with⟨hd,hk⟩|⟨hd,hk⟩<;>cases hk
   ·obtain⟨ds,d,h1,h2,h3⟩:=hq;obtain⟨da,rfl,e1⟩:=kP h1;obtain⟨v',r1,r2⟩:=bi7 (P:=P) ok bg hr hd (show K6 r.size da=some d from h3) (E1 x _ e1);exact fin r1 h2 r2
   ·obtain⟨ds,d,h1,h2,h3⟩:=hq;obtain⟨da,rfl,e1⟩:=kP h1;obtain⟨v',r1,r2⟩:=bt8 (P:=P) ok bg hr hd (show LZ da=some d from h3) (E1 x _ e1);exact fin r1 h2 r2
  ·cases hk
 ·
  rename_i x;cases hk;obtain⟨ds,d,h1,h2,h3⟩:=hq;obtain⟨da,rfl,e1⟩:=kP h1;have h3:QN da=some d:=h3;have hx:=E1 x _ e1;unfold QN at h3;split at h3<;>cases h3
  ·generalize hg:a.eval x=xv at hx;refine⟨xv,?_,vS h2 hx⟩;cases hx;simp[execOp,hg]
  ·generalize hg:a.eval x=xv at hx;refine⟨xv,?_,vS h2 hx⟩;cases hx;simp[execOp,hg]
 ·cases hk
end
def eX(v:xM):Bool:=match v with| .chan (some (_+1))=>true|_=>false
def Sl(B:Nat)(iv:xM)(es off:Nat):xM:= .iface B (.agg ⟨[iv,.int .i64 (.ofNat es),.int .i64 (.ofNat off)]⟩)
def zJ(E:au)(A:AW)(g:Gt)(op:Op):Option (NK×List xM×Option xM):=
 match op with
 | .call ⟨.builtin .len,⟨[x]⟩,⟨[t]⟩⟩=>match ev E g x,E.ti.get none t with
  | .iface _ (.chan (some (c+1))),some ⟨.slice _,_,_,_,_⟩=>some (.uT,[.chan (some (c+1))],none)
  | .map (some B),some ⟨.map _ _,_,_,_,_⟩=>match A.get B with
   |some ⟨.maps c,_,_,_,_⟩=>some (.uT,[c],none)
   |some ⟨.jV _ c,_,_,_,_⟩=>some (.uT,[c],none)
   |_=>none
  |_,_=>none
 | .indexAddr t x i=>match E.ti.get none t with
  |some ⟨.slice e,_,_,_,_⟩=>match jG E e,ev E g x with
   |some es,.iface B (.chan (some (c+1)))=>some (.jf,[.chan (some (c+1)),ev E g i],some (Sl B (ev E g i) es 0))
   |some es,.slice (some ⟨B,o,none⟩) n _=>bs (eX (ev E g i)) (some (.jf,[.int .i64 (.ofNat n),ev E g i],some (Sl B (ev E g i) es o))) none
   |_,_=>none
  |some ⟨.array len e,_,_,_,_⟩=>match jG E e,ev E g x with
   |some es,.pointer (some ⟨B,o,none⟩)=>bs (eX (ev E g i)) (some (.jf,[.int .i64 (.ofNat len),ev E g i],some (Sl B (ev E g i) es o))) none
   |_,_=>none
  |_=>none
 | .load t x=>match ev E g x,E.ti.get none t with
  | .iface B (.agg ⟨[iv,.int .i64 (.ofNat es),.int .i64 (.ofNat off)]⟩),some r=>match A.get B with
   |some ⟨.own c,es',_,_,_⟩=>bs (Nat.beq es es') (some (.qK off r.size (nq r.desc),[c,iv],none)) none
   |some ⟨.cells cs,_,_,_,_⟩=>some (.vk es off r.size (nq r.desc),iv::cs,none)
   |_=>none
  |_,_=>none
 | .convert s d x=>match E.ti.get none s,E.ti.get none d,ev E g x with
  |some ⟨.slice e,_,_,_,_⟩,some ⟨.string,_,_,_,_⟩,.slice (some ⟨B,o,none⟩) n _=>match E.ti.get none e,jw A B with
   |some ⟨.int .u8,_,_,_,_⟩,some cs=>match oK n (p9 o cs) with
    |some l=>bs (Nat.beq B tq) none (some (.strOf,l,none))
    |none=>none
   |_,_=>none
  |_,_,_=>none
 |_=>none
def pz(E:au)(sq:a0c)(A:AW)(g:Gt)(op:Op)(nd:Node):a0t:=
 match zJ E A g op with
 |some (k,args,u)=>bs (nF k nd.k) (bs (r8 args nd.args) (match u with|none=>some nd.res|some u=>bs (qe nd.res (.bool true)) (some u) none) none) none
 |none=>zk E sq g op nd
theorem aE0{sq:a0c}{op:Op}{v:xM}(h:pz E sq A g op nd=some v):
 (zk E sq g op nd=some v)\/(zJ E A g op=some (nd.k,nd.args,none)/\v=nd.res)\/(zJ E A g op=some (nd.k,nd.args,some v)/\nd.res= .bool true):=by
 unfold pz at h;split at h
 ·rename_i k args u hk;rcases ax h with⟨h1,h⟩|⟨_,h⟩
  ·rcases ax h with⟨h2,h⟩|⟨_,h⟩
   ·rw[<-ph h1,<-sM _ _ h2];cases u with
    |none=>grind
    |some u=>
     rcases ax h with⟨h3,h⟩|⟨_,h⟩<;>cases h
     grind [hk,uu]
   ·cases h
  ·cases h
 grind
section
variable(ok:E.Ok P){sq:a0c}(aR:E.Seq P sq)(inv:Inv w0 E.G β A w)
include ok in
theorem Wg(hr:E.ti.get none t=some r){d0:Nat}{aB:a0x}(hh:w.heap[lb]? =some (.cells aB e fz))(Eh:∀(j:Nat) (d:D),row[j]? =some d->∃v,aB[d0+j]? =some v/\Rd z d v)
 {off:Nat} {d:D} (h:yX row off r.size (nq r.desc)=some d):∃v',(Instr.loadAt t (.pointer (some ⟨lb,d0+off,none⟩))).run P w= .ok v' w/\Rd z d v':=by
 have Ar:=Gd (P:=P) ok hr;unfold yX at h;split at h
 ·rename_i aK;split at h
  ·rename_i hd;cases h;have key:∀j,j<r.size->∃v,aB[d0+off+j]? =some v/\∃d,row[off+j]? =some d/\Rd z d v:=fun j hj=>by
    have ja:off+j<row.length:=a0B
    obtain⟨v,h1,h2⟩:=Eh (off+j) _ (xc ja)
    grind
   let vs:=(List.range r.size).map fun j=>aB.getD (d0+off+j) undef
   have bI:∀j,j<r.size->vs[j]? =some (aB.getD (d0+off+j) undef):=fun j hj=>by
    grind
   have hl:(loadCells ⟨lb,d0+off,none⟩ r.size).run P w= .ok vs.toArray w:=by
    have aD:vs.length=r.size:=by simp[vs]
    rw[<-aD];refine run_loadCells_list (P:=P) w ⟨lb,d0+off,none⟩ vs fun j v hv=> ?_
    have hj:j<r.size:=by rw[<-aD];exact(xe.1 hv).1
    rw[bI j hj] at hv;cases hv;obtain⟨v,h1,_⟩:=key j hj;rw[Addr.add_mid,cell_of_row w lb _ aB e fz hh,h1];have:aB.getD (d0+off+j) undef=v:=by rw[Array.getD_eq_getD_getElem?,h1];rfl
    rw[this]
   refine⟨.agg vs.toArray,by simp[Instr.loadAt,Instr.sureAddr,loadVar,Ar,hd,dL ok hr,hl],?_⟩;refine .agg _ vs a0D fun j d v e1 e2=> ?_
   have hj:j<r.size:=by have:=(xe.1 e2).1;simpa[vs] using this
   rw[bI j hj] at e2;cases e2;obtain⟨v,h1,d2,h2,h3⟩:=key j hj
   simp_all
  ·rename_i hd;obtain⟨d2,h1,h⟩:=xr.1 h;split at h<;>cases h
   obtain⟨v,h2,h3⟩:=Eh off _ h1;refine⟨v,?_,h3⟩;have iz:w.cell? ⟨lb,d0+off,none⟩=some v:=by rw[cell_of_row w lb _ aB e fz hh];exact h2
   simp[Instr.loadAt,Instr.sureAddr,loadVar,Ar,hd,load,Sem.run,iz]
 ·cases h
include ok in
theorem VX{a1 a2 a3 a4}(hr:E.ti.get none t=some ⟨.slice e,a1,a2,a3,a4⟩)(hs:jG E e=some es){ld m:Nat}(hm:m<n)(k:xO)(w:World):
 (Instr.indexAt t (.slice (some ⟨lb,ld,none⟩) n cap) (.int k (m:Nat))).run P w= .ok (.pointer (some ⟨lb,ld+m*es,none⟩)) w:=by
 unfold jG at hs;split at hs<;>cases hs
 rename_i r bu;have hu:=(ok.ti t _ hr).1;simp[Instr.indexAt,asIntOf,run_underlying hu,dL ok bu,Addr.add_lit,Nat.add_assoc,hm]
include ok in
theorem ay6{a1 a2 a3 a4}(hr:E.ti.get none t=some ⟨.array len e,a1,a2,a3,a4⟩)(hs:jG E e=some es){ld m:Nat}(hm:m<len)(k:xO)(w:World):
 (Instr.indexAt t (.pointer (some ⟨lb,ld,none⟩)) (.int k (m:Nat))).run P w= .ok (.pointer (some ⟨lb,ld+m*es,none⟩)) w:=by
 unfold jG at hs;split at hs<;>cases hs
 rename_i r bu;have hu:=(ok.ti t _ hr).1;have h0:(0:Int)<=(m:Int)/\(m:Int)<(len:Int):=⟨a0B,a0B⟩;simp[Instr.indexAt,asIntOf,run_underlying hu,Instr.sureAddr,dL ok bu,Addr.add_lit,Nat.add_assoc,hm]
theorem aQ8{di:D}(h:HH (.sl rows) di=some (.bool true)):∃(k:xO) (m:Nat),di= .int k (.ofNat m)/\m<rows.length:=by
 unfold HH at h;split at h
 ·grind
 ·grind
 ·cases h
theorem OM{k0:xO}{di:D}(h:HH (.int k0 (.ofNat n)) di=some (.bool true)):∃(k:xO) (m:Nat),di= .int k (.ofNat m)/\m<n:=by
 unfold HH at h;split at h
 ·grind
 ·grind
 ·cases h
theorem Oq:∀{ds:a0d} {l:a0h},wh ds=some l->ds.length=l.length/\∀(j:Nat) (b:UInt8),l[j]? =some b->ds[j]? =some (.int .u8 (b.toNat:Nat))
 |[],l,h=>by cases h;grind
 |d::ds,l,h=>by
  unfold wh at h;split at h
  ·grind
  ·rename_i n l2 e;cases e;split at h
   ·rename_i hn;obtain⟨r,hr,rfl⟩:=xp.1 h;obtain⟨h1,h2⟩:=Oq hr;refine⟨by simp[h1],fun j b hb=> ?_⟩;cases j with
    |zero=>simp at hb;subst hb;simp[Nat.mod_eq_of_lt hn]
    |succ j=>grind
   ·cases h
  ·cases h
include ok aR inv
theorem Y'{a:Act}(hf:bU β n g a.tmps){o:Oper}{v:xM}(h:pz E sq A g o.op nd=some v)(hq:bP β.d nd):∃v',(execOp a.eval o).run P w= .ok (.value v') w/\aj β v v':=by
 rcases aE0 h with h|⟨hk,rfl⟩|⟨hk,mP⟩
 ·grind [aU5]
 ·have E0:=j7 (a:=a) inv hf;have E1:=fun(x:Operand) (d:D) (hd:bR β.d (ev E g x)=some d)=>eU hd (j7 (a:=a) inv hf x)
  obtain⟨dst,op,type,cw,after,guard⟩:=o;obtain⟨nk,Ls,BX⟩:=nd;have fin:∀{s:Sem xM} {d:D} {v':xM},s.run P w= .ok v' w->iA β.d BX=some d->Rd β.z d v'->(∃ID,(do pure (Next.value (<-s)):Sem Next).run P w= .ok (.value ID) w/\aj β BX ID):=fun{s d v'} h1 h2 h3=>⟨v',by simp[h1],vS h2 h3⟩
  unfold zJ at hk;simp only at hk hq⊢;split at hk
  ·
   rename_i x t;split at hk;rotate_left
   ·rename_i B kt et a1 a2 a3 a4 hx hr;split at hk<;>cases hk
    ·rename_i c es ex ro ty hg;obtain⟨ds,d,h1,h2,h3⟩:=hq;obtain⟨da,rfl,e1⟩:=kP h1;have h3:DM da=some d:=h3;have hv:=E0 x;rw[hx] at hv;generalize jc:a.eval x=xv at hv;cases hv with
     |map _ l hl=>
      obtain⟨es',ck,rows,g1,g2,g3⟩:=inv.cont B _ l hg hl;have oE:bR β.d c=some (.sl rows):=by
       unfold bR;split
       ·cases g2
       ·exact g2
      rw[oE] at e1;cases e1;cases h3;have hu:=(ok.ti t _ hr).1;have aM:(Builtin.len_ #[t] type #[.map (some l.b)]).run P w= .ok (.int .i64 rows.length) w:=by simp[Builtin.len_,run_underlying hu,goInt,getObj,Sem.run,g1,g3.1]
      have:=fin aM h2 (.int _ _)
      grind [execOp,resolve,invoke,builtin]
    ·rename_i ks0 c es ex ro ty hg;obtain⟨ds,d,h1,h2,h3⟩:=hq;obtain⟨da,rfl,e1⟩:=kP h1;have h3:DM da=some d:=h3;have hv:=E0 x;rw[hx] at hv;generalize jc:a.eval x=xv at hv;cases hv with
     |map _ l hl=>
      obtain⟨es',ck,rows,g1,g2,g3,_⟩:=inv.cont B _ l hg hl;have oE:bR β.d c=some (.sl rows):=by
       unfold bR;split
       ·cases g2
       ·exact g2
      rw[oE] at e1;cases e1;cases h3;have hu:=(ok.ti t _ hr).1;have aM:(Builtin.len_ #[t] type #[.map (some l.b)]).run P w= .ok (.int .i64 rows.length) w:=by simp[Builtin.len_,run_underlying hu,goInt,getObj,Sem.run,g1,g3.1]
      have:=fin aM h2 (.int _ _)
      grind [execOp,resolve,invoke,builtin]
   ·cases hk
   cases hk;rename_i B c e a1 a2 a3 a4 hx hr;obtain⟨ds,d,h1,h2,h3⟩:=hq;obtain⟨da,rfl,e1⟩:=kP h1;have h3:DM da=some d:=h3;have hv:=E0 x;rw[hx] at hv;generalize jc:a.eval x=xv at hv;cases hv with
   |own _ _ rows a0 cap ho ha hd=>
    have o9:(β.d c).bind (fun x=>if x.cell then some x else none)=some da:=e1;rw[hd] at o9;cases o9;cases h3;have hu:=(ok.ti t _ hr).1;have aM:(Builtin.len_ #[t] type #[.slice a0 rows.length cap]).run P w= .ok (.int .i64 rows.length) w:=by simp[Builtin.len_,run_underlying hu,goInt]
    have:=fin aM h2 (.int _ _)
    grind [execOp,resolve,invoke,builtin]
  ·
   split at hk
   ·split at hk
    ·cases hk
    ·rcases ax hk with⟨_,hk⟩|⟨_,hk⟩<;>cases hk
    ·cases hk
   ·split at hk
    ·rcases ax hk with⟨_,hk⟩|⟨_,hk⟩<;>cases hk
    ·cases hk
   ·cases hk
  ·
   rename_i t x;split at hk
   ·rename_i B iv es off r hx hr;have hv:=E0 x;rw[hx] at hv;generalize jc:a.eval x=xv at hv;cases hv with
    |qS _ _ _ m l _ k hl hi=>
     split at hk
     ·rename_i c es' ex ro ty hg;rcases ax hk with⟨dS,hk⟩|⟨_,hk⟩<;>cases hk
      have uX:=xb dS;subst uX;obtain⟨ds,d,h1,h2,h3⟩:=hq;obtain⟨dx,di,rfl,e1,e2⟩:=je h1;obtain⟨aB,rows,k1,k2,k3,k4,k5,k6,k7⟩:=inv.cont B _ l hg hl;have bq:∀v d,aZ β.d v=some d->bR β.d v=some d:=fun v d h=>by
       unfold bR;split
       ·cases h
       ·exact h
      rw[bq _ _ k3] at e1;rw[bq _ _ hi] at e2;cases e1;cases e2;have h3:XH off r.size (nq r.desc) (.sl rows) (.int k (m:Nat))=some d:=h3;obtain⟨row,fb,h4⟩:=xr.1 (show(rows[m]?).bind _=some d from h3);have qo:l.es=es:=k4;obtain⟨v',r1,r2⟩:=Wg ok hr k1 (z:=β.z) (row:=row) (d0:=l.d+m*es) (fun j d hj=>by
       grind) h4
      refine fin ?_ h2 r2
      grind
     ·rename_i cs es' ex ro ty hg;cases hk;obtain⟨ds,d,h1,h2,h3⟩:=hq;obtain⟨di,pa,rfl,e2,e3⟩:=iu h1;have bq:bR β.d iv=some (.int k (m:Nat)):=by
       unfold bR;split
       ·cases hi
       ·exact hi
      rw[bq] at e2;cases e2;obtain⟨aB,e,fz,k1,k2,k3,k4,_⟩:=inv.cont B _ l hg hl;have h3:yX pa (m*es+off) r.size (nq r.desc)=some d:=h3;obtain⟨v',r1,r2⟩:=Wg ok hr k1 (z:=β.z) (row:=pa) (d0:=l.d) (fun j d hj=>by
       have ja:j<cs.length:=by rw[<-pd e3];exact(xe.1 hj).1
       grind [xc,eU,ng]) h3
      refine fin ?_ h2 r2
      grind
     ·cases hk
   ·cases hk
  ·
   rename_i s d0 x;split at hk
   ·rename_i e a1 a2 a3 a4 b1 b2 b3 b4 B o n cp hs hd hx;split at hk
    ·rename_i c1 c2 c3 c4 cs he cJ;split at hk
     ·rename_i l hl;rcases ax hk with⟨_,hk⟩|⟨hT,hk⟩<;>cases hk
      obtain⟨ds,d,h1,h2,h3⟩:=hq;obtain⟨fJ,hb,rfl⟩:=xp.1 (show(wh ds).map .str=some d from h3);obtain⟨bY,bM⟩:=Oq hb;have hv:=E0 x;rw[hx] at hv;generalize jc:a.eval x=xv at hv;cases hv with
      |slice _ _ _ _ c' lc dt hn hc hce=>
       obtain⟨l',q1,q2,q3⟩:=yC inv cJ dt o n Ls hl;have aD:fJ.length=n:=by rw[<-bY,pd h1,q2]
       have aM:=run_convert_bytes_back (P:=P) w s d0 e ⟨lc.b,lc.d+o,none⟩ c' fJ (ok.ti s _ hs).1 (ok.ti e _ he).1 (ok.ti d0 _ hd).1 (fun j hj=>by
        have ja:j<Ls.length:=by rw[q2];omega
        have dY:=bM j _ (xc hj);have fR:=ng h1 dY (xc ja);obtain⟨v',mq,dK⟩:=q1.get (xc ja);have gA:=eU fR dK;cases gA;rw[Addr.add_mid];exact q3 j _ mq)
       rw[aD] at aM;refine fin ?_ h2 (.str fJ)
       grind
      |empty=>simp_all
     ·cases hk
    ·cases hk
   ·cases hk
  ·cases hk
 ·have E0:=j7 (a:=a) inv hf;obtain⟨dst,op,type,cw,after,guard⟩:=o;obtain⟨nk,Ls,BX⟩:=nd;have bv0:BX= .bool true:=mP;subst bv0;unfold zJ at hk;simp only at hk hq⊢;split at hk
  ·grind
  ·
   rename_i t x i;have E1:=fun(x:Operand) (d:D) (hd:bR β.d (ev E g x)=some d)=>eU hd (j7 (a:=a) inv hf x)
   have ix:∀(di:D) (k:xO) (m:Nat),bR β.d (ev E g i)=some (.int k (m:Nat))->aZ β.d (ev E g i)=some (.int k (m:Nat))/\a.eval i= .int k (m:Nat):=fun di k m h=>by
    have hr:=E1 i _ h;constructor
    ·unfold bR at h
     grind [xp]
    ·generalize a.eval i=iv at hr;cases hr;rfl
   split at hk
   ·rename_i e a1 a2 a3 a4 hr;split at hk
    ·rename_i es B c hs hx;cases hk;obtain⟨ds,d,h1,h2,h3⟩:=hq;obtain⟨dx,di,rfl,e1,e2⟩:=je h1;cases h2;have hv:=E0 x;rw[hx] at hv;generalize jc:a.eval x=xv at hv;cases hv with
     |own _ _ rows a0 cap ho ha hd=>
      have o9:(β.d c).bind (fun x=>if x.cell then some x else none)=some dx:=e1;rw[hd] at o9;cases o9;obtain⟨k,m,rfl,hm⟩:=aQ8 h3;obtain⟨i1,i2⟩:=ix (.bool true) k m e2;rcases ha with⟨_,fG⟩|⟨l,hl,rfl⟩
      ·grind
      ·refine⟨_,?_,.qS B es 0 m l _ k hl i1⟩;simp[execOp,jc,i2,VX (P:=P) ok hr hs hm k w]
    ·rename_i es B o n cp hs hx;rcases ax hk with⟨_,hk⟩|⟨_,hk⟩<;>cases hk
     obtain⟨ds,d,h1,h2,h3⟩:=hq;obtain⟨dx,di,rfl,e1,e2⟩:=je h1;cases h2;cases e1;obtain⟨k,m,rfl,hm⟩:=OM h3;obtain⟨i1,i2⟩:=ix (.bool true) k m e2;have hv:=E0 x;rw[hx] at hv;generalize jc:a.eval x=xv at hv;cases hv with
     |slice _ _ _ _ c' lc dt hn hc hce=>
      refine⟨_,?_,.qS B es o m lc _ k dt i1⟩;rw[show lc.d+(m*es+o)=lc.d+o+m*es by omega];simp[execOp,jc,i2,VX (P:=P) ok hr hs hm k w]
     |empty=>omega
    ·cases hk
   ·rename_i len e a1 a2 a3 a4 hr;split at hk
    ·rename_i es B o hs hx;rcases ax hk with⟨_,hk⟩|⟨_,hk⟩<;>cases hk
     obtain⟨ds,d,h1,h2,h3⟩:=hq;obtain⟨dx,di,rfl,e1,e2⟩:=je h1;cases h2;cases e1;obtain⟨k,m,rfl,hm⟩:=OM h3;obtain⟨i1,i2⟩:=ix (.bool true) k m e2;have hv:=E0 x;rw[hx] at hv;generalize jc:a.eval x=xv at hv;cases hv with
     |ptr _ _ lc dt=>
      refine⟨_,?_,.qS B es o m lc _ k dt i1⟩;rw[show lc.d+(m*es+o)=lc.d+o+m*es by omega];simp[execOp,jc,i2,ay6 (P:=P) ok hr hs hm k w]
    ·cases hk
   ·cases hk
  ·split at hk
   ·split at hk
    ·rcases ax hk with⟨_,hk⟩|⟨_,hk⟩<;>cases hk
    ·cases hk
    ·cases hk
   ·cases hk
  ·split at hk
   ·split at hk
    ·split at hk
     ·rcases ax hk with⟨_,hk⟩|⟨_,hk⟩<;>cases hk
     ·cases hk
    ·cases hk
   ·cases hk
  ·cases hk
end
end
end Go.Ex
