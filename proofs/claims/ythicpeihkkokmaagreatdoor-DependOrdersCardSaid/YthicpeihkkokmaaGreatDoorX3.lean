/- A verified evaluator of Go functions. -/
import Derived.Test.YthicpeihkkokmaaGreatDoorX2
import Derived.Lib.ConvBytes
import Derived.Laws.IdiomStrings
import Derived.Lib.UnsafeStr
set_option linter.unusedVariables false
set_option linter.unusedSimpArgs false
namespace Go.Ex
variable{P:Program}{E:az}{w0 w:World}{β:ai}{A:AW}{t ty e:xN}{x' y':xM}{α:Type}{b n es len cap a lb:Nat}{r:Row}{d:D}{fz:Nat×Nat}{g:Gt}{nd:Node}{z:GU}{neg:Bool}{row:Di}{k:xO}{rows:Ca}{kv cb:JJ}{hb:Ji}
open Go.RowKit
noncomputable section
section
variable(ok:E.Ok P)(inv:Inv w0 E.G β A w)
def CM(E:az)(A:AW)(t:xN)(x:xM):Im:=
 match E.ti.get none t,x with
 |some ⟨.map _ _,_,_,_,_⟩,.map (some B)=>match A.get B with
  |some ⟨.jC _ c,_,_,_,_⟩=>some (.pointer (some ⟨A.next,0,none⟩),A.add ⟨.pG B c c [],1,true,false,0⟩)
  |_=>none
 |_,_=>none
theorem ax4(rows:Ca):pF [] rows=rows:=by
 unfold pF;rw[List.filter_eq_self.2 (fun p _=>NS)];simp
theorem aq0{x v:xM}{A':AW}(h:CM E A t x=some (v,A')):A.next<=A'.next:=by
 unfold CM at h;split at h
 ·split at h
  ·cases h;exact Nat.le_succ _
  ·cases h
 ·cases h
include ok inv in
theorem aD8{x v:xM}{A':AW}(h:CM E A t x=some (v,A'))(hx:aj β x x'):jH w0 E.G β A ((Instr.range t x').run P w) v A':=by
 unfold CM at h;split at h
 ·rename_i B hr;have hu:=(ok.ti t _ hr).1;split at h
  ·rename_i ks c es ex ro ty hg;cases h;cases hx with
   |map _ l hl=>
    obtain⟨ae,ck,rows,bn4,hd,hm,nu,_⟩:=inv.cont B _ l hg hl;have aN:β.le (β.put A.next ⟨w.heap.size,0,1,0⟩):=inv.gy (ai.uW β A.next _);have ow:rows.length=ck:=by rw[nu];exact hm.1
    obtain⟨h1,h2⟩:=inv.new ⟨.pG B c c [],1,true,false,0⟩ (.mapIter (some l.b) ck #[] ck) ⟨w.heap.size,0,1,0⟩ rfl ⟨rfl,l,rows,rows,[],by rw[ow],aN.f _ _ hl,hd,hd,(ax4 rows).symm,.inl rfl⟩;refine⟨_,.pointer (some ⟨w.heap.size,0+0,none⟩),_,?_,.ptr A.next 0 _ (j9 _ _ _),h1,h2⟩;have ja:(getObj l.b).run P w= .ok (.map ⟨ae⟩ ck) w:=by simp[getObj,Sem.run,bn4]
    simp[Instr.range,run_underlying hu,ja]
  ·cases h
 ·cases h
def CB(A:AW)(R:Nat)(o:AO):AW:=match A.get R with|some ⟨_,a,b,c,d⟩=>A.put R (some ⟨o,a,b,c,d⟩)|none=>A
theorem UF(R:Nat)(o:AO):(CB A R o).next=A.next:=by unfold CB;split<;>rfl
def nY(f:α->Bool)(l:List α):List α:=List.rec (motive:=fun _=>List α) [] (fun a _ ih=>bs (f a) (a::ih) ih) l
theorem zC(f:α->Bool)(l:List α):nY f l=l.filter f:=by
 induction l with
 |nil=>rfl
 |cons a l ih=>
  show bs (f a) (a::nY f l) (nY f l)=_;rw[ih,List.filter_cons];cases f a<;>rfl
def Hy(i:Nat)(l:Es):Bool:=List.rec (motive:=fun _=>Bool) false (fun a _ ih=>bs (Nat.beq a i) true ih) l
theorem Jl{i:Nat}:∀{l:Es},Hy i l=true->i∈l
 |[],h=>by cases h
 |a::l,h=>by
  have h':bs (Nat.beq a i) true (Hy i l)=true:=h;cases hb:Nat.beq a i with
  |true=>rw[xb hb];exact xn
  |false=>rw[hb,kz] at h';exact xo _ (Jl h')
theorem il.filter{es ae:FP}{p p':MapEntry->Bool}(hp:∀e e',e.born=e'.born->p e=p' e'):il β es ae->il β (es.filter p) (ae.filter p'):=by
 induction es generalizing ae with
 |nil=>intro h;rw[h.qU];exact⟨rfl,fun i e e' h=>by simp at h⟩
 |cons e es ih=>
  intro h;obtain⟨e',Hi,rfl,he,hm⟩:=h.pu;have hpp:=hp e e' he.1;have S6:=ih hm;rw[List.filter_cons,List.filter_cons,<-hpp];cases p e with
  |false=>exact S6
  |true=>
   refine⟨by simpa using S6.1,fun i a b ha hb=> ?_⟩;cases i with
   |zero=>grind
   |succ i=>simp at ha hb;exact S6.2 i a b ha hb
theorem il.append{a a' b b':FP}(h:il β a a')(k:il β b b'):il β (a++b) (a'++b'):=by
 induction a generalizing a' with
 |nil=>rw[h.qU];exact k
 |cons e a ih=>
  obtain⟨e',l',rfl,h1,h2⟩:=h.pu;have:=ih h2;refine⟨by simpa using this.1,fun i x y hx hy=> ?_⟩;cases i with
  |zero=>grind
  |succ i=>simp at hx hy;exact this.2 i x y hx hy
def Ki(E:az)(A:AW)(it:xM):Option (List (xM×AW)):=
 match it with
 | .pointer (some ⟨R,0,none⟩)=>bs (Nat.ble E.G.n R) (match A.get R with
  |some ⟨.pG B (.chan (some n)) lc _,_,_,_,_⟩=>(match A.get B with
   |some ⟨.jC _ (.chan (some n')),_,_,_,_⟩=>bs (Nat.beq n n') (some [(.tuple ⟨[.bool true,J,J]⟩,CB A R (.An B (.chan (some n)) lc false)),(.tuple ⟨[.bool false]⟩,CB A R (.An B (.chan (some n)) lc true))]) none
   |_=>none)
  |_=>none) none
 |_=>none
theorem as8(seen:Es)(rows:Ca){i:Nat}(hi:i<(pF seen rows).length):∃j row,rows[j]? =some row/\(pF seen rows)[i]? =some row/\j∉seen/\pF (seen++[j]) rows=(pF seen rows).eraseIdx i/\
 (rows.zipIdx.filter fun p=> !seen.contains p.2)[i]? =some (row,j):=by
 have aE:i<(rows.zipIdx.filter fun p=> !seen.contains p.2).length:=by simpa[pF] using hi
 have kZ:=xc aE;generalize hp:(rows.zipIdx.filter fun p=> !seen.contains p.2)[i]=p at kZ;obtain⟨row,j⟩:=p;have o9:(row,j)∈rows.zipIdx.filter fun p=> !seen.contains p.2:=xu kZ
 obtain⟨uF,j4⟩:=List.mem_filter.1 o9;have eS:=List.mem_zipIdx_iff_getElem?.1 uF;refine⟨j,row,eS,by grind [pF],Ns,?_,kZ⟩;have dw:((rows.zipIdx.filter fun p=> !seen.contains p.2).map (·.2)).Nodup:=by
  refine List.Sublist.nodup ((List.filter_sublist (l:=rows.zipIdx)).map _) ?_;rw[List.zipIdx_map_snd];exact List.nodup_range'
 unfold pF;have Mp:(rows.zipIdx.filter fun p=> !(seen++[j]).contains p.2)=(rows.zipIdx.filter fun p=> !seen.contains p.2).filter (fun p=>p.2≠j):=by
  rw[List.filter_filter];refine List.filter_congr fun p _=> ?_
  simp[Bool.and_comm]
 rw[Mp];generalize (rows.zipIdx.filter fun p=> !seen.contains p.2)=l at*;clear Mp o9 uF j4 eS hp hi
 induction l generalizing i with
 |nil=>simp at aE
 |cons q l ih=>
  obtain⟨q1,q2⟩:=q;rw[List.map_cons,List.nodup_cons] at dw;cases i with
  |zero=>
   simp at kZ;obtain⟨rfl,rfl⟩:=kZ
   grind [List.filter_cons_of_neg,List.eraseIdx_cons_zero,List.filter_eq_self]
  |succ i=>
   grind
theorem as3{r:Nat}{mV st ck:Nat}(sn:Array Nat)(es:LH)(cs:Array (Option MapEntry)){i:Nat}{dr:Nat}
 (ja:(getObj r).run P w= .ok (.mapIter (some b) mV sn st) w) (DO:(getObj b).run P w= .ok (.map es ck) w)
 (fS:(!sn.isEmpty&& !es.isEmpty&&es.all (fun e=>decide (e.born≥st)))=false)
 (df:cs=(if((es.filter fun e=> !sn.contains e.born).filter (·.born<mV)).isEmpty then #[none] else #[])++(((es.filter fun e=> !sn.contains e.born).filter (·.born<mV))++((es.filter fun e=> !sn.contains e.born).filter (·.born≥mV))).map some)
 (hch:(choose (.mapNext cs.size)).run P w= .ok i {w with drawn:=dr}):
 (Instr.next (.pointer (some ⟨r,0,none⟩)) false ty).run P w=(match cs[i]? with
  |some (some e)=>(do
   setObj r (.mapIter (some b) mV (sn.push e.born) ck)
   pure (.tuple #[.bool true,e.key,e.val]):Sem xM)
  |some none=>pure (.tuple #[.bool false])
  |none=>stuck "Next: no such candidate").run P {w with drawn:=dr}:=by
 subst df;simp only [Instr.next,Sem.run_bind,ja,Result.andThen_ok,DO,fS,Bool.false_eq_true,if_false,Sem.run_pure,hch];rfl
theorem ar2(n:Nat)(hn:0<n)(w:World):∃i d,i<n/\(choose (.mapNext n)).run P w= .ok i {w with drawn:=d}:=by
 by_cases h:n<=1
 ·refine⟨0,w.drawn,hn,?_⟩;simp[choose,Sem.run,Question.forced,h]
 ·refine⟨w.tape w.drawn (.mapNext n)%n,w.drawn+1,Nat.mod_lt _ hn,?_⟩;simp[choose,Sem.run,Question.forced,h,Question.cut]
def tQ(mV:Nat)(seen:Es)(ae:FP):List (Option MapEntry):=
 (if(ae.filter (fun e=>decide (e.born<mV)&& !seen.contains e.born)).isEmpty then[none] else[])++
  ((ae.filter (fun e=>decide (e.born<mV)&& !seen.contains e.born))++(ae.filter (fun e=>decide (mV<=e.born)&& !seen.contains e.born))).map some
theorem az5(mV:Nat)(seen:Es)(ae:FP):(⟨tQ mV seen ae⟩:Array (Option MapEntry))=(if((⟨ae⟩:LH).filter (fun e=> !(⟨seen⟩:Array Nat).contains e.born)|>.filter (·.born<mV)).isEmpty then #[none] else #[])++(((⟨ae⟩:LH).filter (fun e=> !(⟨seen⟩:Array Nat).contains e.born)|>.filter (·.born<mV))++((⟨ae⟩:LH).filter (fun e=> !(⟨seen⟩:Array Nat).contains e.born)|>.filter (·.born≥mV))).map some:=by
 apply Array.ext';unfold tQ;have df:∀x,(⟨seen⟩:Array Nat).contains x=seen.contains x:=fun x=>NS
 have he:((⟨ae⟩:LH).filter (fun e=> !(⟨seen⟩:Array Nat).contains e.born)|>.filter (fun x=>decide (x.born<mV))).isEmpty=(ae.filter (fun e=>decide (e.born<mV)&& !seen.contains e.born)).isEmpty:=by
  rw[<-Array.isEmpty_toList];simp only [Array.toList_filter',List.filter_filter,df]
 rw[he];simp only [Array.toList_append,Array.toList_map,Array.toList_filter',List.filter_filter,df]
 grind
theorem aO8{ae:FP}(hb:∀(i:Nat) (e:MapEntry),ae[i]? =some e->e.born=i)(seen:Es)(hn:n=ae.length):
 ae.filter (fun e=>decide (e.born<n)&& !seen.contains e.born)=(ae.zipIdx.filter fun p=> !seen.contains p.2).map (·.1)/\ae.filter (fun e=>decide (n<=e.born)&& !seen.contains e.born)=[]:=by
 refine⟨?_,?_⟩
 ·have h0:ae=ae.zipIdx.map (·.1):=(List.zipIdx_map_fst 0 ae).symm;have h1:ae.filter (fun e=>decide (e.born<n)&& !seen.contains e.born)=(ae.zipIdx.map (·.1)).filter (fun e=>decide (e.born<n)&& !seen.contains e.born):=by rw[<-h0]
  rw[h1,List.filter_map]
  congr 1
  refine List.filter_congr fun p hp=> ?_
  grind
 grind [List.filter_eq_nil_iff,List.mem_iff_getElem?,xe,decide_eq_false]
theorem Jx(l:List α)(seen:Es):(l.zipIdx.filter fun p=> !seen.contains p.2).map (·.2)=(List.range' 0 l.length).filter fun j=> !seen.contains j:=by
 rw[<-List.zipIdx_map_snd,List.filter_map];rfl
include inv in
theorem OC{it HA:xM}{l:List (xM×AW)}{ty0:xN}(h:Ki E A it=some l)(hi:aj β it HA):∃p∈l,jH w0 E.G β A ((Instr.next HA false ty0).run P w) p.1 p.2/\A.next<=p.2.next:=by
 unfold Ki at h;split at h
 ·rename_i R;replace h:=aC h;rcases h with⟨hG,h⟩|⟨_,h⟩
  ·have jL:=xh hG;cases hi with
   |ptr _ _ lr jt=>
    split at h
    ·rename_i B n lc aB es ex ro ty hg;split at h
     ·rename_i ks n' es2 wJ LW pQ gx;replace h:=aC h;rcases h with⟨hb,h⟩|⟨_,h⟩
      ·cases h;obtain rfl:=xb hb;obtain⟨uI,lb,rows,left,seen,h1,h2,h3,h4,h5,_⟩:=inv.cont R _ lr hg jt;obtain⟨ae,ck,Kb,g1,g2,g3,g4,g5⟩:=inv.cont B _ lb gx h2;rw[h3] at g2;cases g2;have aE:rows.length=ae.length:=g3.1;obtain⟨hO,hN⟩:=aO8 g5 seen aE;have HB:(rows.zipIdx.filter fun p=> !seen.contains p.2).length=(ae.zipIdx.filter fun p=> !seen.contains p.2).length:=by
        have:=congrArg List.length (Jx rows seen);have h2:=congrArg List.length (Jx ae seen);rw[xm] at this h2;rw[this,h2,aE]
       have lm:left.length=(ae.zipIdx.filter fun p=> !seen.contains p.2).length:=by rw[h5,<-HB];unfold pF;rw[xm]
       have yN:tQ rows.length seen ae=(if left=[] then[none] else[])++((ae.zipIdx.filter fun p=> !seen.contains p.2).map (·.1)).map some:=by
        unfold tQ;rw[hO,hN,xj]
        congr 1
        by_cases aN:left=[]
        ·grind
        ·rw[if_neg aN,if_neg]
         grind [List.isEmpty_iff,List.map_eq_nil_iff,xA]
       have La:0<(tQ rows.length seen ae).length:=by
        rw[yN];by_cases aN:left=[]
        ·grind
        ·grind
       obtain⟨ci,dr,oH,bB0⟩:=ar2 (P:=P) (tQ rows.length seen ae).length La w;have ja:(getObj lr.b).run P w= .ok (.mapIter (some lb.b) rows.length ⟨seen⟩ rows.length) w:=by simp[getObj,Sem.run,h1]
       have DO:(getObj lb.b).run P w= .ok (.map ⟨ae⟩ ck) w:=by simp[getObj,Sem.run,g1]
       have fS:(!(⟨seen⟩:Array Nat).isEmpty&& !(⟨ae⟩:LH).isEmpty&& (⟨ae⟩:LH).all (fun e=>decide (e.born≥rows.length)))=false:=by
        cases dU:ae with
        |nil=>simp
        |cons e0 er=>
         have h0:=g5 0 e0 (by rw[dU];rfl)
         grind
       have aZ9:=as3 (P:=P) (ty:=ty0) (⟨seen⟩:Array Nat) (⟨ae⟩:LH) (⟨tQ rows.length seen ae⟩:Array (Option MapEntry)) ja DO fS (az5 _ _ _) (by rw[List.size_toArray];exact bB0);have bz4:(Value.pointer (some ⟨lr.b,lr.d+0,none⟩))= .pointer (some ⟨lr.b,0,none⟩):=by rw[uI]
       rw[bz4,aZ9];have hca:(⟨tQ rows.length seen ae⟩:Array (Option MapEntry))[ci]? =(tQ rows.length seen ae)[ci]? :=NS
       rw[hca];have bm:lr.b<w.heap.size:=(Array.getElem?_eq_some_iff.1 h1).1;by_cases aN:left=[]
       ·rw[if_pos aN] at yN;have hz:(ae.zipIdx.filter fun p=> !seen.contains p.2)=[]:=by rw[aN] at lm;exact xA lm.symm
        rw[hz] at yN;have H4:ci=0:=by rw[yN] at oH;simpa using oH
        refine⟨_,xo _ xn,⟨β,.tuple #[.bool false],{w with drawn:=dr},?_,aj.rK ((aZ.nil β).cons (.bool false)),?_,ai.dg _ _⟩,by rw[UF];grind⟩
        ·rw[yN,H4];rfl
        ·unfold CB;rw[hg];refine(inv.drew dr).write R lr _ _ hg jt jL ⟨rfl,rfl,rfl,xk _,fun _ _ _=>rfl⟩ rfl ?_;exact⟨uI,lb,rows,left,seen,h2,h3,h4,h5,.inl ⟨rfl,aN,h1⟩⟩
       ·rw[if_neg aN,List.nil_append] at yN;have af6:ci<(pF seen rows).length:=by rw[yN,xm,xm,<-lm,h5] at oH;exact oH
        obtain⟨j,row,q1,q2,q3,q4,q5⟩:=as8 seen rows af6;have af5:ci<(ae.zipIdx.filter fun p=> !seen.contains p.2).length:=by rw[<-lm,h5];exact af6
        have DM:(ae.zipIdx.filter fun p=> !seen.contains p.2)[ci].2=j:=by
         have e1:=congrArg (fun l=>l[ci]?) (Jx ae seen);have e2:=congrArg (fun l=>l[ci]?) (Jx rows seen);simp only [xx] at e1 e2;rw[q5] at e2;rw[<-aE,<-e2,xc af5] at e1;simpa using e1
        obtain⟨e',lY⟩:∃e',(ae.zipIdx.filter fun p=> !seen.contains p.2)[ci]? =some (e',j):=⟨_,by rw[xc af5,<-DM]⟩;have BL:e'.born=j:=by
         have hm:=(List.mem_filter.1 (xu lY)).1;exact g5 j e' (List.mem_zipIdx_iff_getElem?.1 hm)
        have H3:(tQ rows.length seen ae)[ci]? =some (some e'):=by rw[yN,xx,xx,lY];rfl
        rw[H3];have Da:(⟨seen⟩:Array Nat).push e'.born=⟨seen++[j]⟩:=by apply Array.ext';simp[BL]
        refine⟨_,xn,⟨β,.tuple #[.bool true,e'.key,e'.val],{w with drawn:=dr,heap:=w.heap.setIfInBounds lr.b (.mapIter (some lb.b) rows.length ⟨seen++[j]⟩ rows.length)},?_,aj.rK (((aZ.nil β).cons (.jT _)|>.cons (.jT _)).cons (.bool true)),?_,ai.dg _ _⟩,by rw[UF];grind⟩
        ·show Sem.run P (do setObj lr.b (.mapIter (some lb.b) rows.length ((⟨seen⟩:Array Nat).push e'.born) ck);pure (.tuple #[.bool true,e'.key,e'.val]):Sem xM) _=_;rw[Da,g4,<-aE];have jI:(setObj lr.b (.mapIter (some lb.b) rows.length ⟨seen++[j]⟩ rows.length)).run P {w with drawn:=dr}= .ok () {w with drawn:=dr,heap:=w.heap.setIfInBounds lr.b (.mapIter (some lb.b) rows.length ⟨seen++[j]⟩ rows.length)}:=by simp[setObj,Sem.run,h1]
         simp_all
        ·unfold CB;rw[hg];refine(inv.drew dr).write R lr _ _ hg jt jL ⟨rfl,rfl,rfl,NS,fun k hk bo=> ?_⟩ NS ?_
         ·grind
         ·show gB β lr _ ((w.heap.setIfInBounds lr.b _)[lr.b]?);rw[Array.getElem?_setIfInBounds_self_of_lt bm];exact⟨uI,lb,rows,left,seen,h2,h3,h4,h5,.inr ⟨rfl,ci,j,row,q1,Ns,Ns,rfl⟩⟩
      ·cases h
     ·cases h
    ·cases h
  ·cases h
 ·cases h
end
section
variable(ok:E.Ok P)(inv:Inv w0 E.G β A w)
def SB(E:az)(t:xN)(x:xM):JJ:=
 match E.ti.get none t,x with
 |some ⟨.slice _,_,_,_,_⟩,.slice none 0 0=>some (.int .i64 0)
 |_,_=>none
include ok in
theorem bf2{x v:xM}(h:SB E t x=some v)(hx:aj β x x'):∃v',(Builtin.cap_ #[t] ty #[x']).run P w= .ok v' w/\aj β v v':=by
 unfold SB at h;split at h
 ·rename_i hr;have hu:=(ok.ti t _ hr).1;cases h;cases hx;exact⟨_,by simp[Builtin.cap_,run_underlying hu,goInt],.int _ _⟩
 ·cases h
end
theorem an4(w:World)(e:xN)(s:ByteArray):Lib.bytesWorld w e s=w.drew.alloc (.cells (Lib.bytesCells w e s) e ((Lib.bytesCells w e s).size,(Lib.bytesCells w e s).size+1)):=by
 have h:(Lib.bytesWorld w e s).heap=(w.drew.alloc (.cells (Lib.bytesCells w e s) e ((Lib.bytesCells w e s).size,(Lib.bytesCells w e s).size+1))).heap:=by
  apply Array.ext_getElem?;intro i;rcases Nat.lt_trichotomy i w.heap.size with h|h|h
  ·rw[Lib.bytesWorld_at_old w e s i h,Below.heap_alloc w.drew _ i (by simpa using h)];rfl
  ·subst h;rw[Lib.bytesWorld_at_new];exact(heap_alloc_new w.drew _).symm
  ·rw[Array.getElem?_eq_none (by rw[Lib.bytesWorld_size];omega),Array.getElem?_eq_none Of]
 have e1:Lib.bytesWorld w e s={Lib.bytesWorld w e s with heap:=(w.drew.alloc (.cells (Lib.bytesCells w e s) e ((Lib.bytesCells w e s).size,(Lib.bytesCells w e s).size+1))).heap}:=by rw[<-h]
 exact e1.trans rfl
section
variable(ok:E.Ok P)(inv:Inv w0 E.G β A w)
def Ro(e u o:Nat)(l:List (Nat×Nat×Nat)):Bool:=List.rec (motive:=fun _=>Bool) false (fun a _ ih=>bs (Nat.beq a.1 e&&Nat.beq a.2.1 u&&Nat.beq a.2.2 o) true ih) l
theorem Wh{e u o:Nat}:∀{l:List (Nat×Nat×Nat)},Ro e u o l=true->(e,u,o)∈l
 |[],h=>by cases h
 |a::l,h=>by
  have h':bs (Nat.beq a.1 e&&Nat.beq a.2.1 u&&Nat.beq a.2.2 o) true (Ro e u o l)=true:=h;cases hb:(Nat.beq a.1 e&&Nat.beq a.2.1 u&&Nat.beq a.2.2 o) with
  |true=>
   simp only [xf] at hb
   grind [xb,xn]
  |false=>
   rw[hb,kz] at h';exact xo _ (Wh h')
def PW(E:az)(A:AW)(s d:xN)(x:xM):JJ:=
 match E.ti.get none s,E.ti.get none d,x with
 |some ⟨.pointer t,_,_,_,_⟩,some ⟨.unsafePointer,_,_,_,_⟩,.pointer (some ⟨B,o,none⟩)=>match E.ti.get none t,A.get B with
  |some r,some ⟨.cells cs,_,_,_,_⟩=>bs (Nat.ble 1 r.size&&Nat.blt o (bT cs)) (some x) none
  |_,_=>none
 |some ⟨.unsafePointer,_,_,_,_⟩,some ⟨.pointer u,_,_,_,_⟩,.pointer (some ⟨B,o,none⟩)=>match E.ti.get none u,A.get B with
  |some r,some ⟨.cells cs,_,true,_,ty⟩=>match E.ti.get none ty with
   |some rt=>bs (Nat.ble 1 r.size&&Nat.ble 1 rt.size&&Ro ty u o E.lay&&Nat.beq (bT cs) rt.size) (some x) none
   |none=>none
  |_,_=>none
 |_,_,_=>none
theorem as7{s:Nat}(hs:1<=s)(hc:P.cellsOf e=s)(jd i n:Nat)(hn:i+n<=jd):liesAt P P.depth e jd (i*s) e n=true:=by
 have hd:P.depth=(2*(P.types.size+Made.depth)+1)+1:=rfl;rw[hd];simp only [liesAt,Bool.or_eq_true];left;rw[hd];have h0: ¬s=0:=MK
 simp[rowAt,hc,hn,sameLayout,h0,Nat.mul_div_cancel i (show 0<s by omega)]
include inv in
theorem zJ{B:Nat}{cs:C3}{ex ro:Bool}(hg:A.get B=some ⟨.cells cs,es,ex,ro,ty⟩){l:Loc}(hl:β B=some l):∃gj,w.shape? l.b=some (gj,l.sz)/\(ty≠jN->gj=ty)/\l.d+cs.length<=l.sz/\(ex=true->l.d=0/\l.d+cs.length=l.sz):=by
 obtain⟨aB,e,fz,k1,k2,k3,k4,k5,k6,k7⟩:=inv.cont B _ l hg hl;refine⟨e,?_,k7.2,k3,k6⟩
 grind [World.shape?]
theorem WU(ok:E.Ok P)(h:E.ti.get none t=some r):P.cellsOf t=r.size:=by
 obtain⟨_,i,hi,hs,_⟩:=ok.ti t r h;simp[Program.cellsOf,hi,hs]
include ok inv in
theorem aK9{s d:xN}{x v:xM}(h:PW E A s d x=some v)(hx:aj β x x'):∃v',(convert s d x').run P w= .ok v' w/\aj β v v':=by
 unfold PW at h;split at h
 ·rename_i t _ _ _ _ _ _ _ _ B o hs hd;split at h
  ·rename_i r cs es ex ro ty hr hg;replace h:=aC h;rcases h with⟨hb,h⟩|⟨_,h⟩
   ·simp only [xf,eH] at hb;have bX:=xh hb.1;have bP:o<cs.length:=xh hb.2;cases h;refine⟨x',?_,hx⟩;cases hx with
    |ptr _ _ l hl=>
     obtain⟨gj,s1,_,s2,_⟩:=zJ inv hg hl;have h1:=(ok.ti s _ hs).1;have h2:=(ok.ti d _ hd).1;have h3: ¬(l.sz<=l.d+o):=MK
     have h4: ¬(r.size=0):=MK
     simp[convert,run_underlying h1,run_underlying h2,Conv.unsafePointer,Conv.seenAt,viewAt,cellsIn,s1,eZ ok hr,h3,h4]
   ·cases h
  ·cases h
 ·rename_i _ _ _ _ u _ _ _ _ B o hs hd;split at h
  ·rename_i r cs es ro ty hr hg;split at h
   ·rename_i rt hrt;replace h:=aC h;rcases h with⟨hb,h⟩|⟨_,h⟩
    ·simp only [xf,eH] at hb;obtain⟨⟨⟨bX,EA⟩,bP⟩,p6⟩:=hb;have cq6:=xh bX;have cq7:=xh EA;have bB4:=ok.lay _ _ _ (Wh bP);have cq5:=xb p6;cases h;refine⟨x',?_,hx⟩;cases hx with
     |ptr _ _ l hl=>
      obtain⟨gj,s1,El,s2,s3⟩:=zJ inv hg hl;obtain rfl:=(El (fun e=>by grind [ok.any])).symm;obtain⟨s4,s5⟩:=s3 rfl;have h1:=(ok.ti s _ hs).1;have h2:=(ok.ti d _ hd).1;have h4: ¬(r.size=0):=MK
      have h5:=WU ok hrt;have h6:l.sz/P.cellsOf ty=1:=by rw[h5,show l.sz=rt.size by omega,Nat.div_self MK]
      simp[convert,run_underlying h1,run_underlying h2,Conv.unsafePointer,Conv.seenAt,viewAt,s1,eZ ok hr,h4,variablesAt,h6,s4,bB4]
    ·cases h
   ·cases h
  ·cases h
 ·cases h
theorem ao8(w:World)(b o n:Nat):w.grownBy (w.freeze ⟨b,o,none⟩ n) (some b):=by
 unfold World.freeze;split
 ·exact⟨rfl,rfl,rfl,xk _,fun k _ _=>rfl⟩
 ·refine⟨rfl,rfl,rfl,NS,fun k hk bo=> ?_⟩
  grind
theorem aq8(w:World)(b o n:Nat):(w.freeze ⟨b,o,none⟩ n).heap.size=w.heap.size:=by
 grind [World.freeze]
theorem ay4(w:World)(b o n:Nat){c:KB}(h:w.heap[b]? =some (.cells c e fz)):∃TW,(w.freeze ⟨b,o,none⟩ n).heap[b]? =some (.cells c e TW):=by
 unfold World.freeze
 grind
end
section
variable(ok:E.Ok P)(inv:Inv w0 E.G β A w)
def JR(A:AW)(it:xM):JJ:=
 match it with
 | .pointer (some ⟨R,0,none⟩)=>match A.get R with
  |some ⟨.pG B (.chan (some n)) _ [k,v],_,_,_,_⟩=>match A.get B with
   |some ⟨.jC _ (.chan (some n')),_,_,_,_⟩=>bs (Nat.beq n n') (some (.tuple ⟨[k,v]⟩)) none
   |_=>none
  |_=>none
 |_=>none
theorem Wk(z:GU):∀(ks:JI) (a:Di) (va:C3),fc ks a=some va->a.length=va.length/\∀(i:Nat) (d:D) (v:xM),a[i]? =some d->va[i]? =some v->Rd z d v
 |[],[],va,h=>by cases h;grind
 |[],_::_,va,h=>by cases h
 |k::ks,[],va,h=>by cases h
 |k::ks,d::ds,va,h=>by
  unfold fc at h;split at h
  ·grind
  ·rename_i k2 oq j n pq h1 h2;cases h1;cases h2;split at h
   ·rename_i hk;obtain⟨l,hl,rfl⟩:=xp.1 h;obtain⟨e1,e2⟩:=Wk z ks ds l hl;refine⟨by simp[e1],fun i d v a b=> ?_⟩;cases i with
    |zero=>simp at a b;subst a;subst b;exact .int _ _
    |succ i=>grind
   ·cases h
  ·cases h
theorem aq9{r mV ck:Nat}(sn:Array Nat)(es:LH){s:Nat}{e':MapEntry}(ja:(getObj r).run P w= .ok (.mapIter (some b) mV sn ck) w)(DO:(getObj b).run P w= .ok (.map es ck) w)(hb:sn.back?=some s)(hf:es.find? (·.born==s)=some e'):
 (Instr.entry (.pointer (some ⟨r,0,none⟩))).run P w= .ok (.tuple #[e'.key,e'.val]) w:=by
 simp[Instr.entry,ja,DO,hb,hf]
include inv in
theorem aG5{it HA v:xM}(h:JR A it=some v)(hi:aj β it HA):∃v',(Instr.entry HA).run P w= .ok v' w/\aj β v v':=by
 unfold JR at h;split at h
 ·rename_i R;cases hi with
  |ptr _ _ lr jt=>
   split at h
   ·rename_i B n lc k vv es ex ro ty hg;split at h
    ·rename_i ks n' es2 wJ LW pQ gx;replace h:=aC h;rcases h with⟨hb,h⟩|⟨_,h⟩
     ·cases h;obtain rfl:=xb hb;obtain⟨uI,lb,rows,left,seen,h1,h2,h3,h4,h5,h6⟩:=inv.cont R _ lr hg jt;obtain⟨ae,ck,Kb,g1,g2,g3,g4,g5⟩:=inv.cont B _ lb gx h2;rw[h3] at g2;cases g2;rcases h6 with h6|⟨Gh,i,row,p1,p2,p3⟩
      ·cases h6
      ·have hi:i<ae.length:=by rw[<-g3.1];exact(xe.1 p2).1
       have he:=xc hi;obtain⟨ds,vs,d,q1,q2,q3,q4,q5⟩:=g3.2 i row _ p2 he;subst q1;obtain⟨dk,dv,e0,e1,e2⟩:=jj p3;cases e0;have ja:(getObj lr.b).run P w= .ok (.mapIter (some lb.b) rows.length ⟨seen⟩ ck) w:=by rw[g4,<-g3.1];simp[getObj,Sem.run,h1]
       have DO:(getObj lb.b).run P w= .ok (.map ⟨ae⟩ ck) w:=by simp[getObj,Sem.run,g1]
       have bV4:(⟨seen⟩:Array Nat).back?=some i:=by rw[p1];simp
       have tP:(⟨ae⟩:LH).find? (·.born==i)=some ae[i]:=by
        have:ae.find? (·.born==i)=some ae[i]:=by
         rw[List.find?_eq_some_iff_getElem];refine⟨Ns,i,hi,rfl,fun j hj=> ?_⟩;rw[g5 j _ (xc MK)];simp;omega
        simpa using this
       obtain⟨r1,r2⟩:=Wk β.z ks ds vs q2;refine⟨.tuple #[ae[i].key,ae[i].val],?_,aj.rK (((aZ.nil β).cons (uV e2 q5)).cons (uV e1 (by rw[q3];exact .agg ds vs r1 r2)))⟩
       grind [aq9]
     ·cases h
    ·cases h
   ·cases h
 ·cases h
end
def qo(a b:xM):Bool:=
 match a,b with
 | .bool x,.bool y=>bs x y (not y)
 | .int k x,.int j y=>dR k j&&mC x y
 | .string ⟨⟨x⟩⟩,.string ⟨⟨y⟩⟩=>ug x y
 | .pointer none,.pointer none=>true
 | .pointer (some ⟨B,o,none⟩),.pointer (some ⟨B',o',none⟩)=>Nat.beq B B'&&Nat.beq o o'
 | .slice none n c,.slice none n' c'=>Nat.beq n n'&&Nat.beq c c'
 | .slice (some ⟨B,o,none⟩) n c,.slice (some ⟨B',o',none⟩) n' c'=>Nat.beq B B'&&Nat.beq o o'&&Nat.beq n n'&&Nat.beq c c'
 | .map none,.map none=>true
 | .map (some x),.map (some y)=>Nat.beq x y
 | .nilFunc,.nilFunc=>true
 | .nilIface,.nilIface=>true
 | .func (.func f) ⟨[]⟩ ⟨[]⟩,.func (.func f') ⟨[]⟩ ⟨[]⟩=>Nat.beq f f'
 | .chan (some x),.chan (some y)=>Nat.beq x y
 | .iface x (.chan (some c)),.iface y (.chan (some c'))=>Nat.beq x y&&Nat.beq c c'
 |_,_=>false
def nI(a:C3):C3->Bool:=
 List.rec (motive:=fun _=>C3->Bool) (fun b=>List.rec (motive:=fun _=>Bool) true (fun _ _ _=>false) b)
  (fun x _ ih b=>List.rec (motive:=fun _=>Bool) false (fun y t _=>bs (qo x y) (ih t) false) b) a
def v5(a b:xM):Bool:=
 match a,b with
 | .agg ⟨x⟩,.agg ⟨y⟩=>nI x y
 | .tuple ⟨x⟩,.tuple ⟨y⟩=>nI x y
 | .func (.func f) ⟨p⟩ ⟨q⟩,.func (.func f') ⟨p'⟩ ⟨q'⟩=>Nat.beq f f'&&nI p p'&&nI q q'
 | .iface x (.agg ⟨p⟩),.iface y (.agg ⟨q⟩)=>Nat.beq x y&&nI p q
 |a,b=>qo a b
def ri(a:C3):C3->Bool:=
 List.rec (motive:=fun _=>C3->Bool) (fun b=>List.rec (motive:=fun _=>Bool) true (fun _ _ _=>false) b)
  (fun x _ ih b=>List.rec (motive:=fun _=>Bool) false (fun y t _=>bs (v5 x y) (ih t) false) b) a
theorem uX{a b:xM}(h:qo a b=true):a=b:=by
 unfold qo at h;split at h<;>(try simp only [xf] at h)
 ·rename_i x y;cases x<;>cases y<;>first|rfl|cases h
 ·obtain⟨h1,h2⟩:=h;rw[oU] at h2;rw[qg h1,of_decide_eq_true h2]
 ·rw[x6] at h;grind
 ·rfl
 ·simp_all
 ·simp_all
 ·simp_all
 ·rfl
 ·simp_all
 ·rfl
 ·rfl
 ·simp_all
 ·simp_all
 ·simp_all
 ·cases h
theorem oQ:∀(a b:C3),nI a b=true->a=b
 |[],[],_=>rfl
 |[],_::_,h=>by cases h
 |_::_,[],h=>by cases h
 |x::a,y::b,h=>by
  have h':bs (qo x y) (nI a b) false=true:=h;cases hb:qo x y with
  |false=>rw[hb] at h';cases h'
  |true=>
   rw[hb,fK] at h';rw[uX hb,oQ a b h']
theorem FO{a b:xM}(h:v5 a b=true):a=b:=by
 unfold v5 at h;split at h
 ·rw[oQ _ _ h]
 ·rw[oQ _ _ h]
 ·simp only [xf] at h
  grind [xb,oQ]
 ·rw[xf] at h
  grind [xb,oQ]
 ·exact uX h
theorem rM:∀(a b:C3),ri a b=true->a=b
 |[],[],_=>rfl
 |[],_::_,h=>by cases h
 |_::_,[],h=>by cases h
 |x::a,y::b,h=>by
  have h':bs (v5 x y) (ri a b) false=true:=h;cases hb:v5 x y with
  |false=>rw[hb] at h';cases h'
  |true=>
   rw[hb,fK] at h';rw[FO hb,rM a b h']
def KM:BinOp->Nat| .add=>0| .sub=>1| .mul=>2| .quo=>3| .rem=>4| .and=>5| .or=>6| .xor=>7| .shl=>8| .shr=>9| .andNot=>10| .eql=>11| .neq=>12| .lss=>13| .leq=>14| .gtr=>15| .geq=>16
theorem aJ3{a b:BinOp}(h:KM a=KM b):a=b:=by cases a<;>cases b<;>first|rfl|(exact absurd h Pp)
def J5:UnOp->Nat| .neg=>0| .xor=>1| .not=>2| .plus=>3
theorem aB3{a b:UnOp}(h:J5 a=J5 b):a=b:=by cases a<;>cases b<;>first|rfl|(exact absurd h Pp)
def mf(a:JI):JI->Bool:=
 List.rec (motive:=fun _=>JI->Bool) (fun b=>List.rec (motive:=fun _=>Bool) true (fun _ _ _=>false) b)
  (fun x _ ih b=>List.rec (motive:=fun _=>Bool) false (fun y t _=>bs (dR x y) (ih t) false) b) a
theorem qS:∀(a b:JI),mf a b=true->a=b
 |[],[],_=>rfl
 |[],_::_,h=>by cases h
 |_::_,[],h=>by cases h
 |x::a,y::b,h=>by
  have h':bs (dR x y) (mf a b) false=true:=h;cases hb:dR x y with
  |false=>rw[hb] at h';cases h'
  |true=>
   rw[hb,fK] at h';rw[qg hb,qS a b h']
theorem bf7{r r':Bool}(h:bs r r' (not r')=true):r=r':=by cases r<;>cases r'<;>first|rfl|cases h
def n7(a b:NK):Bool:=
 match a,b with
 | .bin o c,.bin o' c'=>Nat.beq (KM o) (KM o')&&Nat.beq c c'
 | .te k n,.te k' n'=>mf k k'&&bs n n' (not n')
 | .un o,.un o'=>Nat.beq (J5 o) (J5 o')
 | .kS k,.kS k'=>dR k k'
 | .EM,.EM=>true
 | .GX,.GX=>true
 | .sj,.sj=>true
 | .DH,.DH=>true
 | .GM,.GM=>true
 | .pR a,.pR b=>Nat.beq a b
 | .tY a,.tY b=>Nat.beq a b
 | .sB a,.sB b=>Nat.beq a b
 | .ld,.ld=>true
 | .wa a,.wa b=>Nat.beq a b
 | .Gm,.Gm=>true
 | .own a,.own b=>Nat.beq a b
 | .call a,.call b=>Nat.beq a b
 | .lV a,.lV b=>Nat.beq a b
 | .dB a b,.dB c d=>Nat.beq a c&&Nat.beq b d
 | .Hb a,.Hb b=>Nat.beq a b
 | .app a b,.app a' b'=>Nat.beq a a'&&Nat.beq b b'
 | .iO,.iO=>true
 | .pD a b r,.pD a' b' r'=>Nat.beq a a'&&Nat.beq b b'&&bs r r' (not r')
 | .uu e a b r,.uu e' a' b' r'=>Nat.beq e e'&&Nat.beq a a'&&Nat.beq b b'&&bs r r' (not r')
 | .kj a,.kj b=>Nat.beq a b
 | .n0 a b,.n0 a' b'=>Nat.beq a a'&&Nat.beq b b'
 | .strOf,.strOf=>true
 | .mx,.mx=>true
 | .mn,.mn=>true
 | .C2,.C2=>true
 | .C6,.C6=>true
 | .EO a,.EO b=>Nat.beq a b
 | .tI a,.tI b=>mf a b
 | .u5 a,.u5 b=>mf a b
 | .ko a,.ko b=>mf a b
 | .zV a,.zV b=>mf a b
 | .u4,.u4=>true
 | .Dx,.Dx=>true
 | .Cy a,.Cy b=>mf a b
 | .Cv a,.Cv b=>mf a b
 | .Cw a,.Cw b=>mf a b
 | .Cz,.Cz=>true
 | .AV r,.AV r'=>bs r r' (not r')
 | .sf a b,.sf a' b'=>Nat.beq a a'&&Nat.beq b b'
 |_,_=>false
theorem qb{a b:NK}(h:n7 a b=true):a=b:=by
 unfold n7 at h;split at h<;>(try simp only [xf] at h)
 all_goals first|rfl|(cases h;done)|grind [aJ3,aB3,qg,qS,bf7,xb]
def Ii(E:az)(t:xN):Nat:=
 match E.ti.get none t with
 |some ⟨.bool,_,_,_,_⟩=>1
 |some ⟨.pointer _,_,_,_,_⟩=>2
 |some ⟨.string,_,_,_,_⟩=>3
 |_=>0
def kX(E:az)(t:xN):Ji:=match E.ti.get none t with|some r=>some r.size|none=>none
def pU(E:az)(g:Gt)(x:Option Operand):xM:=match x with|some x=>ev E g x|none=> .int .i64 (.ofNat 0)
def qI(E:az)(g:Gt)(x:Option Operand):C3:=match x with|some x=>[ev E g x]|none=>[]
def keyOf(E:az)(sq:Cf)(g:Gt)(op:Op):Option (NK×List xM):=
 match op with
 | .binOp zv t x y _=>match ib sq t with
  |some ks=>match zv with
   | .eql=>some (.te ks false,[ev E g x,ev E g y])
   | .neq=>some (.te ks true,[ev E g x,ev E g y])
   |_=>none
  |none=>match E.ti.get none t with
   |some ⟨.slice _,_,_,_,_⟩=>match ev E g y with
    | .slice none 0 0=>match zv with
     | .eql=>some (.AV false,[ev E g x])
     | .neq=>some (.AV true,[ev E g x])
     |_=>none
    |_=>none
   |_=>some (.bin zv (Ii E t),[ev E g x,ev E g y])
 | .unOp LM _ x=>some (.un LM,[ev E g x])
 | .convert s d x=>match E.ti.get none s,E.ti.get none d with
  |some _,some ⟨.int k,_,_,_,_⟩=>some (.kS k,[ev E g x])
  |some _,some ⟨.string,_,_,_,_⟩=>some (.EM,[ev E g x])
  |_,_=>none
 | .call ⟨.builtin .len,⟨[x]⟩,⟨[t]⟩⟩=>match E.ti.get none t with
  |some ⟨.string,_,_,_,_⟩=>some (.GX,[ev E g x])
  |some ⟨.slice _,_,_,_,_⟩=>some (.sj,[ev E g x])
  |_=>none
 | .call ⟨.builtin .max,⟨l⟩,_⟩=>some (.mx,fC (ev E g) l)
 | .call ⟨.builtin .min,⟨l⟩,_⟩=>some (.mn,fC (ev E g) l)
 | .index t x i=>match E.ti.get none t with
  |some ⟨.string,_,_,_,_⟩=>some (.DH,[ev E g x,ev E g i])
  |_=>none
 | .slice t x lo hi none=>match E.ti.get none t with
  |some ⟨.string,_,_,_,_⟩=>some (.GM,ev E g x::pU E g lo::qI E g hi)
  |some ⟨.slice e,_,_,_,_⟩=>match kX E e with|some n=>some (.pR n,ev E g x::pU E g lo::qI E g hi)|none=>none
  |_=>none
 | .indexAddr t x i=>match E.ti.get none t with
  |some ⟨.slice e,_,_,_,_⟩=>match kX E e with|some n=>some (.tY n,[ev E g x,ev E g i])|none=>none
  |_=>none
 | .fieldAddr t x f=>match E.ti.get none t with
  |some ⟨.struct ⟨fs⟩,_,_,_,_⟩=>match dM fs f with
   |some fd=>match E.ti.get none fd.type with
    |some r=>bs (Nat.beq r.size 0) none (some (.sB fd.offset,[ev E g x]))
    |none=>none
   |none=>none
  |_=>none
 | .load t x=>match E.ti.get none t with
  |some r=>bs (mT r.desc) (some (.wa r.size,[ev E g x])) (some (.ld,[ev E g x]))
  |none=>none
 | .nilCheck x=>some (.Gm,[ev E g x])
 |_=>none
def yp(E:az)(sq:Cf)(g:Gt)(op:Op)(nd:Node):JJ:=
 match keyOf E sq g op with
 |some (k,args)=>bs (n7 k nd.k) (bs (ri args nd.args) (some nd.res) none) none
 |none=>none
theorem ar6{sq:Cf}{op:Op}{v:xM}(h:yp E sq g op nd=some v):v=nd.res/\keyOf E sq g op=some (nd.k,nd.args):=by
 unfold yp at h;split at h
 ·rename_i k args hk;rcases aC h with⟨h1,h⟩|⟨_,h⟩
  ·rcases aC h with⟨h2,h⟩|⟨_,h⟩
   ·cases h;rw[<-qb h1,<-rM _ _ h2]
    grind
   ·cases h
  ·cases h
 ·cases h
def oY(z:GU)(b o:Nat):ai:=⟨fun _=>some ⟨b,o,0,0⟩,z,fun _=>none,⟨fun _=>False,z⟩,fun _=>none,fun _=>none⟩
theorem aE6{x:JJ}{v v':xM}(h:ofInt x=some d)(hx:x=some v)(hv:aj β v v'):Rd z d v':=by
 subst hx;unfold ofInt at h;split at h
 ·rename_i e;cases e;cases h;cases hv;exact .int _ _
 ·rename_i e;cases e;cases h;cases hv;exact .bool _
 ·cases h
section
variable(ok:E.Ok P){sq:Cf}(aU:E.Seq P sq)
include ok aU in
theorem bg0{op:BinOp}{x y:D}(h:J0 op (Ii E t) x y=some d)(hx:Rd z x x')(hy:Rd z y y')(p q:Operand)(w:World):
 ∃v',(do eqGuard op t p q x' y';binOp op t x' y':Sem xM).run P w= .ok v' w/\Rd z d v':=by
 have ZB:Ii E t=2->∃u a b c e,E.ti.get none t=some ⟨.pointer u,a,b,c,e⟩:=fun h=>by
  grind [Ii]
 unfold J0 at h;split at h
 ·rename_i k a k' b;cases hx;cases hy;cases hi:A5 op k a k' b with
  |none=>rw[hi] at h;cases h
  |some v=>
   have hb:ij E sq op t (.int k a) (.int k' b)=some v:=hi;obtain⟨v',h1,h2⟩:=rV ok aU (β:=oY z 0 0) hb (.int k a) (.int k' b) p q w
   grind [aE6]
 ·rename_i a b;cases hx;cases hy;split at h
  ·split at h<;>cases h
   rename_i aN;have hb:ij E sq .add t (.string ⟨⟨a⟩⟩) (.string ⟨⟨b⟩⟩)=some (.string ⟨⟨iR a b⟩⟩):=by
    simp only [ij];rw[eH,eH,show Nat.ble (Nat.add a.length b.length) 9223372036854775807=true from Nat.ble_eq_true_of_le aN,fK]
   obtain⟨v',h1,h2⟩:=rV ok aU (β:=oY z 0 0) hb (.string _) (.string _) p q w;rw[mQ] at h2;cases h2;exact⟨_,h1,.str _⟩
  ·unfold ak9 at h;split at h<;>cases h
   ·have hb:ij E sq .eql t (.string ⟨⟨a⟩⟩) (.string ⟨⟨b⟩⟩)=some (.bool (ug a b)):=rfl;obtain⟨v',h1,h2⟩:=rV ok aU (β:=oY z 0 0) hb (.string _) (.string _) p q w;rw[x6] at h2;cases h2;exact⟨_,h1,.bool _⟩
   ·have hb:ij E sq .neq t (.string ⟨⟨a⟩⟩) (.string ⟨⟨b⟩⟩)=some (.bool (not (ug a b))):=rfl;obtain⟨v',h1,h2⟩:=rV ok aU (β:=oY z 0 0) hb (.string _) (.string _) p q w;rw[x6] at h2;cases h2;exact⟨_,h1,.bool _⟩
 ·split at h<;>cases h
  rename_i row o hc;obtain⟨hc,rfl⟩:=hc;cases hy;obtain⟨_,_,_,_,_,hr⟩:=ZB hc;cases hx with
  |ptr _ _ b o0 cells hz hs hh=>
   obtain⟨v',h1,h2⟩:=rV ok aU (show ij E sq .eql t (.pointer (some ⟨0,0,none⟩)) (.pointer none)=some (.bool false) by simp only [ij,wK,hr];rfl) (.ptr (β:=oY z b (o0+o)) 0 0 ⟨b,o0+o,0,0⟩ rfl) .tW p q w;cases h2;exact⟨_,h1,.bool _⟩
 ·split at h<;>cases h
  rename_i hc;obtain⟨hc,rfl⟩:=hc;cases hx;cases hy;obtain⟨_,_,_,_,_,hr⟩:=ZB hc;obtain⟨v',h1,h2⟩:=rV ok aU (β:=oY z 0 0) (show ij E sq .eql t (.pointer none) (.pointer none)=some (.bool true) by simp only [ij,wK,hr];rfl) .tW .tW p q w;cases h2;exact⟨_,h1,.bool _⟩
 ·cases h
include ok aU in
theorem Xh{x:D}{e a1 a2 a3 a4}(hr:E.ti.get none t=some ⟨.slice e,a1,a2,a3,a4⟩)(h:FJ neg x=some d)(hx:Rd z x x')(hy:aj β (.slice none 0 0) y')(p q:Operand)(w:World):
 ∃v',(do eqGuard (if neg then .neq else .eql) t p q x' y';binOp (if neg then .neq else .eql) t x' y':Sem xM).run P w= .ok v' w/\Rd z d v':=by
 cases hy;unfold FJ at h;split at h<;>cases h
 rename_i r0 rs;cases hx with
 |sl rows es b o c cells hz bo dU hc hs hh=>
  let γ:ai:=⟨fun _=>some ⟨b,o,0,o⟩,z,fun _=>none,⟨fun _=>False,z⟩,fun _=>none,fun _=>none⟩
  have hv:aj γ (.slice (some ⟨0,0,none⟩) (r0::rs).length c) (.slice (some ⟨b,o,none⟩) (r0::rs).length c):= .slice (β:=γ) 0 0 _ c c ⟨b,o,0,o⟩ rfl hc (xk _) NS;have hb:ij E sq .eql t (.slice (some ⟨0,0,none⟩) (r0::rs).length c) (.slice none 0 0)=some (.bool false):=by simp only [ij,wK,hr];rfl
  obtain⟨v',h1,h2⟩:=rV ok aU hb hv .yb p q w;cases h2;exact⟨_,h1,.bool _⟩
include ok aU in
theorem YI{ks:JI}{a b:Di}{r:Bool}(hk:ib sq t=some ks)(h:pA ks a b=some r)(hx:Rd z (.agg a) x')(hy:Rd z (.agg b) y')(p q:Operand)(w:World):
 (do eqGuard (if neg then .neq else .eql) t p q x' y';binOp (if neg then .neq else .eql) t x' y':Sem xM).run P w= .ok (.bool (r !=neg)) w:=by
 have key:∀(ks:JI) (a b:Di) (r:Bool),pA ks a b=some r->∀(va vb:C3),a.length=va.length->b.length=vb.length->(∀(i:Nat) (d:D) (v:xM),a[i]? =some d->va[i]? =some v->Rd z d v)->(∀(i:Nat) (d:D) (v:xM),b[i]? =some d->vb[i]? =some v->Rd z d v)->
  eR ks va vb=some r/\aZ (oY z 0 0) va va/\aZ (oY z 0 0) vb vb:=by
  intro ks
  induction ks with
  |nil=>
   intro a b r h va vb h1 h2 _ _
   match a,b,h with
   |[],[],h=>
    obtain rfl:va=[]:=xA h1.symm;obtain rfl:vb=[]:=xA h2.symm;cases h;exact⟨rfl,aZ.nil _,aZ.nil _⟩
  |cons k ks ih=>
   intro a b r h va vb h1 h2 h3 h4
   match a,b,h with
   | .int k1 m::a,.int k2 n::b,h=>
    have h':(if k1=k/\k2=k then(pA ks a b).map fun r=>decide (m=n)&&r else none)=some r:=h;split at h'
    ·rename_i gY;obtain⟨r0,gp,rfl⟩:=xp.1 h'
     match va,vb,h1,h2,h3,h4 with
     |x::va,y::vb,h1,h2,h3,h4=>
      have hx:=h3 0 _ _ rfl rfl;have hy:=h4 0 _ _ rfl rfl;cases hx;cases hy;obtain⟨i1,i2,i3⟩:=ih a b r0 gp va vb Ns Ns (fun i d v e1 e2=>h3 (i+1) d v Ns Ns) (fun i d v e1 e2=>h4 (i+1) d v Ns Ns);refine⟨?_,i2.cons (.int _ _),i3.cons (.int _ _)⟩;show nK k (eR ks) (Value.int k1 m::va) (Value.int k2 n::vb)=_;unfold nK;have e1:dR k1 k=true:=by rw[gY.1];cases k<;>rfl
      have e2:dR k2 k=true:=by rw[gY.2];cases k<;>rfl
      simp only [e1,e2,Bool.and_self,fK,i1];rw[oU];cases decide (m=n)<;>rfl
    ·cases h'
 cases hx with
 |agg _ va HJ h1=>
  cases hy with
  |agg _ vb pY h2=>
   obtain⟨e1,e2,e3⟩:=key ks a b r h va vb HJ pY h1 h2;have hb:ij E sq (if neg then .neq else .eql) t (.agg ⟨va⟩) (.agg ⟨vb⟩)=some (.bool (r !=neg)):=by
    cases neg
    ·simp only [ij,wK,hk,e1,Option.map_some];cases r<;>rfl
    ·simp only [ij,wK,hk,e1,Option.map_some];cases r<;>rfl
   obtain⟨v',h3,h4⟩:=rV ok aU (β:=oY z 0 0) hb (aj.mU e2) (aj.mU e3) p q w;cases h4;exact h3
theorem bh3{op:UnOp}{x:D}(h:KK op x=some d)(hx:Rd z x x')(w:World):∃v',(Op.unary op x').run P w= .ok v' w/\Rd z d v':=by
 unfold KK at h;split at h
 ·rename_i k n;split at h
  ·cases h
  ·rename_i hs;have hs:k.signed=false:=by simpa using hs
   obtain⟨r,hr,rfl⟩:=xp.1 h;cases hx;obtain⟨v',h1,h2⟩:=Y0 (β:=oY z 0 0) (show Hv .xor (.int k n)=some (.int k r) by show bs k.signed none (Option.map (Value.int k) (pN BinOp.xor k (Int.ofNat ((mk k).sub 1)) n))=_;rw[hs,hr];rfl) (.int _ _) P w;cases h2;exact⟨_,h1,.int _ _⟩
 ·cases h
include ok in
theorem aQ6{a1 a2 a3 a4}{x i:D}{i':xM}(hr:E.ti.get none t=some ⟨.string,a1,a2,a3,a4⟩)(h:Js x i=some d)(hx:Rd z x x')(hi:Rd z i i')(w:World):∃v',(Instr.index t x' i').run P w= .ok v' w/\Rd z d v':=by
 unfold Js at h;split at h
 ·rename_i l k m;obtain⟨b,hb,rfl⟩:=xp.1 h;cases hx;cases hi;have hv:CP E t (.string ⟨⟨l⟩⟩) (.int k (.ofNat m))=some (.int .u8 (.ofNat b.toNat)):=by simp only [CP,hr,gg,hb]
  obtain⟨v',h1,h2⟩:=Co (β:=oY z 0 0) ok hv (.string _) (.int _ _) w;cases h2;exact⟨_,h1,.int _ _⟩
 ·cases h
def vq(z:GU)(w:World):Prop:=∀b cs,z b=some cs->∃e fz,w.heap[b]? =some (.cells cs e fz)
include ok in
theorem bl3{x:D}(bk:vq z w)(hr:E.ti.get none t=some r)(hd:mT r.desc=false)(h:KL x=some d)(hx:Rd z x x'):∃v',(Instr.loadAt t x').run P w= .ok v' w/\Rd z d v':=by
 unfold KL at h;split at h
 ·rename_i row o;obtain⟨d2,h1,h⟩:=xr.1 h;split at h<;>cases h
  cases hx with
  |ptr _ _ b o0 cells hz hs hh=>
   obtain⟨e,fz,hb⟩:=bk b cells hz;have bm:=(xe.1 h1).1;have Rz:o0+o<cells.size:=MK
   refine⟨cells[o0+o],?_,hh o _ _ h1 (by simp[Rz])⟩;have iP:w.cell? ⟨b,o0+o,none⟩=some cells[o0+o]:=by rw[cell_of_row w b _ cells e fz hb];simp[Rz]
   simp[Instr.loadAt,Instr.sureAddr,loadVar,E7 ok hr,hd,load,Sem.run,iP]
 ·cases h
include ok in
theorem aY9{x:D}(bk:vq z w)(hr:E.ti.get none t=some r)(hd:mT r.desc=true)(h:JZ r.size x=some d)(hx:Rd z x x'):∃v',(Instr.loadAt t x').run P w= .ok v' w/\Rd z d v':=by
 unfold JZ at h;split at h
 ·rename_i row o;split at h<;>cases h
  rename_i aN;cases hx with
  |ptr _ _ b o0 cells hz hs hh=>
   obtain⟨e,fz,hb⟩:=bk b cells hz;have kZ:∀j,j<r.size->((cells.toList.drop (o0+o)).take r.size)[j]? =cells[o0+o+j]? :=fun j hj=>by
    grind
   have aE:((cells.toList.drop (o0+o)).take r.size).length=r.size:=by simp;omega
   refine⟨.agg ⟨(cells.toList.drop (o0+o)).take r.size⟩,?_,?_⟩
   ·have aL:(loadCells ⟨b,o0+o,none⟩ r.size).run P w= .ok ((cells.toList.drop (o0+o)).take r.size).toArray w:=by
     have:=run_loadCells_list (P:=P) w ⟨b,o0+o,none⟩ ((cells.toList.drop (o0+o)).take r.size) (fun j u hu=>by
      rw[Addr.add_mid];have hj:j<r.size:=by have:=(xe.1 hu).1;omega
      grind [cell_of_row])
     rw[aE] at this;exact this
    simp[Instr.loadAt,Instr.sureAddr,loadVar,E7 ok hr,hd,eZ ok hr,aL]
   ·refine .agg _ _ Ns fun i d v h1 h2=> ?_
    grind
 ·cases h
include ok in
theorem aR7{fs:List Field}{a1 a2 a3 a4}{f:Nat}{fd:Field}{o:Nat}(hr:E.ti.get none t=some ⟨.struct ⟨fs⟩,a1,a2,a3,a4⟩)(hf:fs[f]? =some fd)(bE:E.ti.get none fd.type=some r)(hz:Nat.beq r.size 0=false)
 (hx:Rd z (.ptr row o) x') (w:World):∃v',(Instr.fieldAt t x' f).run P w= .ok v' w/\Rd z (.ptr row (o+fd.offset)) v':=by
 rw[pM] at hz;have sQ: ¬r.size=0:=by simpa using hz
 cases hx with
 |ptr _ _ b o0 cells wb hs hh=>
  refine⟨.pointer (some ⟨b,o0+(o+fd.offset),none⟩),?_,.ptr row (o+fd.offset) b o0 cells wb hs hh⟩;have hu:=(ok.ti t _ hr).1;simp[Instr.fieldAt,run_underlying hu,hf,Instr.sureAddr,fieldPlace,eZ ok bE,sQ,Addr.add_lit,Nat.add_assoc]
include ok in
theorem aQ7{a1 a2 a3 a4}{x i:D}{i':xM}(hr:E.ti.get none t=some ⟨.slice e,a1,a2,a3,a4⟩)(hs:kX E e=some n)(h:Jt n x i=some d)(hx:Rd z x x')(hi:Rd z i i')(w:World):∃v',(Instr.indexAt t x' i').run P w= .ok v' w/\Rd z d v':=by
 unfold kX at hs;split at hs<;>cases hs
 rename_i r bE;unfold Jt at h;split at h
 ·rename_i rows k m;obtain⟨row,h1,h⟩:=xr.1 h;split at h<;>cases h
  rename_i ow;have bm:=(xe.1 h1).1;cases hi;cases hx with
  |qC=>simp at bm
  |m8=>simp at bm
  |sl _ es b o c cells hz bo dU hc hs hh=>
   have bz9:es=r.size:=by rw[<-dU row (xu h1),ow]
   subst bz9;have hu:=(ok.ti t _ hr).1;refine⟨.pointer (some ⟨b,o+m*r.size+0,none⟩),?_,.ptr row 0 b (o+m*r.size) cells hz ?_ fun j d v e1 e2=>hh m row j d v h1 e1 Ns⟩
   ·simp[Instr.indexAt,asIntOf,run_underlying hu,eZ ok bE,Addr.add_lit,Nat.add_assoc,bm]
   ·rw[ow];have:(m+1)*r.size<=c*r.size:=xD _ MK
    grind
 ·cases h
include ok in
theorem be8{s d:xN}{j:xO}{n:Int}{a1 a2 a3 a4}(hs:E.ti.get none s=some r)(hd:E.ti.get none d=some ⟨.int k,a1,a2,a3,a4⟩)(w:World):(convert s d (.int j n)).run P w= .ok (.int k (k.wrap n)) w:=by
 have hv:AF E s d (.int j n)=some (.int k (fR k n)):=by simp only [AF,hs,hd]
 obtain⟨v',h1,h2⟩:=OT (β:=oY (fun _=>none) 0 0) ok hv (.int _ _) w;cases h2
 grind [lA]
include ok in
theorem be7{s d:xN}{l:EH}{a1 a2 a3 a4}(hs:E.ti.get none s=some r)(hd:E.ti.get none d=some ⟨.string,a1,a2,a3,a4⟩)(w:World):(convert s d (.string ⟨⟨l⟩⟩)).run P w= .ok (.string ⟨⟨l⟩⟩) w:=by
 have hv:AF E s d (.string ⟨⟨l⟩⟩)=some (.string ⟨⟨l⟩⟩):=by simp only [AF,hs,hd]
 obtain⟨v',h1,h2⟩:=OT (β:=oY (fun _=>none) 0 0) ok hv (.string _) w;cases h2;exact h1
include ok in
theorem aP8{l:EH}{a1 a2 a3 a4}(hr:E.ti.get none t=some ⟨.string,a1,a2,a3,a4⟩)(w:World):(Builtin.len_ #[t] ty #[.string ⟨⟨l⟩⟩]).run P w= .ok (.int .i64 l.length) w:=by
 have hu:=(ok.ti t _ hr).1;simp[Builtin.len_,run_underlying hu,goInt];rfl
include ok in
theorem aP9{a1 a2 a3 a4}(hr:E.ti.get none t=some ⟨.slice e,a1,a2,a3,a4⟩)(hx:Rd z (.sl rows) x')(w:World):(Builtin.len_ #[t] ty #[x']).run P w= .ok (.int .i64 rows.length) w:=by
 have hu:=(ok.ti t _ hr).1;cases hx<;>simp[Builtin.len_,run_underlying hu,goInt]
theorem Bp(iw:a<=b)(zg:b<=len)(eK:len<=cap)(kQ:hb.getD len=b)(nS:kv=some (.int k (.ofNat a))\/(kv=none/\a=0))(oF:(hb=none/\cb=none)\/∃k',hb=some b/\cb=some (.int k' (.ofNat b)))(s:Bool)(w:World):
 ∃m',(Instr.sliceBounds s len cap kv cb none).run P w= .ok (a,b,m') w/\len<=m'/\m'<=cap:=by
 have e1:ER cb len len=some b:=by
  rcases oF with⟨h1,rfl⟩|⟨k',h1,rfl⟩
  ·rw[h1] at kQ;exact congrArg some kQ
  ·show bs (Nat.ble b len) (some b) none=some b;rw[Nat.ble_eq_true_of_le zg];rfl
 have e2:ER kv 0 b=some a:=by
  rcases nS with rfl|⟨rfl,rfl⟩
  ·show bs (Nat.ble a b) (some a) none=some a;rw[Nat.ble_eq_true_of_le iw];rfl
  ·rfl
 have hB:CY len kv cb=some (a,b):=by simp only [CY,e1,e2]
 have rl:vV (oY (fun _=>none) 0 0) kv kv:=by rcases nS with rfl|⟨rfl,_⟩;exact .int _ _;trivial
 have rh:vV (oY (fun _=>none) 0 0) cb cb:=by rcases oF with⟨_,rfl⟩|⟨_,_,rfl⟩;trivial;exact .int _ _
 exact⟨cap,(Nh (P:=P) hB rl rh eK s w).1,eK,xk _⟩
include ok in
theorem X'{a1 a2 a3 a4}{x:D}(hr:E.ti.get none t=some ⟨.slice e,a1,a2,a3,a4⟩)(hs:kX E e=some n)(h:Ae n x (some a) hb=some d)(hx:Rd z x x')
 (nS:kv=some (.int k (.ofNat a))\/(kv=none/\a=0)) (oF:(hb=none/\cb=none)\/∃k',hb=some b/\cb=some (.int k' (.ofNat b))) (w:World):∃v',(Instr.sliceAt t x' kv cb none).run P w= .ok v' w/\Rd z d v':=by
 unfold kX at hs;split at hs<;>cases hs
 rename_i r bE;have hu:=(ok.ti t _ hr).1;unfold Ae at h;split at h
 ·rename_i rows a0 e0;cases e0;split at h<;>cases h
  rename_i aN;have Ba:(hb=none/\cb=none)\/∃k',hb=some (hb.getD rows.length)/\cb=some (.int k' (.ofNat (hb.getD rows.length))):=by
   rcases oF with h|⟨k',rfl,h⟩
   ·exact .inl h
   ·grind
  generalize HT:hb.getD rows.length=b2 at*;cases hx with
  |qC=>
   obtain rfl:b2=0:=Ns
   obtain rfl:a=0:=MK
   obtain⟨m',aW,_,hm⟩:=Bp (P:=P) (len:=0) (cap:=0) (a:=0) (b:=0) (xk _) (xk _) (xk _) HT nS Ba true w;obtain rfl:m'=0:=MK
   exact⟨.slice none 0 0,by simp[Instr.sliceAt,run_underlying hu,Instr.slice,aW,eZ ok bE],.qC⟩
  |m8 ad c=>
   obtain rfl:b2=0:=Ns
   obtain rfl:a=0:=MK
   obtain⟨m',aW,_,hm⟩:=Bp (P:=P) (len:=0) (cap:=c) (a:=0) (b:=0) (xk _) (xk _) (xL _) HT nS Ba true w;exact⟨.slice (some ad) 0 m',by simp[Instr.sliceAt,run_underlying hu,Instr.slice,aW,eZ ok bE,Addr.add],.m8 _ _⟩
  |sl _ es bb o c cells hz bo dU hc aV hh=>
   obtain⟨m',aW,uF,j4⟩:=Bp (P:=P) (len:=rows.length) (cap:=c) (a:=a) (b:=b2) aN.1 aN.2.1 hc HT nS Ba true w;have aE:((rows.drop a).take (b2 - a)).length=b2 - a:=by rw[xz,List.length_drop];omega
   have gF:∀yQ,b2 - a<=yQ->o+a*es+yQ*es<=cells.size->Rd z (.sl ((rows.drop a).take (b2 - a))) (.slice (some ⟨bb,o+a*es,none⟩) (b2 - a) yQ):=fun yQ h1 h2=>by
    by_cases he:(rows.drop a).take (b2 - a)=[]
    ·rw[he] at aE⊢;rw[<-aE];exact .m8 _ _
    ·have:=Rd.sl (z:=z) ((rows.drop a).take (b2 - a)) es bb (o+a*es) yQ cells hz he (fun row eS=>dU row (List.mem_of_mem_drop (List.mem_of_mem_take eS))) Ns h2 (fun i row j d v e1 e2 e3=>by
      grind)
     grind
   have G9:∀m,m<=c->a<=m->o+a*es+(m - a)*es<=cells.size:=fun m h1 h2=>by
    have h3:a*es+(m - a)*es=m*es:=by rw[<-Nat.add_mul];congr 1;omega
    have h4:m*es<=c*es:=xD _ h1;omega
   by_cases TH:a=0
   ·subst TH;have:=gF m' MK Ns;simp only [Nat.zero_mul,Nat.add_zero,Nat.sub_zero] at this;exact⟨.slice (some ⟨bb,o,none⟩) b2 m',by simp[Instr.sliceAt,run_underlying hu,Instr.slice,aW,eZ ok bE,Addr.add],this⟩
   ·by_cases ham:m'=a
    ·have hba:b2=a:=MK
     subst hba;subst ham;have he:(rows.drop m').take (m' - m')=[]:=NS
     refine⟨.slice (some ⟨bb,o,none⟩) 0 0,by simp[Instr.sliceAt,run_underlying hu,Instr.slice,aW,eZ ok bE],?_⟩;rw[he];exact .m8 _ _
    ·have mq:es=r.size:=by
      have hf:=aN.2.2.resolve_left TH;unfold Fq at hf;split at hf
      ·grind
      ·grind
     subst mq;exact⟨.slice (some ⟨bb,o+a*r.size,none⟩) (b2 - a) (m' - a),by simp[Instr.sliceAt,run_underlying hu,Instr.slice,aW,eZ ok bE,Addr.add_lit,ham],gF _ MK (G9 m' j4 MK)⟩
 ·cases h
include ok in
theorem aM2{a1 a2 a3 a4}{x:D}(hr:E.ti.get none t=some ⟨.string,a1,a2,a3,a4⟩)(h:FI x (some a) hb=some d)(hx:Rd z x x')
 (nS:kv=some (.int k (.ofNat a))\/(kv=none/\a=0)) (oF:(hb=none/\cb=none)\/∃k',hb=some b/\cb=some (.int k' (.ofNat b))) (w:World):∃v',(Instr.sliceAt t x' kv cb none).run P w= .ok v' w/\Rd z d v':=by
 have hu:=(ok.ti t _ hr).1;unfold FI at h;split at h
 ·rename_i l a0 e0;cases e0;split at h<;>cases h
  rename_i aN;have Ba:(hb=none/\cb=none)\/∃k',hb=some (hb.getD l.length)/\cb=some (.int k' (.ofNat (hb.getD l.length))):=by
   rcases oF with h|⟨k',rfl,h⟩
   ·exact .inl h
   ·grind
  generalize HT:hb.getD l.length=b2 at*;cases hx;obtain⟨m',aW,_⟩:=Bp (P:=P) (len:=l.length) (cap:=l.length) (a:=a) (b:=b2) aN.1 aN.2 (xk _) HT nS Ba false w;refine⟨_,?_,.str _⟩;have aV:(⟨⟨l⟩⟩:ByteArray).size=l.length:=rfl;simp[Instr.sliceAt,run_underlying hu,Instr.slice,aV,aW,UJ]
 ·cases h
end
theorem Vl(h:si d=some a):∃k,d= .int k (.ofNat a):=by
 unfold si at h;split at h
 ·simp_all
 ·cases h
theorem OW{wP:Act}(E1:∀x d,bR β.d (ev E g x)=some d->Rd β.z d (wP.eval x)){u:xM}{lo hi:Option Operand}{f:D->Option Nat->Option Nat->KA}(hf:∀x b,f x none b=none){ds:Di}
 (h1:aH (bR β.d) (u::pU E g lo::qI E g hi)=some ds) (h2:D9 f ds=some d):
 ∃dx al hb k b,bR β.d u=some dx/\f dx (some al) hb=some d/\(lo.map wP.eval=some (.int k (.ofNat al))\/(lo.map wP.eval=none/\al=0))/\((hb=none/\hi.map wP.eval=none)\/∃k',hb=some b/\hi.map wP.eval=some (.int k' (.ofNat b))):=by
 obtain⟨dx,r1,rfl,e1,h1⟩:=jb h1;obtain⟨dl,r2,rfl,e2,h1⟩:=jb h1;have nS:∀al,si dl=some al->∃k,lo.map wP.eval=some (.int k (.ofNat al))\/(lo.map wP.eval=none/\al=0):=fun al aR=>by
  obtain⟨k,rfl⟩:=Vl aR;cases lo with
  |none=>
   have e2:some (D.int .i64 (.ofNat 0))=some (D.int k (.ofNat al)):=e2;cases e2
   simp_all
  |some y=>
   have:=E1 y _ e2;generalize hg:wP.eval y=yv at this;cases this
   grind
 cases hi with
 |none=>
  have:r2=[]:=Wn h1;subst this;have h2:f dx (si dl) none=some d:=h2;cases aR:si dl with
  |none=>grind
  |some al=>
   grind
 |some y=>
  obtain⟨db,rfl,e3⟩:=kU h1;have h2:((si db).bind fun b=>f dx (si dl) (some b))=some d:=h2;obtain⟨b,hb,h4⟩:=xr.1 h2;clear h2;obtain⟨k',rfl⟩:=Vl hb;cases aR:si dl with
  |none=>grind
  |some al=>
   rw[aR] at h4;obtain⟨k,hk⟩:=nS al aR;have:=E1 y _ e3;generalize hg:wP.eval y=yv at this;cases this
   grind
section
variable(ok:E.Ok P){sq:Cf}(aU:E.Seq P sq)(inv:Inv w0 E.G β A w)
include ok aU inv
omit ok aU inv in
theorem Xl:∀{l:Di} {l':C3} {x:Int},Kn k l x=some d->l.length=l'.length->(∀(i:Nat) (d:D) (v:xM),l[i]? =some d->l'[i]? =some v->Rd z d v)->∃n,d= .int k n/\(l'.foldlM Builtin.max2 (.int k x)).run P w= .ok (.int k n) w
 |[],l',x,h,hl,hr=>by
  have:l'=[]:=xA hl.symm;subst this;cases h
  simp_all
 |y::r,[],x,h,hl,hr=>by cases hl
 |y::r,y'::r',x,h,hl,hr=>by
  have rn:∃k2 n,y= .int k2 n/\Kn k r (if x<n then n else x)=some d:=by
   cases y<;>first|(cases h;done)|exact⟨_,_,rfl,h⟩
  obtain⟨k2,n,rfl,h2⟩:=rn;have hy:=hr 0 _ y' rfl rfl;cases hy;obtain⟨m,e1,e2⟩:=Xl h2 (by simpa using hl) (fun i d v a b=>hr (i+1) d v (by simpa using a) (by simpa using b))
  grind [Builtin.max2,pure]
omit ok aU inv in
theorem Xk:∀{l:Di} {l':C3} {x:Int},Km k l x=some d->l.length=l'.length->(∀(i:Nat) (d:D) (v:xM),l[i]? =some d->l'[i]? =some v->Rd z d v)->∃n,d= .int k n/\(l'.foldlM Builtin.min2 (.int k x)).run P w= .ok (.int k n) w
 |[],l',x,h,hl,hr=>by
  have:l'=[]:=xA hl.symm;subst this;cases h
  simp_all
 |y::r,[],x,h,hl,hr=>by cases hl
 |y::r,y'::r',x,h,hl,hr=>by
  have rn:∃k2 n,y= .int k2 n/\Km k r (if n<x then n else x)=some d:=by
   cases y<;>first|(cases h;done)|exact⟨_,_,rfl,h⟩
  obtain⟨k2,n,rfl,h2⟩:=rn;have hy:=hr 0 _ y' rfl rfl;cases hy;obtain⟨m,e1,e2⟩:=Xk h2 (by simpa using hl) (fun i d v a b=>hr (i+1) d v (by simpa using a) (by simpa using b))
  grind [Builtin.min2,pure]
theorem aL4{a:Act}(hf:bU β n g a.tmps){o:Oper}{v:xM}(h:yp E sq g o.op nd=some v)(hq:bY β.d nd):∃v',(execOp a.eval o).run P w= .ok (.value v') w/\aj β v v':=by
 obtain⟨rfl,hk⟩:=ar6 h;have bk:vq β.z w:=inv.dB;have E1:=fun(x:Operand) (d:D) (hd:bR β.d (ev E g x)=some d)=>fx hd (kB (a:=a) inv hf x)
 obtain⟨dst,op,type,cq,after,guard⟩:=o;obtain⟨nk,Kk,AR⟩:=nd;have fin:∀{s:Sem xM} {d:D} {v':xM},s.run P w= .ok v' w->iF β.d AR=some d->Rd β.z d v'->(∃Hu,(do pure (Next.value (<-s)):Sem Next).run P w= .ok (.value Hu) w/\aj β AR Hu):=fun{s d v'} h1 h2 h3=>⟨v',by simp[h1],uV h2 h3⟩
 unfold keyOf at hk;simp only at hk hq⊢;split at hk
 ·
  rename_i zv t x y ty;split at hk
  ·rename_i ks dS;split at hk<;>cases hk
   ·obtain⟨ds,d,h1,h2,h3⟩:=hq;obtain⟨da,db,rfl,e1,e2⟩:=jj h1;have h3:F' ks false da db=some d:=h3;unfold F' at h3;split at h3
    ·obtain⟨r,hr,rfl⟩:=xp.1 h3;exact fin (YI ok aU (neg:=false) dS hr (E1 x _ e1) (E1 y _ e2) x y w) h2 (.bool _)
    ·cases h3
   ·obtain⟨ds,d,h1,h2,h3⟩:=hq;obtain⟨da,db,rfl,e1,e2⟩:=jj h1;have h3:F' ks true da db=some d:=h3;unfold F' at h3;split at h3
    ·obtain⟨r,hr,rfl⟩:=xp.1 h3;exact fin (YI ok aU (neg:=true) dS hr (E1 x _ e1) (E1 y _ e2) x y w) h2 (.bool _)
    ·cases h3
  ·split at hk
   ·rename_i hr;split at hk
    ·rename_i hy;have Ei:=kB (a:=a) inv hf y;rw[hy] at Ei;split at hk<;>cases hk
     ·obtain⟨ds,d,h1,h2,h3⟩:=hq;obtain⟨da,rfl,e1⟩:=kU h1;obtain⟨v',r1,r2⟩:=Xh ok aU (neg:=false) hr (show FJ false da=some d from h3) (E1 x _ e1) Ei x y w;exact fin r1 h2 r2
     ·obtain⟨ds,d,h1,h2,h3⟩:=hq;obtain⟨da,rfl,e1⟩:=kU h1;obtain⟨v',r1,r2⟩:=Xh ok aU (neg:=true) hr (show FJ true da=some d from h3) (E1 x _ e1) Ei x y w;exact fin r1 h2 r2
    ·cases hk
   ·cases hk;obtain⟨ds,d,h1,h2,h3⟩:=hq;obtain⟨da,db,rfl,e1,e2⟩:=jj h1;obtain⟨v',r1,r2⟩:=bg0 ok aU (show J0 zv (Ii E t) da db=some d from h3) (E1 x _ e1) (E1 y _ e2) x y w;exact fin r1 h2 r2
 ·
  rename_i LM t x;cases hk;obtain⟨ds,d,h1,h2,h3⟩:=hq;obtain⟨da,rfl,e1⟩:=kU h1;obtain⟨v',r1,r2⟩:=bh3 (P:=P) (show KK LM da=some d from h3) (E1 x _ e1) w;exact fin r1 h2 r2
 ·
  rename_i s d0 x;split at hk<;>cases hk
  ·rename_i hs hd;obtain⟨ds,d,h1,h2,h3⟩:=hq;obtain⟨da,rfl,e1⟩:=kU h1;have h3:PH _ da=some d:=h3;have hx:=E1 x _ e1;unfold PH at h3;split at h3<;>cases h3
   generalize hg:a.eval x=xv at hx;cases hx;exact fin (by grind [be8]) h2 (.int _ _)
  ·rename_i hs hd;obtain⟨ds,d,h1,h2,h3⟩:=hq;obtain⟨da,rfl,e1⟩:=kU h1;have h3:Ga da=some d:=h3;have hx:=E1 x _ e1;unfold Ga at h3;split at h3<;>cases h3
   generalize hg:a.eval x=xv at hx;cases hx;exact fin (by grind [be7]) h2 (.str _)
 ·
  rename_i x t;split at hk<;>cases hk
  ·rename_i hr;obtain⟨ds,d,h1,h2,h3⟩:=hq;obtain⟨da,rfl,e1⟩:=kU h1;have h3:OQ da=some d:=h3;have hx:=E1 x _ e1;unfold OQ at h3;split at h3<;>cases h3
   generalize hg:a.eval x=xv at hx;cases hx;have:=fin (aP8 (P:=P) (ty:=type) ok hr w) h2 (.int _ _)
   grind [execOp,resolve,invoke,builtin]
  ·rename_i hr;obtain⟨ds,d,h1,h2,h3⟩:=hq;obtain⟨da,rfl,e1⟩:=kU h1;have h3:CD da=some d:=h3;have hx:=E1 x _ e1;unfold CD at h3;split at h3<;>cases h3
   have:=fin (aP9 (P:=P) (ty:=type) ok hr hx w) h2 (.int _ _)
   grind [execOp,resolve,invoke,builtin]
 ·
  rename_i l _;cases hk;obtain⟨ds,d,h1,h2,h3⟩:=hq;have h3:QR ds=some d:=h3;rw[qc] at h1;have gF:∀(i:Nat) (d:D) (v:xM),ds[i]? =some d->(l.map a.eval)[i]? =some v->Rd β.z d v:=fun i d v e1 e2=>by
   rw[xx] at e2;obtain⟨x,hx,rfl⟩:=xp.1 e2
   grind [nX]
  have aE:ds.length=(l.map a.eval).length:=by rw[pz h1,xm,xm]
  unfold QR at h3;split at h3
  ·rename_i k x r _;generalize fG:l.map a.eval=l' at gF aE
   match l',aE with
   |[],aE=>cases aE
   |y'::r',aE=>
    have hy:=gF 0 _ y' rfl rfl;cases hy;obtain⟨m,e1,e2⟩:=Xl (P:=P) (w:=w) h3 (by simpa using aE) (fun i d v a b=>gF (i+1) d v (by simpa using a) (by simpa using b));subst e1;have:=fun ts:Array xN=>fin (s:=Builtin.max_ ts type ⟨.int k x::r'⟩) (by show(r'.foldlM Builtin.max2 (.int k x)).run P w=_;exact e2) h2 (.int _ _)
    simpa[execOp,resolve,invoke,builtin,fG] using this _
  ·cases h3
 ·
  rename_i l _;cases hk;obtain⟨ds,d,h1,h2,h3⟩:=hq;have h3:QS ds=some d:=h3;rw[qc] at h1;have gF:∀(i:Nat) (d:D) (v:xM),ds[i]? =some d->(l.map a.eval)[i]? =some v->Rd β.z d v:=fun i d v e1 e2=>by
   rw[xx] at e2;obtain⟨x,hx,rfl⟩:=xp.1 e2
   grind [nX]
  have aE:ds.length=(l.map a.eval).length:=by rw[pz h1,xm,xm]
  unfold QS at h3;split at h3
  ·rename_i k x r _;generalize fG:l.map a.eval=l' at gF aE
   match l',aE with
   |[],aE=>cases aE
   |y'::r',aE=>
    have hy:=gF 0 _ y' rfl rfl;cases hy;obtain⟨m,e1,e2⟩:=Xk (P:=P) (w:=w) h3 (by simpa using aE) (fun i d v a b=>gF (i+1) d v (by simpa using a) (by simpa using b));subst e1;have:=fun ts:Array xN=>fin (s:=Builtin.min_ ts type ⟨.int k x::r'⟩) (by show(r'.foldlM Builtin.min2 (.int k x)).run P w=_;exact e2) h2 (.int _ _)
    simpa[execOp,resolve,invoke,builtin,fG] using this _
  ·cases h3
 ·
  rename_i t x i;split at hk<;>cases hk
  rename_i hr;obtain⟨ds,d,h1,h2,h3⟩:=hq;obtain⟨da,db,rfl,e1,e2⟩:=jj h1;obtain⟨v',r1,r2⟩:=aQ6 ok hr (show Js da db=some d from h3) (E1 x _ e1) (E1 i _ e2) w;exact fin r1 h2 r2
 ·
  rename_i t x lo hi;split at hk
  ·rename_i hr;cases hk;obtain⟨ds,d,h1,h2,h3⟩:=hq;have h3:D9 FI ds=some d:=h3;obtain⟨dx,al,hb,k,b,e1,e2,e3,e4⟩:=OW E1 (fun x b=>by grind [FI]) h1 h3;obtain⟨v',r1,r2⟩:=aM2 ok hr e2 (E1 x _ e1) e3 e4 w;exact fin r1 h2 r2
  ·rename_i hr;split at hk<;>cases hk
   rename_i hs;obtain⟨ds,d,h1,h2,h3⟩:=hq;have h3:D9 (Ae _) ds=some d:=h3;obtain⟨dx,al,hb,k,b,e1,e2,e3,e4⟩:=OW E1 (fun x b=>by grind [Ae]) h1 h3;obtain⟨v',r1,r2⟩:=X' ok hr hs e2 (E1 x _ e1) e3 e4 w;exact fin r1 h2 r2
  ·cases hk
 ·
  rename_i t x i;split at hk
  ·rename_i hr;split at hk<;>cases hk
   rename_i hs;obtain⟨ds,d,h1,h2,h3⟩:=hq;obtain⟨da,db,rfl,e1,e2⟩:=jj h1;obtain⟨v',r1,r2⟩:=aQ7 ok hr hs (show Jt _ da db=some d from h3) (E1 x _ e1) (E1 i _ e2) w;exact fin r1 h2 r2
  ·cases hk
 ·
  rename_i t x f;split at hk
  ·rename_i hr;split at hk
   ·rename_i fd mK;rw[gg] at mK;split at hk
    ·rename_i r bE;replace hk:=aC hk;rcases hk with⟨_,hk⟩|⟨hz,hk⟩<;>cases hk
     obtain⟨ds,d,h1,h2,h3⟩:=hq;obtain⟨da,rfl,e1⟩:=kU h1;have h3:PG _ da=some d:=h3;have hx:=E1 x _ e1;unfold PG at h3;split at h3<;>cases h3
     obtain⟨v',r1,r2⟩:=aR7 (P:=P) ok hr mK bE hz hx w;exact fin r1 h2 r2
    ·cases hk
   ·cases hk
  ·cases hk
 ·
  rename_i t x;split at hk
  ·rename_i r hr;replace hk:=aC hk;rcases hk with⟨hd,hk⟩|⟨hd,hk⟩<;>cases hk
   ·obtain⟨ds,d,h1,h2,h3⟩:=hq;obtain⟨da,rfl,e1⟩:=kU h1;obtain⟨v',r1,r2⟩:=aY9 (P:=P) ok bk hr hd (show JZ r.size da=some d from h3) (E1 x _ e1);exact fin r1 h2 r2
   ·obtain⟨ds,d,h1,h2,h3⟩:=hq;obtain⟨da,rfl,e1⟩:=kU h1;obtain⟨v',r1,r2⟩:=bl3 (P:=P) ok bk hr hd (show KL da=some d from h3) (E1 x _ e1);exact fin r1 h2 r2
  ·cases hk
 ·
  rename_i x;cases hk;obtain⟨ds,d,h1,h2,h3⟩:=hq;obtain⟨da,rfl,e1⟩:=kU h1;have h3:PF da=some d:=h3;have hx:=E1 x _ e1;unfold PF at h3;split at h3<;>cases h3
  ·generalize hg:a.eval x=xv at hx;refine⟨xv,?_,uV h2 hx⟩;cases hx;simp[execOp,hg]
  ·generalize hg:a.eval x=xv at hx;refine⟨xv,?_,uV h2 hx⟩;cases hx;simp[execOp,hg]
 ·cases hk
end
def fB(v:xM):Bool:=match v with| .chan (some (_+1))=>true|_=>false
def Re(B:Nat)(iv:xM)(es off:Nat):xM:= .iface B (.agg ⟨[iv,.int .i64 (.ofNat es),.int .i64 (.ofNat off)]⟩)
def yF(E:az)(A:AW)(g:Gt)(op:Op):Option (NK×List xM×Option xM):=
 match op with
 | .call ⟨.builtin .len,⟨[x]⟩,⟨[t]⟩⟩=>match ev E g x,E.ti.get none t with
  | .iface _ (.chan (some (c+1))),some ⟨.slice _,_,_,_,_⟩=>some (.sj,[.chan (some (c+1))],none)
  | .map (some B),some ⟨.map _ _,_,_,_,_⟩=>match A.get B with
   |some ⟨.maps c,_,_,_,_⟩=>some (.sj,[c],none)
   |some ⟨.jC _ c,_,_,_,_⟩=>some (.sj,[c],none)
   |_=>none
  |_,_=>none
 | .indexAddr t x i=>match E.ti.get none t with
  |some ⟨.slice e,_,_,_,_⟩=>match kX E e,ev E g x with
   |some es,.iface B (.chan (some (c+1)))=>some (.iO,[.chan (some (c+1)),ev E g i],some (Re B (ev E g i) es 0))
   |some es,.slice (some ⟨B,o,none⟩) n _=>bs (fB (ev E g i)) (some (.iO,[.int .i64 (.ofNat n),ev E g i],some (Re B (ev E g i) es o))) none
   |_,_=>none
  |some ⟨.array len e,_,_,_,_⟩=>match kX E e,ev E g x with
   |some es,.pointer (some ⟨B,o,none⟩)=>bs (fB (ev E g i)) (some (.iO,[.int .i64 (.ofNat len),ev E g i],some (Re B (ev E g i) es o))) none
   |_,_=>none
  |_=>none
 | .load t x=>match ev E g x,E.ti.get none t with
  | .iface B (.agg ⟨[iv,.int .i64 (.ofNat es),.int .i64 (.ofNat off)]⟩),some r=>match A.get B with
   |some ⟨.own c,ae,_,_,_⟩=>bs (Nat.beq es ae) (some (.pD off r.size (mT r.desc),[c,iv],none)) none
   |some ⟨.cells cs,_,_,_,_⟩=>some (.uu es off r.size (mT r.desc),iv::cs,none)
   |_=>none
  |_,_=>none
 | .convert s d x=>match E.ti.get none s,E.ti.get none d,ev E g x with
  |some ⟨.slice e,_,_,_,_⟩,some ⟨.string,_,_,_,_⟩,.slice (some ⟨B,o,none⟩) n _=>match E.ti.get none e,jP A B with
   |some ⟨.int .u8,_,_,_,_⟩,some cs=>match pE n (ra o cs) with
    |some l=>bs (Nat.beq B Dp) none (some (.strOf,l,none))
    |none=>none
   |_,_=>none
  |_,_,_=>none
 |_=>none
def n9(E:az)(sq:Cf)(A:AW)(g:Gt)(op:Op)(nd:Node):JJ:=
 match yF E A g op with
 |some (k,args,u)=>bs (n7 k nd.k) (bs (ri args nd.args) (match u with|none=>some nd.res|some u=>bs (qo nd.res (.bool true)) (some u) none) none) none
 |none=>yp E sq g op nd
theorem aw0{sq:Cf}{op:Op}{v:xM}(h:n9 E sq A g op nd=some v):
 (yp E sq g op nd=some v)\/(yF E A g op=some (nd.k,nd.args,none)/\v=nd.res)\/(yF E A g op=some (nd.k,nd.args,some v)/\nd.res= .bool true):=by
 unfold n9 at h;split at h
 ·rename_i k args u hk;rcases aC h with⟨h1,h⟩|⟨_,h⟩
  ·rcases aC h with⟨h2,h⟩|⟨_,h⟩
   ·rw[<-qb h1,<-rM _ _ h2];cases u with
    |none=>grind
    |some u=>
     rcases aC h with⟨h3,h⟩|⟨_,h⟩<;>cases h
     grind [hk,uX]
   ·cases h
  ·cases h
 grind
section
variable(ok:E.Ok P){sq:Cf}(aU:E.Seq P sq)(inv:Inv w0 E.G β A w)
include ok in
theorem U6(hr:E.ti.get none t=some r){d0:Nat}{aB:KB}(hh:w.heap[lb]? =some (.cells aB e fz))(C9:∀(j:Nat) (d:D),row[j]? =some d->∃v,aB[d0+j]? =some v/\Rd z d v)
 {off:Nat} {d:D} (h:yd row off r.size (mT r.desc)=some d):∃v',(Instr.loadAt t (.pointer (some ⟨lb,d0+off,none⟩))).run P w= .ok v' w/\Rd z d v':=by
 have zl:=E7 (P:=P) ok hr;unfold yd at h;split at h
 ·rename_i aN;split at h
  ·rename_i hd;cases h;have key:∀j,j<r.size->∃v,aB[d0+off+j]? =some v/\∃d,row[off+j]? =some d/\Rd z d v:=fun j hj=>by
    have ju:off+j<row.length:=MK
    obtain⟨v,h1,h2⟩:=C9 (off+j) _ (xc ju)
    grind
   let vs:=(List.range r.size).map fun j=>aB.getD (d0+off+j) undef
   have bH:∀j,j<r.size->vs[j]? =some (aB.getD (d0+off+j) undef):=fun j hj=>by
    grind
   have hl:(loadCells ⟨lb,d0+off,none⟩ r.size).run P w= .ok vs.toArray w:=by
    have aE:vs.length=r.size:=by simp[vs]
    rw[<-aE];refine run_loadCells_list (P:=P) w ⟨lb,d0+off,none⟩ vs fun j v hv=> ?_
    have hj:j<r.size:=by rw[<-aE];exact(xe.1 hv).1
    rw[bH j hj] at hv;cases hv;obtain⟨v,h1,_⟩:=key j hj;rw[Addr.add_mid,cell_of_row w lb _ aB e fz hh,h1];have:aB.getD (d0+off+j) undef=v:=by rw[Array.getD_eq_getD_getElem?,h1];rfl
    rw[this]
   refine⟨.agg vs.toArray,by simp[Instr.loadAt,Instr.sureAddr,loadVar,zl,hd,eZ ok hr,hl],?_⟩;refine .agg _ vs Ns fun j d v e1 e2=> ?_
   have hj:j<r.size:=by have:=(xe.1 e2).1;simpa[vs] using this
   rw[bH j hj] at e2;cases e2;obtain⟨v,h1,d2,h2,h3⟩:=key j hj
   simp_all
  ·rename_i hd;obtain⟨d2,h1,h⟩:=xr.1 h;split at h<;>cases h
   obtain⟨v,h2,h3⟩:=C9 off _ h1;refine⟨v,?_,h3⟩;have iP:w.cell? ⟨lb,d0+off,none⟩=some v:=by rw[cell_of_row w lb _ aB e fz hh];exact h2
   simp[Instr.loadAt,Instr.sureAddr,loadVar,zl,hd,load,Sem.run,iP]
 ·cases h
include ok in
theorem UP{a1 a2 a3 a4}(hr:E.ti.get none t=some ⟨.slice e,a1,a2,a3,a4⟩)(hs:kX E e=some es){ld m:Nat}(hm:m<n)(k:xO)(w:World):
 (Instr.indexAt t (.slice (some ⟨lb,ld,none⟩) n cap) (.int k (m:Nat))).run P w= .ok (.pointer (some ⟨lb,ld+m*es,none⟩)) w:=by
 unfold kX at hs;split at hs<;>cases hs
 rename_i r bE;have hu:=(ok.ti t _ hr).1;simp[Instr.indexAt,asIntOf,run_underlying hu,eZ ok bE,Addr.add_lit,Nat.add_assoc,hm]
include ok in
theorem aq6{a1 a2 a3 a4}(hr:E.ti.get none t=some ⟨.array len e,a1,a2,a3,a4⟩)(hs:kX E e=some es){ld m:Nat}(hm:m<len)(k:xO)(w:World):
 (Instr.indexAt t (.pointer (some ⟨lb,ld,none⟩)) (.int k (m:Nat))).run P w= .ok (.pointer (some ⟨lb,ld+m*es,none⟩)) w:=by
 unfold kX at hs;split at hs<;>cases hs
 rename_i r bE;have hu:=(ok.ti t _ hr).1;have h0:(0:Int)<=(m:Int)/\(m:Int)<(len:Int):=⟨MK,MK⟩;simp[Instr.indexAt,asIntOf,run_underlying hu,Instr.sureAddr,eZ ok bE,Addr.add_lit,Nat.add_assoc,hm]
theorem aI2{di:D}(h:GD (.sl rows) di=some (.bool true)):∃(k:xO) (m:Nat),di= .int k (.ofNat m)/\m<rows.length:=by
 unfold GD at h;split at h
 ·grind
 ·grind
 ·cases h
theorem NB{k0:xO}{di:D}(h:GD (.int k0 (.ofNat n)) di=some (.bool true)):∃(k:xO) (m:Nat),di= .int k (.ofNat m)/\m<n:=by
 unfold GD at h;split at h
 ·grind
 ·grind
 ·cases h
theorem Ng:∀{ds:Di} {l:EH},vo ds=some l->ds.length=l.length/\∀(j:Nat) (b:UInt8),l[j]? =some b->ds[j]? =some (.int .u8 (b.toNat:Nat))
 |[],l,h=>by cases h;grind
 |d::ds,l,h=>by
  unfold vo at h;split at h
  ·grind
  ·rename_i n l2 e;cases e;split at h
   ·rename_i hn;obtain⟨r,hr,rfl⟩:=xp.1 h;obtain⟨h1,h2⟩:=Ng hr;refine⟨by simp[h1],fun j b hb=> ?_⟩;cases j with
    |zero=>simp at hb;subst hb;simp[Nat.mod_eq_of_lt hn]
    |succ j=>grind
   ·cases h
  ·cases h
include ok aU inv
theorem X5{a:Act}(hf:bU β n g a.tmps){o:Oper}{v:xM}(h:n9 E sq A g o.op nd=some v)(hq:bY β.d nd):∃v',(execOp a.eval o).run P w= .ok (.value v') w/\aj β v v':=by
 rcases aw0 h with h|⟨hk,rfl⟩|⟨hk,mq⟩
 ·grind [aL4]
 ·have E0:=kB (a:=a) inv hf;have E1:=fun(x:Operand) (d:D) (hd:bR β.d (ev E g x)=some d)=>fx hd (kB (a:=a) inv hf x)
  obtain⟨dst,op,type,cq,after,guard⟩:=o;obtain⟨nk,Kk,AR⟩:=nd;have fin:∀{s:Sem xM} {d:D} {v':xM},s.run P w= .ok v' w->iF β.d AR=some d->Rd β.z d v'->(∃Hu,(do pure (Next.value (<-s)):Sem Next).run P w= .ok (.value Hu) w/\aj β AR Hu):=fun{s d v'} h1 h2 h3=>⟨v',by simp[h1],uV h2 h3⟩
  unfold yF at hk;simp only at hk hq⊢;split at hk
  ·
   rename_i x t;split at hk;rotate_left
   ·rename_i B kt et a1 a2 a3 a4 hx hr;split at hk<;>cases hk
    ·rename_i c es ex ro ty hg;obtain⟨ds,d,h1,h2,h3⟩:=hq;obtain⟨da,rfl,e1⟩:=kU h1;have h3:CD da=some d:=h3;have hv:=E0 x;rw[hx] at hv;generalize j6:a.eval x=xv at hv;cases hv with
     |map _ l hl=>
      obtain⟨ae,ck,rows,g1,g2,g3⟩:=inv.cont B _ l hg hl;have s8:bR β.d c=some (.sl rows):=by
       unfold bR;split
       ·cases g2
       ·exact g2
      rw[s8] at e1;cases e1;cases h3;have hu:=(ok.ti t _ hr).1;have aW:(Builtin.len_ #[t] type #[.map (some l.b)]).run P w= .ok (.int .i64 rows.length) w:=by simp[Builtin.len_,run_underlying hu,goInt,getObj,Sem.run,g1,g3.1]
      have:=fin aW h2 (.int _ _)
      grind [execOp,resolve,invoke,builtin]
    ·rename_i ks0 c es ex ro ty hg;obtain⟨ds,d,h1,h2,h3⟩:=hq;obtain⟨da,rfl,e1⟩:=kU h1;have h3:CD da=some d:=h3;have hv:=E0 x;rw[hx] at hv;generalize j6:a.eval x=xv at hv;cases hv with
     |map _ l hl=>
      obtain⟨ae,ck,rows,g1,g2,g3,_⟩:=inv.cont B _ l hg hl;have s8:bR β.d c=some (.sl rows):=by
       unfold bR;split
       ·cases g2
       ·exact g2
      rw[s8] at e1;cases e1;cases h3;have hu:=(ok.ti t _ hr).1;have aW:(Builtin.len_ #[t] type #[.map (some l.b)]).run P w= .ok (.int .i64 rows.length) w:=by simp[Builtin.len_,run_underlying hu,goInt,getObj,Sem.run,g1,g3.1]
      have:=fin aW h2 (.int _ _)
      grind [execOp,resolve,invoke,builtin]
   ·cases hk
   cases hk;rename_i B c e a1 a2 a3 a4 hx hr;obtain⟨ds,d,h1,h2,h3⟩:=hq;obtain⟨da,rfl,e1⟩:=kU h1;have h3:CD da=some d:=h3;have hv:=E0 x;rw[hx] at hv;generalize j6:a.eval x=xv at hv;cases hv with
   |own _ _ rows a0 cap ho ha hd=>
    have oL:(β.d c).bind (fun x=>if x.cell then some x else none)=some da:=e1;rw[hd] at oL;cases oL;cases h3;have hu:=(ok.ti t _ hr).1;have aW:(Builtin.len_ #[t] type #[.slice a0 rows.length cap]).run P w= .ok (.int .i64 rows.length) w:=by simp[Builtin.len_,run_underlying hu,goInt]
    have:=fin aW h2 (.int _ _)
    grind [execOp,resolve,invoke,builtin]
  ·
   split at hk
   ·split at hk
    ·cases hk
    ·rcases aC hk with⟨_,hk⟩|⟨_,hk⟩<;>cases hk
    ·cases hk
   ·split at hk
    ·rcases aC hk with⟨_,hk⟩|⟨_,hk⟩<;>cases hk
    ·cases hk
   ·cases hk
  ·
   rename_i t x;split at hk
   ·rename_i B iv es off r hx hr;have hv:=E0 x;rw[hx] at hv;generalize j6:a.eval x=xv at hv;cases hv with
    |qv _ _ _ m l _ k hl hi=>
     split at hk
     ·rename_i c ae ex ro ty hg;rcases aC hk with⟨dU,hk⟩|⟨_,hk⟩<;>cases hk
      have yM:=xb dU;subst yM;obtain⟨ds,d,h1,h2,h3⟩:=hq;obtain⟨dx,di,rfl,e1,e2⟩:=jj h1;obtain⟨aB,rows,k1,k2,k3,k4,k5,k6,k7⟩:=inv.cont B _ l hg hl;have bo:∀v d,aX β.d v=some d->bR β.d v=some d:=fun v d h=>by
       unfold bR;split
       ·cases h
       ·exact h
      rw[bo _ _ k3] at e1;rw[bo _ _ hi] at e2;cases e1;cases e2;have h3:Wq off r.size (mT r.desc) (.sl rows) (.int k (m:Nat))=some d:=h3;obtain⟨row,eS,h4⟩:=xr.1 (show(rows[m]?).bind _=some d from h3);have uv:l.es=es:=k4;obtain⟨v',r1,r2⟩:=U6 ok hr k1 (z:=β.z) (row:=row) (d0:=l.d+m*es) (fun j d hj=>by
       grind) h4
      refine fin ?_ h2 r2
      grind
     ·rename_i cs ae ex ro ty hg;cases hk;obtain⟨ds,d,h1,h2,h3⟩:=hq;obtain⟨di,oM,rfl,e2,e3⟩:=jb h1;have bo:bR β.d iv=some (.int k (m:Nat)):=by
       unfold bR;split
       ·cases hi
       ·exact hi
      rw[bo] at e2;cases e2;obtain⟨aB,e,fz,k1,k2,k3,k4,_⟩:=inv.cont B _ l hg hl;have h3:yd oM (m*es+off) r.size (mT r.desc)=some d:=h3;obtain⟨v',r1,r2⟩:=U6 ok hr k1 (z:=β.z) (row:=oM) (d0:=l.d) (fun j d hj=>by
       have ju:j<cs.length:=by rw[<-pz e3];exact(xe.1 hj).1
       grind [xc,fx,nX]) h3
      refine fin ?_ h2 r2
      grind
     ·cases hk
   ·cases hk
  ·
   rename_i s d0 x;split at hk
   ·rename_i e a1 a2 a3 a4 b1 b2 b3 b4 B o n cp hs hd hx;split at hk
    ·rename_i c1 c2 c3 c4 cs he df;split at hk
     ·rename_i l hl;rcases aC hk with⟨_,hk⟩|⟨hT,hk⟩<;>cases hk
      obtain⟨ds,d,h1,h2,h3⟩:=hq;obtain⟨fk,hb,rfl⟩:=xp.1 (show(vo ds).map .str=some d from h3);obtain⟨bX,bP⟩:=Ng hb;have hv:=E0 x;rw[hx] at hv;generalize j6:a.eval x=xv at hv;cases hv with
      |slice _ _ _ _ c' lc eK hn hc hce=>
       obtain⟨l',q1,q2,q3⟩:=Cc inv df eK o n Kk hl;have aE:fk.length=n:=by rw[<-bX,pz h1,q2]
       have aW:=run_convert_bytes_back (P:=P) w s d0 e ⟨lc.b,lc.d+o,none⟩ c' fk (ok.ti s _ hs).1 (ok.ti e _ he).1 (ok.ti d0 _ hd).1 (fun j hj=>by
        have ju:j<Kk.length:=by rw[q2];omega
        have fJ:=bP j _ (xc hj);have ii:=nX h1 fJ (xc ju);obtain⟨v',lX,dJ⟩:=q1.get (xc ju);have gF:=fx ii dJ;cases gF;rw[Addr.add_mid];exact q3 j _ lX)
       rw[aE] at aW;refine fin ?_ h2 (.str fk)
       grind
      |empty=>simp_all
     ·cases hk
    ·cases hk
   ·cases hk
  ·cases hk
 ·have E0:=kB (a:=a) inv hf;obtain⟨dst,op,type,cq,after,guard⟩:=o;obtain⟨nk,Kk,AR⟩:=nd;have bm6:AR= .bool true:=mq;subst bm6;unfold yF at hk;simp only at hk hq⊢;split at hk
  ·grind
  ·
   rename_i t x i;have E1:=fun(x:Operand) (d:D) (hd:bR β.d (ev E g x)=some d)=>fx hd (kB (a:=a) inv hf x)
   have ix:∀(di:D) (k:xO) (m:Nat),bR β.d (ev E g i)=some (.int k (m:Nat))->aX β.d (ev E g i)=some (.int k (m:Nat))/\a.eval i= .int k (m:Nat):=fun di k m h=>by
    have hr:=E1 i _ h;constructor
    ·unfold bR at h
     grind [xp]
    ·generalize a.eval i=iv at hr;cases hr;rfl
   split at hk
   ·rename_i e a1 a2 a3 a4 hr;split at hk
    ·rename_i es B c hs hx;cases hk;obtain⟨ds,d,h1,h2,h3⟩:=hq;obtain⟨dx,di,rfl,e1,e2⟩:=jj h1;cases h2;have hv:=E0 x;rw[hx] at hv;generalize j6:a.eval x=xv at hv;cases hv with
     |own _ _ rows a0 cap ho ha hd=>
      have oL:(β.d c).bind (fun x=>if x.cell then some x else none)=some dx:=e1;rw[hd] at oL;cases oL;obtain⟨k,m,rfl,hm⟩:=aI2 h3;obtain⟨i1,i2⟩:=ix (.bool true) k m e2;rcases ha with⟨_,gp⟩|⟨l,hl,rfl⟩
      ·grind
      ·refine⟨_,?_,.qv B es 0 m l _ k hl i1⟩;simp[execOp,j6,i2,UP (P:=P) ok hr hs hm k w]
    ·rename_i es B o n cp hs hx;rcases aC hk with⟨_,hk⟩|⟨_,hk⟩<;>cases hk
     obtain⟨ds,d,h1,h2,h3⟩:=hq;obtain⟨dx,di,rfl,e1,e2⟩:=jj h1;cases h2;cases e1;obtain⟨k,m,rfl,hm⟩:=NB h3;obtain⟨i1,i2⟩:=ix (.bool true) k m e2;have hv:=E0 x;rw[hx] at hv;generalize j6:a.eval x=xv at hv;cases hv with
     |slice _ _ _ _ c' lc eK hn hc hce=>
      refine⟨_,?_,.qv B es o m lc _ k eK i1⟩;rw[show lc.d+(m*es+o)=lc.d+o+m*es by omega];simp[execOp,j6,i2,UP (P:=P) ok hr hs hm k w]
     |empty=>omega
    ·cases hk
   ·rename_i len e a1 a2 a3 a4 hr;split at hk
    ·rename_i es B o hs hx;rcases aC hk with⟨_,hk⟩|⟨_,hk⟩<;>cases hk
     obtain⟨ds,d,h1,h2,h3⟩:=hq;obtain⟨dx,di,rfl,e1,e2⟩:=jj h1;cases h2;cases e1;obtain⟨k,m,rfl,hm⟩:=NB h3;obtain⟨i1,i2⟩:=ix (.bool true) k m e2;have hv:=E0 x;rw[hx] at hv;generalize j6:a.eval x=xv at hv;cases hv with
     |ptr _ _ lc eK=>
      refine⟨_,?_,.qv B es o m lc _ k eK i1⟩;rw[show lc.d+(m*es+o)=lc.d+o+m*es by omega];simp[execOp,j6,i2,aq6 (P:=P) ok hr hs hm k w]
    ·cases hk
   ·cases hk
  ·split at hk
   ·split at hk
    ·rcases aC hk with⟨_,hk⟩|⟨_,hk⟩<;>cases hk
    ·cases hk
    ·cases hk
   ·cases hk
  ·split at hk
   ·split at hk
    ·split at hk
     ·rcases aC hk with⟨_,hk⟩|⟨_,hk⟩<;>cases hk
     ·cases hk
    ·cases hk
   ·cases hk
  ·cases hk
end
end
end Go.Ex
