/- A verified evaluator of Go functions. -/
import Derived.Test.YthicpeihkkokmaaGreatDoorX10
namespace Go.Ex
open Go.RowKit
noncomputable section
section
variable{P:Program}{LL:World->Prop}{k:Nat}{L:a0m}
theorem ap4{f:FuncId}{sg:ia}{ds:a0d}{b:Bool}(hp:sg.hp=[])(hrv:sg.rv= .chan (some 1))(h:zy P LL k L f sg ds [.bool b]){w:World}(hL:PQ L w)(TJ:LL w)(aV:L.length<=w.heap.size){args':a0e}
 (iS:aZ (AP L (fun c=>ds[c]?) (zW w)) sg.args args'):Calls P f ⟨args'⟩ w fun e w'=>e= .returned (.bool b)/\Below w.heap.size w w':=by
 have inv:Inv w (G0 L LL) (AP L (fun c=>ds[c]?) (zW w)) ((m4 sg.hp).aw k L []) w:=by
  have h0:=aw2 (k:=k) hL (fun _ _=>True) LL (fun c=>ds[c]?) (zW w) [] TJ aV (av5 w) (fun nd h=>by cases h);have e:(m4 sg.hp).aw k L []=(vK k L).pop []:=by
   rw[hp];show(vK k (iR L (Al []))).pop []=_;rw[show iR L (Al [])=L from ?_];rw[mQ];exact xj L
  rw[e];exact h0
 refine(h w _ args' inv rfl iS).mono fun e w' ⟨v,β',he,AZ,hv,_,_,Rv,hx⟩=>⟨?_,?_⟩
 ·rw[hrv] at hv;have hd:=Rv 0 (.bool b) rfl;cases hv with
  |sym c d v h hc hr=>rw[hd] at h;cases h;cases hr;exact he
 ·refine AZ.below.below fun k hk=> ?_
  rw[hx] at hk;exact hk
end
def dQ(p:FD->Prop):List FD->Prop|[]=>True|fd::l=>p fd/\dQ p l
theorem dQ.get{p:FD->Prop}:∀{l:List FD},dQ p l->∀(i:Nat) (fd:FD),l[i]? =some fd->p fd
 |[],_,i,fd,h=>by simp at h
 |x::l,ha,0,fd,h=>by cases h;exact ha.1
 |x::l,ha,i+1,fd,h=>ha.2.get i fd h
theorem dQ.app{p:FD->Prop}:∀{a b:List FD},dQ p a->dQ p b->dQ p (a++b)
 |[],_,_,h=>h
 |_::_,_,h,k=>⟨h.1,h.2.app k⟩
theorem bk8{β:ai}{ds:a0d}{cs:a0e}{a n:Nat}(hn:ds.length=n)(h:∀(i:Nat) (d:D) (v:xM),ds[i]? =some d->cs[i]? =some v->β.d (a+i)=some d/\d.cell=true/\Rd β.z d v)(hl:ds.length=cs.length){us:a0e}(hu:us=(List.range n).map fun i=>Value.chan (some (a+i+1))):aj β (.agg ⟨us⟩) (.agg ⟨cs⟩):=by
 refine .agg us cs (by rw[hu,xm,List.length_range];omega) fun i v v' h1 h2=> ?_
 subst hu;rw[xx] at h1;obtain⟨j,hj,rfl⟩:=xp.1 h1;obtain⟨hj1,ju⟩:=xe.1 hj;rw[List.getElem_range] at ju;subst ju;rw[List.length_range] at hj1;obtain⟨e1,e2,e3⟩:=h i _ v' (xc a0B) h2;exact .sym (a+i) _ _ e1 e2 e3
mutual
def dq(a b:D):Bool:=match a with
 | .int k m=>match b with| .int k' n=>dR k k'&&decide (m=n)|_=>false
 | .bool x=>match b with| .bool y=>bs x y (not y)|_=>false
 | .str x=>match b with| .str y=>decide (x=y)|_=>false
 | .sl x=>match b with| .sl y=>MB x y|_=>false
 | .agg x=>match b with| .agg y=>BZ x y|_=>false
 |_=>false
termination_by structural a
def BZ(a b:a0d):Bool:=match a with
 |[]=>b.isEmpty
 |x::l=>match b with|y::m=>dq x y&&BZ l m|[]=>false
termination_by structural a
def MB(a b:a0b):Bool:=match a with
 |[]=>b.isEmpty
 |x::l=>match b with|y::m=>BZ x y&&MB l m|[]=>false
termination_by structural a
end
mutual
theorem bq7:∀(a b:D),dq a b=true->a=b
 | .int k m,b,h=>by
  cases b<;>first|exact absurd h Bool.false_ne_true|skip
  rename_i k' n;have h:(dR k k'&&decide (m=n))=true:=h;rw[xf] at h;rw[qg h.1,of_decide_eq_true h.2]
 | .bool x,b,h=>by
  cases b<;>first|exact absurd h Bool.false_ne_true|skip
  rename_i y;cases x<;>cases y<;>first|rfl|exact absurd h Bool.false_ne_true
 | .str x,b,h=>by cases b<;>first|exact absurd h Bool.false_ne_true|exact congrArg D.str (of_decide_eq_true h)
 | .sl x,b,h=>by cases b<;>first|exact absurd h Bool.false_ne_true|exact congrArg D.sl (YK x _ h)
 | .agg x,b,h=>by cases b<;>first|exact absurd h Bool.false_ne_true|exact congrArg D.agg (JY x _ h)
 | .o6,b,h| .AU,b,h| .AT,b,h| .AS,b,h| .ptr _ _,b,h| .yU _,b,h| .func _ _ _,b,h=>absurd h Bool.false_ne_true
theorem JY:∀(a b:a0d),BZ a b=true->a=b
 |[],b,h=>by cases b<;>first|rfl|exact absurd h Bool.false_ne_true
 |x::l,b,h=>by
  cases b<;>first|exact absurd h Bool.false_ne_true|skip
  rename_i y m;have h:(dq x y&&BZ l m)=true:=h;rw[xf] at h;rw[bq7 x y h.1,JY l m h.2]
theorem YK:∀(a b:a0b),MB a b=true->a=b
 |[],b,h=>by cases b<;>first|rfl|exact absurd h Bool.false_ne_true
 |x::l,b,h=>by
  cases b<;>first|exact absurd h Bool.false_ne_true|skip
  rename_i y m;have h:(BZ x y&&MB l m)=true:=h;rw[xf] at h;rw[JY x y h.1,YK l m h.2]
end
def Hk(nk:Nat)(g:List D->Option (List D))(env:a0d)(left:a0b)(out:a0d):Nat->Bool
 |0=>true
 |n+1=>(match(qa nk env left n).bind g with|some o=>BZ o out|none=>false)&&Hk nk g env left out n
def T5(call:a0a)(jump:a0a)(t:DT)(env:a0d):Option (List D):=match t with
 | .pick nk a _ h1 h2 _ _ cZ _ _ gC=>match lk env a with
  |some (.sl [])=>(aH (aX (lk env)) gC).bind (jump h2)
  |some (.sl (r::l))=>match(qa nk env (r::l) 0).bind (fun e=>(aH (aX (lk e)) cZ).bind (jump h1)) with
   |some out=>bs (Hk nk (fun e=>(aH (aX (lk e)) cZ).bind (jump h1)) env (r::l) out (r::l).length) (some out) none
   |none=>none
  |_=>none
 |t=>bJ call jump t env
theorem WA{nk:Nat}{g:List D->Option (List D)}{env:a0d}{left:a0b}{out:a0d}:∀{n:Nat},Hk nk g env left out n=true->∀i,i<n->(qa nk env left i).bind g=some out
 |0,_,i,h=>absurd h (Nat.not_lt_zero i)
 |n+1,h,i,hi=>by
  unfold Hk at h;rw[xf] at h;obtain⟨h1,h2⟩:=h;split at h1
  ·rename_i o ho;rcases Nat.lt_or_ge i n with h|h
   ·exact WA h2 i h
   ·obtain rfl:i=n:=a0B
    rw[ho,JY _ _ h1]
  ·cases h1
theorem bd7{call:a0a}{jump:a0a}{t:DT}{env o:a0d}(h:T5 call jump t env=some o):bJ call jump t env=some o:=by
 unfold T5 at h;split at h
 ·unfold bJ;split at h
  ·rename_i h1;rw[h1];exact h
  ·rename_i r l h1;rw[h1];show(if r::l=[] then _ else _)=_;rw[if_neg a0C];split at h
   ·rename_i out ho;cases hb:Hk _ (fun e=>(aH (aX (lk e)) _).bind (jump _)) env (r::l) out (r::l).length with
    |true=>
     rw[hb] at h;cases h;exact(zA a0C).2 (WA hb)
    |false=>rw[hb] at h;cases h
   ·cases h
  ·cases h
 ·exact h
def Dk(F:List FD)(O:a0a):Nat->Nat->a0a
 |0,_,_,_=>none
 |n+1,i,h,ds=>match h,O i ds with
  |0,some o=>some o
  |h,_=>match F[i]? with
   |none=>none
   |some fd=>match fd.hs[h]?,fd.qP[h]? with
    |some s,some t=>bs (Nat.beq ds.length s.m) (T5 (fun j ds=>Dk F O n j 0 ds) (fun h' ds=>Dk F O n i h' ds) t ds) none
    |_,_=>none
theorem N7{F:List FD}{X O:a0a}(hO:∀i ds o,O i ds=some o->run F X i 0 ds=some o):∀(n i h:Nat) (ds o:a0d),Dk F O n i h ds=some o->run F X i h ds=some o
 |0,_,_,_,_,e=>by unfold Dk at e;cases e
 |n+1,i,h,ds,o,e=>by
  unfold Dk at e;split at e
  ·rename_i ho;cases e;exact hO _ _ _ ho
  ·split at e
   ·cases e
   ·rename_i fd hf;split at e
    ·rename_i s t hs ht;cases hm:Nat.beq ds.length s.m with
     |true=>
      rw[hm] at e;have e2:=p8 (fun j ds o h=>N7 hO n j 0 ds o h) (fun h' ds o h=>N7 hO n i h' ds o h) _ _ _ (bd7 e);obtain⟨o',r1,r2⟩:=Rn.of (Q:=(·=o)) hf hs ht (xb hm) ⟨o,e2,rfl⟩;rw[r1,r2]
     |false=>rw[hm] at e;cases e
    ·cases e
