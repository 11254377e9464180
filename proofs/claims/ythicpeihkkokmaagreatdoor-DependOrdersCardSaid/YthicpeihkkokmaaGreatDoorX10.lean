/- A verified evaluator of Go functions. -/
import Derived.Test.YthicpeihkkokmaaGreatDoorX9
set_option linter.unusedVariables false
set_option linter.unusedSimpArgs false
namespace Go.Ex
variable{nob j n m nk h f:Nat}{δ:FM}{d:D}{v':xM}{tb b:aG}{k:NK}{L:Gy}{tape:List Node}{Q:(FM)->Node->Prop}{LL:World->Prop}{ρ:Es}{α:Type}{P:Program}{E:az}{env ds o:Di}{left:Ca}{aM us args:C3}{td:List Item}{nd:Node}{Q':Di->Prop}{cR:List (Option xM)}
open Go.RowKit
noncomputable section
section
variable(G nob:Nat)(qs:Es)(res:C3)
def KS(B:Nat):Ji:=bs (Nat.blt B G) (some B) (dM qs (Nat.sub B G))
def GL(v:xM):JJ:=
 match v with
 | .chan (some 0)=>some J
 | .chan (some (c+1))=>dM res c
 | .iface B (.chan (some (c+1)))=>match dM qs (Nat.sub B G),dM res c with
  |some x,some r=>bs (Nat.ble (Nat.sub (Nat.add G nob) nob) B&&fB r) (some (.iface x r)) none
  |_,_=>none
 | .pointer (some ⟨B,o,none⟩)=>(match KS G qs B with|some x=>some (.pointer (some ⟨x,o,none⟩))|none=>none)
 | .map (some B)=>(match KS G qs B with|some x=>some (.map (some x))|none=>none)
 |v=>bs (Ju v) (some v) none
def DE(f:xM->JJ)(l:C3):Option (List xM):=
 List.rec (motive:=fun _=>Option (List xM)) (some []) (fun v _ ih=>match f v with|some u=>(match ih with|some us=>some (u::us)|none=>none)|none=>none) l
def AM(v:xM):JJ:=
 match v with
 | .agg ⟨l⟩=>(match DE (GL G nob qs res) l with|some r=>some (.agg ⟨r⟩)|none=>none)
 |v=>GL G nob qs res v
def Q1(v:xM):JJ:=
 match v with
 | .tuple ⟨l⟩=>(match DE (AM G nob qs res) l with|some r=>some (.tuple ⟨r⟩)|none=>none)
 |v=>AM G nob qs res v
def vE(tb:aG):Option aG:=
 match tb with
 |⟨.cells cs,es,ex,ro,ty⟩=>(match DE (AM G nob qs res) cs with|some r=>some ⟨.cells r,es,ex,ro,ty⟩|none=>none)
 |⟨.own (.chan (some (c+1))),es,ex,ro,ty⟩=>(match dM res c with|some r=>bs (fB r) (some ⟨.own r,es,ex,ro,ty⟩) none|none=>none)
 |⟨.jC ks (.chan (some (c+1))),es,ex,ro,ty⟩=>(match dM res c with|some r=>bs (fB r) (some ⟨.jC ks r,es,ex,ro,ty⟩) none|none=>none)
 |⟨.rk ks (.chan (some (c+1))),es,ex,ro,ty⟩=>(match dM res c with|some r=>bs (fB r) (some ⟨.rk ks r,es,ex,ro,ty⟩) none|none=>none)
 |_=>none
end
structure vU (G nob:Nat) (qs:Es) (res:C3) (jW β:ai):Prop where
 g:∀B l,B<G->jW B=some l->β B=some l
 q:∀(j x:Nat),qs[j]? =some x->β x=jW (G+j)
 o:∀(j x:Nat),qs[j]? =some x->β.o x=jW.o (G+j)
 z:β.z=jW.z
 d:∀(c:Nat) (r:xM),res[c]? =some r->∃d,jW.d c=some d/\eE β.d r=some d
section
variable{G:Nat}{qs:Es}{res:C3}{jW β:ai}
theorem Nq{f:xM->JJ}:∀{l r:C3},DE f l=some r->l.length=r.length/\∀(i:Nat) (v u:xM),l[i]? =some v->r[i]? =some u->f v=some u
 |[],r,h=>by cases h;grind
 |x::l,r,h=>by
  have h':(match f x with|some u=>(match DE f l with|some us=>some (u::us)|none=>none)|none=>none)=some r:=h;split at h'
  ·rename_i u hu;split at h'
   ·rename_i us iX;cases h';obtain⟨k1,k2⟩:=Nq iX;refine⟨by simp[k1],fun i a b ha hb=> ?_⟩;cases i with
    |zero=>simp at ha hb;subst ha;subst hb;exact hu
    |succ i=>simp at ha hb;exact k2 i a b ha hb
   ·cases h'
  ·cases h'
theorem VR(h:vU G nob qs res jW β){B x:Nat}(hs:KS G qs B=some x){l:Loc}(hl:jW B=some l):β x=some l:=by
 unfold KS at hs;rcases aC hs with⟨h1,h2⟩|⟨h1,h2⟩
 ·cases h2;exact h.g _ _ (xh h1) hl
 ·rw[gg] at h2;have:=PL h1;rw[h.q _ x h2]
  grind
theorem VY{c:Nat}(h:eE δ (.chan (some (c+1)))=some d):δ c=some d/\d.cell=true:=by
 unfold eE at h;split at h
 ·grind
 ·have h':(δ c).bind (fun x=>if x.cell then some x else none)=some d:=h
  grind [xr]
theorem aC1(h:vU G nob qs res jW β){v u:xM}(hs:GL G nob qs res v=some u)(hv:aj jW v v'):aj β u v':=by
 unfold GL at hs;split at hs
 ·cases hs;exact .jT _
 ·rename_i c;rw[gg] at hs;obtain⟨d,h1,h2⟩:=h.d c u hs;cases hv with
  |sym _ d2 _ h3 hc hr=>
   grind [rL,h.z]
 ·rename_i B c;split at hs
  ·rename_i x r hx hr;rcases aC hs with⟨h1,h2⟩|⟨_,h2⟩<;>cases h2
   rw[xf] at h1;obtain⟨c',rfl⟩:=N5 h1.2;have hB:G+nob - nob<=B:=xh h1.1;rw[gg] at hx hr;obtain⟨d,e1,e2⟩:=h.d c _ hr;cases hv with
   |own _ _ rows a cap ho ha hd=>
    rw[e1] at hd;cases hd;have de:qs[B - G]? =some x:=hx;have hq:=h.q _ x de;have jg:=h.o _ x de;rw[show G+(B - G)=B by omega] at hq jg;exact .own x c' rows a cap (jg.trans ho) (ha.imp id fun⟨l,p1,p2⟩=>⟨l,hq.trans p1,p2⟩) (VY e2).1
  ·cases hs
 ·split at hs
  ·rename_i x hx;cases hs;cases hv with
   |ptr _ _ l hl=>exact .ptr _ _ l (VR h hx hl)
  ·cases hs
 ·split at hs
  ·rename_i x hx;cases hs;cases hv with
   |map _ l hl=>exact .map _ l (VR h hx hl)
  ·cases hs
 ·rcases aC hs with⟨h1,h2⟩|⟨_,h2⟩<;>cases h2
  exact MW h1 hv
theorem Wa{f:xM->JJ}(hf:∀v u v',f v=some u->aj jW v v'->aj β u v'){l r l':C3}(h:DE f l=some r)(hl:aZ jW l l'):aZ β r l':=by
 obtain⟨k1,k2⟩:=Nq h;refine⟨k1.symm.trans hl.1,fun i u v' hu hv=> ?_⟩;have hi:i<l.length:=by rw[k1];exact(xe.1 hu).1
 exact hf _ u v' (k2 i _ u (xc hi) hu) (hl.2 i _ v' (xc hi) hv)
theorem NJ(h:vU G nob qs res jW β){v u:xM}(hs:AM G nob qs res v=some u)(hv:aj jW v v'):aj β u v':=by
 have h1:∀v u v',GL G nob qs res v=some u->aj jW v v'->aj β u v':=fun v u v' a b=>aC1 h a b
 unfold AM at hs;split at hs
 ·split at hs
  ·rename_i r hr;cases hs;cases hv with
   |agg _ p' hp h2=>exact aj.mU (Wa h1 hr ⟨hp,h2⟩)
  ·cases hs
 grind
theorem aC0(h:vU G nob qs res jW β){v u:xM}(hs:Q1 G nob qs res v=some u)(hv:aj jW v v'):aj β u v':=by
 unfold Q1 at hs;split at hs
 ·split at hs
  ·rename_i r hr;cases hs;cases hv with
   |tuple _ p' hp h2=>
    have:=Wa (fun v u v' a b=>NJ h a b) hr ⟨hp,h2⟩;exact .tuple _ p' this.1 this.2
  ·cases hs
 grind [NJ]
theorem I6(h:vU G nob qs res jW β){c:Nat}{r:xM}{x:D}(hr:dM res c=some r)(hs:fB r=true)(g:aX jW.d (.chan (some (c+1)))=some x):aX β.d r=some x:=by
 obtain⟨c',rfl⟩:=N5 hs;rw[gg] at hr;obtain⟨d,e1,e2⟩:=h.d c _ hr;have g':(jW.d c).bind (fun x=>if x.cell then some x else none)=some x:=g;rw[e1] at g';obtain⟨e3,e4⟩:=VY e2;have g2:(if d.cell then some d else none)=some x:=g';rw[e4] at g2;cases g2;show(β.d c').bind _=_;rw[e3];exact g'
theorem aB8(h:vU G nob qs res jW β)(hs:vE G nob qs res tb=some b){l:Loc}{o:Option Obj}(hb:gB jW l tb o):gB β l b o:=by
 unfold vE at hs;split at hs
 ·split at hs
  ·rename_i r hr;cases hs;obtain⟨aB,e,fz,g1,g2,g3,g4,g5,g6,g7,g8⟩:=hb;obtain⟨k1,k2⟩:=Nq hr;refine⟨aB,e,fz,g1,g2,Ns,fun i u hu=> ?_,g5,fun hx=>Ns,g7,g8⟩;have hi:=(xe.1 hu).1;rw[<-k1] at hi;obtain⟨v',e1,e2⟩:=g4 i _ (xc hi);exact⟨v',e1,NJ h (k2 i _ u (xc hi) hu) e2⟩
  ·cases hs
 ·split at hs
  ·rename_i r hr;rcases aC hs with⟨h1,h2⟩|⟨_,h2⟩<;>cases h2
   obtain⟨aB,rows,g1,g2,g3,g4,g5,g6,g7⟩:=hb;exact⟨aB,rows,g1,g2,I6 h hr h1 g3,g4,g5,g6,fun i row j d a b=>by rw[h.z];simp_all⟩
  ·cases hs
 ·split at hs
  ·rename_i r hr;rcases aC hs with⟨h1,h2⟩|⟨_,h2⟩<;>cases h2
   obtain⟨ae,ck,rows,g1,g2,g3⟩:=hb;exact⟨ae,ck,rows,g1,I6 h hr h1 g2,by rw[h.z];exact g3⟩
  ·cases hs
 ·split at hs
  ·rename_i r hr;rcases aC hs with⟨h1,h2⟩|⟨_,h2⟩<;>cases h2
   obtain⟨ae,ck,rows,g1,g2,g3⟩:=hb;exact⟨ae,ck,rows,g1,I6 h hr h1 g2,by rw[h.z];exact g3⟩
  ·cases hs
 ·cases hs
theorem ar8(hs:vE G nob qs res tb=some b):b.still=tb.still:=by
 unfold vE at hs;split at hs
 ·split at hs<;>cases hs;rfl
 ·split at hs
  ·rcases aC hs with⟨_,h2⟩|⟨_,h2⟩<;>cases h2;rfl
  ·cases hs
 ·split at hs
  ·rcases aC hs with⟨_,h2⟩|⟨_,h2⟩<;>cases h2;rfl
  ·cases hs
 ·split at hs
  ·rcases aC hs with⟨_,h2⟩|⟨_,h2⟩<;>cases h2;rfl
  ·cases hs
 ·cases hs
theorem aB9(h:vU G nob qs res jW β)(hs:vE G nob qs res tb=some b){x:Nat}(hx:qs[j]? =some x)(ho:jA jW (G+j) tb):jA β x b:=by
 unfold vE at hs;split at hs
 ·split at hs<;>cases hs;trivial
 ·rename_i c es ex ro ty;split at hs
  ·rename_i r hr;rcases aC hs with⟨h1,h2⟩|⟨_,h2⟩<;>cases h2
   obtain⟨rows,g3,g4⟩:=ho;have q1:=h.q j x hx;have q2:=h.o j x hx;exact⟨rows,I6 h hr h1 g3,g4.imp (fun⟨a,b⟩=>⟨a,q2.trans b⟩) fun⟨l,cap,a,b,c⟩=>⟨l,cap,q1.trans a,q2.trans b,c⟩⟩
  ·cases hs
 ·split at hs
  ·rcases aC hs with⟨_,h2⟩|⟨_,h2⟩<;>cases h2;trivial
  ·cases hs
 ·split at hs
  ·rcases aC hs with⟨_,h2⟩|⟨_,h2⟩<;>cases h2;trivial
  ·cases hs
 ·cases hs
end
theorem N6:∀(k:Nat) (l:Gy) (i:Nat) (x:aG),l[i]? =some (some x)->i+1<2^k->(fill k l).get none i=some x
 |0,l,i,x,_,h=>MK
 |k+1,[],i,x,h,_=>by simp at h
 |k+1,a::r,i,x,h,hi=>by
  rw[Nat.pow_succ] at hi;show(T.node (fill k (alt r true)) a (fill k (alt r false))).get none i=some x;rw[T.ky];split
  ·rename_i h0;subst h0;simpa using h
  ·split
   ·refine N6 k _ _ _ ?_ MK;rw[CE];rw[show i=2*(i/2)+1 by omega,List.getElem?_cons_succ] at h;simpa using h
   ·refine N6 k _ _ _ ?_ MK;rw[CE];rw[show i=(2*(i/2 - 1)+1)+1 by omega,List.getElem?_cons_succ] at h;simpa using h
theorem Gc{T:jV}{k:Nat}(h:T.hp[j]? =some tb)(hk:L.length+T.hp.length<2^k):(T.aw k L tape).get (L.length+j)=some tb:=by
 refine N6 k _ _ _ ?_ Ns;unfold Al;rw[mQ,qc,xq MK,show L.length+j - L.length=j by omega,xx,h];rfl
def DB(nob n:Nat)(ρ:Es)(j:Nat):Nat:=if j<nob then ρ.getD j 0 else n+(j - nob)
section
variable{w0 w w':World}{aK β':ai}{A1 A2:AW}{k:Nat}{hp':List aG}
def sP(L:Gy)(nob n:Nat)(aK β':ai):ai where
 f:=fun B=>if B<n then aK B else β' (L.length+(nob+(B - n)))
 z:=β'.z
 d:=aK.d
 x:=aK.x
 o:=fun B=>if B<n then aK.o B else β'.o (L.length+(nob+(B - n)))
 y:=aK.y
theorem qk(n:Nat)(B:Nat):(sP L nob n aK β') B=if B<n then aK B else β' (L.length+(nob+(B - n))):=rfl
theorem Kl(n:Nat)(B:Nat):(sP L nob n aK β').o B=if B<n then aK.o B else β'.o (L.length+(nob+(B - n))):=rfl
theorem Inv.gn{G:GP}{β:ai}{A:AW}(h:Inv w0 G β A w):G.n<=A.next:=by
 cases hn:G.n with
 |zero=>omega
 |succ m=>
  obtain⟨l,h1,_⟩:=h.jn m MK;exact h.ft m l h1
theorem Inv.merge(inv:Inv w0 ⟨L.length,Q,LL⟩ aK A1 w)(hρ:∀(i x:Nat),ρ[i]? =some x->x=cG\/(L.length<=x/\∃blk,A1.get x=some blk))(dw:∀(i j x:Nat),ρ[i]? =some x->ρ[j]? =some x->x≠cG->i=j)
 (Lc:∀i,i<nob->∃x,ρ[i]? =some x/\x≠cG) (lJ:Inv w (G0 L LL) β' ((m4 hp').aw k L []) w') (hx:β'.x=LC L.length (o8 L.length ρ aK δ)) (Db:∀B,B<L.length+nob->β' B=(o8 L.length ρ aK δ) B/\(L.length<=B->β'.o B=(o8 L.length ρ aK δ).o B)) (hz:∀b c,aK.z b=some c->β'.z b=some c)
 {res:C3} (mq:∀(c:Nat) (r:xM),res[c]? =some r->∃d,β'.d c=some d/\eE aK.d r=some d) {qs:Es} (BC:qs.length=hp'.length/\∀(j x:Nat),qs[j]? =some x->x=DB nob A1.next ρ j) (aN:nob<=hp'.length)
 (kZ:∀B blk,A2.get B=some blk->(∃(j:Nat) (tb:aG),qs[j]? =some B/\hp'[j]? =some tb/\vE L.length nob qs res tb=some blk)\/(B<A1.next/\(∀(i:Nat),ρ[i]?≠some B)/\A1.get B=some blk)) (Au:A2.next=A1.next+(hp'.length - nob)) (bm3:∀nd∈A2.tape,nd∈A1.tape) (DQ:L.length+hp'.length<2^k):
 Inv w0 ⟨L.length,Q,LL⟩ (sP L nob A1.next aK β') A2 w'/\aK.grow (sP L nob A1.next aK β') A1.next/\vU L.length nob qs res β' (sP L nob A1.next aK β'):=by
 have hgn:L.length<=A1.next:=inv.gn;have bv9:∀(i x:Nat),ρ[i]? =some x->x≠cG->x<A1.next:=fun i x h hn=>by
  grind [absurd,Nat.lt_of_not_le,inv.du]
 have hX:∀b,β'.x b->∃i x l,ρ[i]? =some x/\x≠cG/\L.length<=x/\aK x=some l/\l.b=b:=fun b hb=>by
  rw[hx] at hb;obtain⟨B,l,e1,e2,e3⟩:=hb;have e1:L.length<=B:=e1;rw[yh,if_neg MK] at e2;cases pX:ρ[B - L.length]? with
  |none=>grind
  |some x=>
   rw[pX] at e2;have e2:(if x=cG then none else aK x)=some l:=e2;by_cases hn:x=cG
   ·grind
   ·rw[if_neg hn] at e2;rcases hρ _ x pX with e|⟨e,_⟩
    ·grind
    ·exact⟨_,x,l,pX,hn,e,e2,e3⟩
 have Zs:∀b c,β'.z b=some c->aK.z b=some c\/w.heap.size<=b\/β'.x b:=fun b c h=>by
  have:=lJ.zo b c h;rw[show β'.x.z0=aK.z by rw[hx];rfl] at this;exact this
 have Qw:∀b,β'.x b->w0.heap.size<=b\/aK.x b:=fun b hb=>by
  obtain⟨i,x,l,e1,e2,e3,e4,e5⟩:=hX b hb;rcases(inv.loc x l e4).2 with h|h
  ·grind
  grind
 have bw2:∀B l blk,(∀(i:Nat),ρ[i]?≠some B)->A1.get B=some blk->aK B=some l-> ¬β'.x l.b:=fun B l blk hB hg hl hb=>by
  grind [inv.inj]
 have ao:∀(j B:Nat),qs[j]? =some B->(sP L nob A1.next aK β') B=β' (L.length+j)/\((sP L nob A1.next aK β').o B=β'.o (L.length+j))/\(j<nob->ρ[j]? =some B/\B≠cG/\B<A1.next)/\(nob<=j->B=A1.next+(j - nob)):=fun j B hj=>by
  have e:=BC.2 j B hj;unfold DB at e;by_cases hn:j<nob
  ·rw[if_pos hn] at e;obtain⟨x,e1,e2⟩:=Lc j hn;have ex:B=x:=by rw[e,List.getD_eq_getElem?_getD,e1];rfl
   subst ex;have bm:=bv9 j B e1 e2;obtain⟨k1,k2⟩:=Db (L.length+j) MK;refine⟨?_,?_,fun _=>⟨e1,e2,bm⟩,fun h=>MK⟩
   ·rw[qk,if_pos bm,k1,yh,if_neg MK,show L.length+j - L.length=j by omega,e1]
    grind
   ·rw[Kl,if_pos bm,k2 MK,F3,if_neg MK,show L.length+j - L.length=j by omega,e1]
    grind
  ·rw[if_neg hn] at e;have h2: ¬B<A1.next:=MK
   have h3:nob+(B - A1.next)=j:=MK
   exact⟨by rw[qk,if_neg h2,h3],by rw[Kl,if_neg h2,h3],fun h=>absurd h hn,fun _=>e⟩
 have Ay:aK.grow (sP L nob A1.next aK β') A1.next:=⟨fun B hB=>by rw[qk,if_pos hB],hz,fun B hB=>by rw[Kl,if_pos hB],rfl,rfl⟩;have sx:=inv.gy Ay;have hS:vU L.length nob qs res β' (sP L nob A1.next aK β'):=by
  refine⟨fun B l hB h=> ?_,fun j x h=>(ao j x h).1,fun j x h=>(ao j x h).2.1,rfl,mq⟩;rw[qk,if_pos (xK hB hgn)];rw[(Db B MK).1,yh,if_pos hB] at h;exact h
 refine⟨⟨?_,fun B l h=> ?_,fun B hB=> ?_,fun B l h=> ?_,fun B B' l l' h h' hb h1 h2=> ?_,fun B blk l hg h=> ?_,fun g hg=> ?_,lJ.dB,fun B l blk hG h hg hs=> ?_,fun nd dw=>inv.dX nd (bm3 nd dw),fun B blk hg=> ?_,fun B v h=> ?_,inv.lay,inv.xg,inv.jM,fun b c h=> ?_,fun b hh hy=> ?_⟩,Ay,hS⟩
 ·refine⟨lJ.below.os.trans inv.below.os,lJ.below.tape.trans inv.below.tape,lJ.below.output.trans inv.below.output,xH inv.below.size lJ.below.size,fun b hb S9=> ?_⟩;have h1: ¬β'.x b:=fun h=>(Qw b h).elim (fun h=>MK) S9
  exact(lJ.below.block b (xK hb inv.below.size) h1).trans (inv.below.block b hb S9)
 ·rw[Au];rw[qk] at h;by_cases hB:B<A1.next
  ·omega
  ·rw[if_neg hB] at h;have:=lJ.ft _ l h;rw[x7] at this;have e:(m4 hp').hp.length=hp'.length:=rfl;omega
 ·cases hq:A2.get B with
  |none=>rfl
  |some blk=>
   grind
 ·rw[qk] at h;by_cases hB:B<A1.next
  ·rw[if_pos hB] at h;exact⟨xK (inv.loc B l h).1 lJ.below.size,(inv.loc B l h).2⟩
  ·rw[if_neg hB] at h;refine⟨(lJ.loc _ l h).1,.inr ?_⟩;rcases(lJ.loc _ l h).2 with e|e|e
   ·have e:L.length+(nob+(B - A1.next))<L.length:=e;omega
   ·exact .inl (xH inv.below.size e)
   ·exact Qw _ e
 ·obtain⟨b1,bX⟩:=Option.isSome_iff_exists.1 h1;obtain⟨b2,bP⟩:=Option.isSome_iff_exists.1 h2;have Z8:∀(B B':Nat) (l l':Loc) (b2:aG),(∃(j:Nat) (tb:aG) (b1:aG),qs[j]? =some B/\hp'[j]? =some tb/\vE L.length nob qs res tb=some b1)->(sP L nob A1.next aK β') B=some l->(sP L nob A1.next aK β') B'=some l'->l.b=l'.b->B'<A1.next->(∀(i:Nat),ρ[i]?≠some B')->A1.get B'=some b2->False:=fun B B' l l' b2 hj hl fG eG uK ae5 hg=>by
   obtain⟨j,tb,_,p1,p2,p3⟩:=hj;rw[(ao j B p1).1] at hl;rw[qk,if_pos uK] at fG;have h3:=(inv.loc B' l' fG).1;rcases(lJ.loc _ l hl).2 with e|e|e
   ·have e:L.length+j<L.length:=e;omega
   ·omega
   grind
  rcases kZ B b1 bX with hj|⟨e1,e2,e3⟩<;>rcases kZ B' b2 bP with qG|⟨oL,uO,Ig⟩
  ·obtain⟨j,tb,p1,p2,p3⟩:=hj;obtain⟨j',tb',SX,p2',mM⟩:=qG;rw[(ao j B p1).1] at h;rw[(ao j' B' SX).1] at h';have:=lJ.inj _ _ l l' h h' hb (by rw[Gc (T:=m4 hp') p2 DQ];rfl) (by rw[Gc (T:=m4 hp') p2' DQ];rfl);have hjj:j=j':=MK
   subst hjj;rw[p1] at SX;cases SX;rfl
  ·exact(Z8 B B' l l' b2 (hj.elim fun j hj=>hj.elim fun tb hj=>⟨j,tb,b1,hj⟩) h h' hb oL uO Ig).elim
  ·exact(Z8 B' B l' l b1 (qG.elim fun j hj=>hj.elim fun tb hj=>⟨j,tb,b2,hj⟩) h' h hb.symm e1 e2 e3).elim
  ·rw[qk,if_pos e1] at h;rw[qk,if_pos oL] at h'
   grind [inv.inj]
 ·rcases kZ B blk hg with⟨j,tb,p1,p2,p3⟩|⟨e1,e2,e3⟩
  ·rw[(ao j B p1).1] at h;exact aB8 hS p3 (lJ.cont _ tb l (Gc (T:=m4 hp') p2 DQ) h)
  ·rw[qk,if_pos e1] at h;rw[lJ.below.block l.b (inv.loc B l h).1 (bw2 B l blk e2 e3 h)];exact(inv.cont B blk l e3 h).mono sx
 ·obtain⟨l,a1,a2,a3⟩:=inv.jn g hg;have hg:g<L.length:=hg;exact⟨l,by rw[qk,if_pos MK];exact a1,a2,a3⟩
 ·rcases kZ B blk hg with⟨j,tb,p1,p2,p3⟩|⟨e1,e2,e3⟩
  ·rw[(ao j B p1).1] at h;exact lJ.sep _ l tb (by show L.length<=_;omega) h (Gc (T:=m4 hp') p2 DQ) (by grind [ar8])
  ·rw[qk,if_pos e1] at h;have mD:=inv.sep B l blk hG h e3 hs;cases hq:β'.z l.b with
   |none=>exact hq
   |some c=>
    exfalso;rcases Zs _ _ hq with h1|h1|h1
    ·grind
    ·have:=(inv.loc B l h).1;omega
    grind
 ·rcases kZ B blk hg with⟨j,tb,p1,p2,p3⟩|⟨e1,e2,e3⟩
  ·grind [aB9,Gc,m4,lJ.own]
  ·exact(inv.own B blk e3).mono sx
 ·rw[Au];rw[Kl] at h;by_cases hB:B<A1.next
  ·omega
  ·rw[if_neg hB] at h;have:=lJ.iG _ v h;rw[x7] at this;have e:(m4 hp').hp.length=hp'.length:=rfl;omega
 ·rcases Zs b c h with h1|h1|h1
  ·exact inv.zo b c h1
  ·grind [xH,inv.below.size]
  ·exact .inr (Qw b h1)
 ·obtain⟨y1,y2,y3,y4⟩:=inv.dP b hh hy;have bP:=(Array.getElem?_eq_some_iff.1 y1).1;have kP: ¬β'.x b:=fun pX=>by
   grind
  refine⟨by grind [lJ.below.block],?_,y3,fun B l h ha=> ?_⟩
  ·show β'.z b=none;cases hq:β'.z b with
   |none=>rfl
   |some c=>
    grind
  ·obtain⟨b1,bX⟩:=Option.isSome_iff_exists.1 ha;rcases kZ B b1 bX with⟨j,tb,p1,p2,p3⟩|⟨e1,e2,e3⟩
   ·rw[(ao j B p1).1] at h;rcases(lJ.loc _ l h).2 with e|e|e
    ·have e:L.length+j<L.length:=e;omega
    ·omega
    grind
   ·rw[qk,if_pos e1] at h
    grind
end
def bk5(l:C3):Option (List Nat):=
 List.rec (motive:=fun _=>Option (List Nat)) (some []) (fun v _ ih=>match v,ih with| .int _ (.ofNat n),some r=>some (n::r)|_,_=>none) l
def Qg(f:aG->Option aG)(l:List aG):Option (List aG):=
 List.rec (motive:=fun _=>Option (List aG)) (some []) (fun v _ ih=>match f v with|some u=>(match ih with|some us=>some (u::us)|none=>none)|none=>none) l
def vu(l:List α):Nat->List α:=
 List.rec (motive:=fun _=>Nat->List α) (fun _=>[]) (fun x _ ih n=>Nat.rec (motive:=fun _=>List α) [] (fun m _=>x::ih m) n) l
def rc(l:List α):Nat->List α:=
 List.rec (motive:=fun _=>Nat->List α) (fun _=>[]) (fun x t ih n=>Nat.rec (motive:=fun _=>List α) (x::t) (fun m _=>ih m) n) l
def uo(c:Nat):Nat->List Nat:=Nat.rec (motive:=fun _=>Nat->List Nat) (fun _=>[]) (fun _ ih n=>n::ih (Nat.succ n)) c
theorem NH{α:Type}:∀(l:List α) (n:Nat),vu l n=l.take n
 |[],n=>by simp[vu]
 |x::l,0=>rfl
 |x::l,n+1=>by show x::vu l n=_;rw[NH l n];rfl
theorem N8{α:Type}:∀(l:List α) (n:Nat),rc l n=l.drop n
 |[],n=>by simp[rc]
 |x::l,0=>rfl
 |x::l,n+1=>by show rc l n=_;rw[N8 l n];rfl
theorem WL:∀(c n:Nat),(uo c n).length=c
 |0,n=>rfl
 |c+1,n=>by show(n::uo c (n+1)).length=_;simp[WL c]
theorem WM:∀(c n j x:Nat),(uo c n)[j]? =some x->x=n+j
 |0,n,j,x,h=>by
  have h':([]:Es)[j]? =some x:=h;simp at h'
 |c+1,n,j,x,h=>by
  have h':(n::uo c (n+1))[j]? =some x:=h;cases j with
  |zero=>simp at h';omega
  |succ j=>simp at h';have:=WM c (n+1) j x h';omega
theorem U3{f:aG->Option aG}:∀{l r:List aG},Qg f l=some r->l.length=r.length/\∀(i:Nat) (v u:aG),l[i]? =some v->r[i]? =some u->f v=some u
 |[],r,h=>by cases h;grind
 |x::l,r,h=>by
  have h':(match f x with|some u=>(match Qg f l with|some us=>some (u::us)|none=>none)|none=>none)=some r:=h;split at h'
  ·rename_i u hu;split at h'
   ·rename_i us iX;cases h';obtain⟨k1,k2⟩:=U3 iX;refine⟨by simp[k1],fun i a b ha hb=> ?_⟩;cases i with
    |zero=>simp at ha hb;subst ha;subst hb;exact hu
    |succ i=>simp at ha hb;exact k2 i a b ha hb
   ·cases h'
  ·cases h'
def vI(ρ:Es):List aG->AW->AW:=
 List.rec (motive:=fun _=>List aG->AW->AW) (fun _ A=>A)
  (fun x _ ih os A=>List.rec (motive:=fun _=>AW) (ih [] (bs (Nat.beq x cG) A (A.put x none))) (fun o Eb _=>ih Eb (bs (Nat.beq x cG) A (A.put x (some o)))) os) ρ
def Bj(l:List aG):AW->AW:=List.rec (motive:=fun _=>AW->AW) (fun A=>A) (fun b _ ih A=>ih (A.add b)) l
theorem Ce:∀(ρ:Es) (os:List aG) (A:AW),(vI ρ os A).next=A.next/\(vI ρ os A).tape=A.tape
 |[],os,A=>⟨rfl,rfl⟩
 |x::ρ,[],A=>by
  have h:=Ce ρ [] (bs (Nat.beq x cG) A (A.put x none));have e:(bs (Nat.beq x cG) A (A.put x none)).next=A.next/\(bs (Nat.beq x cG) A (A.put x none)).tape=A.tape:=by cases Nat.beq x cG<;>exact⟨rfl,rfl⟩
  exact⟨h.1.trans e.1,h.2.trans e.2⟩
 |x::ρ,o::os,A=>by
  have h:=Ce ρ os (bs (Nat.beq x cG) A (A.put x (some o)));have e:(bs (Nat.beq x cG) A (A.put x (some o))).next=A.next/\(bs (Nat.beq x cG) A (A.put x (some o))).tape=A.tape:=by cases Nat.beq x cG<;>exact⟨rfl,rfl⟩
  exact⟨h.1.trans e.1,h.2.trans e.2⟩
theorem NT:∀(ρ:Es) (os:List aG) (A:AW) (B:Nat) (blk:aG),(vI ρ os A).get B=some blk->(∃i:Nat,ρ[i]? =some B/\B≠cG/\os[i]? =some blk)\/((∀i:Nat,ρ[i]? =some B->B=cG)/\A.get B=some blk)
 |[],os,A,B,blk,h=> .inr ⟨fun i=>NS,h⟩
 |x::ρ,os,A,B,blk,h=>by
  have step:∀(o:Option aG) (Eb:List aG),(vI ρ Eb (bs (Nat.beq x cG) A (A.put x o))).get B=some blk->(∃i:Nat,ρ[i]? =some B/\B≠cG/\Eb[i]? =some blk)\/(B=x/\x≠cG/\o=some blk)\/((∀i:Nat,(x::ρ)[i]? =some B->B=cG)/\A.get B=some blk):=fun o Eb h=>by
   rcases NT ρ Eb _ B blk h with h1|⟨h1,h2⟩
   ·exact .inl h1
   ·have bo:(B=x->B=cG)->∀i:Nat,(x::ρ)[i]? =some B->B=cG:=fun hx i hi=>by
     grind
    cases hb:Nat.beq x cG with
    |true=>
     grind [fK,xb]
    |false=>
     grind [kz,FQ,absurd,A.gd]
  cases os with
  |nil=>
   rcases step none [] h with⟨i,h1,_,h2⟩|⟨_,_,h2⟩|h1
   ·simp at h2
   ·cases h2
   grind
  |cons o os=>
   rcases step (some o) os h with⟨i,h1,h3,h2⟩|⟨h1,h3,h2⟩|h1
   ·exact .inl ⟨i+1,Ns,h3,Ns⟩
   ·exact .inl ⟨0,by simp[h1],Ns,Ns⟩
   grind
theorem IK:∀(l:List aG) (A:AW),(Bj l A).next=A.next+l.length/\(Bj l A).tape=A.tape
 |[],A=>⟨rfl,rfl⟩
 |b::l,A=>by
  have h:=IK l (A.add b);have e:(A.add b).next=A.next+1:=rfl;exact⟨h.1.trans Ns,h.2⟩
theorem WC:∀(l:List aG) (A:AW),(∀B,A.next<=B->A.get B=none)->∀(B:Nat) (blk:aG),(Bj l A).get B=some blk->(∃j:Nat,B=A.next+j/\l[j]? =some blk)\/(B<A.next/\A.get B=some blk)
 |[],A,hA,B,blk,h=> .inr ⟨Nat.lt_of_not_le (fun jv=>by rw[show(Bj [] A).get B=A.get B from rfl,hA B jv] at h;cases h),h⟩
 |b::l,A,hA,B,blk,h=>by
  have hn:∀C,(A.add b).get C=some b/\C=A.next\/(A.add b).get C=A.get C:=A.mR b (hA _ (xk _));have bo:∀C,C≠A.next->(A.add b).get C=A.get C:=fun C hC=>(hn C).resolve_left fun e=>hC e.2
  rcases WC l (A.add b) (fun C hC=>by
   have hC:A.next+1<=C:=hC
   grind) B blk h with⟨j,h1,h2⟩|⟨h1,h2⟩
  ·have h1:B=A.next+1+j:=h1;exact .inl ⟨j+1,MK,Ns⟩
  ·rcases hn B with⟨e,e2⟩|e
   ·simp_all
   grind
def Xt(b:aG):Bool:=match b.obj with| .cells _=>true| .jC _ _=>true| .rk _ _=>true| .own _=>true|_=>false
def Ri(ρ:Es)(hp':List aG)(nob:Nat):Bool:=
 Nat.rec (motive:=fun _=>Bool) true (fun i ih=>bs ((match dM ρ i with|some x=>bs (Nat.beq x cG) false true|none=>false)&& (match dM hp' i with|some b=>Xt b|none=>false)) ih false) nob
theorem Vi{ρ:Es}{hp':List aG}:∀{nob:Nat},Ri ρ hp' nob=true->(∀i,i<nob->(∃x,ρ[i]? =some x/\x≠cG)/\∃b,hp'[i]? =some b)
 |0,_,i,h=>MK
 |n+1,h,i,hi=>by
  have h':bs ((match dM ρ n with|some x=>bs (Nat.beq x cG) false true|none=>false)&& (match dM hp' n with|some b=>Xt b|none=>false)) (Ri ρ hp' n) false=true:=h;rcases aC h' with⟨h1,h2⟩|⟨_,h2⟩
  ·rcases Nat.lt_succ_iff_lt_or_eq.1 hi with h3|rfl
   ·exact Vi h2 i h3
   ·rw[xf,gg,gg] at h1;obtain⟨h4,h5⟩:=h1;refine⟨?_,?_⟩
    ·split at h4
     ·rename_i x hx;refine⟨x,hx,?_⟩;rcases aC h4 with⟨_,e⟩|⟨e,_⟩
      ·cases e
      ·exact FQ e
     ·cases h4
    grind
  ·cases h2
def yX(nob n:Nat)(ρ:Es)(m:Nat):Es:=iR (vu ρ nob) (uo (Nat.sub m nob) n)
def ab6(G:Nat)(sg:ia)(ρ:Es)(res:C3)(A:AW):bp xM:=
 match Q1 G sg.nob (yX sg.nob A.next ρ (bT sg.hp')) res sg.rv,Qg (vE G sg.nob (yX sg.nob A.next ρ (bT sg.hp')) res) sg.hp' with
 |some v,some l=>some [(v,Bj (rc l sg.nob) (vI ρ (vu l sg.nob) A))]
 |_,_=>none
def ab7(l:List aG):Bool:=fb (fun b=>match b.obj with| .gA _ _ _=>false|_=>true) l
theorem ax1(hL:AK L){hp:List aG}{k:Nat}(h:ab7 hp=true):∀B blk,((m4 hp).aw k L tape).get B=some blk-> ¬Pu blk:=by
 intro B blk hb ⟨ks,c,tk,ho⟩;rcases yl hb with⟨q1,q2⟩|⟨q1,q2⟩
 ·rcases hL B q1 with e1|⟨cs,es,e1,e2⟩<;>rw[q2] at e1
  ·cases e1
  grind
 ·have:=oR _ hp h blk (xu q2)
  grind
def KW(L:Gy)(k:Nat)(S:List (Nat×ia))(t:eL)(args:C3)(A:AW):bp xM:=
 match t with
 | .rd _=>none
 | .fn f=>match A.tape with
  |[]=>none
  |rz::r0=>match rz.args with
   |[.tuple ⟨rl⟩,.tuple ⟨aM⟩]=>match bk5 rl with
    |none=>none
    |some ρ=>match nL (lL (bT L) FZ) aM (A.pop r0) with
     |none=>none
     |some (us,A1)=>match A1.tape with
      |[]=>none
      |nd::r=>match nd.k,nd.res with
       | .sf g i,.tuple ⟨res⟩=>match dM S i with
        |none=>none
        |some (g',sg)=>bs (n7 rz.k (.own 1)&&Nat.beq g f&&Nat.beq g' f&&nI us nd.args&&F4 (bT L) ρ aM A1 sg.args args&&Ao L (m4 sg.hp) ρ aM .nil A1&&Ri ρ sg.hp' sg.nob&&ab7 sg.hp&&Nat.blt A1.next cG&&Nat.blt (Nat.add (bT L) (bT sg.hp')) (Nat.pow 2 k))
         (ab6 (bT L) sg ρ res (A1.pop r)) none
       |_,_=>none
   |_=>none
def J4(P:Program)(LL:World->Prop)(k:Nat)(L:Gy)(S:List (Nat×ia))(δ:FM)(nd:Node):Prop:=
 match nd.k,nd.res with
 | .sf g i,.tuple ⟨res⟩=>∃sg ds cA,S[i]? =some (g,sg)/\aH (aX δ) nd.args=some ds/\aH (eE δ) res=some cA/\zy P LL k L g sg ds cA
 |_,_=>False
section
variable(ok:E.Ok P)(hG:E.G=⟨L.length,Q,LL⟩)(hL:AK L){k:Nat}{S:List (Nat×ia)}
theorem aD9(h1:∀i,i<nob->∃x,ρ[i]? =some x/\x≠cG)(h2:nob<=m):(yX nob n ρ m).length=m/\∀(j x:Nat),(yX nob n ρ m)[j]? =some x->x=DB nob n ρ j:=by
 have hl:nob<=ρ.length:=by
  cases nob with
  |zero=>omega
  |succ q=>
   grind
 unfold yX;rw[mQ,NH];have hm:Nat.sub m nob=m - nob:=rfl;refine⟨by grind [xa,xz,WL],fun j x h=> ?_⟩;unfold DB;by_cases hj:j<nob
 ·grind
 ·rw[xq Ns,xz,show min nob ρ.length=nob by omega] at h;rw[if_neg hj,WM _ _ _ _ h]
include ok hG hL in
theorem aO1(hC:∀δ nd g i,nd.k= .sf g i->E.G.Q δ nd->J4 P LL k L S δ nd):mc P E (KW L k S):=by
 intro w0 t args A bt β w args' h inv pI;unfold KW at h;split at h
 ·cases h
 ·rename_i f;split at h
  ·cases h
  ·rename_i rz r0 ht0;split at h
   ·rename_i rl aM ez;split at h
    ·cases h
    ·rename_i ρ hρ;split at h
     ·cases h
     ·rename_i us A1 nj;split at h
      ·cases h
      ·rename_i nd r ht1;split at h
       ·rename_i g i res hk hr;split at h
        ·cases h
        ·rename_i g' sg hS;replace h:=aC h;rcases h with⟨hb,h⟩|⟨_,h⟩
         ·simp only [xf] at hb;obtain⟨⟨⟨⟨⟨⟨⟨⟨⟨b1,b2⟩,b3⟩,b4⟩,b5⟩,b6⟩,b7⟩,b10⟩,b8⟩,b9⟩:=hb;rw[gg] at hS;have e2:=xb b2;have e3:=xb b3;subst e2;subst e3;have e4:=oQ _ _ b4;rw[eH] at b5;have Mi:=Vi b7;have bm:A1.next<cG:=xh b8;have DQ:L.length+sg.hp'.length<2^k:=by
           have:=xh b9;rw[eH,eH] at this;exact this
          have ac3:=inv.pop (r:=r0) (fun x hx=>Ns);have wm:∀aK,β.d=aK.d->Inv w0 E.G aK A1 w->∃ds cA,aH (aX aK.d) us=some ds/\aH (eE aK.d) res=some cA/\zy P LL k L g' sg ds cA:=fun aK hd i1=>by
           have hq:=hC _ nd g' i hk (i1.dX nd Ns)
           grind [J4,hk]
          have hn:E.G.n=bT L:=by rw[hG,eH]
          obtain⟨βq,iq,gq,_⟩:=OK (w0:=w0) (w:=w) (G:=E.G) (fun v A u A' β h i=>yi ok FZ v A u A' β h i) aM _ us A1 β Ns ac3;obtain⟨ds,cA,q2,q3,q4⟩:=wm βq gq.d.symm iq;obtain⟨aK,j1,g1,i1,hI,n1,_⟩:=OR ok hG hL nj ac3 (ds1:=ds) (by grind [gq.d]) b6 k;have uM:β.grow aK A.next:=g1;have n1':A1.next=A.next:=n1;have sx:=inv.gy uM;have aJ:aH (eE aK.d) res=some cA:=by rw[g1.d,<-gq.d];exact q3
          have hLw:=inv.laid ok;rw[hG] at j1 hLw i1;obtain⟨j2,hw2⟩:=(j1.SU (Q':=fun _ _=>True) rfl).reX (G:=G0 L LL) hLw (ax1 hL b10);have YF:aZ (o8 L.length ρ aK fun c=>ds[c]?) sg.args args':=by
           obtain⟨k1,k2⟩:=Iy hI i1.Ad b5;refine⟨k1.trans pI.1,fun i a v' ha ee=> ?_⟩;have hi:i<args.length:=by rw[<-k1];exact(xe.1 ha).1
           exact Fb hI i1.Ad (k2 i a _ ha (xc hi)) ((pI.2 i _ v' (xc hi) ee).mono sx)
          refine(q4 w _ args' j2 rfl (YF.km hw2)).mono fun en w' Gq=> ?_
          obtain⟨v,β',rfl,ic,hv,Db,hz,nq,hxx⟩:=Gq;unfold ab6 at h;split at h
          ·rename_i u l hu hl;cases h;have kP:(A1.pop r).next=A1.next:=rfl;rw[eH] at hu hl;have fG:=U3 hl;have aN:sg.nob<=sg.hp'.length:=by
            by_cases h0:sg.nob=0
            ·omega
            ·grind
           rw[eH] at hu fG;have BC:=aD9 (n:=(A1.pop r).next) (ρ:=ρ) (fun i hi=>(Mi i hi).1) aN;unfold Ao at b6;rw[eH] at b6;simp only [xf] at b6;obtain⟨⟨⟨_,c2⟩,_⟩,c4⟩:=b6;obtain⟨aE,vO⟩:=MT c2;have dw:=MS c4;have i1p:Inv w0 ⟨L.length,Q,LL⟩ aK (A1.pop r) w:=i1.pop (fun x hx=>Ns);obtain⟨m1,m2,m3⟩:=Inv.merge (k:=k) (ρ:=ρ) (nob:=sg.nob) (hp':=sg.hp') (δ:=fun c=>ds[c]?) (A2:=Bj (rc l sg.nob) (vI ρ (vu l sg.nob) (A1.pop r))) (res:=res) (qs:=yX sg.nob (A1.pop r).next ρ sg.hp'.length) i1p (fun i x hx=>by
            have hj:i<(m4 sg.hp).hp.length:=by rw[aE];exact(xe.1 hx).1
            rcases vO i _ x (xc hj) hx with⟨e,_⟩|⟨_,e,blk,e2,_⟩
            ·exact .inl e
            ·exact .inr ⟨e,blk,e2⟩) (fun i j x a b c=>dw i j x a b c) (fun i hi=>(Mi i hi).1) ic hxx (fun B hB=>Db B hB) hz
            (fun c rr hc=>by
             have bM:c<cA.length:=by rw[pz aJ];exact(xe.1 hc).1
             exact⟨cA[c],nq c _ (xc bM),nX aJ (xc bM) hc⟩)
            BC aN
            (fun B blk hB=>by
             have pY:∀(i x:Nat),ρ[i]? =some x->x≠cG->x<A1.next:=fun i x hx bo=>by
              have hj:i<(m4 sg.hp).hp.length:=by rw[aE];exact(xe.1 hx).1
              rcases vO i _ x (xc hj) hx with⟨e,_⟩|⟨_,e,blk,e2,_⟩
              ·grind
              grind [Nat.lt_of_not_le,i1.du]
             have jm:∀C b,(vI ρ (vu l sg.nob) (A1.pop r)).get C=some b->C<A1.next:=fun C b hC=>by
              rcases NT _ _ _ _ _ hC with⟨i,h1,h2,_⟩|⟨_,h2⟩
              ·grind
              ·exact Nat.lt_of_not_le fun jv=>by rw[show(A1.pop r).get C=A1.get C from rfl,i1.du C jv] at h2;cases h2
             have eC:(vI ρ (vu l sg.nob) (A1.pop r)).next=A1.next:=(Ce _ _ _).1;have aL:l.length=sg.hp'.length:=fG.1.symm;rcases WC _ _ (fun C hC=>by
              cases hq:(vI ρ (vu l sg.nob) (A1.pop r)).get C with
              |none=>rfl
              |some b=>grind) B blk hB with⟨j,h1,h2⟩|⟨h1,h2⟩
             ·rw[N8,List.getElem?_drop] at h2;have hj:sg.nob+j<l.length:=(xe.1 h2).1;have ju:sg.nob+j<sg.hp'.length:=MK
              have wA:sg.nob+j<(yX sg.nob (A1.pop r).next ρ sg.hp'.length).length:=by rw[BC.1];exact ju
              refine .inl ⟨sg.nob+j,_,?_,xc ju,fG.2 _ _ _ (xc ju) h2⟩;have e1:=xc wA;have e2:=BC.2 _ _ e1;rw[e1,e2];unfold DB
              grind
             ·rcases NT _ _ _ _ _ h2 with⟨i,h3,h4,h5⟩|⟨h3,h4⟩
              ·rw[NH] at h5;have hi0:=(xe.1 h5).1;rw[xz] at hi0;have hi:i<sg.nob:=MK
               rw[List.getElem?_take,if_pos hi] at h5;have ju:i<sg.hp'.length:=MK
               have wA:i<(yX sg.nob (A1.pop r).next ρ sg.hp'.length).length:=by rw[BC.1];exact ju
               refine .inl ⟨i,_,?_,xc ju,fG.2 _ _ _ (xc ju) h5⟩;have e1:=xc wA;have e2:=BC.2 _ _ e1;rw[e1,e2];unfold DB
               grind
              grind)
            (by
             grind [IK,Ce,N8,List.length_drop])
            (fun x hx=>by
             grind [IK,Ce]) DQ
           refine⟨_,xn,_,v,rfl,aC0 m3 hu hv,?_,?_,?_⟩
           ·grind
           ·have m2':aK.grow _ A1.next:=m2;rw[n1'] at m2';exact ai.iz uM m2' (xk _)
           ·show A.next<=(Bj _ _).next
            grind [IK,Ce]
          ·cases h
         ·cases h
       ·cases h
   ·cases h
end
def Bh(n:Nat):Nat->List xM:=Nat.rec (motive:=fun _=>Nat->List xM) (fun _=>[]) (fun _ ih m=> .chan (some (Nat.succ m))::ih (Nat.succ m)) n
theorem Wr{δ:FM}:∀(n m:Nat) (kd:Di),kd.length=n->(∀(i:Nat) (d:D),kd[i]? =some d->δ (m+i)=some d/\d.cell=true)->aH (eE δ) (Bh n m)=some kd
 |0,m,kd,hl,h=>by rw[xA hl];rfl
 |n+1,m,[],hl,h=>by simp at hl
 |n+1,m,d::kd,hl,h=>by
  show(match eE δ (.chan (some (m+1))),aH (eE δ) (Bh n (m+1)) with|some x,some r=>some (x::r)|_,_=>none)=_;rw[Wr n (m+1) kd Ns (fun i d hi=>by
   have:=h (i+1) d Ns
   grind)]
  obtain⟨h1,h2⟩:=h 0 d rfl;have:eE δ (.chan (some (m+1)))=some d:=by
   show(δ m).bind _=_;rw[show δ m=some d from h1];show(if d.cell then some d else none)=some d;rw[h2];rfl
  rw[this]
def qa(nk:Nat)(env:Di)(left:Ca)(i:Nat):Option (List D):=
 match left[i]? with
 |some [.agg kd,v]=>if kd.length=nk then some (env++(kd++[v,.sl (left.eraseIdx i)])) else none
 |_=>none
theorem an9{i:Nat}{e:Di}(h:qa nk env left i=some e):∃kd v,left[i]? =some [.agg kd,v]/\kd.length=nk/\e=env++(kd++[v,.sl (left.eraseIdx i)]):=by
 unfold qa at h
 grind
def Ze(E:az)(A:AW)(R m nk a:Nat):Option AW:=
 match A.get R with
 |some ⟨.An B (.chan (some (x+1))) (.chan (some (y+1))) false,es,ex,false,ty⟩=>match A.get B with
  |some ⟨.jC ks (.chan (some (x'+1))),_,_,_,_⟩=>bs (Nat.beq x x'&&Nat.beq y a&&Nat.beq (bT ks) nk&&Nat.ble E.G.n R) (some (A.put R (some ⟨.pG B (.chan (some (x+1))) (.chan (some (Nat.add m (Nat.add nk 1)+1))) [.agg ⟨Bh nk m⟩,.chan (some (Nat.add m nk+1))],es,ex,false,ty⟩))) none
  |_=>none
 |_=>none
def Zf(E:az)(A:AW)(R a:Nat):Option AW:=
 match A.get R with
 |some ⟨.An B c (.chan (some (y+1))) true,es,ex,false,ty⟩=>bs (Nat.beq y a&&Nat.ble E.G.n R) (some (A.put R (some ⟨.pG B c (.chan (some (y+1))) [],es,ex,false,ty⟩))) none
 |_=>none
def Qa(E:az)(sq:Cf)(call:eL->C3->AW->bp xM)(n K k:Nat)(L:Gy)(T T1 T2:jV)(nob m nk a ti:Nat)(lg k9:Es)(mi cZ mh gC:C3)(td:List Item):MJ:=
 match td with
 | .code (.seq (.region _ ⟨ops⟩ false) rest)::kk=>match sh E sq call n ops ops (oJ K T.tm) (T.aw k L []) with
  |some [p1,p2]=>match(oJ K T.tm).get J ti with
   | .pointer (some ⟨R,0,none⟩)=>match Ze E (p1.2.pop []) R m nk a,Zf E (p2.2.pop []) R a with
    |some A1,some A2=>match vP L T1 nob lg mi cZ (.code rest::kk) p1.1 A1,vP L T2 nob k9 mh gC (.code rest::kk) p2.1 A2 with
     |some [t1],some [t2]=>some [t1,t2]
     |_,_=>none
    |_,_=>none
   |_=>none
  |_=>none
 |_=>none
theorem XO{T:jV}{fr:Fr}{A:AW}{l:List (List Item)}(h:vP L T nob ρ aM us td fr A=some l):l=[td]:=by
 unfold vP at h;split at h
 ·rcases aC h with⟨_,h⟩|⟨_,h⟩<;>cases h;rfl
 ·cases h
def aft(td:List Item):List Item:=match td with| .code (.seq _ r)::k=> .code r::k|td=>td
section
variable{sq:Cf}(ok:E.Ok P)(aU:E.Seq P sq)(hG:E.G=⟨L.length,Q,LL⟩)(hL:AK L)
include ok aU hG hL in
theorem aw5{call:eL->C3->AW->bp xM}(hc:mc P E call){f:FuncId}{K k:Nat}{sg:ia}{t1 t2:List Item}{T T1 T2:jV}{a ti:Nat}{lg k9:Es}{mi cZ mh gC:C3}
 (aW:Qa E sq call n K k L T T1 T2 sg.nob m nk a ti lg k9 mi cZ mh gC td=some [t1,t2]) (Lc:sg.nob<=T.hp.length) {ds ah:Di} (hm:ds.length=m)
 (uc:ds[a]? =some (.sl [])->∃pq,aH (aX (fun c=>ds[c]?)) gC=some pq/\uh P E f n K k L sg t2 T2 pq ah)
 (bm7:∀(left:Ca) (i:Nat),ds[a]? =some (.sl left)->i<left.length->∃env ds1,qa nk ds left i=some env/\aH (aX (fun c=>env[c]?)) cZ=some ds1/\uh P E f n K k L sg t1 T1 ds1 ah):uh P E f n K k L sg td T ds ah:=by
 intro w0 w β b cs a0 Ez hb EB inv hf hd;unfold Qa at aW;split at aW;rotate_left
 ·cases aW
 rename_i id ops rest kk;split at aW;rotate_left
 ·cases aW
 rename_i p1 p2 bx4;split at aW;rotate_left
 ·cases aW
 rename_i R Mc;split at aW;rotate_left
 ·cases aW
 rename_i A1 A2 oB fj;split at aW;rotate_left
 ·cases aW
 rename_i s1 s2 jw bM;cases aW;have e1:=XO jw;have e2:=XO bM;cases e1;cases e2;have HD:(Code.region id ⟨ops⟩ false).wpIn (kg b.roundOf) 0 P (fun e a' w'=>e= .normal/\oZ w0 E.G n β (T.aw k L []) a0.defers [p1,p2] a' w') a0 w:=
  wpIn_region_list (z7 ok aU hc ops _ _ _ β a0 w _ bx4 hf inv rfl (fun a' w' hp=>⟨rfl,hp⟩))
 obtain⟨e,a1,w1,⟨rfl,p,hp,aK,g1,g2,g3,g4,g5⟩,Ha⟩:=HD b (.code rest::kk) cs rfl trivial (P' _ _);have Aa:Steps P (lone (b.atR a0 (.code (.seq (.region id ⟨ops⟩ false) rest)::kk)) cs w) (lone (b.atR a1 (.code rest::kk)) cs w1):=Steps.trans (.one stepR_seq) (StepsIn.steps Ha);have kP:L.length+sg.nob<=(T.aw k L []).next:=by rw[x7];omega
 have En:∃l,aK R=some l:=by
  have h1:=hf.2 ti;rw[Mc] at h1;generalize a0.tmps.getD ti undef=v' at h1;cases h1 with
  |ptr _ _ l hl=>grind [trans,g3.f,inv.ft]
 obtain⟨l,En⟩:=En;have zd:∀c,aK.d c=ds[c]? :=fun c=>by rw[g3.d,hd]
 have hEG:(⟨E.G.n,Q,E.G.L⟩:GP)=E.G:=by rw[hG]
 simp only [xG,List.not_mem_nil,or_false] at hp;rcases hp with rfl|rfl
 ·
  unfold Ze at oB;split at oB;rotate_left
  ·cases oB
  rename_i B x y es ex ty HU;split at oB;rotate_left
  ·cases oB
  rename_i ks x' es2 wJ LW pQ Mo;rcases aC oB with⟨eG,oB⟩|⟨_,oB⟩;rotate_left
  ·cases oB
  cases oB;simp only [xf] at eG;obtain⟨⟨⟨b1,b2⟩,b3⟩,b4⟩:=eG;obtain rfl:=xb b1;obtain rfl:=xb b2;have eN:ks.length=nk:=by rw[<-eH];exact xb b3
  have TK:=xh b4;obtain⟨uI,lb,rows,left,seen,h1,h2,h3,h4,h5⟩:=g2.cont R _ l HU En;rcases h5 with⟨e,_⟩|⟨_,i,j,row,q1,q2,q3,q4⟩
  ·cases e
  obtain⟨ae,ck,Kb,r1,r2,r3,r4,r5⟩:=g2.cont B _ lb Mo h1;rw[h2] at r2;cases r2;have Tz:ds[y]? =some (.sl left):=by
   obtain⟨d,np,fJ⟩:=xr.1 (show(aK.d y).bind (fun x=>if x.cell then some x else none)=_ from h3);split at fJ<;>cases fJ
   rw[<-zd];exact np
  obtain⟨env,ds1,u1,u2,u3⟩:=bm7 left i Tz (xe.1 q2).1;obtain⟨kd,v,v1,v2,rfl⟩:=an9 u1;rw[q2] at v1;cases v1;have fH:j<ae.length:=by rw[<-r3.1];exact(xe.1 q1).1
  obtain⟨kd0,vs,v0,t1,t2,t3,t4,t5⟩:=r3.2 j _ _ q1 (xc fH);cases t1;have Ep:∀(i:Nat) (d:D),kd[i]? =some d->d.cell=true:=by
   have:∀(ks:JI) (kd:Di) (vs:C3),fc ks kd=some vs->∀(i:Nat) (d:D),kd[i]? =some d->d.cell=true:=by
    intro ks
    induction ks with
    |nil=>intro kd vs h i d hi;obtain⟨rfl,_⟩:=xV h;simp at hi
    |cons k ks ih=>
     intro kd vs h i d hi;obtain⟨m,a',sI,rfl,rfl,h1⟩:=xQ h;cases i with
     |zero=>simp at hi;subst hi;rfl
     |succ i=>grind
   exact this ks kd vs t2
  let δ:FM:=fun c=>(ds++(kd++[v,.sl (left.eraseIdx i)]))[c]?
  have Eh:∀(c:Nat) (d:D),aK.d c=some d->δ c=some d:=fun c d h=>by
   grind
  obtain⟨mo,By⟩:=g2.LX (δ:=δ) Eh (Q:=Q) (r:=[]) (fun nd h=>by cases h);rw[hEG] at mo;have ao:∀(t:Nat) (d:D),(kd++[v,.sl (left.eraseIdx i)])[t]? =some d->δ (m+t)=some d:=fun t d h=>by
   grind
  have Eo:kd.length=nk:=v2;have Lh:aH (iF δ) [.agg ⟨Bh nk m⟩,.chan (some (Nat.add m nk+1))]=some [.agg kd,v]:=by
   have e1:iF δ (.agg ⟨Bh nk m⟩)=some (.agg kd):=by
    show(aH (eE δ) (Bh nk m)).map D.agg=_;rw[Wr nk m kd Eo (fun i d hi=>⟨ao i d Ns,Ep i d hi⟩)];rfl
   have e2:iF δ (.chan (some (Nat.add m nk+1)))=some v:=by
    show(δ (m+nk)).bind _=_;rw[ao nk v Ns];show(if v.cell then some v else none)=some v;rw[t4];rfl
   unfold aH;rw[e1];unfold aH;rw[e2];rfl
  have by7:aX δ (.chan (some (Nat.add m (Nat.add nk 1)+1)))=some (.sl (left.eraseIdx i)):=by
   show(δ (m+(nk+1))).bind _=_;rw[ao (nk+1) _ (by rw[xq MK,show nk+1 - kd.length=1 by omega];rfl)];rfl
  have RE:(p.2.pop []).get R=_:=HU;have G1:=mo.write R l _ ⟨.pG B (.chan (some (x+1))) (.chan (some (Nat.add m (Nat.add nk 1)+1))) [.agg ⟨Bh nk m⟩,.chan (some (Nat.add m nk+1))],es,ex,false,ty⟩ RE En TK ⟨rfl,rfl,rfl,xk _,fun _ _ _=>rfl⟩ rfl (by
   refine⟨uI,lb,rows,left.eraseIdx i,seen++[j],q4,h1,mO Eh h2,by7,q3.symm,.inr ⟨seen,j,[.agg kd,v],rfl,q1,Lh⟩⟩)
  have Ay:({β with d:=δ}:ai).grow {aK with d:=δ} (T.aw k L []).next:=⟨g3.f,g3.z,g3.o,rfl,g3.x⟩;exact Oa ok hG hL jw Ez hb (g5.trans EB) G1 (bU.km By g1) Aa Ay kP g4 u2 rfl u3
 ·
  unfold Zf at fj;split at fj;rotate_left
  ·cases fj
  rename_i B c y es ex ty HU;rcases aC fj with⟨eG,fj⟩|⟨_,fj⟩;rotate_left
  ·cases fj
  cases fj;simp only [xf] at eG;obtain⟨b2,b4⟩:=eG;obtain rfl:=xb b2;have TK:=xh b4;obtain⟨uI,lb,rows,left,seen,h1,h2,h3,h4,h5⟩:=g2.cont R _ l HU En;rcases h5 with⟨_,aN,q4⟩|⟨e,_⟩;rotate_left
  ·cases e
  subst aN;have Tz:ds[y]? =some (.sl []):=by
   obtain⟨d,np,fJ⟩:=xr.1 (show(aK.d y).bind (fun x=>if x.cell then some x else none)=_ from h3);split at fJ<;>cases fJ
   rw[<-zd];exact np
  obtain⟨pq,u2,u3⟩:=uc Tz;obtain⟨mo,By⟩:=g2.LX (δ:=aK.d) (fun _ _ h=>h) (Q:=Q) (r:=[]) (fun nd h=>by cases h);rw[hEG] at mo;have RE:(p.2.pop []).get R=_:=HU;have G1:=mo.write R l _ ⟨.pG B c (.chan (some (y+1))) [],es,ex,false,ty⟩ RE En TK ⟨rfl,rfl,rfl,xk _,fun _ _ _=>rfl⟩ rfl (by
   refine⟨uI,lb,rows,[],seen,q4,h1,h2,h3,h4,.inl rfl⟩)
  have Ay:({β with d:=aK.d}:ai).grow {aK with d:=aK.d} (T.aw k L []).next:=⟨g3.f,g3.z,g3.o,rfl,g3.x⟩;have u2':aH (aX aK.d) gC=some pq:=by rw[show aK.d=fun c=>ds[c]? from funext zd];exact u2
  exact Oa ok hG hL bM Ez hb (g5.trans EB) G1 (bU.km By g1) Aa Ay kP g4 u2' rfl u3
end
inductive DT where
 |op (k:NK) (args:C3) (t:DT)
 |aQ (k:NK) (args:C3) (cR:List (Option xM)) (t e:DT)
 |br (k:NK) (args:C3) (t e:DT)
 |sw (k:NK) (args:C3) (v:xM) (t e:DT)
 |note (nd:Node) (t:DT)
 |call (f i:Nat) (us:C3) (cR:List (Option xM)) (t e:DT)
 |jump (h m:Nat) (ρ:Es) (aM us:C3)
 |ret (ρ:Es) (aM us:C3)
 |stop
 |pick (nk a ti h1 h2:Nat) (lg:Es) (mi cZ:C3) (k9:Es) (mh gC:C3)
abbrev cd(n:Nat):xM:= .chan (some (n+1))
def rY(n:Nat):List (Option xM)->List xM
 |[]=>[]
 |none::l=>cd n::rY (n+1) l
 |some v::l=>v::rY (n+1) l
def yk(d:D)(v:xM):Bool:=match d,v with| .bool b,.bool b'=>b==b'| .int k n,.int k' n'=>decide (k=k'/\n=n')|_,_=>false
abbrev tt:JJ:=some (.bool true)
abbrev ff:JJ:=some (.bool false)
abbrev no:JJ:=none
def jc:List (Option xM)->List D->Bool
 |[],[]=>true
 |none::l,d::ds=>d.cell&&jc l ds
 |some v::l,d::ds=>yk d v&&jc l ds
 |_,_=>false
def lk(env:Di):FM:=fun c=>env[c]?
def Qc(nk:Nat)(g:List D->Option (List D))(env:Di)(left:Ca):Option (List D):=by
 classical
 exact match(qa nk env left 0).bind g with
 |some ah=>if∀i,i<left.length->(qa nk env left i).bind g=some ah then some ah else none
 |none=>none
theorem zA{g:List D->Option (List D)}{ah:Di}:left≠[]->(Qc nk g env left=some ah↔∀i,i<left.length->(qa nk env left i).bind g=some ah):=fun bo=>by
 have h0:0<left.length:=List.length_pos_iff.2 bo;unfold Qc
 grind
def bJ(call:Bv)(jump:Bv):DT->List D->Option (List D)
 | .op k args t,env=>(aH (bR (lk env)) args).bind fun ds=>(aF k ds).bind fun d=>if d.cell=true then bJ call jump t (env++[d]) else none
 | .aQ k args cR t e,env=>(aH (bR (lk env)) args).bind fun ds=>match aF k ds with
  |some (.agg l)=>if jc cR l=true then bJ call jump t (env++l) else bJ call jump e env
  |_=>none
 | .br k args t e,env=>(aH (bR (lk env)) args).bind fun ds=>match aF k ds with
  |some (.bool true)=>bJ call jump t env
  |some (.bool false)=>bJ call jump e env
  |_=>none
 | .sw k args v t e,env=>(aH (bR (lk env)) args).bind fun ds=>match aF k ds with
  |some d=>if yk d v=true then bJ call jump t env else bJ call jump e env
  |none=>none
 | .note _ t,env=>bJ call jump t env
 | .call _ i us cR t e,env=>(aH (aX (lk env)) us).bind fun ds=>(call i ds).bind fun cA=>if jc cR cA=true then bJ call jump t (env++cA) else bJ call jump e env
 | .jump h _ _ _ us,env=>(aH (aX (lk env)) us).bind (jump h)
 | .ret _ _ us,env=>aH (aX (lk env)) us
 | .stop,_=>none
 | .pick nk a _ h1 h2 _ _ cZ _ _ gC,env=>match lk env a with
  |some (.sl left)=>if left=[] then(aH (aX (lk env)) gC).bind (jump h2) else Qc nk (fun e=>(aH (aX (lk e)) cZ).bind (jump h1)) env left
  |_=>none
inductive RT where
 |lf (x:MJ)
 |bn (a b:RT)
section
variable(ph:List Node->Nat->Nat->List Nat->List xM->List xM->Option (List (List Item)))(ret:List Node->List Nat->List xM->List xM->MJ)(pk:List Node->Nat->Nat->Nat->Nat->Nat->Nat->List Nat->List xM->List xM->List Nat->List xM->List xM->MJ)
def dY(x:α):α:=x
def tV(l:List Node)(r:List Node):List Node:=List.rec (motive:=fun _=>List Node->List Node) (fun r=>r) (fun x _ ih r=>dY (ih (x::r))) l r
def qi(t:DT):Nat->List Node->RT:=
 DT.rec (motive:=fun _=>Nat->List Node->RT)
  (fun k args _ ih n bI=>CU n fun n=>ih (Nat.succ n) (⟨k,args,cd n⟩::bI))
  (fun k args cR _ _ kw dO n bI=> .bn (kw (Nat.add n (bT cR)) (⟨k,args,.agg ⟨rY n cR⟩⟩::bI)) (dO n bI))
  (fun k args _ _ kw dO n bI=> .bn (kw n (⟨k,args,.bool true⟩::bI)) (dO n (⟨k,args,.bool false⟩::bI)))
  (fun k args v _ _ kw dO n bI=> .bn (kw n (⟨k,args,v⟩::bI)) (dO n bI))
  (fun nd _ ih n bI=>ih n (nd::bI))
  (fun f i us cR _ _ kw dO n bI=> .bn (kw (Nat.add n (bT cR)) (⟨.sf f i,us,.tuple ⟨rY n cR⟩⟩::bI)) (dO n bI))
  (fun h m ρ aM us _ bI=> .lf (ph (tV bI []) h m ρ aM us))
  (fun ρ aM us _ bI=> .lf (ret (tV bI []) ρ aM us))
  (fun _ _=> .lf none)
  (fun nk a ti h1 h2 lg mi cZ k9 mh gC n bI=> .lf (pk (tV bI []) n nk a ti h1 h2 lg mi cZ k9 mh gC)) t
def qm(td:Nat->List Item)(t:DT):RT:=
 DT.rec (motive:=fun _=>RT)
  (fun _ _ _ ih=>dY ih) (fun _ _ _ _ _ a b=> .bn a b) (fun _ _ _ _ a b=> .bn a b) (fun _ _ _ _ _ a b=> .bn a b) (fun _ _ ih=>ih) (fun _ _ _ _ _ _ a b=> .bn a b) (fun h _ _ _ _=> .lf (some [td h])) (fun _ _ _=> .lf (some [[]])) (.lf none) (fun _ _ _ h1 h2 _ _ _ _ _ _=> .lf (some [td h1,td h2])) t
end
theorem Je:∀(l r:List Node),tV l r=l.reverse++r
 |[],r=>rfl
 |x::l,r=>by show tV l (x::r)=_;rw[Je l (x::r)];simp
def FU(k:NK):Bool:=match k with| .call _=>false| .sf _ _=>false| .lV _=>false| .own _=>false|_=>true
def mb(S:List (Nat×ia)):DT->Bool
 | .op k _ t=>FU k&&mb S t
 | .aQ k _ _ t e=>FU k&& (mb S t&&mb S e)
 | .br k _ t e=>FU k&& (mb S t&&mb S e)
 | .sw k _ _ t e=>FU k&& (mb S t&&mb S e)
 | .note nd t=>(match nd.k with| .own _=>true|_=>false)&&mb S t
 | .call f i _ _ t e=>(match S[i]? with|some (f',_)=>f==f'|none=>false)&& (mb S t&&mb S e)
 |_=>true
theorem bY.km{lh:FM}(h:∀(c:Nat) (d:D),δ c=some d->lh c=some d)(hq:bY δ nd):bY lh nd:=by
 unfold bY at*;split at hq<;>first|trivial|exact hq.imp fun ds hq=>hq.imp fun d ⟨a,b,c⟩=>⟨rJ (fun v d=>M8 h) a,U2 h b,c⟩
def NQ(P:Program)(LL:World->Prop)(k:Nat)(L:Gy)(S:List (Nat×ia))(δ:FM)(nd:Node):Prop:=
 bY δ nd/\∀g i,nd.k= .sf g i->J4 P LL k L S δ nd
theorem NQ.km{k:Nat}{S:List (Nat×ia)}{lh:FM}(h:∀(c:Nat) (d:D),δ c=some d->lh c=some d)(hq:NQ P LL k L S δ nd):NQ P LL k L S lh nd:=by
 refine⟨hq.1.km h,fun g i hk=> ?_⟩;have:=hq.2 g i hk;unfold J4 at*;split at this
 ·obtain⟨sg,ds,cA,q1,q2,q3,q4⟩:=this;exact⟨sg,ds,cA,q1,rJ (fun v d=>mO h) q2,rJ (fun v d=>MZ h) q3,q4⟩
 ·exact this.elim
theorem u7(env l:Di)(c:Nat)(d:D)(h:lk env c=some d):lk (env++l) c=some d:=by
 grind [lk,xw,xe]
theorem Ps(env l:Di)(i:Nat)(d:D)(h:l[i]? =some d):lk (env++l) (env.length+i)=some d:=by
 unfold lk
 grind
theorem W4(h:δ n=some d)(hc:d.cell=true):eE δ (cd n)=some d:=by
 show(δ n).bind _=_
 grind
theorem av0{v:xM}(h:yk d v=true)(δ:FM):eE δ v=some d:=by
 unfold yk at h;split at h
 ·rename_i a b;obtain rfl:a=b:=by simpa using h
  rfl
 ·obtain⟨rfl,rfl⟩:=of_decide_eq_true h;rfl
 ·cases h
theorem ar1{v:xM}(h:yk d v=true)(δ:FM):iF δ v=some d:=by
 unfold yk at h;split at h
 ·rename_i a b;obtain rfl:a=b:=by simpa using h
  rfl
 ·obtain⟨rfl,rfl⟩:=of_decide_eq_true h;rfl
 ·cases h
theorem Iw{env:Di}:∀{cR:List (Option xM)} {ds pre:Di} {δ:FM},jc cR ds=true->(∀(i:Nat) (d:D),ds[i]? =some d->δ (pre.length+i)=some d)->aH (eE δ) (rY pre.length cR)=some ds
 |[],[],_,_,_,_=>rfl
 |[],_::_,_,_,h,_=>by simp[jc] at h
 |none::l,[],_,_,h,_=>by simp[jc] at h
 |none::l,d::ds,pre,δ,h,hd=>by
  unfold jc at h;rw[xf] at h;have ih:=Iw (env:=env) (pre:=pre++[d]) (δ:=δ) h.2 (fun i x hx=>by
   have:=hd (i+1) x Ns
   grind)
  rw[xa] at ih;have h0:=hd 0 d rfl;show(match eE δ (cd pre.length),aH (eE δ) (rY (pre.length+1) l) with|some x,some r=>some (x::r)|_,_=>none)=_;rw[W4 h0 h.1]
  grind
 |some b::l,[],_,_,h,_=>by simp[jc] at h
 |some b::l,d::ds,pre,δ,h,hd=>by
  unfold jc at h;rw[xf] at h;have ih:=Iw (env:=env) (pre:=pre++[d]) (δ:=δ) h.2 (fun i x hx=>by
   have:=hd (i+1) x Ns
   grind)
  rw[xa] at ih;have ih':aH (eE δ) (rY (pre.length+1) l)=some ds:=ih;show(match eE δ b,aH (eE δ) (rY (pre.length+1) l) with|some x,some r=>some (x::r)|_,_=>none)=_;rw[ih',av0 h.1]
theorem U5:∀(cR:List (Option xM)) (ds:Di),jc cR ds=true->ds.length=cR.length:=by
 intro cR
 induction cR with
 |nil=>grind [jc]
 |cons a cR ih=>
  intro ds h;cases ds with
  |nil=>grind [jc]
  |cons d ds=>
   cases a with
   |none=>unfold jc at h;grind
   |some b=>unfold jc at h;grind
theorem NQ.plain{kk:Nat}{S:List (Nat×ia)}{r:xM}(hk:FU k=true)(h1:aH (bR δ) args=some ds)(h2:iF δ r=some d)(h3:aF k ds=some d):NQ P LL kk L S δ ⟨k,args,r⟩:=by
 refine⟨?_,fun g i e=> ?_⟩
 ·grind [bY]
 ·have e:k= .sf g i:=e;subst e;cases hk
theorem rI{P:Program}{LL:World->Prop}{kk:Nat}{L:Gy}{S:List (Nat×ia)}{call jump:Bv}(nH:∀(i:Nat) (ds cA:Di) (f:Nat) (sg:ia),call i ds=some cA->S[i]? =some (f,sg)->zy P LL kk L f sg ds cA)
 {ph:List Node->Nat->Nat->List Nat->List xM->List xM->Option (List (List Item))} {ret:List Node->List Nat->List xM->List xM->MJ} {pk:List Node->Nat->Nat->Nat->Nat->Nat->Nat->List Nat->List xM->List xM->List Nat->List xM->List xM->MJ} {td:Nat->List Item} {ah:Di}:
 ∀(t:DT) (env:Di) (bI:List Node),mb S t=true->qi ph ret pk t env.length bI=qm td t->(∀nd∈bI,NQ P LL kk L S (lk env) nd)->bJ call jump t env=some ah->
  ∃(tape:List Node) (lM:Di),(∀(c:Nat) (d:D),lk env c=some d->lk lM c=some d)/\(∀nd∈tape,NQ P LL kk L S (lk lM) nd)/\
   ((∃h m ρ aM us cA,ph tape h m ρ aM us=some [td h]/\aH (aX (lk lM)) us=some cA/\jump h cA=some ah)\/(∃ρ aM us,ret tape ρ aM us=some [[]]/\aH (aX (lk lM)) us=some ah)\/∃nk a ti h1 h2 lg mi cZ k9 mh gC,pk tape lM.length nk a ti h1 h2 lg mi cZ k9 mh gC=some [td h1,td h2]/\bJ call jump (.pick nk a ti h1 h2 lg mi cZ k9 mh gC) lM=some ah)
 | .op k args t,env,bI,hn,hr,ha,he=>by
  unfold mb at hn;rw[xf] at hn;unfold bJ at he;obtain⟨ds,h1,he⟩:=xr.1 he;obtain⟨d,h2,he⟩:=xr.1 he;split at he
  ·rename_i hc;have aE:(env++[d]).length=Nat.succ env.length:=by rw[xa];rfl
   have gp:CU env.length (fun n=>qi ph ret pk t (Nat.succ n) (⟨k,args,cd n⟩::bI))=qm td t:=hr;have cF:qi ph ret pk t (Nat.succ env.length) (⟨k,args,cd env.length⟩::bI)=qm td t:=by rw[IJ] at gp;exact gp
   rw[<-aE] at cF;obtain⟨tape,lM,g1,g2,g3⟩:=rI nH t (env++[d]) _ hn.2 cF (fun nd dw=>by
    rcases xG.1 dw with rfl|dw
    ·exact NQ.plain hn.1 (rJ (fun v d=>M8 (u7 env [_])) h1) (W4 (Ps env [d] 0 d rfl) hc) h2
    ·exact(ha nd dw).km (u7 env [d])) he
   exact⟨tape,lM,fun c x h=>g1 c x (u7 env [d] c x h),g2,g3⟩
  ·cases he
 | .aQ k args cR t e,env,bI,hn,hr,ha,he=>by
  unfold mb at hn;rw[xf,xf] at hn;unfold bJ at he;obtain⟨ds,h1,he⟩:=xr.1 he;have cF:RT.bn (qi ph ret pk t (Nat.add env.length (bT cR)) (⟨k,args,.agg ⟨rY env.length cR⟩⟩::bI)) (qi ph ret pk e env.length bI)=RT.bn (qm td t) (qm td e):=hr;injection cF with r1 r2;split at he
  ·rename_i l h2;split at he
   ·rename_i hm;have aE:(env++l).length=Nat.add env.length (bT cR):=by rw[xa,U5 _ _ hm,eH];rfl
    rw[<-aE] at r1;obtain⟨tape,lM,g1,g2,g3⟩:=rI nH t (env++l) _ hn.2.1 r1 (fun nd dw=>by
     rcases xG.1 dw with rfl|dw
     ·refine NQ.plain hn.1 (rJ (fun v d=>M8 (u7 env l)) h1) ?_ h2;show(aH (eE (lk (env++l))) (rY env.length cR)).map D.agg=some (D.agg l);rw[Iw (env:=env) (pre:=env) hm (fun i d hd=>Ps env l i d hd)];rfl
     ·exact(ha nd dw).km (u7 env l)) he
    exact⟨tape,lM,fun c x h=>g1 c x (u7 env l c x h),g2,g3⟩
   ·exact rI nH e env bI hn.2.2 r2 ha he
  ·cases he
 | .br k args t e,env,bI,hn,hr,ha,he=>by
  unfold mb at hn;rw[xf,xf] at hn;unfold bJ at he;obtain⟨ds,h1,he⟩:=xr.1 he;have cF:RT.bn (qi ph ret pk t env.length (⟨k,args,.bool true⟩::bI)) (qi ph ret pk e env.length (⟨k,args,.bool false⟩::bI))=RT.bn (qm td t) (qm td e):=hr;injection cF with r1 r2;split at he
  ·rename_i h2;exact rI nH t env _ hn.2.1 r1 (fun nd dw=>by
    rcases xG.1 dw with rfl|dw
    ·exact NQ.plain hn.1 h1 rfl h2
    grind) he
  ·rename_i h2;exact rI nH e env _ hn.2.2 r2 (fun nd dw=>by
    rcases xG.1 dw with rfl|dw
    ·exact NQ.plain hn.1 h1 rfl h2
    grind) he
  ·cases he
 | .sw k args v t e,env,bI,hn,hr,ha,he=>by
  unfold mb at hn;rw[xf,xf] at hn;unfold bJ at he;obtain⟨ds,h1,he⟩:=xr.1 he;have cF:RT.bn (qi ph ret pk t env.length (⟨k,args,v⟩::bI)) (qi ph ret pk e env.length bI)=RT.bn (qm td t) (qm td e):=hr;injection cF with r1 r2;split at he
  ·rename_i d h2;split at he
   ·rename_i hv;exact rI nH t env _ hn.2.1 r1 (fun nd dw=>by
     rcases xG.1 dw with rfl|dw
     ·grind [NQ.plain,ar1]
     grind) he
   ·exact rI nH e env bI hn.2.2 r2 ha he
  ·cases he
 | .note rz t,env,bI,hn,hr,ha,he=>by
  unfold mb at hn;rw[xf] at hn;unfold bJ at he;exact rI nH t env (rz::bI) hn.2 hr (fun nd dw=>by
   rcases xG.1 dw with rfl|dw
   ·have h1:=hn.1;split at h1
    ·rename_i x hk;refine⟨by grind [bY,hk],fun g i e=>Ns⟩
    ·cases h1
   grind) he
 | .call f i us cR t e,env,bI,hn,hr,ha,he=>by
  unfold mb at hn;rw[xf,xf] at hn;unfold bJ at he;obtain⟨ds,h1,he⟩:=xr.1 he;obtain⟨cA,h2,he⟩:=xr.1 he;have cF:RT.bn (qi ph ret pk t (Nat.add env.length (bT cR)) (⟨.sf f i,us,.tuple ⟨rY env.length cR⟩⟩::bI)) (qi ph ret pk e env.length bI)=RT.bn (qm td t) (qm td e):=hr;injection cF with r1 r2;split at he
  ·rename_i hm;have uE:cA.length=cR.length:=U5 _ _ hm;have aE:(env++cA).length=Nat.add env.length (bT cR):=by rw[xa,uE,eH];rfl
   rw[<-aE] at r1;obtain⟨tape,lM,g1,g2,g3⟩:=rI nH t (env++cA) _ hn.2.1 r1 (fun nd dw=>by
    rcases xG.1 dw with rfl|dw
    ·refine⟨trivial,fun g j e=> ?_⟩;cases e;have h0:=hn.1;split at h0
     ·rename_i f' sg hS;have ef:f=f':=by simpa using h0
      subst ef;exact⟨sg,ds,cA,hS,rJ (fun v d=>mO (u7 env cA)) h1,Iw (env:=env) (pre:=env) hm (fun i d hd=>Ps env cA i d hd),nH i ds cA f sg h2 hS⟩
     ·cases h0
    ·exact(ha nd dw).km (u7 env cA)) he
   exact⟨tape,lM,fun c d h=>g1 c d (u7 env cA c d h),g2,g3⟩
  ·exact rI nH e env bI hn.2.2 r2 ha he
 | .jump h m ρ aM us,env,bI,hn,hr,ha,he=>by
  unfold bJ at he;obtain⟨cA,h1,h2⟩:=xr.1 he;have cF:RT.lf (ph (tV bI []) h m ρ aM us)=RT.lf (some [td h]):=hr;injection cF with r1;refine⟨_,env,fun _ _ h=>h,fun nd dw=>ha nd ?_,.inl ⟨h,m,ρ,aM,us,cA,r1,h1,h2⟩⟩
  grind [Je]
 | .ret ρ aM us,env,bI,hn,hr,ha,he=>by
  unfold bJ at he;have cF:RT.lf (ret (tV bI []) ρ aM us)=RT.lf (some [[]]):=hr;injection cF with r1;refine⟨_,env,fun _ _ h=>h,fun nd dw=>ha nd ?_,.inr (.inl ⟨ρ,aM,us,r1,he⟩)⟩
  grind [Je]
 | .stop,env,bI,hn,hr,ha,he=>by
  grind [bJ]
 | .pick nk a ti h1 h2 lg mi cZ k9 mh gC,env,bI,hn,hr,ha,he=>by
  have cF:RT.lf (pk (tV bI []) env.length nk a ti h1 h2 lg mi cZ k9 mh gC)=RT.lf (some [td h1,td h2]):=hr;injection cF with r1;refine⟨_,env,fun _ _ h=>h,fun nd dw=>ha nd ?_,.inr (.inr ⟨nk,a,ti,h1,h2,lg,mi,cZ,k9,mh,gC,r1,he⟩)⟩
  grind [Je]
structure Hd where
 td:List Item
 T:jV
 m:Nat
structure FD where
 f:FuncId
 n:Nat
 K:Nat
 rs:List ResultVar
 sg:ia
 hs:List Hd
 qP:List DT
def exec(F:List FD)(X:Bv):Nat->Nat->Bv
 |0,_,_,_=>none
 |n+1,i,h,ds=>match F[i]? with
  |none=>X i ds
  |some fd=>match fd.hs[h]?,fd.qP[h]? with
   |some s,some t=>if ds.length=s.m then bJ (fun j ds=>exec F X n j 0 ds) (fun h' ds=>exec F X n i h' ds) t ds else none
   |_,_=>none
section
variable(E:az)(sq:Cf)(call:eL->C3->AW->bp xM)(bO:Nat->List Oper->Fr->AW->bp Fr)(aT k:Nat)(L:Gy)
def Rq(fd:FD)(s:Hd)(tape:List Node)(h m:Nat)(ρ:Es)(aM us:C3):MJ:=
 match dM fd.hs h with
 |some s'=>tU E sq call fd.n (bO fd.n) Zb (vP L s'.T fd.sg.nob ρ aM us) aT m s.td (oJ fd.K s.T.tm) (s.T.aw k L tape)
 |none=>none
def ab4(fd:FD)(s:Hd)(tape:List Node)(ρ:Es)(aM us:C3):MJ:=
 tU E sq call fd.n (bO fd.n) (RS E fd.rs L fd.sg ρ aM us) Zc aT 0 s.td (oJ fd.K s.T.tm) (s.T.aw k L tape)
def Qb(fd:FD)(s:Hd)(tape:List Node)(n nk a ti h1 h2:Nat)(lg:Es)(mi cZ:C3)(k9:Es)(mh gC:C3):MJ:=
 match tape with
 |[]=>bs (Nat.beq n s.m) (match dM fd.hs h1,dM fd.hs h2 with
  |some s1,some s2=>Qa E sq call fd.n fd.K k L s.T s1.T s2.T fd.sg.nob s.m nk a ti lg k9 mi cZ mh gC s.td
  |_,_=>none) none
 |_::_=>none
def LP(fd:FD)(h:Nat):List Item:=match dM fd.hs h with|some s=>s.td|none=>[]
def KR(S:List (Nat×ia))(fd:FD)(s:Hd)(t:DT):Prop:=
 mb S t=true/\fd.sg.nob<=s.T.hp.length/\qi (Rq E sq call bO aT k L fd s) (ab4 E sq call bO aT k L fd s) (Qb E sq call k L fd s) t s.m []=qm (LP fd) t
structure FOk (P:Program) (S:List (Nat×ia)) (fd:FD):Prop where
 fn:∃fn c,P.funcs[fd.f]? =some fn/\fn.body=some c/\fn.ntmps=fd.n/\fn.results=⟨fd.rs⟩/\∃m,fd.hs[0]? =some ⟨[.code c],⟨vS fd.sg.args,fd.sg.hp⟩,m⟩
 len:fd.sg.args.length<=fd.n
 lV:∀(h:Nat) (s:Hd) (t:DT),fd.hs[h]? =some s->fd.qP[h]? =some t->KR E sq call bO aT k L S fd s t
end
theorem aM5{sq:Cf}{call:eL->C3->AW->bp xM}{bO:Nat->List Oper->Fr->AW->bp Fr}{aT k:Nat}{S:List (Nat×ia)}{fd:FD}(n:Nat)(hl:fd.hs.length=n)(h:∀h,h<n->KR E sq call bO aT k L S fd (fd.hs.getD h ⟨[],⟨[],[]⟩,0⟩) (fd.qP.getD h .stop)):
 ∀(h:Nat) (s:Hd) (t:DT),fd.hs[h]? =some s->fd.qP[h]? =some t->KR E sq call bO aT k L S fd s t:=fun i s t hs ht=>by
 grind
section
variable{sq:Cf}(ok:E.Ok P)(aU:E.Seq P sq){k:Nat}{S:List (Nat×ia)}(hG:E.G=⟨L.length,NQ P LL k L S,LL⟩)(hL:AK L)
include ok aU hG hL in
theorem FF{call:eL->C3->AW->bp xM}(hc:mc P E call){bO:Nat->List Oper->Fr->AW->bp Fr}(j7:∀n,tK P E n (bO n)){aT:Nat}{F:List FD}{X:Bv}
 (hF:∀(i:Nat) (fd:FD),F[i]? =some fd->FOk E sq call bO aT k L P S fd/\S[i]? =some (fd.f,fd.sg)) (hX:∀(i:Nat) (ds cA:Di) (f:Nat) (sg:ia),X i ds=some cA->S[i]? =some (f,sg)->zy P LL k L f sg ds cA):
 ∀(n i:Nat),(∀(h:Nat) (ds ah:Di),exec F X n i h ds=some ah->∀(fd:FD),F[i]? =some fd->∀(s:Hd),fd.hs[h]? =some s->uh P E fd.f fd.n fd.K k L fd.sg s.td s.T ds ah)/\
  ∀(ds ah:Di) (f:Nat) (sg:ia),exec F X n i 0 ds=some ah->S[i]? =some (f,sg)->zy P LL k L f sg ds ah
 |0,i=>⟨fun h ds ah e=>(by grind [exec]),fun ds ah f sg e=>(by grind [exec])⟩
 |n+1,i=>by
  have key:∀(h:Nat) (ds ah:Di),exec F X (n+1) i h ds=some ah->∀(fd:FD),F[i]? =some fd->∀(s:Hd),fd.hs[h]? =some s->uh P E fd.f fd.n fd.K k L fd.sg s.td s.T ds ah:=by
   intro h ds ah e fd mK s hs;unfold exec at e;rw[mK] at e;simp only at e;rw[hs] at e;split at e
   ·rename_i s' t jZ ht;cases jZ;split at e
    ·rename_i hm;obtain⟨If,hS⟩:=hF i fd mK;obtain⟨h1,h2,h3⟩:=If.lV h s t hs ht;rw[<-hm] at h3;obtain⟨tape,lM,g1,g2,g3⟩:=rI (P:=P) (LL:=LL) (kk:=k) (L:=L) (S:=S) (fun j ds cA f sg hj hSj=>(FF hc j7 hF hX n j).2 ds cA f sg hj hSj) t ds [] h1 h3 (fun nd dw=>by cases dw) e;obtain⟨fn,c,f1,f2,f3,f4,f5⟩:=If.fn;rcases g3 with⟨h',m,ρ,aM,us,cA,r1,r2,r3⟩|⟨ρ,aM,us,r1,r2⟩|⟨nk,a,ti,qN,TT,lg,mi,cZ,k9,mh,gC,r1,r2⟩
     ·unfold Rq LP at r1;rw[gg] at r1;cases hh:fd.hs[h']? with
      |none=>grind
      |some s2=>
       rw[hh] at r1;exact aw6 ok aU hG hL hc (j7 fd.n) r1 (fun o ho=>xy.1 ho) h2 (δ:=lk lM) (fun c d h=>g1 c d h) (fun nd dw=>g2 nd dw) r2 ((FF hc j7 hF hX n i).1 h' cA ah r3 fd mK s2 hh)
     ·exact aD3 ok aU hG hL hc (j7 fd.n) f1 f4 r1 h2 (δ:=lk lM) (fun c d h=>g1 c d h) (fun nd dw=>g2 nd dw) r2
     ·unfold Qb LP at r1;split at r1;rotate_left
      ·cases r1
      rcases aC r1 with⟨hb,r1⟩|⟨_,r1⟩;rotate_left
      ·cases r1
      have hl:=xb hb;have bA2:lM=ds:=by
       refine List.ext_getElem? fun c=> ?_
       by_cases hc:c<ds.length
       ·have h0:=xc hc;rw[h0];exact g1 c _ h0
       ·grind
      subst bA2;split at r1;rotate_left
      ·cases r1
      rename_i s1 s2 dA cJ;rw[dA,cJ] at r1;rw[gg] at dA cJ;unfold bJ at r2;split at r2;rotate_left
      ·cases r2
      rename_i left Aw;have YE:lM[a]? =some (.sl left):=Aw;refine aw5 ok aU hG hL hc r1 h2 hl (fun he=> ?_) (fun kn j he hi=> ?_)
      ·rw[YE] at he;cases he;rw[if_pos rfl] at r2;obtain⟨pq,e1,e2⟩:=xr.1 r2;exact⟨pq,e1,(FF hc j7 hF hX n i).1 TT pq ah e2 fd mK s2 cJ⟩
      ·rw[YE] at he;cases he;have bo:left≠[]:=fun e=>Ns
       rw[if_neg bo] at r2;have fS:=(zA bo).1 r2 j hi;obtain⟨bD0,e1,e2⟩:=xr.1 fS;obtain⟨ds1,e3,e4⟩:=xr.1 e2;exact⟨bD0,ds1,e1,e3,(FF hc j7 hF hX n i).1 qN ds1 ah e4 fd mK s1 dA⟩
    ·cases e
   ·cases e
  refine⟨key,fun ds ah f sg e hS=> ?_⟩;cases mK:F[i]? with
  |none=>
   grind [exec]
  |some fd=>
   obtain⟨If,TI⟩:=hF i fd mK
   grind [au1,If.fn,If.len]
end
theorem p8{c c' j j':Bv}(hc:∀i ds o,c i ds=some o->c' i ds=some o)(hj:∀i ds o,j i ds=some o->j' i ds=some o):
 ∀(t:DT) (env o:Di),bJ c j t env=some o->bJ c' j' t env=some o
 | .op k args t,env,o,h=>by
  unfold bJ at h⊢;obtain⟨ds,h1,h⟩:=xr.1 h;obtain⟨d,h2,h⟩:=xr.1 h;rw[h1,xB,h2,xB];split at h
  ·rename_i mL;rw[if_pos mL];exact p8 hc hj t _ _ h
  ·cases h
 | .aQ k args cR t e,env,o,h=>by
  unfold bJ at h⊢;obtain⟨ds,h1,h⟩:=xr.1 h;rw[h1,xB];split at h
  ·rename_i l h2
   try rw[h2]
   split at h
   ·rename_i hm;simp only [if_pos hm];exact p8 hc hj t _ _ h
   ·rename_i hm;simp only [if_neg hm];exact p8 hc hj e _ _ h
  ·cases h
 | .br k args t e,env,o,h=>by
  unfold bJ at h⊢;obtain⟨ds,h1,h⟩:=xr.1 h;rw[h1,xB];split at h
  ·rename_i h2;try rw[h2]
   exact p8 hc hj t _ _ h
  ·rename_i h2;try rw[h2]
   exact p8 hc hj e _ _ h
  ·cases h
 | .sw k args v t e,env,o,h=>by
  unfold bJ at h⊢;obtain⟨ds,h1,h⟩:=xr.1 h;rw[h1,xB];cases h2:aF k ds with
  |none=>rw[h2] at h;cases h
  |some d=>
   rw[h2] at h;simp only at h⊢;split at h
   ·rename_i hv;rw[if_pos hv];exact p8 hc hj t _ _ h
   ·rename_i hv;rw[if_neg hv];exact p8 hc hj e _ _ h
 | .note nd t,env,o,h=>by
  unfold bJ at h⊢;exact p8 hc hj t _ _ h
 | .call f i us cR t e,env,o,h=>by
  unfold bJ at h⊢;obtain⟨ds,h1,h⟩:=xr.1 h;obtain⟨cA,h2,h⟩:=xr.1 h;rw[h1,xB,hc _ _ _ h2,xB];split at h
  ·rename_i hm;rw[if_pos hm];exact p8 hc hj t _ _ h
  ·rename_i hm;rw[if_neg hm];exact p8 hc hj e _ _ h
 | .jump h' m ρ aM us,env,o,h=>by
  unfold bJ at h⊢;obtain⟨ds,h1,h⟩:=xr.1 h;rw[h1,xB];exact hj _ _ _ h
 | .ret ρ aM us,env,o,h=>by
  unfold bJ at h⊢;exact h
 | .stop,env,o,h=>by
  unfold bJ at h;cases h
 | .pick nk a ti h1 h2 lg mi cZ k9 mh gC,env,o,h=>by
  unfold bJ at h⊢;split at h
  ·rename_i left hl
   try simp only [hl]
   split at h
   ·rename_i he;rw[if_pos he];obtain⟨ds,h3,h4⟩:=xr.1 h;rw[h3,xB];exact hj _ _ _ h4
   ·rename_i he;rw[if_neg he,zA he];intro i hi;obtain⟨e,q1,q2⟩:=xr.1 ((zA he).1 h i hi);obtain⟨ds,h3,h4⟩:=xr.1 q2;rw[q1,xB,h3,xB];exact hj _ _ _ h4
  ·cases h
section
variable(F:List FD)(X:Bv)
theorem ay9:∀(i h:Nat) (ds o:Di),exec F X n i h ds=some o->exec F X (n+1) i h ds=some o:=by
 induction n with
 |zero=>intro i h ds o e;unfold exec at e;cases e
 |succ n ih=>
  intro i h ds o e;unfold exec at e⊢;cases hi:F[i]? with
  |none=>rw[hi] at e;exact e
  |some fd=>
   rw[hi] at e;simp only at e⊢;cases hs:fd.hs[h]? with
   |none=>rw[hs] at e;cases e
   |some s=>
    cases ht:fd.qP[h]? with
    |none=>rw[hs,ht] at e;cases e
    |some t=>
     rw[hs,ht] at e;simp only at e⊢;split at e
     ·rename_i hm;rw[if_pos hm];exact p8 (fun j ds o h=>ih j 0 ds o h) (fun j ds o h=>ih i j ds o h) t ds o e
     ·cases e
theorem xR(iZ:n<=m){i:Nat}(e:exec F X n i h ds=some o):exec F X m i h ds=some o:=by
 induction iZ with
 |refl=>exact e
 |step _ ih=>exact ay9 F X _ _ _ _ ih
def run(i h:Nat)(ds:Di):Option (List D):=by
 classical
 exact if hh:∃n o,exec F X n i h ds=some o then some hh.choose_spec.choose else none
theorem zS{i:Nat}:run F X i h ds=some o↔∃n,exec F X n i h ds=some o:=by
 unfold run;constructor
 ·intro e;split at e
  ·rename_i hh;cases e;exact⟨hh.choose,hh.choose_spec.choose_spec⟩
  ·cases e
 ·rintro⟨n,e⟩;have hh:∃n o,exec F X n i h ds=some o:=⟨n,o,e⟩;rw[dif_pos hh];have h1:=xR F X (Nat.le_max_left hh.choose n) hh.choose_spec.choose_spec;have h2:=xR F X (Nat.le_max_right hh.choose n) e;exact h1.symm.trans h2
theorem rH(i:Nat):∀(t:DT) (env o:Di),bJ (fun j ds=>run F X j 0 ds) (fun h ds=>run F X i h ds) t env=some o->∃n,bJ (fun j ds=>exec F X n j 0 ds) (fun h ds=>exec F X n i h ds) t env=some o
 | .op k args t,env,o,h=>by
  unfold bJ at h;obtain⟨ds,h1,h⟩:=xr.1 h;obtain⟨d,h2,h⟩:=xr.1 h;split at h
  ·rename_i hc;obtain⟨n,hn⟩:=rH i t _ _ h;refine⟨n,?_⟩;unfold bJ;rw[h1,xB,h2,xB,if_pos hc];exact hn
  ·cases h
 | .aQ k args cR t e,env,o,h=>by
  unfold bJ at h;obtain⟨ds,h1,h⟩:=xr.1 h;split at h
  ·rename_i l h2;split at h
   ·rename_i hm;obtain⟨n,hn⟩:=rH i t _ _ h;refine⟨n,?_⟩;unfold bJ;rw[h1,xB,h2];simp only [if_pos hm];exact hn
   ·rename_i hm;obtain⟨n,hn⟩:=rH i e _ _ h;refine⟨n,?_⟩;unfold bJ;rw[h1,xB,h2];simp only [if_neg hm];exact hn
  ·cases h
 | .br k args t e,env,o,h=>by
  unfold bJ at h;obtain⟨ds,h1,h⟩:=xr.1 h;split at h
  ·rename_i h2;obtain⟨n,hn⟩:=rH i t _ _ h;refine⟨n,?_⟩;unfold bJ;rw[h1,xB,h2];exact hn
  ·rename_i h2;obtain⟨n,hn⟩:=rH i e _ _ h;refine⟨n,?_⟩;unfold bJ;rw[h1,xB,h2];exact hn
  ·cases h
 | .sw k args v t e,env,o,h=>by
  unfold bJ at h;obtain⟨ds,h1,h⟩:=xr.1 h;cases h2:aF k ds with
  |none=>rw[h2] at h;cases h
  |some d=>
   rw[h2] at h;simp only at h;split at h
   ·rename_i hv;obtain⟨n,hn⟩:=rH i t _ _ h;refine⟨n,?_⟩;unfold bJ;rw[h1,xB,h2];simp only [if_pos hv];exact hn
   ·rename_i hv;obtain⟨n,hn⟩:=rH i e _ _ h;refine⟨n,?_⟩;unfold bJ;rw[h1,xB,h2];simp only [if_neg hv];exact hn
 | .note nd t,env,o,h=>by
  unfold bJ at h;obtain⟨n,hn⟩:=rH i t _ _ h;exact⟨n,by unfold bJ;exact hn⟩
 | .call f j us cR t e,env,o,h=>by
  unfold bJ at h;obtain⟨ds,h1,h⟩:=xr.1 h;obtain⟨cA,h2,h⟩:=xr.1 h;obtain⟨m,ng⟩:=(zS F X).1 h2;have ac1:∀{n:Nat} {t:DT} {env:Di},bJ (fun j ds=>exec F X n j 0 ds) (fun h ds=>exec F X n i h ds) t env=some o->bJ (fun j ds=>exec F X (max m n) j 0 ds) (fun h ds=>exec F X (max m n) i h ds) t env=some o:=fun{n t env} e=>
   p8 (fun j ds o h=>xR F X (Nat.le_max_right m n) h) (fun j ds o h=>xR F X (Nat.le_max_right m n) h) t env o e
  split at h
  ·rename_i hm;obtain⟨n,hn⟩:=rH i t _ _ h;refine⟨max m n,?_⟩;unfold bJ;rw[h1,xB,xR F X (Nat.le_max_left m n) ng,xB,if_pos hm];exact ac1 hn
  ·rename_i hm;obtain⟨n,hn⟩:=rH i e _ _ h;refine⟨max m n,?_⟩;unfold bJ;rw[h1,xB,xR F X (Nat.le_max_left m n) ng,xB,if_neg hm];exact ac1 hn
 | .jump h' m ρ aM us,env,o,h=>by
  unfold bJ at h;obtain⟨ds,h1,h⟩:=xr.1 h;obtain⟨n,hn⟩:=(zS F X).1 h;refine⟨n,?_⟩;unfold bJ;rw[h1,xB];exact hn
 | .ret ρ aM us,env,o,h=>by
  unfold bJ at h;exact⟨0,by unfold bJ;exact h⟩
 | .stop,env,o,h=>by
  unfold bJ at h;cases h
 | .pick nk a ti h1 h2 lg mi cZ k9 mh gC,env,o,h=>by
  unfold bJ at h;split at h
  ·rename_i left hl;split at h
   ·rename_i he;obtain⟨ds,h3,h4⟩:=xr.1 h;obtain⟨n,hn⟩:=(zS F X).1 h4;refine⟨n,?_⟩;unfold bJ;simp only [hl,if_pos he,h3,xB];exact hn
   ·rename_i he;have fS:=(zA he).1 h;have key:∀m,m<=left.length->∃n,∀j,j<m->(qa nk env left j).bind (fun e=>(aH (aX (lk e)) cZ).bind (fun ds=>exec F X n i h1 ds))=some o:=by
     intro m
     induction m with
     |zero=>intro _;exact⟨0,fun j hj=>MK⟩
     |succ m ih=>
      intro hm;obtain⟨n,hn⟩:=ih MK;obtain⟨e,q1,q2⟩:=xr.1 (fS m MK);obtain⟨ds,h3,h4⟩:=xr.1 q2;obtain⟨n2,fj⟩:=(zS F X).1 h4;refine⟨max n n2,fun j hj=> ?_⟩;by_cases hjm:j<m
      ·obtain⟨e',Br,ry⟩:=xr.1 (hn j hjm);obtain⟨cA,EF,h4'⟩:=xr.1 ry;rw[Br,xB,EF,xB];exact xR F X (Nat.le_max_left _ _) h4'
      ·obtain rfl:j=m:=MK
       rw[q1,xB,h3,xB];exact xR F X (Nat.le_max_right _ _) fj
    obtain⟨n,hn⟩:=key _ (xk _);refine⟨n,?_⟩;unfold bJ;simp only [hl,if_neg he];rw[zA he];exact hn
  ·cases h
def Rn(i h:Nat)(ds:Di)(Q:Di->Prop):Prop:=∃o,run F X i h ds=some o/\Q o
def Wp(i:Nat)(t:DT)(env:Di)(Q:Di->Prop):Prop:=∃o,bJ (fun j ds=>run F X j 0 ds) (fun h ds=>run F X i h ds) t env=some o/\Q o
variable{F X}{i:Nat}{Q:Di->Prop}
theorem Rn.of{fd:FD}{s:Hd}{t:DT}(hi:F[i]? =some fd)(hs:fd.hs[h]? =some s)(ht:fd.qP[h]? =some t)(hm:ds.length=s.m)(hw:Wp F X i t ds Q):Rn F X i h ds Q:=by
 obtain⟨o,h1,h2⟩:=hw;obtain⟨n,hn⟩:=rH F X i t ds o h1;refine⟨o,(zS F X).2 ⟨n+1,?_⟩,h2⟩;unfold exec;rw[hi];simp only;rw[hs,ht];simp only;rw[if_pos hm];exact hn
theorem Rn.mono(hr:Rn F X i h ds Q)(hq:∀o,Q o->Q' o):Rn F X i h ds Q':=hr.imp fun o hh=>⟨hh.1,hq o hh.2⟩
theorem Wp.mono{t:DT}(hr:Wp F X i t env Q)(hq:∀o,Q o->Q' o):Wp F X i t env Q':=hr.imp fun o hh=>⟨hh.1,hq o hh.2⟩
theorem Wp.op{t:DT}(h1:aH (bR (lk env)) args=some ds)(h2:aF k ds=some d)(h3:d.cell=true)(h4:Wp F X i t (env++[d]) Q):Wp F X i (.op k args t) env Q:=by
 obtain⟨o,e,q⟩:=h4;refine⟨o,?_,q⟩;unfold bJ;rw[h1,xB,h2,xB,if_pos h3];exact e
theorem Wp.aQ{t e:DT}{l:Di}(h1:aH (bR (lk env)) args=some ds)(h2:aF k ds=some (.agg l))(h3:jc cR l=true)(h4:Wp F X i t (env++l) Q):Wp F X i (.aQ k args cR t e) env Q:=by
 obtain⟨o,e,q⟩:=h4;refine⟨o,?_,q⟩;unfold bJ;rw[h1,xB,h2];simp only [if_pos h3];exact e
theorem Wp.SZ{t e:DT}{l:Di}(h1:aH (bR (lk env)) args=some ds)(h2:aF k ds=some (.agg l))(h3:jc cR l=false)(h4:Wp F X i e env Q):Wp F X i (.aQ k args cR t e) env Q:=by
 obtain⟨o,e,q⟩:=h4;refine⟨o,?_,q⟩;unfold bJ;rw[h1,xB,h2];simp only [h3];exact e
theorem Wp.nz{t e:DT}(h1:aH (bR (lk env)) args=some ds)(h2:aF k ds=some (.bool true))(h4:Wp F X i t env Q):Wp F X i (.br k args t e) env Q:=by
 obtain⟨o,e,q⟩:=h4;refine⟨o,?_,q⟩;unfold bJ;rw[h1,xB,h2];exact e
theorem Wp.qQ{t e:DT}(h1:aH (bR (lk env)) args=some ds)(h2:aF k ds=some (.bool false))(h4:Wp F X i e env Q):Wp F X i (.br k args t e) env Q:=by
 obtain⟨o,e,q⟩:=h4;refine⟨o,?_,q⟩;unfold bJ;rw[h1,xB,h2];exact e
theorem Wp.br{t e:DT}{b:Bool}(h1:aH (bR (lk env)) args=some ds)(h2:aF k ds=some (.bool b))(ht:b=true->Wp F X i t env Q)(he:b=false->Wp F X i e env Q):Wp F X i (.br k args t e) env Q:=by
 cases b with
 |true=>exact Wp.nz h1 h2 (ht rfl)
 |false=>exact Wp.qQ h1 h2 (he rfl)
theorem Wp.aD{t e:DT}{p:Prop}[Decidable p](h1:aH (bR (lk env)) args=some ds)(h2:aF k ds=some (.bool (decide p)))(ht:p->Wp F X i t env Q)(he: ¬p->Wp F X i e env Q):Wp F X i (.br k args t e) env Q:=
 Wp.br h1 h2 (fun h=>ht (of_decide_eq_true h)) (fun h=>he (of_decide_eq_false h))
theorem Wp.D8{v:xM}{t e:DT}(h1:aH (bR (lk env)) args=some ds)(h2:aF k ds=some d)(h3:yk d v=true)(h4:Wp F X i t env Q):Wp F X i (.sw k args v t e) env Q:=by
 obtain⟨o,e,q⟩:=h4;refine⟨o,?_,q⟩;unfold bJ;rw[h1,xB,h2];simp only [if_pos h3];exact e
theorem Wp.SR{v:xM}{t e:DT}(h1:aH (bR (lk env)) args=some ds)(h2:aF k ds=some d)(h3:yk d v=false)(h4:Wp F X i e env Q):Wp F X i (.sw k args v t e) env Q:=by
 obtain⟨o,e,q⟩:=h4;refine⟨o,?_,q⟩;unfold bJ;rw[h1,xB,h2];simp only [h3];exact e
theorem Wp.note{t:DT}(h4:Wp F X i t env Q):Wp F X i (.note nd t) env Q:=by
 obtain⟨o,e,q⟩:=h4;exact⟨o,by unfold bJ;exact e,q⟩
theorem Wp.call{t e:DT}(h1:aH (aX (lk env)) us=some ds)(h2:Rn F X j 0 ds Q')(h3:∀o,Q' o->(jc cR o=true/\Wp F X i t (env++o) Q)\/(jc cR o=false/\Wp F X i e env Q)):Wp F X i (.call f j us cR t e) env Q:=by
 obtain⟨o,e,q⟩:=h2;rcases h3 o q with⟨m,o',e',q'⟩|⟨m,o',e',q'⟩
 ·refine⟨o',?_,q'⟩;unfold bJ;rw[h1,xB,e,xB,if_pos m];exact e'
 ·refine⟨o',?_,q'⟩;unfold bJ;rw[h1,xB,e,xB,if_neg (by rw[m];exact Bool.noConfusion)];exact e'
theorem Wp.ig{t e:DT}(h1:aH (aX (lk env)) us=some ds)(h2:Rn F X j 0 ds (·=o))(h3:jc cR o=true)(h4:Wp F X i t (env++o) Q):Wp F X i (.call f j us cR t e) env Q:=
 Wp.call h1 h2 fun _ e=> .inl (by subst e;exact⟨h3,h4⟩)
theorem Wp.AG{t e:DT}(h1:aH (aX (lk env)) us=some ds)(h2:Rn F X j 0 ds (·=o))(h3:jc cR o=false)(h4:Wp F X i e env Q):Wp F X i (.call f j us cR t e) env Q:=
 Wp.call h1 h2 fun _ e=> .inr (by subst e;exact⟨h3,h4⟩)
theorem Wp.pick{a ti h1 h2:Nat}{lg:Es}{mi cZ:C3}{k9:Es}{mh gC:C3}{ah:Di}(hl:lk env a=some (.sl left))(he:left=[]->∃pq,aH (aX (lk env)) gC=some pq/\Rn F X i h2 pq (·=ah))
 (hp:∀j,j<left.length->∃e ds1,qa nk env left j=some e/\aH (aX (lk e)) cZ=some ds1/\Rn F X i h1 ds1 (·=ah)):Wp F X i (.pick nk a ti h1 h2 lg mi cZ k9 mh gC) env (·=ah):=by
 refine⟨ah,?_,rfl⟩;unfold bJ;simp only [hl];by_cases hn:left=[]
 ·obtain⟨pq,e1,o,e2,rfl⟩:=he hn;rw[if_pos hn,e1,xB];exact e2
 ·rw[if_neg hn,zA hn];intro j hj;obtain⟨e,ds1,e1,e2,o,e3,rfl⟩:=hp j hj;rw[e1,xB,e2,xB];exact e3
theorem Wp.jump{h':Nat}(h1:aH (aX (lk env)) us=some ds)(h2:Rn F X i h' ds Q):Wp F X i (.jump h' m ρ aM us) env Q:=by
 obtain⟨o,e,q⟩:=h2;refine⟨o,?_,q⟩;unfold bJ;rw[h1,xB];exact e
theorem Wp.ret(h1:aH (aX (lk env)) us=some o)(h2:Q o):Wp F X i (.ret ρ aM us) env Q:=⟨o,by unfold bJ;exact h1,h2⟩
end
end
end Go.Ex
