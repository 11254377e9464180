/- A verified evaluator of Go functions. -/
import Derived.Test.YtnjdjocokegphaaGreatDoorX9
import Derived.Deep.Slices
import Derived.Deep.Strs
set_option linter.unusedVariables false
set_option linter.unusedSimpArgs false
namespace Go.Ex
open Go.RowKit
noncomputable section
section
variable(G nob:Nat)(qs:List Nat)(res:List xM)
def G5(B:Nat):Option Nat:=bs (Nat.blt B G) (some B) (dj qs (Nat.sub B G))
def AH(v:xM):Option xM:=
 match v with
 | .chan (some 0)=>some J
 | .chan (some (c+1))=>dj res c
 | .iface B (.chan (some (c+1)))=>match dj qs (Nat.sub B G),dj res c with
  |some x,some r=>bs (Nat.ble (Nat.add G nob) B&&iH r) (some (.iface x r)) none
  |_,_=>none
 | .pointer (some ⟨B,o,none⟩)=>(match G5 G qs B with|some x=>some (.pointer (some ⟨x,o,none⟩))|none=>none)
 | .slice (some ⟨B,o,none⟩) n c=>(match G5 G qs B with|some x=>bs (Nat.ble n c&&bs (Nat.beq B rZ) false true) (some (.slice (some ⟨x,o,none⟩) n c)) none|none=>none)
 | .map (some B)=>(match G5 G qs B with|some x=>some (.map (some x))|none=>none)
 |v=>bs (Jr v) (some v) none
def yO(f:xM→Option xM)(l:List xM):Option (List xM):=
 List.rec (motive:=fun _=>Option (List xM)) (some []) (fun v _ ih=>match f v with|some u=>(match ih with|some us=>some (u::us)|none=>none)|none=>none) l
def AG(v:xM):Option xM:=
 match v with
 | .agg ⟨l⟩=>(match yO (AH G nob qs res) l with|some r=>some (.agg ⟨r⟩)|none=>none)
 | .func (.func f) ⟨p⟩ ⟨q⟩=>(match yO (AH G nob qs res) p,yO (AH G nob qs res) q with|some p',some q'=>some (.func (.func f) ⟨p'⟩ ⟨q'⟩)|_,_=>none)
 |v=>AH G nob qs res v
def R'(v:xM):Option xM:=
 match v with
 | .tuple ⟨l⟩=>(match yO (AG G nob qs res) l with|some r=>some (.tuple ⟨r⟩)|none=>none)
 |v=>AG G nob qs res v
def vC(tb:ap):Option ap:=
 match tb with
 |⟨.cells cs,es,ex,ro,ty⟩=>(match yO (AG G nob qs res) cs with|some r=>some ⟨.cells r,es,ex,ro,ty⟩|none=>none)
 |⟨.own (.chan (some (c+1))),es,ex,ro,ty⟩=>(match dj res c with|some r=>bs (iH r) (some ⟨.own r,es,ex,ro,ty⟩) none|none=>none)
 |_=>none
end
structure y1 (G nob:Nat) (qs:List Nat) (res:List xM) (jn β:ah):Prop where
 g:∀B l,B<G→jn B=some l→β B=some l
 q:∀(j x:Nat),qs[j]? =some x→β x=jn (G+j)
 o:∀(j x:Nat),nob≤j→qs[j]? =some x→β.o x=jn.o (G+j)
 z:β.z=jn.z
 d:∀(c:Nat) (r:xM),res[c]? =some r→∃d,jn.d c=some d∧gp β.d r=some d
section
variable{G nob:Nat}{qs:List Nat}{res:List xM}{jn β:ah}
theorem OF{f:xM→Option xM}:∀{l r:List xM},yO f l=some r→l.length=r.length∧∀(i:Nat) (v u:xM),l[i]? =some v→r[i]? =some u→f v=some u
 |[],r,h=>by cases h;exact⟨rfl,fun i v u hv=>by simp at hv⟩
 |x::l,r,h=>by
  have h':(match f x with|some u=>(match yO f l with|some us=>some (u::us)|none=>none)|none=>none)=some r:=h;split at h'
  ·rename_i u hu;split at h'
   ·rename_i us mO;cases h';obtain⟨k1,k2⟩:=OF mO;refine⟨by simp[k1],fun i a b ha hb=> ?_⟩;cases i with
    |zero=>simp at ha hb;subst ha;subst hb;exact hu
    |succ i=>simp at ha hb;exact k2 i a b ha hb
   ·cases h'
  ·cases h'
theorem OP(h:y1 G nob qs res jn β){B x:Nat}(hs:G5 G qs B=some x){l:Loc}(hl:jn B=some l):β x=some l:=by
 unfold G5 at hs;rcases aB hs with⟨h1,h2⟩|⟨h1,h2⟩
 ·cases h2;exact h.g _ _ (xh h1) hl
 ·rw[eL] at h2;have:=Qx h1;rw[h.q _ x h2];rw[show G+Nat.sub B G=B by show G+(B - G)=B;omega];exact hl
theorem OV{δ:Nat→Option D}{c:Nat}{d:D}(h:gp δ (.chan (some (c+1)))=some d):δ c=some d∧d.cell=true:=by
 unfold gp at h;split at h
 ·rename_i e;cases e
 ·have h':(δ c).bind (fun x=>if x.cell then some x else none)=some d:=h;obtain⟨x,hx,h2⟩:=xr.1 h';split at h2<;>cases h2
  exact⟨hx,by assumption⟩
theorem WJ(h:y1 G nob qs res jn β){v u v':xM}(hs:AH G nob qs res v=some u)(hv:ai jn v v'):ai β u v':=by
 unfold AH at hs;split at hs
 ·cases hs;exact .j9 _
 ·rename_i c;rw[eL] at hs;obtain⟨d,h1,h2⟩:=h.d c u hs;cases hv with
  |sym _ d2 _ h3 hc hr=>
   rw[h1] at h3;cases h3;exact ET h2 (by rw[h.z];exact hr)
 ·rename_i B c;split at hs
  ·rename_i x r hx hr;rcases aB hs with⟨h1,h2⟩|⟨_,h2⟩<;>cases h2
   rw[xf] at h1;obtain⟨c',rfl⟩:=I1 h1.2;have hB:G+nob≤B:=xh h1.1;rw[eL] at hx hr;obtain⟨d,e1,e2⟩:=h.d c _ hr;cases hv with
   |own _ _ rows a cap ho ha hd=>
    rw[e1] at hd;cases hd;have Bh:qs[B - G]? =some x:=hx;have hq:=h.q _ x Bh;have gz:=h.o _ x (by omega) Bh;rw[show G+(B - G)=B by omega] at hq gz;exact .own x c' rows a cap (gz.trans ho) (ha.imp id fun⟨l,p1,p2⟩=>⟨l,hq.trans p1,p2⟩) (OV e2).1
  ·cases hs
 ·split at hs
  ·rename_i x hx;cases hs;cases hv with
   |ptr _ _ l hl=>exact .ptr _ _ l (OP h hx hl)
  ·cases hs
 ·split at hs
  ·rename_i x hx;rcases aB hs with⟨h1,h2⟩|⟨_,h2⟩<;>cases h2
   cases hv with
   |slice _ _ _ _ c2 l hl hn hc he=>exact .slice _ _ _ _ c2 l (OP h hx hl) hn hc he
   |empty=>exact absurd h1 (by decide)
  ·cases hs
 ·split at hs
  ·rename_i x hx;cases hs;cases hv with
   |map _ l hl=>exact .map _ l (OP h hx hl)
  ·cases hs
 ·rcases aB hs with⟨h1,h2⟩|⟨_,h2⟩<;>cases h2
  exact Of h1 hv
theorem IT{f:xM→Option xM}(hf:∀v u v',f v=some u→ai jn v v'→ai β u v'){l r l':List xM}(h:yO f l=some r)(hl:aT jn l l'):aT β r l':=by
 obtain⟨k1,k2⟩:=OF h;refine⟨k1.symm.trans hl.1,fun i u v' hu hv=> ?_⟩;have hi:i<l.length:=by rw[k1];exact(xe.1 hu).1
 exact hf _ u v' (k2 i _ u (xc hi) hu) (hl.2 i _ v' (xc hi) hv)
theorem OQ(h:y1 G nob qs res jn β){v u v':xM}(hs:AG G nob qs res v=some u)(hv:ai jn v v'):ai β u v':=by
 have h1:∀v u v',AH G nob qs res v=some u→ai jn v v'→ai β u v':=fun v u v' a b=>WJ h a b
 unfold AG at hs;split at hs
 ·split at hs
  ·rename_i r hr;cases hs;cases hv with
   |agg _ p' hp h2=>exact ai.rR (IT h1 hr ⟨hp,h2⟩)
  ·cases hs
 ·split at hs
  ·rename_i p' q' hp' Ef;cases hs;cases hv with
   |func _ _ p2 _ q2 hp hq h2 h3=>
    have k1:=IT h1 hp' ⟨hp,h2⟩;have k2:=IT h1 Ef ⟨hq,h3⟩;exact .func _ _ p2 _ q2 k1.1 k2.1 k1.2 k2.2
  ·cases hs
 ·exact WJ h hs hv
theorem bg7(h:y1 G nob qs res jn β){v u v':xM}(hs:R' G nob qs res v=some u)(hv:ai jn v v'):ai β u v':=by
 unfold R' at hs;split at hs
 ·split at hs
  ·rename_i r hr;cases hs;cases hv with
   |tuple _ p' hp h2=>
    have:=IT (fun v u v' a b=>OQ h a b) hr ⟨hp,h2⟩;exact .tuple _ p' this.1 this.2
  ·cases hs
 ·exact OQ h hs hv
theorem bg5(h:y1 G nob qs res jn β){tb b:ap}(hs:vC G nob qs res tb=some b){l:Loc}{o:Option Obj}(hb:hM jn l tb o):hM β l b o:=by
 unfold vC at hs;split at hs
 ·split at hs
  ·rename_i r hr;cases hs;obtain⟨aE,e,fz,g1,g2,g3,g4,g5,g6,g7,g8⟩:=hb;obtain⟨k1,k2⟩:=OF hr;refine⟨aE,e,fz,g1,g2,by rw[←k1];exact g3,fun i u hu=> ?_,g5,fun hx=>by rw[←k1];exact g6 hx,g7,g8⟩;have hi:=(xe.1 hu).1;rw[←k1] at hi;obtain⟨v',e1,e2⟩:=g4 i _ (xc hi);exact⟨v',e1,OQ h (k2 i _ u (xc hi) hu) e2⟩
  ·cases hs
 ·rename_i c es ex ro ty;split at hs
  ·rename_i r hr;rcases aB hs with⟨h1,h2⟩|⟨_,h2⟩<;>cases h2
   obtain⟨c',rfl⟩:=I1 h1;rw[eL] at hr;obtain⟨d,e1,e2⟩:=h.d c _ hr;obtain⟨aE,rows,g1,g2,g3,g4,g5,g6,g7⟩:=hb;have Il:(jn.d c).bind (fun x=>if x.cell then some x else none)=some (.sl rows):=g3;rw[e1] at Il;obtain⟨e3,e4⟩:=OV e2;have TH:d= .sl rows:=by
    have:(if d.cell then some d else none)=some (.sl rows):=Il;rw[e4] at this;exact xC this
   subst TH;exact⟨aE,rows,g1,g2,by show(β.d c').bind _=_;rw[e3];rfl,g4,g5,g6,fun i row j d a b=>by rw[h.z];exact g7 i row j d a b⟩
  ·cases hs
 ·cases hs
theorem aX7{tb b:ap}(hs:vC G nob qs res tb=some b):b.still=tb.still:=by
 unfold vC at hs;split at hs
 ·split at hs<;>cases hs;rfl
 ·split at hs
  ·rcases aB hs with⟨_,h2⟩|⟨_,h2⟩<;>cases h2;rfl
  ·cases hs
 ·cases hs
theorem bg6(h:y1 G nob qs res jn β){tb b:ap}(hs:vC G nob qs res tb=some b){j x:Nat}(hx:qs[j]? =some x)(hj:nob≤j∨r7 tb)(ho:iU jn (G+j) tb):iU β x b:=by
 unfold vC at hs;split at hs
 ·split at hs<;>cases hs;trivial
 ·rename_i c es ex ro ty;split at hs
  ·rename_i r hr;rcases aB hs with⟨h1,h2⟩|⟨_,h2⟩<;>cases h2
   have rn:nob≤j:=hj.resolve_right (fun hp=>hp _ rfl);obtain⟨c',rfl⟩:=I1 h1;rw[eL] at hr;obtain⟨d,e1,e2⟩:=h.d c _ hr;obtain⟨rows,g3,g4⟩:=ho;have Il:(jn.d c).bind (fun x=>if x.cell then some x else none)=some (.sl rows):=g3;rw[e1] at Il;obtain⟨e3,e4⟩:=OV e2;have TH:d= .sl rows:=by
    have:(if d.cell then some d else none)=some (.sl rows):=Il;rw[e4] at this;exact xC this
   subst TH;have q1:=h.q j x hx;have q2:=h.o j x rn hx;exact⟨rows,by show(β.d c').bind _=_;rw[e3];rfl,g4.imp (fun⟨a,b⟩=>⟨a,q2.trans b⟩) fun⟨l,cap,a,b,c⟩=>⟨l,cap,q1.trans a,q2.trans b,c⟩⟩
  ·cases hs
 ·cases hs
end
theorem O1:∀(k:Nat) (l:List (Option ap)) (i:Nat) (x:ap),l[i]? =some (some x)→i+1<2^k→(fill k l).get none i=some x
 |0,l,i,x,_,h=>by omega
 |k+1,[],i,x,h,_=>by simp at h
 |k+1,a::r,i,x,h,hi=>by
  rw[Nat.pow_succ] at hi;show(T.node (fill k (alt r true)) a (fill k (alt r false))).get none i=some x;rw[T.jz];split
  ·rename_i h0;subst h0;simpa using h
  ·split
   ·refine O1 k _ _ _ ?_ (by omega);rw[Ck];rw[show i=2*(i/2)+1 by omega,List.getElem?_cons_succ] at h;simpa using h
   ·refine O1 k _ _ _ ?_ (by omega);rw[Ck];rw[show i=(2*(i/2 - 1)+1)+1 by omega,List.getElem?_cons_succ] at h;simpa using h
theorem FE{T:aI}{k:Nat}{L:List (Option ap)}{tape:List Node}{j:Nat}{tb:ap}(h:T.hp[j]? =some tb)(hk:L.length+T.hp.length<2^k):(T.aw k L tape).get (L.length+j)=some tb:=by
 refine O1 k _ _ _ ?_ (by have:=(xe.1 h).1;omega);unfold z9;rw[iN,kV,xq (by omega),show L.length+j - L.length=j by omega,xx,h];rfl
def Dj(nob n:Nat)(ρ:List Nat)(j:Nat):Nat:=if j<nob then ρ.getD j 0 else n+(j - nob)
section
variable{w0 w w':World}{L:List (Option ap)}{Q:(Nat→Option D)→Node→Prop}{LL:World→Prop}{aO ak:ah}{A1 A2:AW}{ρ:List Nat}{nob k:Nat}{hp':List ap}{δ:Nat→Option D}
def sG(L:List (Option ap))(nob n:Nat)(aO ak:ah):ah where
 f:=fun B=>if B<n then aO B else ak (L.length+(nob+(B - n)))
 z:=ak.z
 d:=aO.d
 x:=aO.x
 o:=fun B=>if B<n then aO.o B else ak.o (L.length+(nob+(B - n)))
theorem qg(n:Nat)(B:Nat):(sG L nob n aO ak) B=if B<n then aO B else ak (L.length+(nob+(B - n))):=rfl
theorem QR(n:Nat)(B:Nat):(sG L nob n aO ak).o B=if B<n then aO.o B else ak.o (L.length+(nob+(B - n))):=rfl
theorem Inv.gn{G:GP}{β:ah}{A:AW}(h:Inv w0 G β A w):G.n≤A.next:=by
 cases hn:G.n with
 |zero=>omega
 |succ m=>
  obtain⟨l,h1,_⟩:=h.jm m (by omega);exact h.gU m l h1
theorem Inv.merge(inv:Inv w0 ⟨L.length,Q,LL⟩ aO A1 w)(Nu:∀(i x:Nat),ρ[i]? =some x→x=cq∨(L.length≤x∧∃ao,A1.get x=some ao))(cS:∀(i j x:Nat),ρ[i]? =some x→ρ[j]? =some x→x≠cq→i=j)
 (Tq:∀i,i<nob→∃x,ρ[i]? =some x∧x≠cq) (l5:Inv w (G0 L LL) ak ((mA hp').aw k L []) w') (hx:ak.x=MR L.length (pI L.length ρ aO δ)) (Ly:∀B,B<L.length+nob→ak B=(pI L.length ρ aO δ) B) (hz:∀b c,aO.z b=some c→ak.z b=some c)
 {res:List xM} (qK:∀(c:Nat) (r:xM),res[c]? =some r→∃d,ak.d c=some d∧gp aO.d r=some d) {qs:List Nat} (Bj:qs.length=hp'.length∧∀(j x:Nat),qs[j]? =some x→x=Dj nob A1.next ρ j) (gi:∀(j:Nat) (tb:ap),j<nob→hp'[j]? =some tb→r7 tb) (aR:nob≤hp'.length)
 (pK:∀B ao,A2.get B=some ao→(∃(j:Nat) (tb:ap),qs[j]? =some B∧hp'[j]? =some tb∧vC L.length nob qs res tb=some ao)∨(B<A1.next∧(∀(i:Nat),ρ[i]?≠some B)∧A1.get B=some ao)) (Au:A2.next=A1.next+(hp'.length - nob)) (cm3:∀nd∈A2.tape,nd∈A1.tape) (AX:L.length+hp'.length<2^k):
 Inv w0 ⟨L.length,Q,LL⟩ (sG L nob A1.next aO ak) A2 w'∧aO.grow (sG L nob A1.next aO ak) A1.next∧y1 L.length nob qs res ak (sG L nob A1.next aO ak):=by
 have hgn:L.length≤A1.next:=inv.gn;have de3:∀(i x:Nat),ρ[i]? =some x→x≠cq→x<A1.next:=fun i x h hn=>by
  rcases Nu i x h with e|⟨_,ao,e⟩
  ·exact absurd e hn
  ·exact Nat.lt_of_not_le fun dX=>by rw[inv.dh x dX] at e;cases e
 have hX:∀b,ak.x b→∃i x l,ρ[i]? =some x∧x≠cq∧L.length≤x∧aO x=some l∧l.b=b:=fun b hb=>by
  rw[hx] at hb;obtain⟨B,l,e1,e2,e3⟩:=hb;have e1:L.length≤B:=e1;rw[ye,if_neg (by omega)] at e2;cases ot:ρ[B - L.length]? with
  |none=>rw[ot] at e2;cases e2
  |some x=>
   rw[ot] at e2;have e2:(if x=cq then none else aO x)=some l:=e2;by_cases hn:x=cq
   ·rw[if_pos hn] at e2;cases e2
   ·rw[if_neg hn] at e2;rcases Nu _ x ot with e|⟨e,_⟩
    ·exact absurd e hn
    ·exact⟨_,x,l,ot,hn,e,e2,e3⟩
 have ai9:∀b c,ak.z b=some c→aO.z b=some c∨w.heap.size≤b∨ak.x b:=fun b c h=>by
  have:=l5.zo b c h;rw[show ak.x.z0=aO.z by rw[hx];rfl] at this;exact this
 have RU:∀b,ak.x b→w0.heap.size≤b∨aO.x b:=fun b hb=>by
  obtain⟨i,x,l,e1,e2,e3,e4,e5⟩:=hX b hb;rcases(inv.loc x l e4).2 with h|h
  ·have h:x<L.length:=h;omega
  ·rw[←e5];exact h
 have Tj:∀B l ao,(∀(i:Nat),ρ[i]?≠some B)→A1.get B=some ao→aO B=some l→ ¬ak.x l.b:=fun B l ao hB hg hl hb=>by
  obtain⟨i,x,l2,e1,e2,e3,e4,e5⟩:=hX _ hb;rcases Nu i x e1 with e|⟨_,A5,e⟩
  ·exact e2 e
  ·have:=inv.inj x B l2 l e4 hl e5 (by rw[e];rfl) (by rw[hg];rfl);subst this;exact hB i e1
 have aq:∀(j B:Nat),qs[j]? =some B→(sG L nob A1.next aO ak) B=ak (L.length+j)∧(nob≤j→(sG L nob A1.next aO ak).o B=ak.o (L.length+j))∧(j<nob→ρ[j]? =some B∧B≠cq∧B<A1.next)∧(nob≤j→B=A1.next+(j - nob)):=fun j B hj=>by
  have e:=Bj.2 j B hj;unfold Dj at e;by_cases hn:j<nob
  ·rw[if_pos hn] at e;obtain⟨x,e1,e2⟩:=Tq j hn;have ex:B=x:=by rw[e,List.getD_eq_getElem?_getD,e1];rfl
   subst ex;have aX:=de3 j B e1 e2;refine⟨?_,fun h=>by omega,fun _=>⟨e1,e2,aX⟩,fun h=>by omega⟩;rw[qg,if_pos aX,Ly (L.length+j) (by omega),ye,if_neg (by omega),show L.length+j - L.length=j by omega,e1];exact(if_neg e2).symm
  ·rw[if_neg hn] at e;have h2: ¬B<A1.next:=by omega
   have h3:nob+(B - A1.next)=j:=by omega
   exact⟨by rw[qg,if_neg h2,h3],fun _=>by rw[QR,if_neg h2,h3],fun h=>absurd h hn,fun _=>e⟩
 have Lz:aO.grow (sG L nob A1.next aO ak) A1.next:=⟨fun B hB=>by rw[qg,if_pos hB],hz,fun B hB=>by rw[QR,if_pos hB],rfl,rfl⟩;have so:=inv.fY Lz;have hS:y1 L.length nob qs res ak (sG L nob A1.next aO ak):=by
  refine⟨fun B l hB h=> ?_,fun j x h=>(aq j x h).1,fun j x hj h=>(aq j x h).2.1 hj,rfl,qK⟩;rw[qg,if_pos (xK hB hgn)];rw[Ly B (by omega),ye,if_pos hB] at h;exact h
 refine⟨⟨?_,fun B l h=> ?_,fun B hB=> ?_,fun B l h=> ?_,fun B B' l l' h h' hb h1 h2=> ?_,fun B ao l hg h=> ?_,fun g hg=> ?_,l5.bH,fun B l ao hG h hg hs=> ?_,fun nd cS=>inv.fw nd (cm3 nd cS),fun B ao hg=> ?_,fun B v h=> ?_,inv.lay,inv.xg,inv.jv,fun b c h=> ?_⟩,Lz,hS⟩
 ·refine⟨l5.below.os.trans inv.below.os,l5.below.tape.trans inv.below.tape,l5.below.output.trans inv.below.output,xH inv.below.size l5.below.size,fun b hb Ux=> ?_⟩;have h1: ¬ak.x b:=fun h=>(RU b h).elim (fun h=>by omega) Ux
  exact(l5.below.block b (xK hb inv.below.size) h1).trans (inv.below.block b hb Ux)
 ·rw[Au];rw[qg] at h;by_cases hB:B<A1.next
  ·omega
  ·rw[if_neg hB] at h;have:=l5.gU _ l h;rw[zO] at this;have e:(mA hp').hp.length=hp'.length:=rfl;omega
 ·cases hq:A2.get B with
  |none=>rfl
  |some ao=>
   rcases pK B ao hq with⟨j,tb,e1,e2,_⟩|⟨e1,_⟩
   ·have:=(xe.1 e2).1;by_cases hn:j<nob
    ·have:=((aq j B e1).2.2.1 hn).2.2;omega
    ·have:=(aq j B e1).2.2.2 (by omega);omega
   ·omega
 ·rw[qg] at h;by_cases hB:B<A1.next
  ·rw[if_pos hB] at h;exact⟨xK (inv.loc B l h).1 l5.below.size,(inv.loc B l h).2⟩
  ·rw[if_neg hB] at h;refine⟨(l5.loc _ l h).1,.inr ?_⟩;rcases(l5.loc _ l h).2 with e|e|e
   ·have e:L.length+(nob+(B - A1.next))<L.length:=e;omega
   ·exact .inl (xH inv.below.size e)
   ·exact RU _ e
 ·obtain⟨b1,cz⟩:=Option.isSome_iff_exists.1 h1;obtain⟨b2,cg⟩:=Option.isSome_iff_exists.1 h2;have ao2:∀(B B':Nat) (l l':Loc) (b2:ap),(∃(j:Nat) (tb:ap) (b1:ap),qs[j]? =some B∧hp'[j]? =some tb∧vC L.length nob qs res tb=some b1)→(sG L nob A1.next aO ak) B=some l→(sG L nob A1.next aO ak) B'=some l'→l.b=l'.b→B'<A1.next→(∀(i:Nat),ρ[i]?≠some B')→A1.get B'=some b2→False:=fun B B' l l' b2 hj hl dW eE ry Mu hg=>by
   obtain⟨j,tb,_,p1,p2,p3⟩:=hj;rw[(aq j B p1).1] at hl;rw[qg,if_pos ry] at dW;have h3:=(inv.loc B' l' dW).1;rcases(l5.loc _ l hl).2 with e|e|e
   ·have e:L.length+j<L.length:=e;omega
   ·omega
   ·exact Tj B' l' b2 Mu hg dW (eE▸e)
  rcases pK B b1 cz with hj|⟨e1,e2,e3⟩<;>rcases pK B' b2 cg with rn|⟨mg,uH,Ez⟩
  ·obtain⟨j,tb,p1,p2,p3⟩:=hj;obtain⟨j',tb',Uo,p2',p3'⟩:=rn;rw[(aq j B p1).1] at h;rw[(aq j' B' Uo).1] at h';have:=l5.inj _ _ l l' h h' hb (by rw[FE (T:=mA hp') p2 AX];rfl) (by rw[FE (T:=mA hp') p2' AX];rfl);have hjj:j=j':=by omega
   subst hjj;rw[p1] at Uo;cases Uo;rfl
  ·exact(ao2 B B' l l' b2 (hj.elim fun j hj=>hj.elim fun tb hj=>⟨j,tb,b1,hj⟩) h h' hb mg uH Ez).elim
  ·exact(ao2 B' B l' l b1 (rn.elim fun j hj=>hj.elim fun tb hj=>⟨j,tb,b2,hj⟩) h' h hb.symm e1 e2 e3).elim
  ·rw[qg,if_pos e1] at h;rw[qg,if_pos mg] at h';exact inv.inj B B' l l' h h' hb (by rw[e3];rfl) (by rw[Ez];rfl)
 ·rcases pK B ao hg with⟨j,tb,p1,p2,p3⟩|⟨e1,e2,e3⟩
  ·rw[(aq j B p1).1] at h;exact bg5 hS p3 (l5.cont _ tb l (FE (T:=mA hp') p2 AX) h)
  ·rw[qg,if_pos e1] at h;rw[l5.below.block l.b (inv.loc B l h).1 (Tj B l ao e2 e3 h)];exact(inv.cont B ao l e3 h).mono so
 ·obtain⟨l,a1,a2,a3⟩:=inv.jm g hg;have hg:g<L.length:=hg;exact⟨l,by rw[qg,if_pos (by omega)];exact a1,a2,a3⟩
 ·rcases pK B ao hg with⟨j,tb,p1,p2,p3⟩|⟨e1,e2,e3⟩
  ·rw[(aq j B p1).1] at h;exact l5.sep _ l tb (by show L.length≤_;omega) h (FE (T:=mA hp') p2 AX) (by rw[←aX7 p3];exact hs)
  ·rw[qg,if_pos e1] at h;have iu:=inv.sep B l ao hG h e3 hs;cases hq:ak.z l.b with
   |none=>exact hq
   |some c=>
    exfalso;rcases ai9 _ _ hq with h1|h1|h1
    ·rw[iu] at h1;cases h1
    ·have:=(inv.loc B l h).1;omega
    ·exact Tj B l ao e2 e3 h h1
 ·rcases pK B ao hg with⟨j,tb,p1,p2,p3⟩|⟨e1,e2,e3⟩
  ·refine bg6 hS p3 p1 ?_ (l5.own _ tb (FE (T:=mA hp') p2 AX));by_cases hn:j<nob
   ·exact .inr (gi j tb hn p2)
   ·exact .inl (by omega)
  ·exact(inv.own B ao e3).mono so
 ·rw[Au];rw[QR] at h;by_cases hB:B<A1.next
  ·omega
  ·rw[if_neg hB] at h;have:=l5.jj _ v h;rw[zO] at this;have e:(mA hp').hp.length=hp'.length:=rfl;omega
 ·rcases ai9 b c h with h1|h1|h1
  ·exact inv.zo b c h1
  ·exact .inr (.inl (xH inv.below.size h1))
  ·exact .inr (RU b h1)
end
def ck6(l:List xM):Option (List Nat):=
 List.rec (motive:=fun _=>Option (List Nat)) (some []) (fun v _ ih=>match v,ih with| .int _ (.ofNat n),some r=>some (n::r)|_,_=>none) l
def QO(f:ap→Option ap)(l:List ap):Option (List ap):=
 List.rec (motive:=fun _=>Option (List ap)) (some []) (fun v _ ih=>match f v with|some u=>(match ih with|some us=>some (u::us)|none=>none)|none=>none) l
def vf{α:Type}(l:List α):Nat→List α:=
 List.rec (motive:=fun _=>Nat→List α) (fun _=>[]) (fun x _ ih n=>Nat.rec (motive:=fun _=>List α) [] (fun m _=>x::ih m) n) l
def qB{α:Type}(l:List α):Nat→List α:=
 List.rec (motive:=fun _=>Nat→List α) (fun _=>[]) (fun x t ih n=>Nat.rec (motive:=fun _=>List α) (x::t) (fun m _=>ih m) n) l
def HC(c:Nat):Nat→List Nat:=Nat.rec (motive:=fun _=>Nat→List Nat) (fun _=>[]) (fun _ ih n=>n::ih (Nat.succ n)) c
theorem OM{α:Type}:∀(l:List α) (n:Nat),vf l n=l.take n
 |[],n=>by simp[vf]
 |x::l,0=>rfl
 |x::l,n+1=>by show x::vf l n=_;rw[OM l n];rfl
theorem O3{α:Type}:∀(l:List α) (n:Nat),qB l n=l.drop n
 |[],n=>by simp[qB]
 |x::l,0=>rfl
 |x::l,n+1=>by show qB l n=_;rw[O3 l n];rfl
theorem Xn:∀(c n:Nat),(HC c n).length=c
 |0,n=>rfl
 |c+1,n=>by show(n::HC c (n+1)).length=_;simp[Xn c]
theorem Xo:∀(c n j x:Nat),(HC c n)[j]? =some x→x=n+j
 |0,n,j,x,h=>by
  have h':([]:List Nat)[j]? =some x:=h;simp at h'
 |c+1,n,j,x,h=>by
  have h':(n::HC c (n+1))[j]? =some x:=h;cases j with
  |zero=>simp at h';omega
  |succ j=>simp at h';have:=Xo c (n+1) j x h';omega
theorem VS{f:ap→Option ap}:∀{l r:List ap},QO f l=some r→l.length=r.length∧∀(i:Nat) (v u:ap),l[i]? =some v→r[i]? =some u→f v=some u
 |[],r,h=>by cases h;exact⟨rfl,fun i v u hv=>by simp at hv⟩
 |x::l,r,h=>by
  have h':(match f x with|some u=>(match QO f l with|some us=>some (u::us)|none=>none)|none=>none)=some r:=h;split at h'
  ·rename_i u hu;split at h'
   ·rename_i us mO;cases h';obtain⟨k1,k2⟩:=VS mO;refine⟨by simp[k1],fun i a b ha hb=> ?_⟩;cases i with
    |zero=>simp at ha hb;subst ha;subst hb;exact hu
    |succ i=>simp at ha hb;exact k2 i a b ha hb
   ·cases h'
  ·cases h'
def vJ(ρ:List Nat):List ap→AW→AW:=
 List.rec (motive:=fun _=>List ap→AW→AW) (fun _ A=>A)
  (fun x _ ih os A=>List.rec (motive:=fun _=>AW) (ih [] (bs (Nat.beq x cq) A (A.put x none))) (fun o D4 _=>ih D4 (bs (Nat.beq x cq) A (A.put x (some o)))) os) ρ
def A6(l:List ap):AW→AW:=List.rec (motive:=fun _=>AW→AW) (fun A=>A) (fun b _ ih A=>ih (A.add b)) l
theorem BP:∀(ρ:List Nat) (os:List ap) (A:AW),(vJ ρ os A).next=A.next∧(vJ ρ os A).tape=A.tape
 |[],os,A=>⟨rfl,rfl⟩
 |x::ρ,[],A=>by
  have h:=BP ρ [] (bs (Nat.beq x cq) A (A.put x none));have e:(bs (Nat.beq x cq) A (A.put x none)).next=A.next∧(bs (Nat.beq x cq) A (A.put x none)).tape=A.tape:=by cases Nat.beq x cq<;>exact⟨rfl,rfl⟩
  exact⟨h.1.trans e.1,h.2.trans e.2⟩
 |x::ρ,o::os,A=>by
  have h:=BP ρ os (bs (Nat.beq x cq) A (A.put x (some o)));have e:(bs (Nat.beq x cq) A (A.put x (some o))).next=A.next∧(bs (Nat.beq x cq) A (A.put x (some o))).tape=A.tape:=by cases Nat.beq x cq<;>exact⟨rfl,rfl⟩
  exact⟨h.1.trans e.1,h.2.trans e.2⟩
theorem OW:∀(ρ:List Nat) (os:List ap) (A:AW) (B:Nat) (ao:ap),(vJ ρ os A).get B=some ao→(∃i:Nat,ρ[i]? =some B∧B≠cq∧os[i]? =some ao)∨((∀i:Nat,ρ[i]? =some B→B=cq)∧A.get B=some ao)
 |[],os,A,B,ao,h=> .inr ⟨fun i=>by simp,h⟩
 |x::ρ,os,A,B,ao,h=>by
  have step:∀(o:Option ap) (D4:List ap),(vJ ρ D4 (bs (Nat.beq x cq) A (A.put x o))).get B=some ao→(∃i:Nat,ρ[i]? =some B∧B≠cq∧D4[i]? =some ao)∨(B=x∧x≠cq∧o=some ao)∨((∀i:Nat,(x::ρ)[i]? =some B→B=cq)∧A.get B=some ao):=fun o D4 h=>by
   rcases OW ρ D4 _ B ao h with h1|⟨h1,h2⟩
   ·exact .inl h1
   ·have bq:(B=x→B=cq)→∀i:Nat,(x::ρ)[i]? =some B→B=cq:=fun hx i hi=>by
     cases i with
     |zero=>simp at hi;exact hx hi.symm
     |succ i=>exact h1 i (by simpa using hi)
    cases hb:Nat.beq x cq with
    |true=>
     rw[hb,ek] at h2;have:=xb hb;exact .inr (.inr ⟨bq (fun e=>e.trans this),h2⟩)
    |false=>
     rw[hb,gC] at h2;rcases A.iO x o B with⟨e,e2⟩|⟨e,_⟩|⟨e,e2⟩
     ·rw[e] at h2;exact .inr (.inl ⟨e2,Fe hb,h2⟩)
     ·rw[e] at h2;cases h2
     ·rw[e] at h2;exact .inr (.inr ⟨bq (fun e=>absurd e e2),h2⟩)
  cases os with
  |nil=>
   rcases step none [] h with⟨i,h1,_,h2⟩|⟨_,_,h2⟩|h1
   ·simp at h2
   ·cases h2
   ·exact .inr h1
  |cons o os=>
   rcases step (some o) os h with⟨i,h1,h3,h2⟩|⟨h1,h3,h2⟩|h1
   ·exact .inl ⟨i+1,by simpa using h1,h3,by simpa using h2⟩
   ·exact .inl ⟨0,by simp[h1],by rw[h1];exact h3,by simpa using h2⟩
   ·exact .inr h1
theorem IP:∀(l:List ap) (A:AW),(A6 l A).next=A.next+l.length∧(A6 l A).tape=A.tape
 |[],A=>⟨rfl,rfl⟩
 |b::l,A=>by
  have h:=IP l (A.add b);have e:(A.add b).next=A.next+1:=rfl;exact⟨h.1.trans (by rw[e];simp;omega),h.2⟩
theorem Xg:∀(l:List ap) (A:AW),(∀B,A.next≤B→A.get B=none)→∀(B:Nat) (ao:ap),(A6 l A).get B=some ao→(∃j:Nat,B=A.next+j∧l[j]? =some ao)∨(B<A.next∧A.get B=some ao)
 |[],A,hA,B,ao,h=> .inr ⟨Nat.lt_of_not_le (fun dX=>by rw[show(A6 [] A).get B=A.get B from rfl,hA B dX] at h;cases h),h⟩
 |b::l,A,hA,B,ao,h=>by
  have hn:∀C,(A.add b).get C=some b∧C=A.next∨(A.add b).get C=A.get C:=A.rM b (hA _ (xk _));have bq:∀C,C≠A.next→(A.add b).get C=A.get C:=fun C hC=>(hn C).resolve_left fun e=>hC e.2
  rcases Xg l (A.add b) (fun C hC=>by
   have hC:A.next+1≤C:=hC;rw[bq C (by omega)];exact hA C (by omega)) B ao h with⟨j,h1,h2⟩|⟨h1,h2⟩
  ·have h1:B=A.next+1+j:=h1;exact .inl ⟨j+1,by omega,by simpa using h2⟩
  ·rcases hn B with⟨e,e2⟩|e
   ·rw[e] at h2;exact .inl ⟨0,by omega,by simpa using h2⟩
   ·rw[e] at h2;have h1:B<A.next+1:=h1;by_cases hB:B=A.next
    ·rw[hB,hA _ (xk _)] at h2;cases h2
    ·exact .inr ⟨by omega,h2⟩
def Px(b:ap):Bool:=match b.obj with| .cells _=>true|_=>false
def Sw(ρ:List Nat)(hp':List ap)(nob:Nat):Bool:=
 Nat.rec (motive:=fun _=>Bool) true (fun i ih=>bs ((match dj ρ i with|some x=>bs (Nat.beq x cq) false true|none=>false)&& (match dj hp' i with|some b=>Px b|none=>false)) ih false) nob
theorem Wl{ρ:List Nat}{hp':List ap}:∀{nob:Nat},Sw ρ hp' nob=true→(∀i,i<nob→(∃x,ρ[i]? =some x∧x≠cq)∧∃b,hp'[i]? =some b∧r7 b)
 |0,_,i,h=>by omega
 |n+1,h,i,hi=>by
  have h':bs ((match dj ρ n with|some x=>bs (Nat.beq x cq) false true|none=>false)&& (match dj hp' n with|some b=>Px b|none=>false)) (Sw ρ hp' n) false=true:=h;rcases aB h' with⟨h1,h2⟩|⟨_,h2⟩
  ·rcases Nat.lt_succ_iff_lt_or_eq.1 hi with h3|rfl
   ·exact Wl h2 i h3
   ·rw[xf,eL,eL] at h1;obtain⟨h4,h5⟩:=h1;refine⟨?_,?_⟩
    ·split at h4
     ·rename_i x hx;refine⟨x,hx,?_⟩;rcases aB h4 with⟨_,e⟩|⟨e,_⟩
      ·cases e
      ·exact Fe e
     ·cases h4
    ·split at h5
     ·rename_i b hb;refine⟨b,hb,fun c hc=> ?_⟩;unfold Px at h5;rw[hc] at h5;cases h5
     ·cases h5
  ·cases h2
def y6(nob n:Nat)(ρ:List Nat)(m:Nat):List Nat:=aj (vf ρ nob) (HC (Nat.sub m nob) n)
def aD3(G:Nat)(sg:aG)(ρ:List Nat)(res:List xM)(A:AW):aZ xM:=
 match R' G sg.nob (y6 sg.nob A.next ρ (bE sg.hp')) res sg.rv,QO (vC G sg.nob (y6 sg.nob A.next ρ (bE sg.hp')) res) sg.hp' with
 |some v,some l=>some [(v,A6 (qB l sg.nob) (vJ ρ (vf l sg.nob) A))]
 |_,_=>none
def L8(L:List (Option ap))(k:Nat)(S:List (Nat×aG))(t:cL)(args:List xM)(A:AW):aZ xM:=
 match t with
 | .rd _=>none
 | .dy _=>none
 | .fn f=>match A.tape with
  |[]=>none
  |zb::r0=>match zb.args with
   |[.tuple ⟨rl⟩,.tuple ⟨aS⟩]=>match ck6 rl with
    |none=>none
    |some ρ=>match nE (nD (bE L) FZ) aS (A.pop r0) with
     |none=>none
     |some (us,A1)=>match A1.tape with
      |[]=>none
      |nd::r=>match nd.k,nd.res with
       | .rY g i,.tuple ⟨res⟩=>match dj S i with
        |none=>none
        |some (g',sg)=>bs (vL zb.k (.own 1)&&Nat.beq g f&&Nat.beq g' f&&lm us nd.args&&Fv (bE L) ρ aS A1 sg.args args&&Ao L (mA sg.hp) ρ aS .nil A1&&Sw ρ sg.hp' sg.nob&&Nat.blt A1.next cq&&Nat.blt (Nat.add (bE L) (bE sg.hp')) (Nat.pow 2 k))
         (aD3 (bE L) sg ρ res (A1.pop r)) none
       |_,_=>none
   |_=>none
def JT(P:Program)(LL:World→Prop)(k:Nat)(L:List (Option ap))(S:List (Nat×aG))(δ:Nat→Option D)(nd:Node):Prop:=
 match nd.k,nd.res with
 | .rY g i,.tuple ⟨res⟩=>∃sg ds cf,S[i]? =some (g,sg)∧aW (bQ δ) nd.args=some ds∧aW (gp δ) res=some cf∧uL P LL k L g sg ds cf
 |_,_=>False
section
variable{P:Program}{E:av}(ok:E.Ok P){L:List (Option ap)}{Q:(Nat→Option D)→Node→Prop}{LL:World→Prop}(hG:E.G=⟨L.length,Q,LL⟩)(hL:G2 L){k:Nat}{S:List (Nat×aG)}
theorem bi2{nob n m:Nat}{ρ:List Nat}(h1:∀i,i<nob→∃x,ρ[i]? =some x∧x≠cq)(h2:nob≤m):(y6 nob n ρ m).length=m∧∀(j x:Nat),(y6 nob n ρ m)[j]? =some x→x=Dj nob n ρ j:=by
 have hl:nob≤ρ.length:=by
  cases nob with
  |zero=>omega
  |succ q=>
   obtain⟨x,hx,_⟩:=h1 q (by omega);have:=(xe.1 hx).1;omega
 unfold y6;rw[iN,OM];have hm:Nat.sub m nob=m - nob:=rfl;refine⟨by rw[xa,xz,Xn,hm];omega,fun j x h=> ?_⟩;unfold Dj;by_cases hj:j<nob
 ·rw[xw (by rw[xz];omega),List.getElem?_take,if_pos hj] at h;rw[if_pos hj,List.getD_eq_getElem?_getD,h];rfl
 ·rw[xq (by rw[xz];omega),xz,show min nob ρ.length=nob by omega] at h;rw[if_neg hj,Xo _ _ _ _ h]
include ok hG hL in
theorem br2(hC:∀δ nd g i,nd.k= .rY g i→E.G.Q δ nd→JT P LL k L S δ nd):fN P E (L8 L k S):=by
 intro w0 t args A bh β w args' h inv il;unfold L8 at h;split at h
 ·cases h
 ·cases h
 ·rename_i f;split at h
  ·cases h
  ·rename_i zb r0 Ny;split at h
   ·rename_i rl aS gA;split at h
    ·cases h
    ·rename_i ρ Nu;split at h
     ·cases h
     ·rename_i us A1 kN;split at h
      ·cases h
      ·rename_i nd r ht1;split at h
       ·rename_i g i res hk hr;split at h
        ·cases h
        ·rename_i g' sg hS;replace h:=aB h;rcases h with⟨hb,h⟩|⟨_,h⟩
         ·simp only [xf] at hb;obtain⟨⟨⟨⟨⟨⟨⟨⟨b1,b2⟩,b3⟩,b4⟩,b5⟩,b6⟩,b7⟩,b8⟩,b9⟩:=hb;rw[eL] at hS;have e2:=xb b2;have e3:=xb b3;subst e2;subst e3;have e4:=lQ _ _ b4;rw[dg] at b5;have Eg:=Wl b7;have aX:A1.next<cq:=xh b8;have AX:L.length+sg.hp'.length<2^k:=by
           have:=xh b9;rw[dg,dg] at this;exact this
          have aF6:=inv.pop (r:=r0) (fun x hx=>by rw[Ny];exact xo _ hx);have pS:∀aO,β.d=aO.d→Inv w0 E.G aO A1 w→∃ds cf,aW (bQ aO.d) us=some ds∧aW (gp aO.d) res=some cf∧uL P LL k L g' sg ds cf:=fun aO hd i1=>by
           have hq:=hC _ nd g' i hk (i1.fw nd (by rw[ht1];exact xn));unfold JT at hq;rw[hk,hr] at hq;simp only at hq;obtain⟨T5,ds,cf,q1,q2,q3,q4⟩:=hq;rw[hS] at q1;cases q1;rw[←e4] at q2;exact⟨ds,cf,q2,q3,q4⟩
          have hn:E.G.n=bE L:=by rw[hG,dg]
          obtain⟨βq,iq,gq,_⟩:=PC (w0:=w0) (w:=w) (G:=E.G) (fun v A u A' β h i=>yf ok FZ v A u A' β h i) aS _ us A1 β (by rw[hn];exact kN) aF6;obtain⟨ds,cf,q2,q3,q4⟩:=pS βq gq.d.symm iq;obtain⟨aO,j1,g1,i1,hI,n1,_⟩:=PM ok hG hL kN aF6 (ds1:=ds) (by rw[←gq.d];exact q2) b6 k;have Ew:β.grow aO A.next:=g1;have n1':A1.next=A.next:=n1;have so:=inv.fY Ew;have cw:aW (gp aO.d) res=some cf:=by rw[g1.d,←gq.d];exact q3
          have Es:=inv.laid ok;rw[hG] at j1 Es i1;obtain⟨j2,hw2⟩:=(j1.T7 (Q':=fun _ _=>True) rfl).reX (G:=G0 L LL) Es;have YX:aT (pI L.length ρ aO fun c=>ds[c]?) sg.args args':=by
           obtain⟨k1,k2⟩:=ID hI i1.zV b5;refine⟨k1.trans il.1,fun i a v' ha du=> ?_⟩;have hi:i<args.length:=by rw[←k1];exact(xe.1 ha).1
           exact EM hI i1.zV (k2 i a _ ha (xc hi)) ((il.2 i _ v' (xc hi) du).mono so)
          refine(q4 w _ args' j2 rfl (YX.iE hw2)).mono fun en w' GH=> ?_
          obtain⟨v,ak,rfl,ic,hv,Ly,hz,nQ,hxx⟩:=GH;unfold aD3 at h;split at h
          ·rename_i u l hu hl;cases h;have jc:(A1.pop r).next=A1.next:=rfl;rw[dg] at hu hl;have dW:=VS hl;have aR:sg.nob≤sg.hp'.length:=by
            by_cases h0:sg.nob=0
            ·omega
            ·obtain⟨_,b,hb,_⟩:=Eg (sg.nob - 1) (by omega);have:=(xe.1 hb).1;omega
           rw[dg] at hu dW;have Bj:=bi2 (n:=(A1.pop r).next) (ρ:=ρ) (fun i hi=>(Eg i hi).1) aR;unfold Ao at b6;rw[dg] at b6;simp only [xf] at b6;obtain⟨⟨⟨_,c2⟩,_⟩,c4⟩:=b6;obtain⟨aF,qP⟩:=Oc c2;have cS:=Ob c4;have i1p:Inv w0 ⟨L.length,Q,LL⟩ aO (A1.pop r) w:=i1.pop (fun x hx=>by rw[ht1];exact xo _ hx);obtain⟨m1,m2,m3⟩:=Inv.merge (k:=k) (ρ:=ρ) (nob:=sg.nob) (hp':=sg.hp') (δ:=fun c=>ds[c]?) (A2:=A6 (qB l sg.nob) (vJ ρ (vf l sg.nob) (A1.pop r))) (res:=res) (qs:=y6 sg.nob (A1.pop r).next ρ sg.hp'.length) i1p (fun i x hx=>by
            have hj:i<(mA sg.hp).hp.length:=by rw[aF];exact(xe.1 hx).1
            rcases qP i _ x (xc hj) hx with⟨e,_⟩|⟨_,e,ao,e2,_⟩
            ·exact .inl e
            ·exact .inr ⟨e,ao,e2⟩) (fun i j x a b c=>cS i j x a b c) (fun i hi=>(Eg i hi).1) ic hxx (fun B hB=>Ly B hB) hz
            (fun c rr hc=>by
             have bY:c<cf.length:=by rw[kT cw];exact(xe.1 hc).1
             exact⟨cf[c],nQ c _ (xc bY),jZ cw (xc bY) hc⟩)
            Bj (fun j tb hj UG=>by
             obtain⟨_,b,hb,hp⟩:=Eg j hj;rw[UG] at hb;cases hb;exact hp) aR
            (fun B ao hB=>by
             have gS:∀(i x:Nat),ρ[i]? =some x→x≠cq→x<A1.next:=fun i x hx bq=>by
              have hj:i<(mA sg.hp).hp.length:=by rw[aF];exact(xe.1 hx).1
              rcases qP i _ x (xc hj) hx with⟨e,_⟩|⟨_,e,ao,e2,_⟩
              ·exact absurd e bq
              ·exact Nat.lt_of_not_le fun dX=>by rw[i1.dh x dX] at e2;cases e2
             have iV:∀C b,(vJ ρ (vf l sg.nob) (A1.pop r)).get C=some b→C<A1.next:=fun C b hC=>by
              rcases OW _ _ _ _ _ hC with⟨i,h1,h2,_⟩|⟨_,h2⟩
              ·exact gS i C h1 h2
              ·exact Nat.lt_of_not_le fun dX=>by rw[show(A1.pop r).get C=A1.get C from rfl,i1.dh C dX] at h2;cases h2
             have eR:(vJ ρ (vf l sg.nob) (A1.pop r)).next=A1.next:=(BP _ _ _).1;have bF:l.length=sg.hp'.length:=dW.1.symm;rcases Xg _ _ (fun C hC=>by
              cases hq:(vJ ρ (vf l sg.nob) (A1.pop r)).get C with
              |none=>rfl
              |some b=>have:=iV C b hq;omega) B ao hB with⟨j,h1,h2⟩|⟨h1,h2⟩
             ·rw[O3,List.getElem?_drop] at h2;have hj:sg.nob+j<l.length:=(xe.1 h2).1;have fG:sg.nob+j<sg.hp'.length:=by omega
              have uw:sg.nob+j<(y6 sg.nob (A1.pop r).next ρ sg.hp'.length).length:=by rw[Bj.1];exact fG
              refine .inl ⟨sg.nob+j,_,?_,xc fG,dW.2 _ _ _ (xc fG) h2⟩;have e1:=xc uw;have e2:=Bj.2 _ _ e1;rw[e1,e2];unfold Dj;rw[if_neg (by omega),h1,eR,jc]
              congr 1
              omega
             ·rcases OW _ _ _ _ _ h2 with⟨i,h3,h4,h5⟩|⟨h3,h4⟩
              ·rw[OM] at h5;have hi0:=(xe.1 h5).1;rw[xz] at hi0;have hi:i<sg.nob:=by omega
               rw[List.getElem?_take,if_pos hi] at h5;have fG:i<sg.hp'.length:=by omega
               have uw:i<(y6 sg.nob (A1.pop r).next ρ sg.hp'.length).length:=by rw[Bj.1];exact fG
               refine .inl ⟨i,_,?_,xc fG,dW.2 _ _ _ (xc fG) h5⟩;have e1:=xc uw;have e2:=Bj.2 _ _ e1;rw[e1,e2];unfold Dj;rw[if_pos hi,List.getD_eq_getElem?_getD,h3];rfl
              ·rw[eR] at h1;exact .inr ⟨h1,fun i hi=>by have:=h3 i hi;omega,h4⟩)
            (by
             rw[(IP _ _).1,(BP _ _ _).1,O3,List.length_drop,←dW.1])
            (fun x hx=>by
             rw[(IP _ _).2,(BP _ _ _).2] at hx;exact hx) AX
           refine⟨_,xn,_,v,rfl,bg7 m3 hu hv,?_,?_,?_⟩
           ·rw[hG];exact m1
           ·have m2':aO.grow _ A1.next:=m2;rw[n1'] at m2';exact ah.iB Ew m2' (xk _)
           ·show A.next≤(A6 _ _).next;rw[(IP _ _).1,(BP _ _ _).1,jc,n1'];omega
          ·cases h
         ·cases h
       ·cases h
   ·cases h
end
inductive DT where
 |op (k:NK) (args:List xM) (t:DT)
 |aC (k:NK) (args:List xM) (cE:List (Option xM)) (t e:DT)
 |br (k:NK) (args:List xM) (t e:DT)
 |sw (k:NK) (args:List xM) (v:xM) (t e:DT)
 |note (nd:Node) (t:DT)
 |call (f i:Nat) (us:List xM) (cE:List (Option xM)) (t e:DT)
 |jump (h m:Nat) (ρ:List Nat) (aS us:List xM)
 |ret (ρ:List Nat) (aS us:List xM)
 |stop
abbrev cd(n:Nat):xM:= .chan (some (n+1))
def qf(n:Nat):List (Option xM)→List xM
 |[]=>[]
 |none::l=>cd n::qf (n+1) l
 |some v::l=>v::qf (n+1) l
def yh(d:D)(v:xM):Bool:=match d,v with| .bool b,.bool b'=>b==b'| .int k n,.int k' n'=>decide (k=k'∧n=n')|_,_=>false
abbrev tt:Option xM:=some (.bool true)
abbrev ff:Option xM:=some (.bool false)
abbrev no:Option xM:=none
def gV:List (Option xM)→List D→Bool
 |[],[]=>true
 |none::l,d::ds=>d.cell&&gV l ds
 |some v::l,d::ds=>yh d v&&gV l ds
 |_,_=>false
def lk(env:List D):Nat→Option D:=fun c=>env[c]?
def bM(call:Nat→List D→Option (List D))(jump:Nat→List D→Option (List D)):DT→List D→Option (List D)
 | .op k args t,env=>(aW (bT (lk env)) args).bind fun ds=>(aN k ds).bind fun d=>if d.cell=true then bM call jump t (env++[d]) else none
 | .aC k args cE t e,env=>(aW (bT (lk env)) args).bind fun ds=>match aN k ds with
  |some (.agg l)=>if gV cE l=true then bM call jump t (env++l) else bM call jump e env
  |_=>none
 | .br k args t e,env=>(aW (bT (lk env)) args).bind fun ds=>match aN k ds with
  |some (.bool true)=>bM call jump t env
  |some (.bool false)=>bM call jump e env
  |_=>none
 | .sw k args v t e,env=>(aW (bT (lk env)) args).bind fun ds=>match aN k ds with
  |some d=>if yh d v=true then bM call jump t env else bM call jump e env
  |none=>none
 | .note _ t,env=>bM call jump t env
 | .call _ i us cE t e,env=>(aW (bQ (lk env)) us).bind fun ds=>(call i ds).bind fun cf=>if gV cE cf=true then bM call jump t (env++cf) else bM call jump e env
 | .jump h _ _ _ us,env=>(aW (bQ (lk env)) us).bind (jump h)
 | .ret _ _ us,env=>aW (bQ (lk env)) us
 | .stop,_=>none
inductive RT where
 |lf (x:Option (List (List Item)))
 |bn (a b:RT)
section
variable(oq:List Node→Nat→Nat→List Nat→List xM→List xM→Option (List (List Item)))(ret:List Node→List Nat→List xM→List xM→Option (List (List Item)))
def eu{α:Type}(x:α):α:=x
def Di(l:List Node)(r:List Node):List Node:=List.rec (motive:=fun _=>List Node→List Node) (fun r=>r) (fun x _ ih r=>eu (ih (x::r))) l r
def pn(t:DT):Nat→List Node→RT:=
 DT.rec (motive:=fun _=>Nat→List Node→RT)
  (fun k args _ ih n acc=>CC n fun n=>ih (Nat.succ n) (⟨k,args,cd n⟩::acc))
  (fun k args cE _ _ ko eB n acc=> .bn (ko (Nat.add n (bE cE)) (⟨k,args,.agg ⟨qf n cE⟩⟩::acc)) (eB n acc))
  (fun k args _ _ ko eB n acc=> .bn (ko n (⟨k,args,.bool true⟩::acc)) (eB n (⟨k,args,.bool false⟩::acc)))
  (fun k args v _ _ ko eB n acc=> .bn (ko n (⟨k,args,v⟩::acc)) (eB n acc))
  (fun nd _ ih n acc=>ih n (nd::acc))
  (fun f i us cE _ _ ko eB n acc=> .bn (ko (Nat.add n (bE cE)) (⟨.rY f i,us,.tuple ⟨qf n cE⟩⟩::acc)) (eB n acc))
  (fun h m ρ aS us _ acc=> .lf (oq (Di acc []) h m ρ aS us))
  (fun ρ aS us _ acc=> .lf (ret (Di acc []) ρ aS us))
  (fun _ _=> .lf none) t
def pA(td:Nat→List Item)(t:DT):RT:=
 DT.rec (motive:=fun _=>RT)
  (fun _ _ _ ih=>eu ih) (fun _ _ _ _ _ a b=> .bn a b) (fun _ _ _ _ a b=> .bn a b) (fun _ _ _ _ _ a b=> .bn a b) (fun _ _ ih=>ih) (fun _ _ _ _ _ _ a b=> .bn a b) (fun h _ _ _ _=> .lf (some [td h])) (fun _ _ _=> .lf (some [[]])) (.lf none) t
end
theorem Pg:∀(l r:List Node),Di l r=l.reverse++r
 |[],r=>rfl
 |x::l,r=>by show Di l (x::r)=_;rw[Pg l (x::r)];simp
def Fi(k:NK):Bool:=match k with| .call _=>false| .rY _ _=>false| .kG _=>false| .Dc _=>false| .own _=>false|_=>true
def kU(S:List (Nat×aG)):DT→Bool
 | .op k _ t=>Fi k&&kU S t
 | .aC k _ _ t e=>Fi k&& (kU S t&&kU S e)
 | .br k _ t e=>Fi k&& (kU S t&&kU S e)
 | .sw k _ _ t e=>Fi k&& (kU S t&&kU S e)
 | .note nd t=>(match nd.k with| .own _=>true|_=>false)&&kU S t
 | .call f i _ _ t e=>(match S[i]? with|some (f',_)=>f==f'|none=>false)&& (kU S t&&kU S e)
 |_=>true
theorem Ot{δ l7:Nat→Option D}(h:∀(c:Nat) (d:D),δ c=some d→l7 c=some d){v:xM}{d:D}(hv:bT δ v=some d):bT l7 v=some d:=by
 unfold bT at*;split at hv
 ·obtain⟨ds,h1,rfl⟩:=xp.1 hv;simp only [oH (fun v d=>tg h) h1,Option.map_some]
 ·exact tg h hv
theorem Oh{δ l7:Nat→Option D}(h:∀(c:Nat) (d:D),δ c=some d→l7 c=some d){v:xM}{d:D}(hv:gp δ v=some d):gp l7 v=some d:=by
 unfold gp at*;split at hv
 ·cases hv
 ·exact tg h hv
theorem aY0{δ l7:Nat→Option D}(h:∀(c:Nat) (d:D),δ c=some d→l7 c=some d){v:xM}{d:D}(hv:ji δ v=some d):ji l7 v=some d:=by
 unfold ji at*;split at hv
 ·obtain⟨ds,h1,rfl⟩:=xp.1 hv;simp only [oH (fun v d=>Oh h) h1,Option.map_some]
 ·exact Oh h hv
theorem dw.iE{δ l7:Nat→Option D}(h:∀(c:Nat) (d:D),δ c=some d→l7 c=some d){nd:Node}(hq:dw δ nd):dw l7 nd:=by
 unfold dw at*;split at hq<;>first|trivial|exact hq.imp fun ds hq=>hq.imp fun d ⟨a,b,c⟩=>⟨oH (fun v d=>Ot h) a,aY0 h b,c⟩
def NQ(P:Program)(LL:World→Prop)(k:Nat)(L:List (Option ap))(S:List (Nat×aG))(δ:Nat→Option D)(nd:Node):Prop:=
 dw δ nd∧∀g i,nd.k= .rY g i→JT P LL k L S δ nd
theorem NQ.iE{P:Program}{LL:World→Prop}{k:Nat}{L:List (Option ap)}{S:List (Nat×aG)}{δ l7:Nat→Option D}(h:∀(c:Nat) (d:D),δ c=some d→l7 c=some d){nd:Node}(hq:NQ P LL k L S δ nd):NQ P LL k L S l7 nd:=by
 refine⟨hq.1.iE h,fun g i hk=> ?_⟩;have:=hq.2 g i hk;unfold JT at*;split at this
 ·obtain⟨sg,ds,cf,q1,q2,q3,q4⟩:=this;exact⟨sg,ds,cf,q1,oH (fun v d=>tg h) q2,oH (fun v d=>Oh h) q3,q4⟩
 ·exact this.elim
theorem uV(env l:List D)(c:Nat)(d:D)(h:lk env c=some d):lk (env++l) c=some d:=by
 unfold lk at*;rw[xw (xe.1 h).1];exact h
theorem P'(env l:List D)(i:Nat)(d:D)(h:l[i]? =some d):lk (env++l) (env.length+i)=some d:=by
 unfold lk;rw[xq (by omega),show env.length+i - env.length=i by omega];exact h
theorem Xz{δ:Nat→Option D}{n:Nat}{d:D}(h:δ n=some d)(hc:d.cell=true):gp δ (cd n)=some d:=by
 show(δ n).bind _=_;rw[h];show(if d.cell then some d else none)=some d;rw[hc];rfl
theorem ba2{d:D}{v:xM}(h:yh d v=true)(δ:Nat→Option D):gp δ v=some d:=by
 unfold yh at h;split at h
 ·rename_i a b;obtain rfl:a=b:=by simpa using h
  rfl
 ·obtain⟨rfl,rfl⟩:=of_decide_eq_true h;rfl
 ·cases h
theorem aW5{d:D}{v:xM}(h:yh d v=true)(δ:Nat→Option D):ji δ v=some d:=by
 unfold yh at h;split at h
 ·rename_i a b;obtain rfl:a=b:=by simpa using h
  rfl
 ·obtain⟨rfl,rfl⟩:=of_decide_eq_true h;rfl
 ·cases h
theorem IC{env:List D}:∀{cE:List (Option xM)} {ds pre:List D} {δ:Nat→Option D},gV cE ds=true→(∀(i:Nat) (d:D),ds[i]? =some d→δ (pre.length+i)=some d)→aW (gp δ) (qf pre.length cE)=some ds
 |[],[],_,_,_,_=>rfl
 |[],_::_,_,_,h,_=>by simp[gV] at h
 |none::l,[],_,_,h,_=>by simp[gV] at h
 |none::l,d::ds,pre,δ,h,hd=>by
  unfold gV at h;rw[xf] at h;have ih:=IC (env:=env) (pre:=pre++[d]) (δ:=δ) h.2 (fun i x hx=>by
   have:=hd (i+1) x (by simpa using hx);rw[xa];simpa[Nat.add_assoc,Nat.add_comm 1 i] using this)
  rw[xa] at ih;have h0:=hd 0 d rfl;show(match gp δ (cd pre.length),aW (gp δ) (qf (pre.length+1) l) with|some x,some r=>some (x::r)|_,_=>none)=_;rw[Xz h0 h.1];have Uu:aW (gp δ) (qf (pre.length+1) l)=some ds:=ih;rw[Uu]
 |some b::l,[],_,_,h,_=>by simp[gV] at h
 |some b::l,d::ds,pre,δ,h,hd=>by
  unfold gV at h;rw[xf] at h;have ih:=IC (env:=env) (pre:=pre++[d]) (δ:=δ) h.2 (fun i x hx=>by
   have:=hd (i+1) x (by simpa using hx);rw[xa];simpa[Nat.add_assoc,Nat.add_comm 1 i] using this)
  rw[xa] at ih;have Uu:aW (gp δ) (qf (pre.length+1) l)=some ds:=ih;show(match gp δ b,aW (gp δ) (qf (pre.length+1) l) with|some x,some r=>some (x::r)|_,_=>none)=_;rw[Uu,ba2 h.1]
theorem VV:∀(cE:List (Option xM)) (ds:List D),gV cE ds=true→ds.length=cE.length:=by
 intro cE
 induction cE with
 |nil=>intro ds h;cases ds with|nil=>rfl|cons _ _=>simp[gV] at h
 |cons a cE ih=>
  intro ds h;cases ds with
  |nil=>cases a<;>simp[gV] at h
  |cons d ds=>
   cases a with
   |none=>unfold gV at h;rw[xf] at h;simp[ih ds h.2]
   |some b=>unfold gV at h;rw[xf] at h;simp[ih ds h.2]
theorem NQ.plain{P:Program}{LL:World→Prop}{kk:Nat}{L:List (Option ap)}{S:List (Nat×aG)}{δ:Nat→Option D}{k:NK}{args:List xM}{r:xM}{ds:List D}{d:D}(hk:Fi k=true)(h1:aW (bT δ) args=some ds)(h2:ji δ r=some d)(h3:aN k ds=some d):NQ P LL kk L S δ ⟨k,args,r⟩:=by
 refine⟨?_,fun g i e=> ?_⟩
 ·unfold dw;split<;>first|trivial|exact⟨ds,d,h1,h2,h3⟩
 ·have e:k= .rY g i:=e;subst e;cases hk
theorem rG{P:Program}{LL:World→Prop}{kk:Nat}{L:List (Option ap)}{S:List (Nat×aG)}{call jump:Nat→List D→Option (List D)}(li:∀(i:Nat) (ds cf:List D) (f:Nat) (sg:aG),call i ds=some cf→S[i]? =some (f,sg)→uL P LL kk L f sg ds cf)
 {oq:List Node→Nat→Nat→List Nat→List xM→List xM→Option (List (List Item))} {ret:List Node→List Nat→List xM→List xM→Option (List (List Item))} {td:Nat→List Item} {out:List D}:
 ∀(t:DT) (env:List D) (acc:List Node),kU S t=true→pn oq ret t env.length acc=pA td t→(∀nd∈acc,NQ P LL kk L S (lk env) nd)→bM call jump t env=some out→
  ∃(tape:List Node) (nF:List D),(∀(c:Nat) (d:D),lk env c=some d→lk nF c=some d)∧(∀nd∈tape,NQ P LL kk L S (lk nF) nd)∧
   ((∃h m ρ aS us cf,oq tape h m ρ aS us=some [td h]∧aW (bQ (lk nF)) us=some cf∧jump h cf=some out)∨∃ρ aS us,ret tape ρ aS us=some [[]]∧aW (bQ (lk nF)) us=some out)
 | .op k args t,env,acc,hn,hr,ha,he=>by
  unfold kU at hn;rw[xf] at hn;unfold bM at he;obtain⟨ds,h1,he⟩:=xr.1 he;obtain⟨d,h2,he⟩:=xr.1 he;split at he
  ·rename_i hc;have aF:(env++[d]).length=Nat.succ env.length:=by rw[xa];rfl
   have kp:CC env.length (fun n=>pn oq ret t (Nat.succ n) (⟨k,args,cd n⟩::acc))=pA td t:=hr;have ej:pn oq ret t (Nat.succ env.length) (⟨k,args,cd env.length⟩::acc)=pA td t:=by rw[IM] at kp;exact kp
   rw[←aF] at ej;obtain⟨tape,nF,g1,g2,g3⟩:=rG li t (env++[d]) _ hn.2 ej (fun nd cS=>by
    rcases xG.1 cS with rfl|cS
    ·exact NQ.plain hn.1 (oH (fun v d=>Ot (uV env [_])) h1) (Xz (P' env [d] 0 d rfl) hc) h2
    ·exact(ha nd cS).iE (uV env [d])) he
   exact⟨tape,nF,fun c x h=>g1 c x (uV env [d] c x h),g2,g3⟩
  ·cases he
 | .aC k args cE t e,env,acc,hn,hr,ha,he=>by
  unfold kU at hn;rw[xf,xf] at hn;unfold bM at he;obtain⟨ds,h1,he⟩:=xr.1 he;have ej:RT.bn (pn oq ret t (Nat.add env.length (bE cE)) (⟨k,args,.agg ⟨qf env.length cE⟩⟩::acc)) (pn oq ret e env.length acc)=RT.bn (pA td t) (pA td e):=hr;injection ej with r1 r2;split at he
  ·rename_i l h2;split at he
   ·rename_i hm;have aF:(env++l).length=Nat.add env.length (bE cE):=by rw[xa,VV _ _ hm,dg];rfl
    rw[←aF] at r1;obtain⟨tape,nF,g1,g2,g3⟩:=rG li t (env++l) _ hn.2.1 r1 (fun nd cS=>by
     rcases xG.1 cS with rfl|cS
     ·refine NQ.plain hn.1 (oH (fun v d=>Ot (uV env l)) h1) ?_ h2;show(aW (gp (lk (env++l))) (qf env.length cE)).map D.agg=some (D.agg l);rw[IC (env:=env) (pre:=env) hm (fun i d hd=>P' env l i d hd)];rfl
     ·exact(ha nd cS).iE (uV env l)) he
    exact⟨tape,nF,fun c x h=>g1 c x (uV env l c x h),g2,g3⟩
   ·exact rG li e env acc hn.2.2 r2 ha he
  ·cases he
 | .br k args t e,env,acc,hn,hr,ha,he=>by
  unfold kU at hn;rw[xf,xf] at hn;unfold bM at he;obtain⟨ds,h1,he⟩:=xr.1 he;have ej:RT.bn (pn oq ret t env.length (⟨k,args,.bool true⟩::acc)) (pn oq ret e env.length (⟨k,args,.bool false⟩::acc))=RT.bn (pA td t) (pA td e):=hr;injection ej with r1 r2;split at he
  ·rename_i h2;exact rG li t env _ hn.2.1 r1 (fun nd cS=>by
    rcases xG.1 cS with rfl|cS
    ·exact NQ.plain hn.1 h1 rfl h2
    ·exact ha nd cS) he
  ·rename_i h2;exact rG li e env _ hn.2.2 r2 (fun nd cS=>by
    rcases xG.1 cS with rfl|cS
    ·exact NQ.plain hn.1 h1 rfl h2
    ·exact ha nd cS) he
  ·cases he
 | .sw k args v t e,env,acc,hn,hr,ha,he=>by
  unfold kU at hn;rw[xf,xf] at hn;unfold bM at he;obtain⟨ds,h1,he⟩:=xr.1 he;have ej:RT.bn (pn oq ret t env.length (⟨k,args,v⟩::acc)) (pn oq ret e env.length acc)=RT.bn (pA td t) (pA td e):=hr;injection ej with r1 r2;split at he
  ·rename_i d h2;split at he
   ·rename_i hv;exact rG li t env _ hn.2.1 r1 (fun nd cS=>by
     rcases xG.1 cS with rfl|cS
     ·exact NQ.plain hn.1 h1 (aW5 hv _) h2
     ·exact ha nd cS) he
   ·exact rG li e env acc hn.2.2 r2 ha he
  ·cases he
 | .note zb t,env,acc,hn,hr,ha,he=>by
  unfold kU at hn;rw[xf] at hn;unfold bM at he;exact rG li t env (zb::acc) hn.2 hr (fun nd cS=>by
   rcases xG.1 cS with rfl|cS
   ·have h1:=hn.1;split at h1
    ·rename_i x hk;refine⟨by unfold dw;rw[hk];trivial,fun g i e=>by rw[hk] at e;cases e⟩
    ·cases h1
   ·exact ha nd cS) he
 | .call f i us cE t e,env,acc,hn,hr,ha,he=>by
  unfold kU at hn;rw[xf,xf] at hn;unfold bM at he;obtain⟨ds,h1,he⟩:=xr.1 he;obtain⟨cf,h2,he⟩:=xr.1 he;have ej:RT.bn (pn oq ret t (Nat.add env.length (bE cE)) (⟨.rY f i,us,.tuple ⟨qf env.length cE⟩⟩::acc)) (pn oq ret e env.length acc)=RT.bn (pA td t) (pA td e):=hr;injection ej with r1 r2;split at he
  ·rename_i hm;have mR:cf.length=cE.length:=VV _ _ hm;have aF:(env++cf).length=Nat.add env.length (bE cE):=by rw[xa,mR,dg];rfl
   rw[←aF] at r1;obtain⟨tape,nF,g1,g2,g3⟩:=rG li t (env++cf) _ hn.2.1 r1 (fun nd cS=>by
    rcases xG.1 cS with rfl|cS
    ·refine⟨trivial,fun g j e=> ?_⟩;cases e;have h0:=hn.1;split at h0
     ·rename_i f' sg hS;have ef:f=f':=by simpa using h0
      subst ef;exact⟨sg,ds,cf,hS,oH (fun v d=>tg (uV env cf)) h1,IC (env:=env) (pre:=env) hm (fun i d hd=>P' env cf i d hd),li i ds cf f sg h2 hS⟩
     ·cases h0
    ·exact(ha nd cS).iE (uV env cf)) he
   exact⟨tape,nF,fun c d h=>g1 c d (uV env cf c d h),g2,g3⟩
  ·exact rG li e env acc hn.2.2 r2 ha he
 | .jump h m ρ aS us,env,acc,hn,hr,ha,he=>by
  unfold bM at he;obtain⟨cf,h1,h2⟩:=xr.1 he;have ej:RT.lf (oq (Di acc []) h m ρ aS us)=RT.lf (some [td h]):=hr;injection ej with r1;refine⟨_,env,fun _ _ h=>h,fun nd cS=>ha nd ?_,.inl ⟨h,m,ρ,aS,us,cf,r1,h1,h2⟩⟩;rw[Pg] at cS;simpa using cS
 | .ret ρ aS us,env,acc,hn,hr,ha,he=>by
  unfold bM at he;have ej:RT.lf (ret (Di acc []) ρ aS us)=RT.lf (some [[]]):=hr;injection ej with r1;refine⟨_,env,fun _ _ h=>h,fun nd cS=>ha nd ?_,.inr ⟨ρ,aS,us,r1,he⟩⟩;rw[Pg] at cS;simpa using cS
 | .stop,env,acc,hn,hr,ha,he=>by
  unfold bM at he;cases he
structure Hd where
 td:List Item
 T:aI
 m:Nat
structure FD where
 f:FuncId
 n:Nat
 K:Nat
 rs:List ResultVar
 sg:aG
 hs:List Hd
 sZ:List DT
def exec(F:List FD)(X:Nat→List D→Option (List D)):Nat→Nat→Nat→List D→Option (List D)
 |0,_,_,_=>none
 |n+1,i,h,ds=>match F[i]? with
  |none=>X i ds
  |some fd=>match fd.hs[h]?,fd.sZ[h]? with
   |some s,some t=>if ds.length=s.m then bM (fun j ds=>exec F X n j 0 ds) (fun h' ds=>exec F X n i h' ds) t ds else none
   |_,_=>none
section
variable(E:av)(sq:List (Nat×List xO))(call:cL→List xM→AW→aZ xM)(bL:Nat→List Oper→Fr→AW→aZ Fr)(aP k:Nat)(L:List (Option ap))
def Tf(fd:FD)(s:Hd)(tape:List Node)(h m:Nat)(ρ:List Nat)(aS us:List xM):Option (List (List Item)):=
 match dj fd.hs h with
 |some s'=>tT E sq call fd.n (bL fd.n) aa1 (TN L s'.T fd.sg.nob ρ aS us) aP m s.td (pb fd.K s.T.tm) (s.T.aw k L tape)
 |none=>none
def az2(fd:FD)(s:Hd)(tape:List Node)(ρ:List Nat)(aS us:List xM):Option (List (List Item)):=
 tT E sq call fd.n (bL fd.n) (TI E fd.rs L fd.sg ρ aS us) aa2 aP 0 s.td (pb fd.K s.T.tm) (s.T.aw k L tape)
def T2(fd:FD)(h:Nat):List Item:=match dj fd.hs h with|some s=>s.td|none=>[]
def LO(S:List (Nat×aG))(fd:FD)(s:Hd)(t:DT):Prop:=
 kU S t=true∧fd.sg.nob≤s.T.hp.length∧pn (Tf E sq call bL aP k L fd s) (az2 E sq call bL aP k L fd s) t s.m []=pA (T2 fd) t
structure FOk (P:Program) (S:List (Nat×aG)) (fd:FD):Prop where
 fn:∃fn c,P.funcs[fd.f]? =some fn∧fn.body=some c∧fn.ntmps=fd.n∧fn.results=⟨fd.rs⟩∧∃m,fd.hs[0]? =some ⟨[.code c],⟨vY fd.sg.args,fd.sg.hp⟩,m⟩
 len:fd.sg.args.length≤fd.n
 kG:∀(h:Nat) (s:Hd) (t:DT),fd.hs[h]? =some s→fd.sZ[h]? =some t→LO E sq call bL aP k L S fd s t
end
theorem bq3{E:av}{sq:List (Nat×List xO)}{call:cL→List xM→AW→aZ xM}{bL:Nat→List Oper→Fr→AW→aZ Fr}{aP k:Nat}{L:List (Option ap)}{S:List (Nat×aG)}{fd:FD}(n:Nat)(hl:fd.hs.length=n)(h:∀h,h<n→LO E sq call bL aP k L S fd (fd.hs.getD h ⟨[],⟨[],[]⟩,0⟩) (fd.sZ.getD h .stop)):
 ∀(h:Nat) (s:Hd) (t:DT),fd.hs[h]? =some s→fd.sZ[h]? =some t→LO E sq call bL aP k L S fd s t:=fun i s t hs ht=>by
 have:=h i (by rw[←hl];exact(xe.1 hs).1);rw[List.getD_eq_getElem?_getD,List.getD_eq_getElem?_getD,hs,ht] at this;exact this
section
variable{P:Program}{E:av}{sq:List (Nat×List xO)}(ok:E.Ok P)(aY:E.Seq P sq){L:List (Option ap)}{LL:World→Prop}{k:Nat}{S:List (Nat×aG)}(hG:E.G=⟨L.length,NQ P LL k L S,LL⟩)(hL:G2 L)
include ok aY hG hL in
theorem PG{call:cL→List xM→AW→aZ xM}(hc:fN P E call){bL:Nat→List Oper→Fr→AW→aZ Fr}(jW:∀n,tE P E n (bL n)){aP:Nat}{F:List FD}{X:Nat→List D→Option (List D)}
 (hF:∀(i:Nat) (fd:FD),F[i]? =some fd→FOk E sq call bL aP k L P S fd∧S[i]? =some (fd.f,fd.sg)) (hX:∀(i:Nat) (ds cf:List D) (f:Nat) (sg:aG),X i ds=some cf→S[i]? =some (f,sg)→uL P LL k L f sg ds cf):
 ∀(n i:Nat),(∀(h:Nat) (ds out:List D),exec F X n i h ds=some out→∀(fd:FD),F[i]? =some fd→∀(s:Hd),fd.hs[h]? =some s→DO P E fd.f fd.n fd.K k L fd.sg s.td s.T ds out)∧
  ∀(ds out:List D) (f:Nat) (sg:aG),exec F X n i 0 ds=some out→S[i]? =some (f,sg)→uL P LL k L f sg ds out
 |0,i=>⟨fun h ds out e=>(by unfold exec at e;cases e),fun ds out f sg e=>(by unfold exec at e;cases e)⟩
 |n+1,i=>by
  have key:∀(h:Nat) (ds out:List D),exec F X (n+1) i h ds=some out→∀(fd:FD),F[i]? =some fd→∀(s:Hd),fd.hs[h]? =some s→DO P E fd.f fd.n fd.K k L fd.sg s.td s.T ds out:=by
   intro h ds out e fd lN s hs;unfold exec at e;rw[lN] at e;simp only at e;rw[hs] at e;split at e
   ·rename_i s' t mb ht;cases mb;split at e
    ·rename_i hm;obtain⟨Ip,hS⟩:=hF i fd lN;obtain⟨h1,h2,h3⟩:=Ip.kG h s t hs ht;rw[←hm] at h3;obtain⟨tape,nF,g1,g2,g3⟩:=rG (P:=P) (LL:=LL) (kk:=k) (L:=L) (S:=S) (fun j ds cf f sg hj hSj=>(PG hc jW hF hX n j).2 ds cf f sg hj hSj) t ds [] h1 h3 (fun nd cS=>by cases cS) e;obtain⟨fn,c,f1,f2,f3,f4,f5⟩:=Ip.fn;rcases g3 with⟨h',m,ρ,aS,us,cf,r1,r2,r3⟩|⟨ρ,aS,us,r1,r2⟩
     ·unfold Tf T2 at r1;rw[eL] at r1;cases hh:fd.hs[h']? with
      |none=>rw[hh] at r1;cases r1
      |some s2=>
       rw[hh] at r1;exact bb8 ok aY hG hL hc (jW fd.n) r1 (fun o ho=>xy.1 ho) h2 (δ:=lk nF) (fun c d h=>g1 c d h) (fun nd cS=>g2 nd cS) r2 ((PG hc jW hF hX n i).1 h' cf out r3 fd lN s2 hh)
     ·exact bh6 ok aY hG hL hc (jW fd.n) f1 f4 r1 h2 (δ:=lk nF) (fun c d h=>g1 c d h) (fun nd cS=>g2 nd cS) r2
    ·cases e
   ·cases e
  refine⟨key,fun ds out f sg e hS=> ?_⟩;cases lN:F[i]? with
  |none=>
   unfold exec at e;rw[lN] at e;exact hX i ds out f sg e hS
  |some fd=>
   obtain⟨Ip,hS'⟩:=hF i fd lN;rw[hS] at hS';cases hS';obtain⟨fn,c,f1,f2,f3,f4,m,f5⟩:=Ip.fn;have Mt:=key 0 ds out e fd lN _ f5;have aF:=Ip.len;rw[←f3] at Mt aF;exact aZ1 hG f1 f2 aF Mt
end
theorem pY{c c' j j':Nat→List D→Option (List D)}(hc:∀i ds o,c i ds=some o→c' i ds=some o)(hj:∀i ds o,j i ds=some o→j' i ds=some o):
 ∀(t:DT) (env o:List D),bM c j t env=some o→bM c' j' t env=some o
 | .op k args t,env,o,h=>by
  unfold bM at h⊢;obtain⟨ds,h1,h⟩:=xr.1 h;obtain⟨d,h2,h⟩:=xr.1 h;rw[h1,xB,h2,xB];split at h
  ·rename_i gT;rw[if_pos gT];exact pY hc hj t _ _ h
  ·cases h
 | .aC k args cE t e,env,o,h=>by
  unfold bM at h⊢;obtain⟨ds,h1,h⟩:=xr.1 h;rw[h1,xB];split at h
  ·rename_i l h2
   try rw[h2]
   split at h
   ·rename_i hm;simp only [if_pos hm];exact pY hc hj t _ _ h
   ·rename_i hm;simp only [if_neg hm];exact pY hc hj e _ _ h
  ·cases h
 | .br k args t e,env,o,h=>by
  unfold bM at h⊢;obtain⟨ds,h1,h⟩:=xr.1 h;rw[h1,xB];split at h
  ·rename_i h2;try rw[h2]
   exact pY hc hj t _ _ h
  ·rename_i h2;try rw[h2]
   exact pY hc hj e _ _ h
  ·cases h
 | .sw k args v t e,env,o,h=>by
  unfold bM at h⊢;obtain⟨ds,h1,h⟩:=xr.1 h;rw[h1,xB];cases h2:aN k ds with
  |none=>rw[h2] at h;cases h
  |some d=>
   rw[h2] at h;simp only at h⊢;split at h
   ·rename_i hv;rw[if_pos hv];exact pY hc hj t _ _ h
   ·rename_i hv;rw[if_neg hv];exact pY hc hj e _ _ h
 | .note nd t,env,o,h=>by
  unfold bM at h⊢;exact pY hc hj t _ _ h
 | .call f i us cE t e,env,o,h=>by
  unfold bM at h⊢;obtain⟨ds,h1,h⟩:=xr.1 h;obtain⟨cf,h2,h⟩:=xr.1 h;rw[h1,xB,hc _ _ _ h2,xB];split at h
  ·rename_i hm;rw[if_pos hm];exact pY hc hj t _ _ h
  ·rename_i hm;rw[if_neg hm];exact pY hc hj e _ _ h
 | .jump h' m ρ aS us,env,o,h=>by
  unfold bM at h⊢;obtain⟨ds,h1,h⟩:=xr.1 h;rw[h1,xB];exact hj _ _ _ h
 | .ret ρ aS us,env,o,h=>by
  unfold bM at h⊢;exact h
 | .stop,env,o,h=>by
  unfold bM at h;cases h
section
variable(F:List FD)(X:Nat→List D→Option (List D))
theorem bd8{n:Nat}:∀(i h:Nat) (ds o:List D),exec F X n i h ds=some o→exec F X (n+1) i h ds=some o:=by
 induction n with
 |zero=>intro i h ds o e;unfold exec at e;cases e
 |succ n ih=>
  intro i h ds o e;unfold exec at e⊢;cases hi:F[i]? with
  |none=>rw[hi] at e;exact e
  |some fd=>
   rw[hi] at e;simp only at e⊢;cases hs:fd.hs[h]? with
   |none=>rw[hs] at e;cases e
   |some s=>
    cases ht:fd.sZ[h]? with
    |none=>rw[hs,ht] at e;cases e
    |some t=>
     rw[hs,ht] at e;simp only at e⊢;split at e
     ·rename_i hm;rw[if_pos hm];exact pY (fun j ds o h=>ih j 0 ds o h) (fun j ds o h=>ih i j ds o h) t ds o e
     ·cases e
theorem BT{n m:Nat}(ia:n≤m){i h:Nat}{ds o:List D}(e:exec F X n i h ds=some o):exec F X m i h ds=some o:=by
 induction ia with
 |refl=>exact e
 |step _ ih=>exact bd8 F X _ _ _ _ ih
def run(i h:Nat)(ds:List D):Option (List D):=by
 classical
 exact if hh:∃n o,exec F X n i h ds=some o then some hh.choose_spec.choose else none
theorem B8{i h:Nat}{ds o:List D}:run F X i h ds=some o↔∃n,exec F X n i h ds=some o:=by
 unfold run;constructor
 ·intro e;split at e
  ·rename_i hh;cases e;exact⟨hh.choose,hh.choose_spec.choose_spec⟩
  ·cases e
 ·rintro⟨n,e⟩;have hh:∃n o,exec F X n i h ds=some o:=⟨n,o,e⟩;rw[dif_pos hh];have h1:=BT F X (Nat.le_max_left hh.choose n) hh.choose_spec.choose_spec;have h2:=BT F X (Nat.le_max_right hh.choose n) e;exact h1.symm.trans h2
theorem rF(i:Nat):∀(t:DT) (env o:List D),bM (fun j ds=>run F X j 0 ds) (fun h ds=>run F X i h ds) t env=some o→∃n,bM (fun j ds=>exec F X n j 0 ds) (fun h ds=>exec F X n i h ds) t env=some o
 | .op k args t,env,o,h=>by
  unfold bM at h;obtain⟨ds,h1,h⟩:=xr.1 h;obtain⟨d,h2,h⟩:=xr.1 h;split at h
  ·rename_i hc;obtain⟨n,hn⟩:=rF i t _ _ h;refine⟨n,?_⟩;unfold bM;rw[h1,xB,h2,xB,if_pos hc];exact hn
  ·cases h
 | .aC k args cE t e,env,o,h=>by
  unfold bM at h;obtain⟨ds,h1,h⟩:=xr.1 h;split at h
  ·rename_i l h2;split at h
   ·rename_i hm;obtain⟨n,hn⟩:=rF i t _ _ h;refine⟨n,?_⟩;unfold bM;rw[h1,xB,h2];simp only [if_pos hm];exact hn
   ·rename_i hm;obtain⟨n,hn⟩:=rF i e _ _ h;refine⟨n,?_⟩;unfold bM;rw[h1,xB,h2];simp only [if_neg hm];exact hn
  ·cases h
 | .br k args t e,env,o,h=>by
  unfold bM at h;obtain⟨ds,h1,h⟩:=xr.1 h;split at h
  ·rename_i h2;obtain⟨n,hn⟩:=rF i t _ _ h;refine⟨n,?_⟩;unfold bM;rw[h1,xB,h2];exact hn
  ·rename_i h2;obtain⟨n,hn⟩:=rF i e _ _ h;refine⟨n,?_⟩;unfold bM;rw[h1,xB,h2];exact hn
  ·cases h
 | .sw k args v t e,env,o,h=>by
  unfold bM at h;obtain⟨ds,h1,h⟩:=xr.1 h;cases h2:aN k ds with
  |none=>rw[h2] at h;cases h
  |some d=>
   rw[h2] at h;simp only at h;split at h
   ·rename_i hv;obtain⟨n,hn⟩:=rF i t _ _ h;refine⟨n,?_⟩;unfold bM;rw[h1,xB,h2];simp only [if_pos hv];exact hn
   ·rename_i hv;obtain⟨n,hn⟩:=rF i e _ _ h;refine⟨n,?_⟩;unfold bM;rw[h1,xB,h2];simp only [if_neg hv];exact hn
 | .note nd t,env,o,h=>by
  unfold bM at h;obtain⟨n,hn⟩:=rF i t _ _ h;exact⟨n,by unfold bM;exact hn⟩
 | .call f j us cE t e,env,o,h=>by
  unfold bM at h;obtain⟨ds,h1,h⟩:=xr.1 h;obtain⟨cf,h2,h⟩:=xr.1 h;obtain⟨m,kq⟩:=(B8 F X).1 h2;have aD6:∀{n:Nat} {t:DT} {env:List D},bM (fun j ds=>exec F X n j 0 ds) (fun h ds=>exec F X n i h ds) t env=some o→bM (fun j ds=>exec F X (max m n) j 0 ds) (fun h ds=>exec F X (max m n) i h ds) t env=some o:=fun{n t env} e=>
   pY (fun j ds o h=>BT F X (Nat.le_max_right m n) h) (fun j ds o h=>BT F X (Nat.le_max_right m n) h) t env o e
  split at h
  ·rename_i hm;obtain⟨n,hn⟩:=rF i t _ _ h;refine⟨max m n,?_⟩;unfold bM;rw[h1,xB,BT F X (Nat.le_max_left m n) kq,xB,if_pos hm];exact aD6 hn
  ·rename_i hm;obtain⟨n,hn⟩:=rF i e _ _ h;refine⟨max m n,?_⟩;unfold bM;rw[h1,xB,BT F X (Nat.le_max_left m n) kq,xB,if_neg hm];exact aD6 hn
 | .jump h' m ρ aS us,env,o,h=>by
  unfold bM at h;obtain⟨ds,h1,h⟩:=xr.1 h;obtain⟨n,hn⟩:=(B8 F X).1 h;refine⟨n,?_⟩;unfold bM;rw[h1,xB];exact hn
 | .ret ρ aS us,env,o,h=>by
  unfold bM at h;exact⟨0,by unfold bM;exact h⟩
 | .stop,env,o,h=>by
  unfold bM at h;cases h
def Rn(i h:Nat)(ds:List D)(Q:List D→Prop):Prop:=∃o,run F X i h ds=some o∧Q o
def Wp(i:Nat)(t:DT)(env:List D)(Q:List D→Prop):Prop:=∃o,bM (fun j ds=>run F X j 0 ds) (fun h ds=>run F X i h ds) t env=some o∧Q o
variable{F X}{i h:Nat}{env ds:List D}{Q:List D→Prop}
theorem Rn.of{fd:FD}{s:Hd}{t:DT}(hi:F[i]? =some fd)(hs:fd.hs[h]? =some s)(ht:fd.sZ[h]? =some t)(hm:ds.length=s.m)(hw:Wp F X i t ds Q):Rn F X i h ds Q:=by
 obtain⟨o,h1,h2⟩:=hw;obtain⟨n,hn⟩:=rF F X i t ds o h1;refine⟨o,(B8 F X).2 ⟨n+1,?_⟩,h2⟩;unfold exec;rw[hi];simp only;rw[hs,ht];simp only;rw[if_pos hm];exact hn
theorem Rn.ofX{o:List D}(hi:F[i]? =none)(hx:X i ds=some o)(hq:Q o):Rn F X i 0 ds Q:=by
 refine⟨o,(B8 F X).2 ⟨1,?_⟩,hq⟩;unfold exec;rw[hi];exact hx
theorem Rn.mono{Q':List D→Prop}(hr:Rn F X i h ds Q)(hq:∀o,Q o→Q' o):Rn F X i h ds Q':=hr.imp fun o hh=>⟨hh.1,hq o hh.2⟩
theorem Wp.op{k:NK}{args:List xM}{t:DT}{d:D}(h1:aW (bT (lk env)) args=some ds)(h2:aN k ds=some d)(h3:d.cell=true)(h4:Wp F X i t (env++[d]) Q):Wp F X i (.op k args t) env Q:=by
 obtain⟨o,e,q⟩:=h4;refine⟨o,?_,q⟩;unfold bM;rw[h1,xB,h2,xB,if_pos h3];exact e
theorem Wp.aC{k:NK}{args:List xM}{cE:List (Option xM)}{t e:DT}{l:List D}(h1:aW (bT (lk env)) args=some ds)(h2:aN k ds=some (.agg l))(h3:gV cE l=true)(h4:Wp F X i t (env++l) Q):Wp F X i (.aC k args cE t e) env Q:=by
 obtain⟨o,e,q⟩:=h4;refine⟨o,?_,q⟩;unfold bM;rw[h1,xB,h2];simp only [if_pos h3];exact e
theorem Wp.opN{k:NK}{args:List xM}{cE:List (Option xM)}{t e:DT}{l:List D}(h1:aW (bT (lk env)) args=some ds)(h2:aN k ds=some (.agg l))(h3:gV cE l=false)(h4:Wp F X i e env Q):Wp F X i (.aC k args cE t e) env Q:=by
 obtain⟨o,e,q⟩:=h4;refine⟨o,?_,q⟩;unfold bM;rw[h1,xB,h2];simp only [h3];exact e
theorem Wp.s7{k:NK}{args:List xM}{t e:DT}(h1:aW (bT (lk env)) args=some ds)(h2:aN k ds=some (.bool true))(h4:Wp F X i t env Q):Wp F X i (.br k args t e) env Q:=by
 obtain⟨o,e,q⟩:=h4;refine⟨o,?_,q⟩;unfold bM;rw[h1,xB,h2];exact e
theorem Wp.uI{k:NK}{args:List xM}{t e:DT}(h1:aW (bT (lk env)) args=some ds)(h2:aN k ds=some (.bool false))(h4:Wp F X i e env Q):Wp F X i (.br k args t e) env Q:=by
 obtain⟨o,e,q⟩:=h4;refine⟨o,?_,q⟩;unfold bM;rw[h1,xB,h2];exact e
theorem Wp.br{k:NK}{args:List xM}{t e:DT}{b:Bool}(h1:aW (bT (lk env)) args=some ds)(h2:aN k ds=some (.bool b))(ht:b=true→Wp F X i t env Q)(he:b=false→Wp F X i e env Q):Wp F X i (.br k args t e) env Q:=by
 cases b with
 |true=>exact Wp.s7 h1 h2 (ht rfl)
 |false=>exact Wp.uI h1 h2 (he rfl)
theorem Wp.aQ{k:NK}{args:List xM}{t e:DT}{p:Prop}[Decidable p](h1:aW (bT (lk env)) args=some ds)(h2:aN k ds=some (.bool (decide p)))(ht:p→Wp F X i t env Q)(he: ¬p→Wp F X i e env Q):Wp F X i (.br k args t e) env Q:=
 Wp.br h1 h2 (fun h=>ht (of_decide_eq_true h)) (fun h=>he (of_decide_eq_false h))
theorem Wp.DY{k:NK}{args:List xM}{v:xM}{t e:DT}{d:D}(h1:aW (bT (lk env)) args=some ds)(h2:aN k ds=some d)(h3:yh d v=true)(h4:Wp F X i t env Q):Wp F X i (.sw k args v t e) env Q:=by
 obtain⟨o,e,q⟩:=h4;refine⟨o,?_,q⟩;unfold bM;rw[h1,xB,h2];simp only [if_pos h3];exact e
theorem Wp.T4{k:NK}{args:List xM}{v:xM}{t e:DT}{d:D}(h1:aW (bT (lk env)) args=some ds)(h2:aN k ds=some d)(h3:yh d v=false)(h4:Wp F X i e env Q):Wp F X i (.sw k args v t e) env Q:=by
 obtain⟨o,e,q⟩:=h4;refine⟨o,?_,q⟩;unfold bM;rw[h1,xB,h2];simp only [h3];exact e
theorem Wp.note{nd:Node}{t:DT}(h4:Wp F X i t env Q):Wp F X i (.note nd t) env Q:=by
 obtain⟨o,e,q⟩:=h4;exact⟨o,by unfold bM;exact e,q⟩
theorem Wp.call{f j:Nat}{us:List xM}{cE:List (Option xM)}{t e:DT}{Q':List D→Prop}(h1:aW (bQ (lk env)) us=some ds)(h2:Rn F X j 0 ds Q')(h3:∀o,Q' o→(gV cE o=true∧Wp F X i t (env++o) Q)∨(gV cE o=false∧Wp F X i e env Q)):Wp F X i (.call f j us cE t e) env Q:=by
 obtain⟨o,e,q⟩:=h2;rcases h3 o q with⟨m,o',e',q'⟩|⟨m,o',e',q'⟩
 ·refine⟨o',?_,q'⟩;unfold bM;rw[h1,xB,e,xB,if_pos m];exact e'
 ·refine⟨o',?_,q'⟩;unfold bM;rw[h1,xB,e,xB,if_neg (by rw[m];exact Bool.noConfusion)];exact e'
theorem Wp.AD{f j:Nat}{us:List xM}{cE:List (Option xM)}{t e:DT}{o:List D}(h1:aW (bQ (lk env)) us=some ds)(h2:Rn F X j 0 ds (·=o))(h3:gV cE o=true)(h4:Wp F X i t (env++o) Q):Wp F X i (.call f j us cE t e) env Q:=
 Wp.call h1 h2 fun _ e=> .inl (by subst e;exact⟨h3,h4⟩)
theorem Wp.LH{f j:Nat}{us:List xM}{cE:List (Option xM)}{t e:DT}{o:List D}(h1:aW (bQ (lk env)) us=some ds)(h2:Rn F X j 0 ds (·=o))(h3:gV cE o=false)(h4:Wp F X i e env Q):Wp F X i (.call f j us cE t e) env Q:=
 Wp.call h1 h2 fun _ e=> .inr (by subst e;exact⟨h3,h4⟩)
theorem Wp.jump{h' m:Nat}{ρ:List Nat}{aS us:List xM}(h1:aW (bQ (lk env)) us=some ds)(h2:Rn F X i h' ds Q):Wp F X i (.jump h' m ρ aS us) env Q:=by
 obtain⟨o,e,q⟩:=h2;refine⟨o,?_,q⟩;unfold bM;rw[h1,xB];exact e
theorem Wp.ret{ρ:List Nat}{aS us:List xM}{o:List D}(h1:aW (bQ (lk env)) us=some o)(h2:Q o):Wp F X i (.ret ρ aS us) env Q:=⟨o,by unfold bM;exact h1,h2⟩
end
def yc(P:Program):Nat→xN→Bool
 |0,_=>false
 |n+1,t=>match P.underlying t with
  |some (.int _)=>P.cellsOf t==1
  |some .bool=>P.cellsOf t==1
  |some .string=>P.cellsOf t==1
  |some (.slice e)=>P.cellsOf t==1&&Nat.blt 0 (P.cellsOf e)&&yc P n e
  |some (.struct fs)=>(fs.toList.foldr (fun f k o=>f.offset==o&&yc P n f.type&&k (o+P.cellsOf f.type)) (fun o=>o==P.cellsOf t)) 0
  |_=>false
mutual
inductive TR (P:Program):xN→List D→Prop
 |int {t:xN} {k:xO} {n:Int} (h:P.underlying t=some (.int k)) (hw:(Lit.int k n).wf=true):TR P t [.int k n]
 |bool {t:xN} {b:Bool} (h:P.underlying t=some .bool):TR P t [.bool b]
 |str {t:xN} {l:List UInt8} (h:P.underlying t=some .string) (hw:l.length≤maxLen):TR P t [.str l]
 |slice {t e:xN} {rows:List (List D)} (h:P.underlying t=some (.slice e)) (hl:rows.length≤maxLen) (hr:∀row∈rows,TR P e row):TR P t [.sl rows]
 |struct {t:xN} {fs:Array Field} {ds:List D} (h:P.underlying t=some (.struct fs)) (hf:te P fs.toList ds):TR P t ds
inductive te (P:Program):List Field→List D→Prop
 |nil:te P [] []
 |cons {f:Field} {r:List Field} {a b:List D} (h:TR P f.type a) (hr:te P r b):te P (f::r) (a++b)
end
section
variable{P:Program}{t:xN}{ds:List D}
theorem TR.Jk{k:xO}(hu:P.underlying t=some (.int k))(h:TR P t ds):∃n,ds=[.int k n]∧(Lit.int k n).wf=true:=by
 cases h with
 |int h hw=>rw[hu] at h;cases h;exact⟨_,rfl,hw⟩
 |bool h=>rw[hu] at h;cases h
 |str h=>rw[hu] at h;cases h
 |slice h=>rw[hu] at h;cases h
 |struct h=>rw[hu] at h;cases h
theorem TR.zE{e:xN}(hu:P.underlying t=some (.slice e))(h:TR P t ds):∃rows,ds=[.sl rows]∧rows.length≤maxLen∧∀row∈rows,TR P e row:=by
 cases h with
 |int h hw=>rw[hu] at h;cases h
 |bool h=>rw[hu] at h;cases h
 |str h=>rw[hu] at h;cases h
 |slice h hl hr=>rw[hu] at h;cases h;exact⟨_,rfl,hl,hr⟩
 |struct h=>rw[hu] at h;cases h
theorem TR.uM{fs:Array Field}(hu:P.underlying t=some (.struct fs))(h:TR P t ds):te P fs.toList ds:=by
 cases h with
 |int h hw=>rw[hu] at h;cases h
 |bool h=>rw[hu] at h;cases h
 |str h=>rw[hu] at h;cases h
 |slice h=>rw[hu] at h;cases h
 |struct h hf=>rw[hu] at h;cases h;exact hf
theorem te.cons_inv{f:Field}{r:List Field}(h:te P (f::r) ds):∃a b,ds=a++b∧TR P f.type a∧te P r b:=by
 cases h with|cons h hr=>exact⟨_,_,rfl,h,hr⟩
theorem te.uU(h:te P [] ds):ds=[]:=by cases h;rfl
end
theorem xX{α:Type}{f:α→List D}:∀{rows:List (List D)},(∀row∈rows,∃a,row=f a)→∃l:List α,rows=l.map f
 |[],_=>⟨[],rfl⟩
 |r::rows,h=>by
  obtain⟨a,rfl⟩:=h r xn;obtain⟨l,rfl⟩:=xX (rows:=rows) fun x hx=>h x (xo _ hx)
  exact⟨a::l,rfl⟩
def zW(W:World):Nat→Option (Array xM):=fun b=>match W.heap[b]? with|some (.cells cs _ _)=>some cs|_=>none
theorem ba8(W:World):vd (zW W) W:=fun b cs h=>by
 unfold zW at h;split at h
 ·rename_i bu e fz hb;cases h;exact⟨e,fz,hb⟩
 ·cases h
def pB(W:World)(ds:List D)(cs:List xM):Prop:=ds.length=cs.length∧(∀d∈ds,d.cell=true)∧∀(i:Nat) (d:D) (v:xM),ds[i]? =some d→cs[i]? =some v→Rd (zW W) d v
theorem Cq{W:World}{d:D}{v:xM}(hc:d.cell=true)(h:Rd (zW W) d v):pB W [d] [v]:=by
 refine⟨rfl,fun x hx=>by rw[xy.1 hx];exact hc,fun i d' v' h1 h2=> ?_⟩;cases i with
 |zero=>simp at h1 h2;subst h1;subst h2;exact h
 |succ i=>simp at h1
theorem pB.app{W:World}{a b:List D}{x y:List xM}(h:pB W a x)(k:pB W b y):pB W (a++b) (x++y):=by
 refine⟨by rw[xa,xa,h.1,k.1],fun d hd=>(xF.1 hd).elim (h.2.1 d) (k.2.1 d),fun i d v h1 h2=> ?_⟩;by_cases hi:i<a.length
 ·rw[xw hi] at h1;rw[xw (h.1▸hi)] at h2;exact h.2.2 i d v h1 h2
 ·rw[xq (by omega)] at h1;rw[xq (by rw[←h.1];omega),←h.1] at h2;exact k.2.2 _ d v h1 h2
section
variable{P:Program}{H:Type}{enc:xN×xM→H}{W:World}
theorem PS{W:World}{a:Addr}{v:xM}(h:W.cell? a=some v):a.spot=none∧∃cs,zW W a.block=some cs∧cs[a.off]? =some v:=by
 unfold World.cell? at h;split at h
 ·rename_i c e fz hb;split at h
  ·cases h
  ·rename_i hs;refine⟨by simpa using hs,c,by unfold zW;rw[hb],h⟩
 ·cases h
theorem VL{n:Nat}{total:Nat}{cs:List xM}{xs:List (DataW H×List MemPlace)}(IH:∀(t:xN) (aP:Nat) (cs:List xM) (x:DataW H×List MemPlace),yc P n t=true→DataW.trod enc P W 0 (fun _=>true) true aP t cs=some x→∃ds,TR P t ds∧pB W ds cs)(bZ:cs.length=total){m:Nat}:
 ∀(fs:List Field) (o:Nat),(fs.foldr (fun f k o=>f.offset==o&&yc P n f.type&&k (o+P.cellsOf f.type)) (fun o=>o==total)) o=true→
  (∀f∈fs,∃x,DataW.trod enc P W 0 (fun _=>true) true m f.type ((cs.drop f.offset).take (P.cellsOf f.type))=some x)→
  o≤total→∃ds,te P fs ds∧pB W ds (cs.drop o)
 |[],o,h,_,_=>by
  have h:o=total:=by simpa using h
  subst h;refine⟨[],.nil,?_,fun d hd=>by simp at hd,fun i d v h1=>by simp at h1⟩;simp[bZ]
 |f::fs,o,h,hx,ho=>by
  simp only [List.foldr_cons,xf,beq_iff_eq] at h;obtain⟨⟨h1,h2⟩,h3⟩:=h;obtain⟨x,nL⟩:=hx f xn;rw[h1] at nL;obtain⟨ds,t1,t2⟩:=IH _ _ _ _ h2 nL;by_cases aR:o+P.cellsOf f.type≤total
  ·obtain⟨cf,t3,t4⟩:=VL (total:=total) (xs:=xs) IH bZ fs _ h3 (fun g hg=>hx g (xo _ hg)) aR;refine⟨ds++cf,.cons t1 t3,?_⟩;have e:cs.drop o=(cs.drop o).take (P.cellsOf f.type)++cs.drop (o+P.cellsOf f.type):=by
    rw[←List.drop_drop,List.take_append_drop]
   rw[e];exact t2.app t4
  ·exfalso;have:∀(gs:List Field) (o:Nat),(gs.foldr (fun f k o=>f.offset==o&&yc P n f.type&&k (o+P.cellsOf f.type)) (fun o=>o==total)) o=true→o≤total:=by
    intro gs
    induction gs with
    |nil=>
     intro o h;have:o=total:=by simpa using h
     omega
    |cons g gs ih=>
     intro o h;simp only [List.foldr_cons,xf,beq_iff_eq] at h;have:=ih _ h.2;omega
   exact aR (this _ _ h3)
theorem Vt:∀(n:Nat) (t:xN) (aP:Nat) (cs:List xM) (x:DataW H×List MemPlace),yc P n t=true→DataW.trod enc P W 0 (fun _=>true) true aP t cs=some x→∃ds,TR P t ds∧pB W ds cs:=by
 intro n
 induction n with
 |zero=>intro t aP cs x h;cases h
 |succ n ih=>
  intro t aP cs x hp h;unfold yc at hp;split at hp
  ·rename_i k hu;obtain⟨z,rfl,_,hw⟩:=DataW.trod_int hu h;exact⟨_,.int hu hw,Cq rfl (.int _ _)⟩
  ·rename_i hu;obtain⟨b,rfl,_⟩:=DataW.trod_bool hu h;exact⟨_,.bool (b:=b) hu,Cq rfl (.bool _)⟩
  ·rename_i hu;obtain⟨s,rfl,_,hs⟩:=DataW.trod_string hu h;refine⟨[.str s.data.toList],.str hu (by rw[Array.length_toList];exact hs),Cq rfl ?_⟩;have:s=⟨⟨s.data.toList⟩⟩:=by cases s;rfl
   exact this▸Rd.str s.data.toList
  ·rename_i e hu;simp only [xf,beq_iff_eq] at hp;obtain⟨⟨zh,bf⟩,bA⟩:=hp;have bf:0<P.cellsOf e:=by simpa using bf
   rcases Deep.open_slice hu h with⟨rfl,_⟩|⟨a,len,cap,m,fu,DD,Pl,rfl,_,cF,hcm,hm,_,hi⟩
   ·exact⟨[.sl []],.slice hu (xL _) (fun r hr=>by simp at hr),Cq rfl .qV⟩
   ·have hm:m=cap:=by simpa using hm
    subst hm;have el:∀i,i<m→∃ds bu,W.cells? 0 (a.add (i*P.cellsOf e)) (P.cellsOf e)=some bu∧TR P e ds∧pB W ds bu:=fun i aX=>by
     obtain⟨bu,h1,h2⟩:=hi i aX;obtain⟨ds,t1,t2⟩:=ih _ _ _ _ bA h2;exact⟨ds,bu,h1,t1,t2⟩
    by_cases h0:len=0
    ·subst h0;exact⟨[.sl []],.slice hu (xL _) (fun r hr=>by simp at hr),Cq rfl (.mL _ _)⟩
    ·
     have first:∃v,W.cell? a=some v:=by
      obtain⟨ds,bu,h1,_,_⟩:=el 0 (by omega);obtain⟨_,hl,aq⟩:=World.cells?_some h1;have:=aq 0 bf;rw[Nat.zero_mul,Addr.add_zero',Addr.add_zero',xc (by omega)] at this;exact⟨_,this⟩
     obtain⟨v0,hv0⟩:=first
     obtain⟨UI,cells,hz,_⟩:=PS hv0;obtain⟨b,off,sp⟩:=a;simp only at UI hz;subst UI;have get:∀i,i<m→∃ds,TR P e ds∧ds.length=P.cellsOf e∧(∀d∈ds,d.cell=true)∧∀(j:Nat) (d:D) (v:xM),ds[j]? =some d→cells[off+(i*P.cellsOf e+j)]? =some v→Rd (zW W) d v:=fun i aX=>by
      obtain⟨ds,bu,h1,t1,t2⟩:=el i aX;obtain⟨_,hl,aq⟩:=World.cells?_some h1;refine⟨ds,t1,t2.1.trans hl,t2.2.1,fun j d v hd hv=> ?_⟩;have hj:j<bu.length:=by rw[←t2.1];exact(xe.1 hd).1
      have h3:=aq j (by omega);rw[Addr.add_lit,Addr.add_lit] at h3;rw[xc hj] at h3;obtain⟨_,EB,eI,cx⟩:=PS h3;simp only at eI cx;rw[hz] at eI;cases eI;rw[Nat.add_assoc,hv] at cx;exact t2.2.2 j d v hd (by rw[xc hj];exact cx.symm)
     have aU:off+m*P.cellsOf e≤cells.size:=by
      obtain⟨ds,bu,h1,t1,t2⟩:=el (m - 1) (by omega);obtain⟨_,hl,aq⟩:=World.cells?_some h1;have h3:=aq (P.cellsOf e - 1) (by omega);rw[Addr.add_lit,Addr.add_lit,xc (by omega)] at h3;obtain⟨_,EB,eI,cx⟩:=PS h3;simp only at eI cx;rw[hz] at eI;cases eI;have h4:=(Array.getElem?_eq_some_iff.1 cx).1;have h5:(m - 1)*P.cellsOf e+P.cellsOf e=m*P.cellsOf e:=by
       rw[←Nat.succ_mul];congr 1;omega
      omega
     obtain⟨rows,ep,bK⟩:∃rows:List (List D),rows.length=len∧∀i row,rows[i]? =some row→TR P e row∧row.length=P.cellsOf e∧(∀d∈row,d.cell=true)∧∀(j:Nat) (d:D) (v:xM),row[j]? =some d→cells[off+(i*P.cellsOf e+j)]? =some v→Rd (zW W) d v:=by
      have:∀k,k≤len→∃rows:List (List D),rows.length=k∧∀i row,rows[i]? =some row→TR P e row∧row.length=P.cellsOf e∧(∀d∈row,d.cell=true)∧∀(j:Nat) (d:D) (v:xM),row[j]? =some d→cells[off+(i*P.cellsOf e+j)]? =some v→Rd (zW W) d v:=by
       intro k
       induction k with
       |zero=>exact fun _=>⟨[],rfl,fun i row h=>by simp at h⟩
       |succ k ihk=>
        intro hk;obtain⟨rows,g1,g2⟩:=ihk (by omega);obtain⟨ds,g3⟩:=get k (by omega);refine⟨rows++[ds],by rw[xa,g1];rfl,fun i row fI=> ?_⟩;by_cases hik:i<rows.length
        ·rw[xw hik] at fI;exact g2 i row fI
        ·have hl:=(xe.1 fI).1;rw[xa] at hl;have:i=rows.length:=by
          have:[ds].length=1:=rfl;omega
         subst this;rw[xq (xk _),Nat.sub_self] at fI;cases fI;rw[g1];exact g3
      exact this len (xk _)
     refine⟨[.sl rows],.slice hu (by omega) (fun row fI=> ?_),Cq rfl ?_⟩
     ·obtain⟨i,sR,rfl⟩:=List.getElem_of_mem fI;exact(bK i _ (xc sR)).1
     ·have:=Rd.sl (z:=zW W) rows (P.cellsOf e) b off m cells hz (fun h=>by rw[h] at ep;simp at ep;omega) (fun row fI=>by
       obtain⟨i,sR,rfl⟩:=List.getElem_of_mem fI;exact(bK i _ (xc sR)).2.1) (by omega) aU (fun i row j d v h1 h2 h3=>(bK i row h1).2.2.2 j d v h2 h3)
      rw[ep] at this;exact this
  ·rename_i fs hu;obtain⟨xs,m,rfl,_,aF,hxl,hf⟩:=DataW.trod_struct hu h;obtain⟨ds,t1,t2⟩:=VL (n:=n) (total:=P.cellsOf t) (xs:=xs) (m:=m) ih aF fs.toList 0 hp (fun f UY=>by
    obtain⟨i,sR,he⟩:=List.getElem_of_mem UY;have h1:fs[i]? =some f:=by
     rw[←he,←Array.getElem?_toList];exact xc sR
    have h2:=hf i f h1;have h3:i<xs.length:=by rw[hxl];simpa using sR
    rw[xc h3] at h2;exact⟨_,h2⟩) (xL _)
   exact⟨ds,.struct hu t1,t2⟩
  ·cases hp
end
theorem aZ2{P:Program}{LL:World→Prop}{k:Nat}{L:List (Option ap)}{f:FuncId}(hc:∀w,LL w→L.length≤w.heap.size→Calls P f #[] w fun e w'=>e= .returned (.bool true)∧Below w.heap.size w w'):uL P LL k L f ⟨[],[],0,.chan (some 1),[]⟩ [] [.bool true]:=by
 intro w β args' inv hd fQ;obtain rfl:args'=[]:=xA fQ.1.symm;refine(hc w inv.lay inv.jv).mono fun e w' ⟨he,hb⟩=> ?_
 let ak:ah:={β with d:=fun c=>if c=0 then some (.bool true) else none}
 have aR:β.ul ak:=⟨fun _ _ h=>h,fun _ _ h=>h,fun _ _ h=>h,fun c d h=>by rw[hd] at h;simp at h⟩;refine⟨_,ak,he,⟨⟨hb.os,hb.tape,hb.output,hb.size,fun k hk _=>hb.block k hk⟩,inv.gU,inv.dh,fun B l h=>⟨xK (inv.loc B l h).1 hb.size,(inv.loc B l h).2⟩,inv.inj,fun B ao l h1 h2=> ?_,inv.jm,fun b cs h=> ?_,inv.sep,fun nd _=>trivial,fun B ao h=>(inv.own B ao h).iE aR,inv.jj,inv.lay,inv.xg,inv.jv,inv.zo⟩,.sym 0 (.bool true) _ rfl rfl (.bool true),fun _ _=>rfl,fun _ _ h=>h,fun c d h=> ?_,rfl⟩
 ·rw[hb.block _ (inv.loc B l h2).1];exact(inv.cont B ao l h1 h2).iE aR
 ·obtain⟨e,fz,h1⟩:=inv.bH b cs h;exact⟨e,fz,by rw[hb.block b (Array.getElem?_eq_some_iff.1 h1).1];exact h1⟩
 ·cases c with
  |zero=>cases h;rfl
  |succ c=>simp at h
section
variable{P:Program}{LL:World→Prop}{k:Nat}{L:List (Option ap)}
theorem aU8{f:FuncId}{sg:aG}{ds:List D}{b:Bool}(hp:sg.hp=[])(UK:sg.rv= .chan (some 1))(h:uL P LL k L f sg ds [.bool b]){w:World}(hL:zZ L w)(U8:LL w)(aU:L.length≤w.heap.size){args':List xM}
 (fQ:aT (vH L (fun c=>ds[c]?) (zW w)) sg.args args'):Calls P f ⟨args'⟩ w fun e w'=>e= .returned (.bool b)∧Below w.heap.size w w':=by
 have inv:Inv w (G0 L LL) (vH L (fun c=>ds[c]?) (zW w)) ((mA sg.hp).aw k L []) w:=by
  have h0:=Oz (k:=k) hL (fun _ _=>True) LL (fun c=>ds[c]?) (zW w) [] U8 aU (ba8 w) (fun nd h=>by cases h);have e:(mA sg.hp).aw k L []=(im k L).pop []:=by
   rw[hp];show(im k (aj L (z9 []))).pop []=_;rw[show aj L (z9 [])=L from ?_];rw[iN];exact xj L
  rw[e];exact h0
 refine(h w _ args' inv rfl fQ).mono fun e w' ⟨v,ak,he,AS,hv,_,_,Tp,hx⟩=>⟨?_,?_⟩
 ·rw[UK] at hv;have hd:=Tp 0 (.bool b) rfl;cases hv with
  |sym c d v h hc hr=>rw[hd] at h;cases h;cases hr;exact he
 ·refine AS.below.below fun k hk=> ?_
  rw[hx] at hk;exact hk
end
def MQ(p:FD→Prop):List FD→Prop|[]=>True|fd::l=>p fd∧MQ p l
theorem MQ.get{p:FD→Prop}:∀{l:List FD},MQ p l→∀(i:Nat) (fd:FD),l[i]? =some fd→p fd
 |[],_,i,fd,h=>by simp at h
 |x::l,ha,0,fd,h=>by cases h;exact ha.1
 |x::l,ha,i+1,fd,h=>ha.2.get i fd h
theorem aa5{β:ah}{ds:List D}{cs:List xM}{a n:Nat}(hn:ds.length=n)(h:∀(i:Nat) (d:D) (v:xM),ds[i]? =some d→cs[i]? =some v→β.d (a+i)=some d∧d.cell=true∧Rd β.z d v)(hl:ds.length=cs.length){us:List xM}(hu:us=(List.range n).map fun i=>Value.chan (some (a+i+1))):ai β (.agg ⟨us⟩) (.agg ⟨cs⟩):=by
 refine .agg us cs (by rw[hu,xm,List.length_range];omega) fun i v v' h1 h2=> ?_
 subst hu;rw[xx] at h1;obtain⟨j,hj,rfl⟩:=xp.1 h1;obtain⟨hj1,fG⟩:=xe.1 hj;rw[List.getElem_range] at fG;subst fG;rw[List.length_range] at hj1;obtain⟨e1,e2,e3⟩:=h i _ v' (xc (by omega)) h2;exact .sym (a+i) _ _ e1 e2 e3
end
end Go.Ex
