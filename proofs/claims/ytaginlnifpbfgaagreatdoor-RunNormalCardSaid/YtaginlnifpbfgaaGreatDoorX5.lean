/- A verified evaluator of Go functions. -/
import Derived.Test.YtaginlnifpbfgaaGreatDoorX4
set_option linter.unusedVariables false
set_option linter.unusedSimpArgs false
namespace Go.Ex
open Go.RowKit
noncomputable section
def af.pG(β:af)(B:Nat)(v:xM):af:={β with o:=fun X=>if X=B then some v else β.o X}
theorem af.O3{β:af}{B:Nat}(v:xM)(h:β.o B=none):β.le (β.pG B v):=
 ⟨fun _ _ e=>e,fun _ _ e=>e,fun X u e=>by
  show(if X=B then some v else β.o X)=some u;rw[if_neg (fun hx=>by rw[hx,h] at e;cases e)];exact e,rfl,rfl⟩
theorem af.Jo(β:af)(B:Nat)(v:xM):β.grow (β.pG B v) B:=
 ⟨fun _ _=>rfl,fun _ _ e=>e,fun X hX=>by show(if X=B then some v else β.o X)=β.o X;rw[if_neg (by omega)],rfl,rfl⟩
theorem Inv.relabel{w0 w:World}{G:GP}{β:af}{A:AW}(h:Inv w0 G β A w){B:Nat}{k blk':ao}{v:xM}(hk:A.get B=some k)(hB:B<A.next)(ho:β.o B=none)(hs:k.still=false)
 (fB:∀l,β B=some l→gH (β.pG B v) l blk' w.heap[l.b]?) (jJ:je (β.pG B v) B blk'):Inv w0 G (β.pG B v) (A.put B (some blk')) w:=by
 have aK:=af.O3 (β:=β) v ho;have rK:∀D,((A.put B (some blk')).get D).isSome=true→(A.get D).isSome=true:=fun D h=>by
  rcases A.ja B (some blk') D with⟨_,e⟩|⟨e,_⟩|⟨e,_⟩
  ·rw[e,hk];rfl
  ·rw[e] at h;cases h
  ·rw[e] at h;exact h
 refine⟨h.below,h.g9,fun C hC=> ?_,h.loc,fun C C' lc sW e e' eo ha iW=>h.inj C C' lc sW e e' eo (rK C ha) (rK C' iW),fun C kk lc bW e=> ?_,h.jg,h.bB,fun C lc kk hG e bW pV=> ?_,h.eO,fun C kk bW=> ?_,fun C u e=> ?_,h.lay,h.xg,h.jA,h.zo⟩
 ·have CI:A.next≤C:=hC;rcases A.ja B (some blk') C with⟨_,e⟩|⟨e,_⟩|⟨e,_⟩
  ·omega
  ·exact e
  ·rw[e];exact h.dz C CI
 ·rcases A.ja B (some blk') C with⟨e2,e3⟩|⟨e2,_⟩|⟨e2,_⟩
  ·subst e3;rw[e2] at bW;cases bW;exact fB lc e
  ·rw[e2] at bW;cases bW
  ·rw[e2] at bW;exact(h.cont C kk lc bW e).mono aK
 ·rcases A.ja B (some blk') C with⟨e2,e3⟩|⟨e2,_⟩|⟨e2,_⟩
  ·subst e3;exact h.sep C lc k hG e hk hs
  ·rw[e2] at bW;cases bW
  ·rw[e2] at bW;exact h.sep C lc kk hG e bW pV
 ·rcases A.ja B (some blk') C with⟨e2,e3⟩|⟨e2,_⟩|⟨e2,_⟩
  ·subst e3;rw[e2] at bW;cases bW;exact jJ
  ·rw[e2] at bW;cases bW
  ·rw[e2] at bW;exact(h.own C kk bW).mono aK
 ·have e':(if C=B then some v else β.o C)=some u:=e;by_cases hC:C=B
  ·show C<A.next;rw[hC];exact hB
  ·rw[if_neg hC] at e';exact h.jf C u e'
def Rv(G:Nat)(es:Nat)(e:xN)(A:AW)(s:xM):Option (xM×AW×Option Nat):=
 match s with
 | .slice none 0 0=>some (.slice none 0 0,A,none)
 | .iface B (.chan (some (_+1)))=>match A.get B with
  |some ⟨.own c,ax,_,false,ty⟩=>bs (Nat.beq es ax&&Nat.beq ty e&&Nat.ble G B) (some (c,A,some B)) none
  |_=>none
 | .slice (some ⟨B,o,none⟩) n _=>match A.get B with
  |some ⟨.cells cs,ax,_,_,_⟩=>match ow (Nat.mul n ax) (qd o cs) with
   |some l=>match oU (ng G 3) l A with
    |some (us,A1)=>match oQ A1 (.bB ax n) us with
     |some (u,A2)=>match A2.get B with
      |some ⟨.cells _,pj,_,false,ty⟩=>bs (Nat.beq es pj&&Nat.beq es ax&&Nat.beq ty e&&Nat.ble G B&&bs (Nat.beq B ud) false true) (some (u,A2,some B)) none
      |_=>none
     |none=>none
    |none=>none
   |none=>none
  |_=>none
 |_=>none
def Pv(E:aq)(t:xN):Option (Row×xN):=
 match E.ti.get none t with
 |some ⟨.slice e,_,_,_,_⟩=>match E.ti.get none e with
  |some re=>bs (re.ri&&Nat.beq (bI re.zero) re.size&&Nat.ble 1 re.size&&Nat.blt e iY) (some (re,e)) none
  |none=>none
 |_=>none
def Bt(E:aq)(tx:xN):Bool:=match E.ti.get none tx with|some ⟨.slice _,_,_,_,_⟩=>true|some ⟨.string,_,_,_,_⟩=>true|_=>false
def Dv(A:AW)(kill:Option Nat)(u:xM)(es:Nat)(e:xN):Option AW:=
 match((match kill with|some B=>A.put B none|none=>A).add ⟨.cells [],es,false,false,e⟩).get A.next with
 |some ⟨.cells _,_,_,false,_⟩=>some (((match kill with|some B=>A.put B none|none=>A).add ⟨.cells [],es,false,false,e⟩).put A.next (some ⟨.own u,es,false,false,e⟩))
 |_=>none
def S6(E:aq)(A:AW)(t tx:xN)(s x:xM):Option (xM×AW):=
 match Pv E t with
 |some (re,e)=>bs (Bt E tx) (match Rv E.G.n re.size e A s with
  |some (c,A1,kill)=>match ng E.G.n 4 x A1 with
   |some (y,A2)=>match oQ A2 (.app re.size re.bytes) [c,y] with
    |some (u,A3)=>bs (match kill with|some B=>(match A3.get B with|some ⟨_,_,_,false,_⟩=>true|_=>false)|none=>true) (match Dv A3 kill u re.size e with|some A4=>some (.iface A3.next u,A4)|none=>none) none
    |none=>none
   |none=>none
  |none=>none) none
 |none=>none
section
variable{E:aq}{w0 w:World}{β:af}{A:AW}
theorem Inv.O6(h:Inv w0 E.G β A w)(aj:ao)(hp:qj aj:=by intro c h;cases h):Inv w0 E.G β (A.add aj) w:=by
 have hn:A.get A.next=none:=h.dz _ (xk _);have hb:β A.next=none:=by
  cases hc:β A.next with
  |none=>rfl
  |some l=>exact absurd (h.g9 _ l hc) (Nat.lt_irrefl _)
 have nu:∀B l,β B=some l→(A.add aj).get B=A.get B:=fun B l e=>by
  rcases A.tG aj hn B with⟨_,e2⟩|e2
  ·rw[e2,hb] at e;cases e
  ·exact e2
 refine⟨h.below,fun B l e=>Nat.lt_succ_of_lt (h.g9 B l e),fun B hB=> ?_,h.loc,fun B B' l l' e e' eo ha iW=> ?_,fun B k l hk e=> ?_,h.jg,h.bB,fun B l kb hG e ha hs=> ?_,h.eO,fun B k hk=> ?_,fun B v e=>Nat.lt_succ_of_lt (h.jf B v e),h.lay,h.xg,h.jA,h.zo⟩
 ·have te:A.next+1≤B:=hB;rcases A.tG aj hn B with⟨_,e2⟩|e2
  ·omega
  ·exact e2.trans (h.dz B (by omega))
 ·rw[nu B l e] at ha;rw[nu B' l' e'] at iW;exact h.inj B B' l l' e e' eo ha iW
 ·rw[nu B l e] at hk;exact h.cont B k l hk e
 ·rw[nu B l e] at ha;exact h.sep B l kb hG e ha hs
 ·rcases A.tG aj hn B with⟨e2,_⟩|e2
  ·rw[e2] at hk;cases hk;exact hp.ok
  ·rw[e2] at hk;exact h.own B k hk
end
section
variable{P:Program}{E:aq}(ok:E.Ok P)
include ok in
theorem aM7{t:xN}{re:Row}{e:xN}(h:Pv E t=some (re,e)):∃ie z,P.underlying t=some (.slice e)∧P.info? e=some ie∧ie.size=re.size∧ie.bytes=re.bytes∧ie.zero=some z∧z.cells.size=re.size∧1≤re.size∧e≠iY:=by
 unfold Pv at h;split at h
 ·rename_i e0 _ _ _ _ hr;split at h
  ·rename_i r dG;replace h:=au h;rcases h with⟨hb,h⟩|⟨_,h⟩
   ·cases h;simp only [xf,dA] at hb;obtain⟨⟨⟨hz,hl⟩,h1⟩,h4⟩:=hb;obtain⟨_,ie,gL,hs,s8,dX⟩:=ok.ti e re dG;obtain⟨z,kR,Ft⟩:=dX hz;have:e<iY:=xh h4;exact⟨ie,z,(ok.ti t _ hr).1,gL,hs,s8,kR,by rw[Ft];exact xb hl,xh h1,Nat.ne_of_lt this⟩
   ·cases h
  ·cases h
 ·cases h
theorem PM{w:World}{z:Nat→Option (Array xM)}(aQ:wK z w){es:Nat}{tx:xN}(uC:(∃e',P.underlying tx=some (.slice e'))∨P.underlying tx=some .string)(cz:1≤es){d:D}{x':xM}{rows:List (List D)}(h:G9 es d=some rows)(hx:Rd z d x'):
 ∃dw,Src P es tx x' rows.length dw w∧dw.length=rows.length*es∧∀(i:Nat) (row:List D) (j:Nat) (d:D),rows[i]? =some row→row[j]? =some d→∃v,dw[i*es+j]? =some v∧Rd z d v:=by
 unfold G9 at h;split at h
 ·rename_i KJ;split at h
  ·rename_i eT;cases h;rw[List.all_eq_true] at eT;have fI:∀row∈rows,row.length=es∧∀d∈row,d.cell=true:=fun row hr=>by
    have:=eT row hr;simp only [xf,beq_iff_eq,List.all_eq_true] at this;exact this
   cases hx with
   |sT=>exact⟨[],⟨uC,fun _=>rfl,run_firstCells_none w es 0 0 0,run_firstCells_none w.drew es 0 0 0,by simp,fun _ h=>by cases h⟩,by simp,fun i row j d hi=>by simp at hi⟩
   |n8 a c=>exact⟨[],⟨uC,fun _=>rfl,run_firstCells_some w es 0 a 0 c [] (by simp) (fun j u hu=>by simp at hu),run_firstCells_some w.drew es 0 a 0 c [] (by simp) (fun j u hu=>by simp at hu),by simp,fun u hu=>by cases hu⟩,by simp,fun i row j d hi=>by simp at hi⟩
   |sl _ ft b o c cells hz bA cP3 hc hs hh=>
    have e0:ft=es:=by
     obtain⟨r0,iJ⟩:=List.exists_mem_of_ne_nil rows bA;rw[←cP3 r0 iJ];exact(fI r0 iJ).1
    subst e0;obtain⟨e1,fz,hb⟩:=aQ b cells hz
    let dw:=(List.range (rows.length*ft)).map fun j=>cells.getD (o+j) undef
    have hn:∀j,j<rows.length*ft→dw[j]? =some (cells.getD (o+j) undef):=fun j hj=>by
     show((List.range _).map _)[j]? =_;rw[xx,List.getElem?_range hj];rfl
    have aC:dw.length=rows.length*ft:=by simp[dw]
    have aK:rows.length*ft≤c*ft:=xD _ hc;have gh:∀j,j<rows.length*ft→cells[o+j]? =some (cells.getD (o+j) undef):=fun j hj=>by
     have:o+j<cells.size:=by omega
     simp[this]
    have Md:∀j,j<rows.length*ft→∃row d,rows[j/ft]? =some row∧row[j%ft]? =some d∧d.cell=true:=fun j hj=>by
     have h1:j/ft<rows.length:=by rw[Nat.div_lt_iff_lt_mul (by omega)];exact hj
     have h2:j%ft<ft:=Nat.mod_lt _ (by omega);have h3:=fI _ (List.getElem_mem h1);have h4:j%ft<(rows[j/ft]).length:=by rw[h3.1];exact h2
     exact⟨rows[j/ft],(rows[j/ft])[j%ft],xc h1,xc h4,h3.2 _ (List.getElem_mem h4)⟩
    have ap:∀j u,dw[j]? =some u→w.cell? ((⟨b,o,none⟩:Addr).add j)=some u:=fun j u hu=>by
     have hj:j<rows.length*ft:=by rw[←aC];exact(xe.1 hu).1
     rw[hn j hj] at hu;cases hu;rw[Addr.add_mid,cell_of_row w b _ cells e1 fz hb];exact gh j hj
    refine⟨dw,⟨uC,fun _=>rfl,run_firstCells_some w ft rows.length _ rows.length c dw aC ap,run_firstCells_some w.drew ft rows.length _ rows.length c dw aC (by simpa using ap),aC,fun u hu=> ?_⟩,aC,fun i row j d hi hj=> ?_⟩
    ·obtain⟨j,hj,rfl⟩:=List.getElem_of_mem hu;have sZ:j<rows.length*ft:=by rw[←aC];exact hj
     obtain⟨row,d,q1,q2,q3⟩:=Md j sZ;have:=hh (j/ft) row (j%ft) d (cells.getD (o+j) undef) q1 q2 (by
      rw[show o+(j/ft*ft+j%ft)=o+j by rw[Nat.mul_comm];rw[Nat.div_add_mod]];exact gh j sZ)
     have e9:dw[j]=cells.getD (o+j) undef:=by
      have:=hn j sZ;rw[xc hj] at this;exact xC this
     rw[e9];exact(Gh this q3).2
    ·have eI:=(xe.1 hi).1;have fL:j<ft:=by rw[←(fI row (xu hi)).1];exact(xe.1 hj).1
     have bg:i*ft+j<rows.length*ft:=by
      have:(i+1)*ft≤rows.length*ft:=xD _ eI;rw[Nat.add_mul] at this;omega
     exact⟨_,hn _ bg,hh i row j d _ hi hj (gh _ bg)⟩
  ·cases h
 ·rename_i l;split at h
  ·rename_i bc;subst bc;cases h;cases hx;refine⟨byteCells ⟨⟨l⟩⟩,?_,?_,fun i row j d hi hj=> ?_⟩
   ·rw[xm];exact⟨uC,fun _=>rfl,firstCells_string ⟨⟨l⟩⟩ w,firstCells_string ⟨⟨l⟩⟩ w.drew,by rw[byteCells_length,Nat.mul_one];rfl,fun u hu=>by
     obtain⟨_,_,rfl⟩:=xJ.1 hu;rfl⟩
   ·simp[byteCells]
   ·rw[xx] at hi;obtain⟨b,hb,rfl⟩:=xp.1 hi;have AJ:j=0:=by have:=(xe.1 hj).1;simp at this;exact this
    subst AJ;simp at hj;subst hj;refine⟨.int .u8 (b.toNat:Nat),?_,.int _ _⟩;unfold byteCells;simp[hb]
  ·cases h
 ·cases h
theorem zh{δ:Nat→Option D}{v:xM}{d:D}(h:bP δ v=some d):cb δ v=some d:=by
 unfold cb;split
 ·cases h
 ·exact h
def bC2(G:Nat)(β:af)(A:AW)(w:World)(s':xM)(es:Nat)(e:xN)(kill:Option Nat)(rows:List (List D)):Prop:=
 ∃a cap,s'= .slice a rows.length cap∧(∀row∈rows,row.length=es)∧
  ((a=none∧rows=[]∧cap=0)∨∃B l d0 av,kill=some B∧β B=some l∧G≤B∧(∃aj,A.get B=some aj)∧a=some ⟨l.b,d0,none⟩∧w.heap[l.b]? =some (.cells av e (0,0))∧av.size=l.sz∧l.es=es∧l.d≤d0∧rows.length≤cap∧d0+cap*es≤l.sz∧
   ∀(i:Nat) (row:List D) (j:Nat) (d:D),rows[i]? =some row→row[j]? =some d→∃v,av[d0+(i*es+j)]? =some v∧Rd β.z d v)
include ok in
theorem bh6{w0 w:World}{es:Nat}{e:xN}(IR:e≠iY){A A1:AW}{β:af}{s s' c:xM}{kill:Option Nat}(h:Rv E.G.n es e A s=some (c,A1,kill))(inv:Inv w0 E.G β A w)(hs:ai β s s'):
 ∃aI rows,Inv w0 E.G aI A1 w∧β.grow aI A.next∧A1.next=A.next∧bP aI.d c=some (.sl rows)∧bC2 E.G.n aI A1 w s' es e kill rows:=by
 unfold Rv at h;split at h
 ·cases h;cases hs;exact⟨β,[],inv,af.cq _ _,rfl,rfl,none,0,rfl,(fun _ h=>by cases h),.inl ⟨rfl,rfl,rfl⟩⟩
 ·rename_i B c1;split at h
  ·rename_i c2 ax ex ty hg;replace h:=au h;rcases h with⟨hb,h⟩|⟨_,h⟩<;>cases h
   simp only [xf] at hb;obtain⟨⟨h1,h2⟩,h3⟩:=hb;have e1:=xb h1;have e2:=xb h2;have e3:=xh h3;subst e1;subst e2;obtain⟨rows,hd,ho⟩:=inv.own B _ hg;refine⟨β,rows,inv,af.cq _ _,rfl,hd,?_⟩;cases hs with
   |own _ _ Bu a cap fE ha io=>
    rcases ho with⟨iJ,ho⟩|⟨l,aE6,hl,ho,q1,q2,q3⟩
    ·rw[ho] at fE;have rA:=xC fE;injection rA with r1 r2 r3;refine⟨none,0,by rw[iJ,←r1,←r2,←r3];rfl,(fun row hr=>by rw[iJ] at hr;cases hr),.inl ⟨rfl,iJ,rfl⟩⟩
    ·rw[ho] at fE;have rA:=xC fE;injection rA with r1 r2 r3;obtain⟨av,zn,k1,k2,k3,k4,k5,k6,k7⟩:=inv.cont B _ l hg hl;have yx:(D.sl rows)= .sl zn:=xC (hd.symm.trans k3);cases yx;have iU:l.es=es:=k4;refine⟨some ⟨l.b,l.d,none⟩,aE6,by rw[←r1,←r2,←r3],(fun row hr=>by rw[←iU];exact k5 row hr),.inr ⟨B,l,l.d,av,rfl,hl,e3,⟨_,hg⟩,rfl,k1,k2,iU,xk _,q1,by rw[←iU];exact q2,fun i row j d hi hj=>by rw[←iU];exact k7 i row j d hi hj⟩⟩
  ·cases h
 ·rename_i B o n cp;split at h
  ·rename_i cs ax ex ro ty hg;split at h
   ·rename_i l hl;split at h
    ·rename_i us A2 hf;split at h
     ·rename_i u A3 eA;split at h
      ·rename_i FW pj NH Im gB;replace h:=au h;rcases h with⟨hb,h⟩|⟨_,h⟩<;>cases h
       simp only [xf] at hb;obtain⟨⟨⟨⟨h1,h2⟩,h3⟩,h4⟩,h5⟩:=hb;have e1:=xb h1;have e2:=xb h2;have e3:=xb h3;have e4:=xh h4;subst e1;subst e2;subst e3;obtain⟨nd,r,c1,ht,jj,ga,ig,rfl,rfl⟩:=p8 eA;obtain⟨aI,i1,g1,n1,el,f1⟩:=Po (w0:=w0) (w:=w) (G:=E.G) (fun v A u A' β h i=>wH ok 3 v A u A' β h i) l A us A2 β hf inv;have i2:=i1.pop (r:=r) (fun x hx=>by rw[ht];exact xo _ hx);have ph:B<A.next:=Nat.lt_of_not_le fun ek=>by rw[inv.dz B ek] at hg;cases hg
       have hq:dt aI.d nd:=ok.q _ _ (i1.eO nd (by rw[ht];exact xn));unfold dt at hq;rw[jj] at hq;obtain⟨ds,d,q1,q2,q3⟩:=hq;rw[ga] at q1;rw[ig] at q2;obtain⟨q4,q5⟩:=oq q2;have bN:(if ds.length=n*es then(u3 es n ds).map D.sl else none)=some d:=q3;split at bN
       ·rename_i jR;obtain⟨rows,xU,rfl⟩:=xp.1 bN;obtain⟨r1,r2,r3,r4⟩:=NT xU;refine⟨aI,rows,i2,g1,n1,?_,?_⟩
        ·show(aI.d c1).bind _=_;rw[q4];rfl
        ·cases hs with
         |slice _ _ _ _ c' lB o8 hn hc he=>
          have au7:aI B=some lB:=by rw[g1.f B ph];exact o8
          obtain⟨av,e0,fz,k1,k2,k3,k4,k5,k6,k7⟩:=i2.cont B _ lB gB au7;have jz:fz=(0,0):=k5 rfl;subst jz;have rD:e0=Im:=k7.2 IR;subst rD;have cz:lB.es=es:=k7.1;obtain⟨l',w1,w2,w3⟩:=yW inv (show iw A B=some cs by unfold iw;rw[hg]) o8 o _ l hl;have aK:β.le aI:=inv.fX g1;have od:=f1 aI (af.cq _ _) l' (w1.mono aK);rw[←r1] at hn⊢;refine⟨some ⟨lB.b,lB.d+o,none⟩,c',rfl,r2,.inr ⟨B,lB,lB.d+o,av,rfl,au7,e4,⟨_,gB⟩,rfl,k1,k2,cz,by omega,by omega,by rw[←cz];exact he,fun i row j d hi hj=> ?_⟩⟩;have hd:=r4 i row j d hi hj;have eI:i*es+j<us.length:=by rw[←l6 q1];exact(xe.1 hd).1
          have o9:i*es+j<l'.length:=by rw[←od.1];exact eI
          have gh:=w3 (i*es+j) _ (xc o9);rw[cell_of_row w lB.b _ av e0 (0,0) k1] at gh;exact⟨_,gh,fY (β:=aI) (jU q1 hd (xc eI)) (od.2 _ _ _ (xc eI) (xc o9))⟩
         |empty o2 a' c'=>
          exact absurd h5 (by decide)
       ·cases bN
      ·cases h
     ·cases h
    ·cases h
   ·cases h
  ·cases h
 ·cases h
include ok in
theorem bi0{w0 w:World}{A A':AW}{β:af}{t tx ty:xN}{s s' x x' v:xM}(h:S6 E A t tx s x=some (v,A'))(inv:Inv w0 E.G β A w)(hs:ai β s s')(hx:ai β x x'):hO w0 E.G β A ((Builtin.append_ #[t,tx] ty #[s',x']).run P w) v A'∧A.next≤A'.next:=by
 unfold S6 at h;split at h;rotate_left
 ·cases h
 rename_i re e her;obtain⟨ie,z,hu,gL,iI,s8,hz,Nd,h1,IR⟩:=aM7 ok her;replace h:=au h;rcases h with⟨ra,h⟩|⟨_,h⟩;rotate_left
 ·cases h
 split at h;rotate_left
 ·cases h
 rename_i c A1 kill bU1;split at h;rotate_left
 ·cases h
 rename_i y A2 hfy;split at h;rotate_left
 ·cases h
 rename_i u A3 eA;replace h:=au h;rcases h with⟨cO8,h⟩|⟨_,h⟩;rotate_left
 ·cases h
 split at h;rotate_left
 ·cases h
 rename_i A4 kn;cases h;obtain⟨aI,rows,i1,g1,n1,hdc,a,cap,rfl,ru,bq2⟩:=bh6 ok IR bU1 inv hs;obtain⟨cK,i2,g2,n2,f2⟩:=wH ok (w0:=w0) (w:=w) 4 x A1 y A2 aI hfy i1;obtain⟨nd,r,cu,ht,jj,ga,ig,rfl,rfl⟩:=p8 eA;have i3:=i2.pop (r:=r) (fun x hx=>by rw[ht];exact xo _ hx);rw[n1] at g2 n2;have Ul:β.grow cK A.next:=af.iZ g1 g2 (xk _);have oa:ai cK y x':=f2 cK (af.cq _ _) x' (hx.mono (inv.fX Ul));have hq:dt cK.d nd:=ok.q _ _ (i2.eO nd (by rw[ht];exact xn));unfold dt at hq;rw[jj] at hq;obtain⟨ds,d,q1,q2,q3⟩:=hq;rw[ga] at q1;rw[ig] at q2;obtain⟨q4,q5⟩:=oq q2;obtain⟨dc,dy,rfl,e1,e2⟩:=om q1;rw[zh (show bP cK.d c=some (.sl rows) by rw[g2.d];exact hdc)] at e1;cases e1;have bN:XM re.size re.bytes (.sl rows) dy=some d:=q3;obtain⟨nr,sM,q6⟩:=xr.1 (show(G9 re.size dy).bind _=some d from bN);split at q6;rotate_left
 ·cases q6
 rename_i pO;cases q6;unfold jI at pO;simp only [xf,decide_eq_true_iff] at pO;obtain⟨dl2,cR8⟩:=pO;have uC:(∃e',P.underlying tx=some (.slice e'))∨P.underlying tx=some .string:=by
  unfold Bt at ra;split at ra
  ·rename_i hr;exact .inl ⟨_,(ok.ti tx _ hr).1⟩
  ·rename_i hr;exact .inr (ok.ti tx _ hr).1
  ·cases ra
 obtain⟨dw,src,kv,bp5⟩:=PM i2.bB uC h1 sM (fY e2 oa);rw[←iI] at src;generalize ND:(match kill with|some B=>(A2.pop r).put B none|none=>A2.pop r)=Ak;have ik:Inv w0 E.G cK Ak w:=by
  rw[←ND];cases kill with
  |none=>exact i3
  |some B=>exact i3.kill B
 have ET:Ak.next=A.next:=by
  rw[←ND];cases kill with
  |none=>exact n2
  |some B=>exact n2
 have iK:(A2.pop r).next=Ak.next:=by rw[ET];exact n2
 unfold Dv at kn;rw[ND] at kn;split at kn;rotate_left
 ·cases kn
 rename_i csx esx exx tyx gA;cases kn;rw[iK] at gA⊢;have sO:∃aj,(Ak.add ⟨.cells [],re.size,false,false,e⟩).get Ak.next=some aj∧aj.still=false:=⟨_,gA,rfl⟩;have hAn:Ak.next≤((Ak.add ⟨.cells [],re.size,false,false,e⟩).put Ak.next (some ⟨.own (.chan (some (cu+1))),re.size,false,false,e⟩)).next:=Nat.le_succ _;have Lq:(rows++nr).length=rows.length+nr.length:=xa;have ad0:∀(gI:af) (w':World) (l2:Loc) (vC:Nat),Inv w0 E.G gI (Ak.add ⟨.cells [],re.size,false,false,e⟩) w'→cK.grow gI Ak.next→gI Ak.next=some l2→gI.o Ak.next=none→l2.es=re.size→(rows++nr).length≤vC→l2.d+vC*re.size≤l2.sz→
  (∃av,w'.heap[l2.b]? =some (.cells av e (0,0))∧av.size=l2.sz∧∀(i:Nat) (row:List D) (j:Nat) (d:D),(rows++nr)[i]? =some row→row[j]? =some d→∃v,av[l2.d+(i*re.size+j)]? =some v∧Rd gI.z d v)→
  ∃Cl v',v'= .slice (some ⟨l2.b,l2.d,none⟩) (rows++nr).length vC∧ai Cl (.iface Ak.next (.chan (some (cu+1)))) v'∧Inv w0 E.G Cl ((Ak.add ⟨.cells [],re.size,false,false,e⟩).put Ak.next (some ⟨.own (.chan (some (cu+1))),re.size,false,false,e⟩)) w'∧β.grow Cl A.next:=fun gI w' l2 vC iv g hb ho cz bQ aT Eh=>by
  obtain⟨aj,cN,cx⟩:=sO;have hd3:gI.d=cK.d:=g.d;have cL8:∀row∈rows++nr,row.length=re.size:=fun row hr=>by
   rcases xF.1 hr with hr|hr
   ·exact ru row hr
   ·unfold G9 at sM;split at sM
    ·split at sM
     ·rename_i eT;cases sM;rw[List.all_eq_true] at eT;have:=eT row hr;simp only [xf,beq_iff_eq] at this;exact this.1
     ·cases sM
    ·split at sM
     ·rename_i h1e;cases sM;obtain⟨b,_,rfl⟩:=xJ.1 hr;rw[h1e];rfl
     ·cases sM
    ·cases sM
  have gj:∀(B:Nat) (v:xM),bP (gI.pG B v).d (.chan (some (cu+1)))=some (.sl (rows++nr)):=fun B v=>by
   show((gI.pG B v).d cu).bind _=_;have:(gI.pG B v).d=cK.d:=hd3;rw[this,q4];rfl
  obtain⟨av,c1,c2,c3⟩:=Eh;have yD:=iv.relabel (B:=Ak.next) (blk':=⟨.own (.chan (some (cu+1))),re.size,false,false,e⟩) (v:= .slice (some ⟨l2.b,l2.d,none⟩) (rows++nr).length vC) cN (Nat.lt_succ_self _) ho cx (fun l hl=>by
   rw[hb] at hl;cases hl;refine⟨av,rows++nr,c1,c2,gj _ _,cz,(fun row hr=>by rw[cz];exact cL8 row hr),?_,fun i row j d hi hj=>by rw[cz];exact c3 i row j d hi hj⟩;rw[cz];have:(rows++nr).length*re.size≤vC*re.size:=xD _ bQ;omega) ⟨rows++nr,gj _ _,.inr ⟨l2,vC,hb,by show(if Ak.next=Ak.next then _ else _)=_;rw[if_pos rfl],bQ,by rw[cz];exact aT,cz⟩⟩
  refine⟨_,_,rfl,?_,yD,?_⟩
  ·exact .own Ak.next cu (rows++nr) _ vC (by show(if Ak.next=Ak.next then _ else _)=_;rw[if_pos rfl]) (.inr ⟨l2,hb,rfl⟩) (by show gI.d cu=_;rw[hd3];exact q4)
  ·rw[←ET];exact af.iZ (af.iZ (by rw[ET];exact Ul) g (xk _)) (af.Jo gI Ak.next _) (xk _)
 refine⟨?_,by rw[←ET];exact hAn⟩;have sY:∀gI:af,cK.o=gI.o→gI.o Ak.next=none:=fun gI e=>by
  rw[←e];cases hq:cK.o Ak.next with
  |none=>rfl
  |some v=>have:=ik.jf _ _ hq;omega
 have XD:∀(gI:af) (av:Array xM) (d0:Nat),(∀b c,cK.z b=some c→gI.z b=some c)→(∀(i:Nat) (row:List D) (j:Nat) (d:D),rows[i]? =some row→row[j]? =some d→∃v,av[d0+(i*re.size+j)]? =some v∧Rd gI.z d v)→(∀j v,dw[j]? =some v→av[d0+rows.length*re.size+j]? =some v)→
  ∀(i:Nat) (row:List D) (j:Nat) (d:D),(rows++nr)[i]? =some row→row[j]? =some d→∃v,av[d0+(i*re.size+j)]? =some v∧Rd gI.z d v:=fun gI av d0 hz ho hn i row j d hi hj=>by
  by_cases bg:i<rows.length
  ·rw[xw bg] at hi;exact ho i row j d hi hj
  ·rw[xq (by omega)] at hi;obtain⟨v,v1,v2⟩:=bp5 _ row j d hi hj;refine⟨v,?_,v2.mono hz⟩;have:=hn _ v v1;rw[show d0+rows.length*re.size+((i - rows.length)*re.size+j)=d0+(i*re.size+j) by
    have e7:rows.length*re.size+(i - rows.length)*re.size=i*re.size:=by rw[←Nat.add_mul];congr 1;omega
    omega] at this
   exact this
 have f1':((rows.length+nr.length:Nat):Int)≤9223372036854775807:=by omega
 have HB:∀(nY:Option Addr) (eu:List xM),(Builtin.firstCells ie.size rows.length (.slice nY rows.length cap)).run P w.drew= .ok eu.toArray w.drew→eu.length=rows.length*re.size→cap<rows.length+nr.length→(∀(i:Nat) (row:List D) (j:Nat) (d:D),rows[i]? =some row→row[j]? =some d→∃v,eu[i*re.size+j]? =some v∧Rd cK.z d v)→
  hO w0 E.G β A ((Builtin.append_ #[t,tx] ty #[.slice nY rows.length cap,x']).run P w) (.iface Ak.next (.chan (some (cu+1)))) ((Ak.add ⟨.cells [],re.size,false,false,e⟩).put Ak.next (some ⟨.own (.chan (some (cu+1))),re.size,false,false,e⟩)):=fun nY eu pM qx bg vR=>by
  have aJ:=run_append_grow_src (P:=P) w t tx ty e ie z hu gL hz nY rows.length cap eu pM x' nr.length dw src bg f1' (growslice_fits bg (by rw[s8];exact cR8));have ek:=grownCap_ge w (rows.length+nr.length) cap e;obtain⟨FQ,I2⟩:=Jx (E:=E) ik [] [] ((eu++dw).toArray++Builtin.zeroCells z.cells (grownCap w (rows.length+nr.length) cap e - (rows.length+nr.length))).toList e re.size ((eu++dw).toArray++Builtin.zeroCells z.cells (grownCap w (rows.length+nr.length) cap e - (rows.length+nr.length))) (by simp) (fun ah hb=>aP.nil ah);have aT:((eu++dw).toArray++Builtin.zeroCells z.cells (grownCap w (rows.length+nr.length) cap e - (rows.length+nr.length))).size=grownCap w (rows.length+nr.length) cap e*re.size:=by
   simp only [Array.size_append,List.size_toArray,xa,Jb,Nd,kv,qx,←Nat.add_mul]
   congr 1
   omega
  obtain⟨Cl,v',nz,v5,FU,Up⟩:=ad0 _ _ ⟨w.heap.size,0,re.size,((eu++dw).toArray++Builtin.zeroCells z.cells (grownCap w (rows.length+nr.length) cap e - (rows.length+nr.length))).size⟩ (grownCap w (rows.length+nr.length) cap e) FQ I2 (jl _ _ _) (sY _ rfl) rfl (by rw[Lq];exact ek) (by show 0+grownCap w (rows.length+nr.length) cap e*re.size≤Array.size _;rw[aT,Nat.zero_add];exact xk _) ⟨_,heap_alloc_new w.drew _,rfl,XD _ _ 0 (fun _ _ h=>h) (fun i row j d hi hj=>by
   obtain⟨v,v1,v2⟩:=vR i row j d hi hj;refine⟨v,?_,v2⟩;rw[Nat.zero_add,Array.getElem?_append_left (by have:=(xe.1 v1).1;simp;omega)];have:=(xe.1 v1).1;simp[xw this,v1]) (fun j v hj=>by
   have lX:=(xe.1 hj).1;rw[Nat.zero_add,Array.getElem?_append_left (by simp;omega)];rw[←qx];simp[xq,hj])⟩
  refine⟨Cl,v',_,?_,v5,FU,Up⟩;rw[nz,Lq];exact aJ
 rcases bq2 with⟨rfl,rfl,rfl⟩|⟨B,l,d0,av,bT2,hl,vY,⟨dl3,ZX⟩,rfl,hh,cw,dj7,yG,rf,pO,Eh⟩
 ·by_cases oh:nr.length=0
  ·have Ab:nr=[]:=xE.1 oh;rw[Ab] at src;have aJ:=F1 (P:=P) (ty:=ty) hu gL src none 0 0 (xk _);have hr:=ik.O6 ⟨.cells [],re.size,false,false,e⟩;obtain⟨aj,cN,cx⟩:=sO;have CC:cK Ak.next=none:=by
    cases hc:cK Ak.next with
    |none=>rfl
    |some l=>exact absurd (ik.g9 _ l hc) (Nat.lt_irrefl _)
   have yD:=hr.relabel (B:=Ak.next) (blk':=⟨.own (.chan (some (cu+1))),re.size,false,false,e⟩) (v:= .slice none 0 0) cN (Nat.lt_succ_self _) (sY _ rfl) cx (fun l hl=>by rw[CC] at hl;cases hl)
    ⟨([]++nr),(by show((cK.pG Ak.next (.slice none 0 0)).d cu).bind _=_;have:(cK.pG Ak.next (.slice none 0 0)).d=cK.d:=rfl;rw[this,q4];rfl),.inl ⟨Ab,by show(if Ak.next=Ak.next then _ else _)=_;rw[if_pos rfl]⟩⟩
   refine⟨_,_,_,aJ,?_,yD,by rw[←ET];exact af.iZ (by rw[ET];exact Ul) (af.Jo cK Ak.next _) (xk _)⟩;have:=ai.own (β:=cK.pG Ak.next (.slice none 0 0)) Ak.next cu ([]++nr) none 0 (by show(if Ak.next=Ak.next then _ else _)=_;rw[if_pos rfl,Ab];rfl) (.inl ⟨rfl,Ab⟩) q4;rw[Ab] at this;exact this
  ·exact HB none [] (run_firstCells_none w.drew ie.size 0 0 0) (by simp) (by simp;omega) (fun i row j d hi=>by simp at hi)
 ·subst bT2;have ph:B<A.next:=by rw[←n1];exact Nat.lt_of_not_le fun ek=>by rw[i1.dz B ek] at ZX;cases ZX
  have bG:cK B=some l:=by rw[g2.f B ph];exact hl
  have cQ9:Ak=(A2.pop r).put B none:=ND.symm;obtain⟨cT5,vU,cL6⟩:∃aj,(A2.pop r).get B=some aj∧aj.still=false:=by
   have jP:(match(A2.pop r).get B with|some ⟨_,_,_,false,_⟩=>true|_=>false)=true:=cO8;split at jP
   ·rename_i o1 o2 o3 o5 hq;refine⟨_,hq,?_⟩;unfold ao.still;cases o1<;>rfl
   ·cases jP
  have hzB:cK.z l.b=none:=i3.sep B l cT5 vY bG vU cL6;obtain⟨bT0,bS9⟩:=i3.loc B l bG;have gX:∀C lc,cK C=some lc→lc.b=l.b→Ak.get C=none:=fun C lc hC eo=>by
   rw[cQ9];rcases(A2.pop r).ja B none C with⟨e1,_⟩|⟨e1,_⟩|⟨e1,bA⟩
   ·exact e1
   ·exact e1
   ·rw[e1];cases T5:(A2.pop r).get C with
    |none=>rfl
    |some kk=>exact absurd (i3.inj C B lc l hC bG eo (by rw[T5];rfl) (by rw[vU];rfl)) bA
  have XC:∀(i:Nat) (row:List D) (j:Nat) (d:D),rows[i]? =some row→row[j]? =some d→∃v,av[d0+(i*re.size+j)]? =some v∧Rd cK.z d v:=fun i row j d hi hj=>(Eh i row j d hi hj).imp fun v ⟨a,b⟩=>⟨a,b.mono g2.z⟩
  have WW:∀(w':World) (vB:Array xM),w.grownBy w' (some l.b)→w'.heap.size=w.heap.size→w'.heap[l.b]? =some (.cells vB e (0,0))→vB.size=av.size→(∀j,j<rows.length*re.size→vB[d0+j]? =av[d0+j]?)→(∀j v,dw[j]? =some v→vB[d0+rows.length*re.size+j]? =some v)→rows.length+nr.length≤cap→
   (Builtin.append_ #[t,tx] ty #[.slice (some ⟨l.b,d0,none⟩) rows.length cap,x']).run P w= .ok (.slice (some ⟨l.b,d0,none⟩) (rows.length+nr.length) cap) w'→
   hO w0 E.G β A ((Builtin.append_ #[t,tx] ty #[.slice (some ⟨l.b,d0,none⟩) rows.length cap,x']).run P w) (.iface Ak.next (.chan (some (cu+1)))) ((Ak.add ⟨.cells [],re.size,false,false,e⟩).put Ak.next (some ⟨.own (.chan (some (cu+1))),re.size,false,false,e⟩)):=fun w' vB hw aT hh2 ES ho hn oM aJ=>by
   obtain⟨FQ,I2⟩:=Inv.ac6 (E:=E) ik (w':=w') ⟨l.b,d0,re.size,l.sz⟩ ⟨.cells [],re.size,false,false,e⟩ bT0 (bS9.resolve_left (by omega)) hzB gX hw aT (by
    rw[hh2];exact⟨vB,e,(0,0),rfl,ES.trans cw,by
     show d0+0≤l.sz;omega,(fun i v hv=>by simp at hv),fun _=>rfl,(fun h=>by cases h),rfl,fun _=>rfl⟩)
   obtain⟨Cl,v',nz,v5,FU,Up⟩:=ad0 _ _ ⟨l.b,d0,re.size,l.sz⟩ cap FQ I2 (jl _ _ _) (sY _ rfl) rfl (by rw[Lq];exact oM) pO ⟨vB,hh2,ES.trans cw,XD _ vB d0 (fun _ _ h=>h) (fun i row j d hi hj=>by
    obtain⟨v,v1,v2⟩:=XC i row j d hi hj;refine⟨v,?_,v2⟩;rw[ho (i*re.size+j) ?_]
    ·exact v1
    ·have eI:=(xe.1 hi).1;have fL:j<re.size:=by rw[←ru row (xu hi)];exact(xe.1 hj).1
     have:(i+1)*re.size≤rows.length*re.size:=xD _ eI;rw[Nat.add_mul] at this;omega) hn⟩
   refine⟨Cl,v',w',?_,v5,FU,Up⟩;rw[nz,Lq];exact aJ
  have dh7:rows.length*re.size≤cap*re.size:=xD _ rf;by_cases oh:nr.length=0
  ·have Ab:nr=[]:=xE.1 oh;have bp6:dw=[]:=xE.1 (by rw[kv,oh,Nat.zero_mul]);have cw3:Src P ie.size tx x' 0 dw w:=by rw[oh] at src;exact src
   have aJ:=F1 (P:=P) (ty:=ty) hu gL cw3 (some ⟨l.b,d0,none⟩) rows.length cap rf;refine WW w av ⟨rfl,rfl,rfl,xk _,fun _ _ _=>rfl⟩ rfl hh rfl (fun _ _=>rfl) (fun j v hj=>by rw[bp6] at hj;simp at hj) (by omega) ?_;rw[oh];exact aJ
  ·by_cases oM:rows.length+nr.length≤cap
   ·have Cb:(rows.length+nr.length)*re.size≤cap*re.size:=xD _ oM;rw[Nat.add_mul] at Cb;have gh:∀j,j<dw.length→(w.cell? ⟨l.b,d0+rows.length*ie.size+j,none⟩).isSome=true:=fun j hj=>by
     rw[cell_of_row w l.b _ av e (0,0) hh];have:d0+rows.length*ie.size+j<av.size:=by rw[iI];omega
     simp[this]
    have jz:∀j,j<dw.length→w.frozen? ⟨l.b,d0+rows.length*ie.size+j,none⟩=false:=fun j _=>by simp[World.frozen?,hh]
    have aJ:=run_append_room_src (P:=P) w t tx ty e ie hu gL l.b d0 rows.length cap x' nr.length dw src oM gh jz;have sJ:=run_storeCells_cells (P:=P) l.b (d0+rows.length*ie.size) dw 0 w (by simpa using gh) (by simpa using jz) src.one;rw[Nat.add_zero] at sJ;have aQ:=run_storeCells_at (P:=P) l.b (d0+rows.length*ie.size) e dw 0 av w hh (by rw[iI];omega) src.one;rw[Nat.add_zero,sJ] at aQ;have Su:=(Result.ok.inj aQ).2;rw[Su] at aJ;have Ej:d0+rows.length*ie.size+dw.length≤av.size:=by rw[iI];omega
    refine WW _ _ (F2 w l.b _) (by simp) (setRow_heap w l.b av _ e (0,0) hh) (F3 _ _ _ Ej) (fun j hj=> ?_) (fun j v hj=> ?_) oM aJ
    ·rw[y5 _ _ _ Ej,if_neg (by rw[iI];omega)]
    ·have lX:=(xe.1 hj).1;rw[y5 _ _ _ Ej,if_pos (by rw[iI];omega),show d0+rows.length*re.size+j - (d0+rows.length*ie.size)=j by rw[iI];omega];exact hj
   ·let eu:=(List.range (rows.length*re.size)).map fun j=>av.getD (d0+j) undef
    have qx:eu.length=rows.length*re.size:=by simp[eu]
    have hog:∀j,j<rows.length*re.size→eu[j]? =some (av.getD (d0+j) undef):=fun j hj=>by
     show((List.range _).map _)[j]? =_;rw[xx,List.getElem?_range hj];rfl
    have hcg:∀j,j<rows.length*re.size→av[d0+j]? =some (av.getD (d0+j) undef):=fun j hj=>by
     have:d0+j<av.size:=by omega
     simp[this]
    refine HB (some ⟨l.b,d0,none⟩) eu (run_firstCells_some w.drew ie.size rows.length _ rows.length cap eu (by rw[iI];exact qx) (fun j u hu=> ?_)) qx (by omega) (fun i row j d hi hj=> ?_)
    ·have hj:j<rows.length*re.size:=by rw[←qx];exact(xe.1 hu).1
     rw[hog j hj] at hu;cases hu;rw[Addr.add_mid,World.cell?_drew,cell_of_row w l.b _ av e (0,0) hh];exact hcg j hj
    ·obtain⟨v,v1,v2⟩:=XC i row j d hi hj;have eI:=(xe.1 hi).1;have fL:j<re.size:=by rw[←ru row (xu hi)];exact(xe.1 hj).1
     have bg:i*re.size+j<rows.length*re.size:=by
      have:(i+1)*re.size≤rows.length*re.size:=xD _ eI;rw[Nat.add_mul] at this;omega
     refine⟨_,hog _ bg,?_⟩;rw[hcg _ bg] at v1;cases v1;exact v2
end
def tK(v:xM):List xM:=match v with| .agg ⟨l⟩=>l|v=>[v]
def PK(E:aq)(A:AW)(t:xN)(a x:xM):Option AW:=
 match a,E.ti.get none t with
 | .iface B (.agg ⟨[iv,.int .i64 (.ofNat es),.int .i64 (.ofNat off)]⟩),some r=>match ng E.G.n 4 x A with
  |some (u,A1)=>match A1.get B with
   |some ⟨.own c,ax,ex,false,ty⟩=>bs (Nat.beq es ax&&Nat.ble E.G.n B&&Nat.beq (bI (tK u)) r.size&&ey one (tK u)) (match oQ A1 (.fk off) (c::iv::tK u) with
    |some (y,A2)=>some (A2.put B (some ⟨.own y,ax,ex,false,ty⟩))
    |none=>none) none
   |_=>none
  |none=>none
 |_,_=>none
def Ty(E:aq)(A:AW)(t:xN)(l c:xM):Option (xM×AW):=
 match E.ti.get none t with
 |some ⟨.slice e,_,_,_,_⟩=>match E.ti.get none e with
  |some re=>bs (re.ri&&Nat.beq (bI re.zero) re.size&&Nat.ble 1 re.size&&Nat.blt e iY&& (gF l||gF c)) (match oQ A (.gR re.size re.bytes) (l::c::ew pH re.zero) with
   |some (u,A1)=>(match Dv A1 none u re.size e with|some A2=>some (.iface A1.next u,A2)|none=>none)
   |none=>none) none
  |none=>none
 |_=>none
def PQ(E:aq)(A:AW)(t:xN)(x lo:xM)(hi:List xM):Option (xM×AW):=
 match E.ti.get none t with
 |some ⟨.slice e,_,_,_,_⟩=>match jn E e with
  |some n=>match ng E.G.n 4 x A with
   |some (u,A1)=>oQ A1 (.iF n) (u::lo::hi)
   |none=>none
  |none=>none
 |_=>none
section
variable{P:Program}{E:aq}(ok:E.Ok P)
include ok in
theorem run_make{t e:xN}{re:Row}{a1 a2 a3 a4}(hr:E.ti.get none t=some ⟨.slice e,a1,a2,a3,a4⟩)(dG:E.ti.get none e=some re)(ui:re.ri=true)(mK:re.zero.length=re.size){ln cn:Nat}(au6:ln≤cn)(bU0:cn≤9223372036854775807)(SN:cn*re.bytes≤140737488355328)(w:World):
 ∃C:List xM,C.length=cn*re.size∧(∀i,i<cn*re.size→C[i]? =re.zero[i%re.size]?)∧(Instr.makeSlice t (.int .i64 (ln:Nat)) (.int .i64 (cn:Nat))).run P w= .ok (.slice (some ⟨w.heap.size,0,none⟩) ln cn) (w.alloc (.cells ⟨C⟩ e)):=by
  have hu:=(ok.ti t _ hr).1;obtain⟨_,ie,gL,iI,AN,hz⟩:=ok.ti e re dG;obtain⟨z,gw,dX⟩:=hz ui;obtain⟨C,hC⟩:∃C:List xM,((Array.range (cn*re.size)).map (fun x=>(if cn*re.size=0 then #[] else(⟨re.zero⟩:Array xM))[x% (if cn*re.size=0 then #[] else(⟨re.zero⟩:Array xM)).size]!))=⟨C⟩:=⟨_,rfl⟩;have CG:C.length=cn*re.size:=by have:=congrArg Array.size hC;simpa using this.symm
  refine⟨C,CG,fun i hi=> ?_,?_⟩
  ·have h0: ¬cn*re.size=0:=by omega
   have aT:0<re.size:=by
    rcases xI re.size with e|e
    ·rw[e] at hi;omega
    ·exact e
   have hm:i%re.size<re.zero.length:=by rw[mK];exact Nat.mod_lt _ aT
   have h2:=congrArg (fun a:Array xM=>a[i]?) hC;simp only [if_neg h0] at h2;rw[Array.getElem?_map,Array.getElem?_range] at h2;rw[if_pos hi] at h2;simp only [Option.map_some,List.size_toArray,mK] at h2;rw[show C[i]? =(⟨C⟩:Array xM)[i]? by simp,←h2];simp[hm]
  have w1:IntKind.i64.wrap (ln:Int)=(ln:Int):=IntWalk.i64_in _ (by omega);have w2:IntKind.i64.wrap (cn:Int)=(cn:Int):=IntWalk.i64_in _ (by omega);have cx: ¬((281474976710656:Int)<(re.bytes:Int)*(cn:Int)):=by
   have h5:((cn*re.bytes:Nat):Int)≤140737488355328:=by omega
   rw[Int.natCast_mul,Int.mul_comm] at h5;omega
  have oM: ¬roomBytes<cn*re.bytes:=by rw[show roomBytes=140737488355328 from rfl];omega
  have yd: ¬((cn:Int)<0):=by omega
  have Hy: ¬((ln:Int)<0):=by omega
  have uk: ¬((cn:Int)<(ln:Int)):=by omega
  by_cases h0:cn*re.size=0
  ·rw[if_pos h0] at hC;simp[Instr.makeSlice,run_underlying hu,asInt,asIntOf,typeInfo,gL,AN,w1,w2,cx,yd,Hy,uk,askRoom,oM,dC ok dG,h0,newRow];simp[h0] at hC;rw[hC]
  ·rw[if_neg h0] at hC;simp[Instr.makeSlice,run_underlying hu,asInt,asIntOf,typeInfo,gL,AN,w1,w2,cx,yd,Hy,uk,askRoom,oM,dC ok dG,h0,newRow,zeroValue,gw,dX];simp at hC;rw[hC]
theorem aN1{β:af}{u v':xM}{n:Nat}(h1:ey one (tK u)=true)(hv:ai β u v')(bA:∀d,u= .agg d→True:=fun _ _=>trivial)(hd:(cb β.d u).isSome=true):∃l',v'.cells=⟨l'⟩∧aP β (tK u) l':=by
 unfold tK at h1⊢;split at h1
 ·cases hv with
  |agg _ p' hp h2=>exact⟨p',rfl,hp,h2⟩
 ·rename_i ga;have mU:one u=true:=nI one _ h1 u xn;have cM:=WJ mU hv;refine⟨[v'],?_,aP.cons hv (aP.nil β)⟩;obtain⟨d,hd⟩:=Option.isSome_iff_exists.1 hd;have ez:=fY hd hv;have hc:d.cell=true:=by
   unfold cb at hd;split at hd
   ·exact absurd rfl (ga _)
   ·exact(Gq hd hv).2
  exact(Gh ez hc).1
theorem W8{δ:Nat→Option D}:∀(l0:List xM) (ds:List D),ey one l0=true→aX (cb δ) l0=some ds→aX (bP δ) l0=some ds
 |[],ds,_,h=>h
 |v::l0,ds,ho,h=>by
  obtain⟨d1,d2,rfl,e1,e2⟩:=jB h;have jx:bs (one v) (ey one l0) false=true:=ho;rcases au jx with⟨h1,h2⟩|⟨_,h2⟩
  ·unfold aX;rw[W8 l0 d2 h2 e2];have:bP δ v=some d1:=by
    unfold cb at e1;split at e1
    ·cases h1
    ·exact e1
   rw[this]
  ·cases h2
theorem aN2{δ:Nat→Option D}{u:xM}{ds:List D}(h1:ey one (tK u)=true)(h:aX (cb δ) (tK u)=some ds):(cb δ u).isSome=true:=by
 unfold tK at h h1;split at h
 ·rename_i l0;have e:=W8 l0 _ h1 h;show(Option.map D.agg (aX (bP δ) l0)).isSome=true;rw[e];rfl
 ·obtain⟨d1,rfl,e4⟩:=nF h;rw[e4];rfl
include ok in
theorem aO2{w0 w:World}{A A':AW}{β:af}{t:xN}{a a' x x':xM}(h:PK E A t a x=some A')(inv:Inv w0 E.G β A w)(ha:ai β a a')(hx:ai β x x'):∃ah w',(Instr.storeAt t a' x').run P w= .ok () w'∧Inv w0 E.G ah A' w'∧β.grow ah A.next∧A.next≤A'.next:=by
 unfold PK at h;split at h;rotate_left
 ·cases h
 rename_i B iv es off r hr;split at h;rotate_left
 ·cases h
 rename_i u A1 hf;split at h;rotate_left
 ·cases h
 rename_i c ax ex ty hg;replace h:=au h;rcases h with⟨hb,h⟩|⟨_,h⟩;rotate_left
 ·cases h
 split at h;rotate_left
 ·cases h
 rename_i y A2 eA;cases h;simp only [xf,dA] at hb;obtain⟨⟨⟨cz,hG⟩,aT⟩,sL⟩:=hb;have sN:=xb cz;subst sN;have vY:=xh hG;have H0:=xb aT;obtain⟨aI,i1,g1,n1,f1⟩:=wH ok (w0:=w0) (w:=w) 4 x A u A1 β hf inv;obtain⟨nd,rt,cy,ht,jj,ga,ig,rfl,rfl⟩:=p8 eA;have i2:=i1.pop (r:=rt) (fun x hx=>by rw[ht];exact xo _ hx);have hu:ai aI u x':=f1 aI (af.cq _ _) x' (hx.mono (inv.fX g1));have hq:dt aI.d nd:=ok.q _ _ (i1.eO nd (by rw[ht];exact xn));unfold dt at hq;rw[jj] at hq;obtain⟨ds,d,q1,q2,q3⟩:=hq;rw[ga] at q1;rw[ig] at q2;obtain⟨q4,q5⟩:=oq q2;obtain⟨dc,ds1,rfl,e1,q1⟩:=jB q1;obtain⟨di,nC,rfl,e2,e3⟩:=jB q1;have gB:(A1.pop rt).get B=some ⟨.own c,es,ex,false,ty⟩:=hg;obtain⟨rows,hd,ho⟩:=i2.own B _ gB;rw[zh hd] at e1;cases e1;have bN:V7 off (.sl rows) di nC=some d:=q3;have ny:ai aI (.iface B (.agg ⟨[iv,.int .i64 (.ofNat es),.int .i64 (.ofNat off)]⟩)) a':=ha.mono (inv.fX g1);cases ny with
 |qW _ _ _ m l _ k hl hi=>
  rw[zh hi] at e2;cases e2;obtain⟨row,fI,q6⟩:=xr.1 (show(rows[m]?).bind _=some d from bN);split at q6;rotate_left
  ·cases q6
  rename_i pO;cases q6;obtain⟨av,zn,k1,k2,k3,k4,k5,k6,k7⟩:=i2.cont B _ l gB hl;have yx:(D.sl rows)= .sl zn:=xC (hd.symm.trans k3);cases yx;have iU:l.es=es:=k4;have ru:row.length=es:=by rw[←iU];exact k5 row (xu fI)
  have Ma:=(xe.1 fI).1;have cP7:nC.length=(tK u).length:=l6 e3;have bR9:=aN2 sL e3;obtain⟨l',ee,ii⟩:=aN1 (n:=0) sL hu (fun _ _=>trivial) bR9;have lW:l'.length=r.size:=by rw[←ii.1,H0]
  have Cb:(m+1)*es≤rows.length*es:=xD _ Ma;rw[Nat.add_mul] at Cb;rw[iU] at k6;have ZV:l.d+(m*es+off)+l'.length≤av.size:=by rw[k2];omega
  have bS5:=J9 sL ii;have aQ:=run_storeCells_at (P:=P) l.b (l.d+(m*es+off)) ty l' 0 av w k1 (by omega) bS5;rw[Nat.add_zero] at aQ;have aJ:(Instr.storeAt t (.pointer (some ⟨l.b,l.d+(m*es+off),none⟩)) x').run P w= .ok () (w.setRow l.b (av.toList.take (l.d+(m*es+off))++l'++av.toList.drop (l.d+(m*es+off)+l'.length)).toArray):=by
   simp[Instr.storeAt,Instr.sureAddr,storeVar,dC ok hr,ee,lW,aQ]
  have rc:∀(i:Nat) (sU:List D) (j:Nat) (d:D),(rows.set m (row.take off++nC++row.drop (off+nC.length)))[i]? =some sU→sU[j]? =some d→j<es∧((i=m∧off≤j∧j<off+nC.length∧nC[j - off]? =some d)∨(rows[i]? =some sU∧i≠m)∨(i=m∧(j<off∨off+nC.length≤j)∧row[j]? =some d)):=fun i sU j d hi hj=>by
   by_cases T4:m=i
   ·subst T4;rw[List.getElem?_set_self Ma] at hi
    ·cases hi;have lX:=(xe.1 hj).1;simp only [xa,xz,List.length_drop] at lX;have cO9:j<es:=by omega
     refine⟨cO9,?_⟩;by_cases h1:j<off
     ·rw[List.append_assoc,xw (by simp;omega),List.getElem?_take,if_pos h1] at hj;exact .inr (.inr ⟨rfl,.inl h1,hj⟩)
     ·by_cases h2:j<off+nC.length
      ·rw[List.append_assoc,xq (by simp;omega),xw (by simp;omega)] at hj;rw[xz,Nat.min_eq_left (by omega)] at hj;exact .inl ⟨rfl,by omega,h2,hj⟩
      ·rw[xq (by simp;omega)] at hj;rw[xa,xz,Nat.min_eq_left (by omega),List.getElem?_drop] at hj;rw[show off+nC.length+(j - (off+nC.length))=j by omega] at hj;exact .inr (.inr ⟨rfl,.inr (by omega),hj⟩)
   ·rw[List.getElem?_set_ne T4] at hi;refine⟨?_,.inr (.inl ⟨hi,Ne.symm T4⟩)⟩;rw[←iU,←k5 sU (xu hi)];exact(xe.1 hj).1
  have H3:∀sC∈rows.set m (row.take off++nC++row.drop (off+nC.length)),sC.length=es:=fun sC dY=>by
   rcases List.mem_or_eq_of_mem_set dY with h9|h9
   ·rw[←iU];exact k5 sC h9
   ·rw[h9];simp only [xa,xz,List.length_drop];omega
  have gj:bP aI.d (.chan (some (cy+1)))=some (.sl (rows.set m (row.take off++nC++row.drop (off+nC.length)))):=by
   show(aI.d cy).bind _=_;rw[q4];rfl
  have jR:nC.length=l'.length:=by rw[cP7,ii.1]
  have hw:=i2.write (w':=w.setRow l.b (av.toList.take (l.d+(m*es+off))++l'++av.toList.drop (l.d+(m*es+off)+l'.length)).toArray) B l _ ⟨.own (.chan (some (cy+1))),es,ex,false,ty⟩ gB hl vY (F2 w l.b _) (by simp) (by
   rw[setRow_heap w l.b av _ ty (0,0) k1];refine⟨_,_,rfl,by rw[F3 _ _ _ ZV];exact k2,gj,iU,(fun sC dY=>by rw[iU];exact H3 sC dY),by rw[iU,xt];exact k6,fun i sU j d hi hj=> ?_⟩;rw[iU];rw[y5 _ _ _ ZV];obtain⟨hje,hc⟩:=rc i sU j d hi hj;rcases hc with⟨rfl,h1,h2,h3⟩|⟨h1,h2⟩|⟨rfl,h1,h2⟩
   ·rw[if_pos (by omega),show l.d+(i*es+j) - (l.d+(i*es+off))=j - off by omega];have qz:j - off<l'.length:=by omega
    refine⟨l'[j - off],xc qz,?_⟩;have AI:j - off<(tK u).length:=by omega
    exact fY (jU e3 h3 (xc AI)) (ii.2 _ _ _ (xc AI) (xc qz))
   ·have: ¬(l.d+(m*es+off)≤l.d+(i*es+j)∧l.d+(i*es+j)<l.d+(m*es+off)+l'.length):=by
     rcases Nat.lt_or_gt_of_ne h2 with h9|h9
     ·have:(i+1)*es≤m*es:=xD _ h9;rw[Nat.add_mul] at this;omega
     ·have:(m+1)*es≤i*es:=xD _ h9;rw[Nat.add_mul] at this;omega
    rw[if_neg this];have:=k7 i sU j d h1 hj;rw[iU] at this;exact this
   ·rw[if_neg (by omega)];have:=k7 i row j d fI h2;rw[iU] at this;exact this) (by
   refine⟨_,gj,?_⟩;rcases ho with⟨iJ,_⟩|⟨l2,cap,p1,p2,p3,p4,p5⟩
   ·rw[iJ] at Ma;simp at Ma
   ·rw[hl] at p1;cases p1;exact .inr ⟨l,cap,hl,by rw[xt];exact p2,by rw[xt];exact p3,p4,p5⟩)
  exact⟨aI,_,aJ,hw,g1,by show A.next≤A1.next;rw[n1];exact xk _⟩
include ok in
theorem aW5{w0 w:World}{A A':AW}{β:af}{t:xN}{l l' c c' v:xM}(h:Ty E A t l c=some (v,A'))(inv:Inv w0 E.G β A w)(hl:ai β l l')(hc:ai β c c'):hO w0 E.G β A ((Instr.makeSlice t l' c').run P w) v A'∧A.next≤A'.next:=by
 unfold Ty at h;split at h;rotate_left
 ·cases h
 rename_i e _ _ _ _ hr;split at h;rotate_left
 ·cases h
 rename_i re dG;replace h:=au h;rcases h with⟨hb,h⟩|⟨_,h⟩;rotate_left
 ·cases h
 split at h;rotate_left
 ·cases h
 rename_i u A1 eA;split at h;rotate_left
 ·cases h
 rename_i A2 kn;cases h;simp only [xf,dA] at hb;obtain⟨⟨⟨⟨ui,rn⟩,h1⟩,IR⟩,_⟩:=hb;have mK:=xb rn;have mU:=xh h1;obtain⟨nd,rt,cu,ht,jj,ga,ig,rfl,rfl⟩:=p8 eA;have i2:=inv.pop (r:=rt) (fun x hx=>by rw[ht];exact xo _ hx);have hq:dt β.d nd:=ok.q _ _ (inv.eO nd (by rw[ht];exact xn));unfold dt at hq;rw[jj] at hq;obtain⟨ds,d,q1,q2,q3⟩:=hq;rw[ga] at q1;rw[ig] at q2;obtain⟨q4,q5⟩:=oq q2;obtain⟨dl,ds1,rfl,e1,q7⟩:=jB q1;obtain⟨dc,zs,rfl,e2,e3⟩:=jB q7;clear q1 q7;have bN:BP re.size re.bytes dl dc zs=some d:=q3;unfold BP at bN;split at bN;rotate_left
 ·cases bN
 rename_i ln cn;split at bN;rotate_left
 ·cases bN
 rename_i BK;obtain⟨gw,dX,kR⟩:=BK;cases bN;have bG:=fY e1 hl;have bQ:=fY e2 hc;cases bG;cases bQ;unfold jI at kR;simp only [xf,decide_eq_true_iff] at kR;obtain⟨C,IZ,Uh,aJ⟩:=run_make (P:=P) ok hr dG ui mK (ln:=ln) (cn:=cn) dX kR.1 kR.2 w;have Hw:=A5 β re.zero;unfold Dv at kn;simp only at kn;split at kn;rotate_left
 ·cases kn
 rename_i csx esx exx tyx gA;cases kn;have H3:=Vq (E:=E) (w:=w) i2 [] [] e re.size false (fun ah hb=>aP.nil ah);obtain⟨g1,g2⟩:=i2.new (l:=⟨w.heap.size,0,re.size,C.length⟩) ⟨.cells [],re.size,false,false,e⟩ (.cells ⟨C⟩ e) rfl
  ⟨⟨C⟩,e,(0,0),rfl,rfl,by simp,(fun i v hv=>by simp at hv),fun _=>rfl,(fun h=>by cases h),rfl,fun _=>rfl⟩
 have sY:(β.put (A.pop rt).next ⟨w.heap.size,0,re.size,C.length⟩).o (A.pop rt).next=none:=by
  show β.o A.next=none;cases hq:β.o A.next with
  |none=>rfl
  |some v=>have:=inv.jf _ _ hq;omega
 have gj:∀(cK:af),cK.d=β.d→bP cK.d (.chan (some (cu+1)))=some (.sl (List.replicate ln zs)):=fun cK e=>by
  show(cK.d cu).bind _=_;rw[e,q4];rfl
 have yD:=g1.relabel (B:=(A.pop rt).next) (blk':=⟨.own (.chan (some (cu+1))),re.size,false,false,e⟩) (v:= .slice (some ⟨w.heap.size,0,none⟩) (List.replicate ln zs).length cn) gA (Nat.lt_succ_self _) sY rfl (fun l2 bG=>by
  rw[jl] at bG;cases bG;refine⟨⟨C⟩,List.replicate ln zs,heap_alloc_new w _,rfl,gj _ rfl,rfl,(fun row hr=>by rw[(List.mem_replicate.1 hr).2];exact gw),?_,fun i row j d hi hj=> ?_⟩
  ·show 0+(List.replicate ln zs).length*re.size≤C.length;rw[List.length_replicate,IZ];have:ln*re.size≤cn*re.size:=xD _ dX;omega
  ·have eI:=(xe.1 hi).1;rw[List.length_replicate] at eI;rw[List.getElem?_replicate,if_pos eI] at hi;cases hi;have fL:j<re.size:=by rw[←gw];exact(xe.1 hj).1
   have bg:i*re.size+j<cn*re.size:=by
    have:(i+1)*re.size≤cn*re.size:=xD _ (by omega);rw[Nat.add_mul] at this;omega
   have uj:(i*re.size+j)%re.size=j:=by
    rw[Nat.mul_comm,Nat.mul_add_mod,Nat.mod_eq_of_lt fL]
   have CH:=Uh _ bg;rw[uj] at CH;have qz:j<re.zero.length:=by rw[mK];exact fL
   refine⟨re.zero[j],?_,?_⟩
   ·show(⟨C⟩:Array xM)[0+(i*re.size+j)]? =_;rw[Nat.zero_add];simpa[qz] using CH
   ·have AI:j<(ew pH re.zero).length:=by rw[Hw.1];exact qz
    exact fY (β:=β) (jU e3 hj (xc AI)) (Hw.2 _ _ _ (xc AI) (xc qz)))
  ⟨List.replicate ln zs,gj _ rfl,.inr ⟨_,cn,jl _ _ _,by show(if(A.pop rt).next=(A.pop rt).next then _ else _)=_;rw[if_pos rfl],by rw[List.length_replicate];exact dX,by show 0+cn*re.size≤C.length;rw[IZ];omega,rfl⟩⟩
 refine⟨⟨_,_,_,aJ,?_,yD,?_⟩,Nat.le_succ _⟩
 ·have:=ai.own (β:=(β.put (A.pop rt).next ⟨w.heap.size,0,re.size,C.length⟩).pG (A.pop rt).next (.slice (some ⟨w.heap.size,0,none⟩) (List.replicate ln zs).length cn)) (A.pop rt).next cu (List.replicate ln zs) (some ⟨w.heap.size,0,none⟩) cn (by show(if(A.pop rt).next=(A.pop rt).next then _ else _)=_;rw[if_pos rfl]) (.inr ⟨_,jl _ _ _,rfl⟩) q4;have e9:Value.slice (some ⟨w.heap.size,0,none⟩) ln cn= .slice (some ⟨w.heap.size,0,none⟩) (List.replicate ln zs).length cn:=by rw[List.length_replicate]
  rw[e9];exact this
 ·exact af.iZ g2 (af.Jo _ _ _) (xk _)
end
def Qh(E:aq)(A:AW)(s d:xN)(x:xM):Option (xM×AW):=
 match E.ti.get none s,E.ti.get none d with
 |some ⟨.string,_,_,_,_⟩,some ⟨.slice e,_,_,_,_⟩=>match E.ti.get none e with
  |some ⟨.int .u8,_,_,_,_⟩=>bs (gF x) (match oQ A .FV [x] with
   |some (x2,A0)=>(match oQ A0 (.app 1 1) [.slice none 0 0,x2] with
    |some (u,A1)=>(match(A1.add ⟨.cells [],1,false,true,e⟩).get A1.next with
     |some ⟨.cells [],1,false,true,ty⟩=>some (u,(A1.add ⟨.cells [],1,false,true,e⟩).put A1.next (some ⟨.cells [],1,false,true,ty⟩))
     |_=>none)
    |none=>none)
   |none=>none) none
  |_=>none
 |_,_=>none
section
variable{P:Program}{E:aq}(ok:E.Ok P)
include ok in
theorem aR8{w0 w:World}{A A':AW}{β:af}{s d:xN}{x x' v:xM}(h:Qh E A s d x=some (v,A'))(inv:Inv w0 E.G β A w)(hx:ai β x x'):hO w0 E.G β A ((convert s d x').run P w) v A'∧A.next≤A'.next:=by
 unfold Qh at h;split at h;rotate_left
 ·cases h
 rename_i e _ _ _ _ hs hd;split at h;rotate_left
 ·cases h
 rename_i he;replace h:=au h;rcases h with⟨_,h⟩|⟨_,h⟩;rotate_left
 ·cases h
 split at h;rotate_left
 ·cases h
 rename_i x2 A0 pW;split at h;rotate_left
 ·cases h
 rename_i u A1 eA;split at h;rotate_left
 ·cases h
 rename_i ty gA;cases h;obtain⟨Aw,Iq,c0,Ni,cM8,cN3,Ab,rfl,rfl⟩:=p8 pW;have i1:=inv.pop (r:=Iq) (fun x hx=>by rw[Ni];exact xo _ hx);have rz:dt β.d Aw:=ok.q _ _ (inv.eO Aw (by rw[Ni];exact xn));unfold dt at rz;rw[cM8] at rz;obtain⟨ds0,d2,r1,r2,r3⟩:=rz;rw[cN3] at r1;rw[Ab] at r2;obtain⟨r4,r5⟩:=oq r2;obtain⟨dx,rfl,r6⟩:=nF r1;have MH:G1 dx=some d2:=r3;unfold G1 at MH;split at MH;rotate_left
 ·cases MH
 rename_i l;cases MH;have oa:=fY r6 hx;cases oa;obtain⟨nd,rt,cu,ht,jj,ga,ig,rfl,rfl⟩:=p8 eA;have i2:=i1.pop (r:=rt) (fun x hx=>by rw[ht];exact xo _ hx);have hq:dt β.d nd:=ok.q _ _ (i1.eO nd (by rw[ht];exact xn));unfold dt at hq;rw[jj] at hq;obtain⟨ds,d1,q1,q2,q3⟩:=hq;rw[ga] at q1;rw[ig] at q2;obtain⟨q4,q5⟩:=oq q2;obtain⟨d0,ds1,rfl,e1,q7⟩:=jB q1;obtain⟨dy,rfl,e2⟩:=nF q7;have nz:D.sl []=d0:=xC e1;subst nz;have v5:(β.d c0).bind (fun x=>if x.cell then some x else none)=some dy:=e2;rw[r4] at v5;have v5:D.str l=dy:=xC v5;subst v5;have bN:(if jI (([]:List (List D)).length+(l.map fun b=>[D.int .u8 (b.toNat:Nat)]).length) 1 then some (D.sl ([]++l.map fun b=>[D.int .u8 (b.toNat:Nat)])) else none)=some d1:=q3;split at bN;rotate_left
 ·cases bN
 cases bN;have h1:=(ok.ti s _ hs).1;have h2:=(ok.ti d _ hd).1;have h3:=(ok.ti e _ he).1;have aJ:=Lib.run_convert_string_bytes (P:=P) w s d e ⟨⟨l⟩⟩ h1 h2 h3;rw[UE] at aJ;have ek:=grownCap_ge w (ByteArray.size ⟨⟨l⟩⟩) 0 e;have aT:ByteArray.size ⟨⟨l⟩⟩=l.length:=rfl;rw[aT] at ek;have cw:(Lib.bytesCells w e ⟨⟨l⟩⟩).size=grownCap w l.length 0 e:=by
  unfold Lib.bytesCells;rw[Array.size_append,Array.size_map,Array.size_replicate,aT];show l.length+_=_;omega
 obtain⟨g1,g2⟩:=(i2.drew (w.drawn+1)).new (l:=⟨w.heap.size,0,1,(Lib.bytesCells w e ⟨⟨l⟩⟩).size⟩) ⟨.cells [],1,false,true,e⟩ (.cells (Lib.bytesCells w e ⟨⟨l⟩⟩) e ((Lib.bytesCells w e ⟨⟨l⟩⟩).size,(Lib.bytesCells w e ⟨⟨l⟩⟩).size+1)) rfl
  ⟨_,_,_,rfl,rfl,by simp,(fun i v hv=>by simp at hv),(fun h=>by cases h),(fun h=>by cases h),rfl,fun _=>rfl⟩
 have jr:(β.put ((A.pop Iq).pop rt).next ⟨w.heap.size,0,1,(Lib.bytesCells w e ⟨⟨l⟩⟩).size⟩) ((A.pop Iq).pop rt).next=some ⟨w.heap.size,0,1,(Lib.bytesCells w e ⟨⟨l⟩⟩).size⟩:=jl _ _ _;have hB:E.G.n≤((A.pop Iq).pop rt).next:=by
  rcases Nat.lt_or_ge ((A.pop Iq).pop rt).next E.G.n with bg|ek
  ·obtain⟨l,hl,_⟩:=i2.jg _ bg;have:=i2.g9 _ _ hl;omega
  ·exact ek
 obtain⟨k1,k2⟩:=g1.still gA (.inl ⟨_,rfl⟩) hB jr (heap_alloc_new _ _);refine⟨⟨_,_,_,aJ,?_,k1,af.iZ g2 (k2 _) (xk _)⟩,Nat.le_succ _⟩;refine .sym cu (.sl ([]++l.map fun b=>[D.int .u8 (b.toNat:Nat)])) _ q4 rfl ?_;rw[List.nil_append];cases l with
 |nil=>exact .n8 _ _
 |cons b0 l0=>
  have aC:((b0::l0).map fun b=>[D.int .u8 (b.toNat:Nat)]).length=(b0::l0).length:=xm _;have hval:(Value.slice (some ⟨w.heap.size,0,none⟩) (ByteArray.size ⟨⟨b0::l0⟩⟩) (grownCap w (ByteArray.size ⟨⟨b0::l0⟩⟩) 0 e))= .slice (some ⟨w.heap.size,0,none⟩) ((b0::l0).map fun b=>[D.int .u8 (b.toNat:Nat)]).length (grownCap w (ByteArray.size ⟨⟨b0::l0⟩⟩) 0 e):=by rw[aC,aT]
  rw[hval];refine .sl _ 1 w.heap.size 0 _ (Lib.bytesCells w e ⟨⟨b0::l0⟩⟩) (by rw[af.zm,if_pos rfl]) (by simp) (fun row hr=>by
   obtain⟨b,_,rfl⟩:=xJ.1 hr;rfl) (by rw[aC];exact ek) (by rw[cw,Nat.zero_add,Nat.mul_one];exact xk _) fun i row j d v hi hj hv=> ?_
  rw[xx] at hi;obtain⟨b,hb,rfl⟩:=xp.1 hi;have AJ:j=0:=by
   have:=(xe.1 hj).1;simpa using this
  subst AJ;have io:D.int .u8 (b.toNat:Nat)=d:=by simpa using hj
  subst io;have qA:=(xe.1 hb).1;unfold Lib.bytesCells at hv;rw[Nat.zero_add,Nat.mul_one,Nat.add_zero,Array.getElem?_append_left (by simpa using qA)] at hv;have cx:l0.length+1=(b0::l0).length:=rfl;have cM:((b0::l0).map fun b=>Value.int .u8 (b.toNat:Nat))[i]? =some v:=by simpa using hv
  rw[xx,hb] at cM;cases cM;exact .int _ _
end
def PS(A:AW)(x:xM):Option (xM×AW):=
 match x with
 | .iface B (.chan (some (c+1)))=>match A.get B,A.tape with
  |some ⟨.own _,es,_,_,_⟩,nd::r=>bs (uf nd.k .kW&&kK nd.args [.chan (some (c+1)),.int .i64 0]&&qT nd.res (.bool true)) (some (.iface B (.agg ⟨[.int .i64 0,.int .i64 (.ofNat es),.int .i64 0]⟩),A.pop r)) none
  |_,_=>none
 |_=>none
def Qo(E:aq)(A:AW)(pt:xN)(p n:xM):Option (xM×AW):=
 match p,E.ti.get none pt with
 | .iface B (.agg ⟨[.int .i64 (.ofNat 0),.int .i64 (.ofNat 1),.int .i64 (.ofNat 0)]⟩),some ⟨.pointer e,_,_,_,_⟩=>match A.get B,E.ti.get none e with
  |some ⟨.own c,1,ex,false,ty⟩,some re=>bs (Nat.beq re.size 1&&Nat.beq ty e&&Nat.ble E.G.n B&&gF n) (match oQ A .Bs [c,n] with
   |some (y,A1)=>some (y,A1.put B (some ⟨.cells [],1,false,true,ty⟩))
   |none=>none) none
  |_,_=>none
 |_,_=>none
theorem Rm:∀{rows:List (List D)},(∀row∈rows,row.length=1)→rows.flatten.length=rows.length∧∀(j:Nat) (d:D),rows.flatten[j]? =some d→∃row,rows[j]? =some row∧row[0]? =some d
 |[],_=>⟨rfl,fun j d h=>by simp at h⟩
 |row::rows,h=>by
  have h0:=h row xn;obtain⟨h1,h2⟩:=Rm (rows:=rows) fun r hr=>h r (xo _ hr)
  match row,h0 with
  |[x],_=>
   refine⟨by simp[h1],fun j d hd=> ?_⟩;cases j with
   |zero=>simp at hd;subst hd;exact⟨[x],rfl,rfl⟩
   |succ j=>simp at hd;simpa using h2 j d hd
section
variable{P:Program}{E:aq}(ok:E.Ok P)
include ok in
theorem aO8{w0 w:World}{A A':AW}{β:af}{tys:Array xN}{ty:xN}{x x' v:xM}(h:PS A x=some (v,A'))(inv:Inv w0 E.G β A w)(hx:ai β x x'):hO w0 E.G β A ((Builtin.unsafeSliceData_ tys ty #[x']).run P w) v A'∧A.next≤A'.next:=by
 unfold PS at h;split at h;rotate_left
 ·cases h
 rename_i B c;split at h;rotate_left
 ·cases h
 rename_i c0 es ex ro tb nd r hg ht;replace h:=au h;rcases h with⟨hb,h⟩|⟨_,h⟩;rotate_left
 ·cases h
 cases h;simp only [xf] at hb;obtain⟨⟨b1,b2⟩,b3⟩:=hb;have e1:=y8 b1;have e2:=kV _ _ b2;have e3:=wm b3;have hq:dt β.d nd:=ok.q _ _ (inv.eO nd (by rw[ht];exact xn));unfold dt at hq;rw[e1] at hq;obtain⟨ds,d,q1,q2,q3⟩:=hq;rw[e2] at q1;rw[e3] at q2;have vL:some (D.bool true)=some d:=q2;cases vL;obtain⟨dx,di,rfl,e5,e6⟩:=om q1;have e6':some (D.int .i64 0)=some di:=e6;cases e6';cases hx with
 |own _ _ rows a cap ho ha hd=>
  have FT:(β.d c).bind (fun x=>if x.cell then some x else none)=some dx:=e5;rw[hd] at FT;have FT:D.sl rows=dx:=xC FT;subst FT;have bN:some (D.bool (decide (0<rows.length)))=some (.bool true):=q3;have at6:0<rows.length:=by
   have:=xC bN;injection this with this;exact of_decide_eq_true this
  obtain⟨dh9,h1,h2⟩:=inv.own B _ hg;rcases h2 with⟨_,e⟩|⟨l,cap',k1,k2,k3,_⟩
  ·rw[ho] at e;injection e with e;injection e with e7 e8 e9;omega
  ·rw[ho] at k2;injection k2 with k2;injection k2 with e7 e8 e9;subst e7 e9;refine⟨⟨β,_,w,Lib.run_unsafeSliceData_row w tys ty _ _ cap (by omega),?_,inv.pop (fun x hx=>by rw[ht];exact xo _ hx),af.cq _ _⟩,xk _⟩;have:=ai.qW (β:=β) B es 0 0 l (.int .i64 0) .i64 k1 rfl;simpa using this
include ok in
theorem aT0{w0 w:World}{A A':AW}{β:af}{pt it ty:xN}{p p' n n' v:xM}(h:Qo E A pt p n=some (v,A'))(inv:Inv w0 E.G β A w)(hp:ai β p p')(hn:ai β n n'):hO w0 E.G β A ((Builtin.unsafeString_ #[pt,it] ty #[p',n']).run P w) v A'∧A.next≤A'.next:=by
 unfold Qo at h;split at h;rotate_left
 ·cases h
 rename_i B e _ _ _ _ Fz;split at h;rotate_left
 ·cases h
 rename_i c ex tb re hg dG;replace h:=au h;rcases h with⟨hb,h⟩|⟨_,h⟩;rotate_left
 ·cases h
 split at h;rotate_left
 ·cases h
 rename_i y A1 eA;cases h;simp only [xf] at hb;obtain⟨⟨⟨b1,b2⟩,b3⟩,b4⟩:=hb;have b1':=xb b1;have b2':=xb b2;have Us:=xh b3;subst b2';obtain⟨nd,rt,cy,ht,jj,ga,ig,rfl,rfl⟩:=p8 eA;have i2:=inv.pop (r:=rt) (fun x hx=>by rw[ht];exact xo _ hx);have hq:dt β.d nd:=ok.q _ _ (inv.eO nd (by rw[ht];exact xn));unfold dt at hq;rw[jj] at hq;obtain⟨ds,d,q1,q2,q3⟩:=hq;rw[ga] at q1;rw[ig] at q2;obtain⟨q4,q5⟩:=oq q2;obtain⟨dx,dn,rfl,e5,e6⟩:=om q1;obtain⟨rows,h1,h2⟩:=i2.own B _ hg;rw[zh h1] at e5;cases e5;have jk:=fY e6 hn;have bN:OQ (.sl rows) dn=some d:=q3;unfold OQ at bN;split at bN;rotate_left
 ·cases bN
 rename_i KJ m xU;cases xU;split at bN;rotate_left
 ·cases bN
 rename_i hm;obtain⟨rB,eV⟩:=hm;obtain⟨l,hl,rfl⟩:=xp.1 bN;subst rB;cases jk;cases hp with
 |qW _ _ _ m0 lc _ k cR hi=>
  have hi':D.int .i64 0= .int k (m0:Nat):=xC hi;injection hi' with _ kS;have cN8:m0=0:=by omega
  subst cN8;obtain⟨av,zn,k1,k2,k3,k4,k5,k6,k7⟩:=i2.cont B _ lc hg cR;have yx:(D.sl rows)= .sl zn:=xC (h1.symm.trans k3);cases yx;have iU:lc.es=1:=k4;rw[iU] at k5 k6 k7;obtain⟨f1,f2⟩:=Rm k5;obtain⟨g1,g2⟩:=Ob hl;have lW:l.length=rows.length:=by rw[←g1,f1]
  have gh:∀j x,l[j]? =some x→w.cell? ((⟨lc.b,lc.d,none⟩:Addr).add j)=some (.int .u8 x.toNat):=fun j x hx=>by
   obtain⟨row,eC,bK⟩:=f2 j _ (g2 j x hx);obtain⟨v,ob,cM⟩:=k7 j row 0 _ eC bK;cases cM;rw[Addr.add_mid,cell_of_row w lc.b _ av tb (0,0) k1];rw[Nat.mul_one,Nat.add_zero] at ob;exact ob
  have bV:Inv w0 E.G β ((A.pop rt).put B (some ⟨.cells [],1,false,true,tb⟩)) (w.freeze ⟨lc.b,lc.d,none⟩ rows.length):=by
   obtain⟨I3,hf⟩:=VA w lc.b lc.d rows.length k1;refine i2.Gv B lc _ _ hg cR Us (UH w lc.b lc.d rows.length) (UU w lc.b lc.d rows.length) ?_ trivial (fun bC hz=> ?_) (fun h=>by cases h)
   ·rw[hf];exact⟨av,tb,I3,rfl,k2,by simp;omega,(fun i v hv=>by simp at hv),(fun h=>by cases h),(fun h=>by cases h),iU,fun _=>rfl⟩
   ·obtain⟨e2,NF,h2⟩:=i2.bB _ _ hz;rw[k1] at h2;cases h2;exact⟨_,_,hf⟩
  have aQ:ai β (.chan (some (cy+1))) (.string ⟨⟨l⟩⟩):= .sym cy (.str l) _ q4 rfl (.str _);have dk8:(⟨lc.b,lc.d+(0*1+0),none⟩:Addr)=⟨lc.b,lc.d,none⟩:=rfl;by_cases h0:rows.length=0
  ·have qy:l=[]:=xA (by omega);subst qy;have uN:w.freeze ⟨lc.b,lc.d,none⟩ rows.length=w:=by
    unfold World.freeze;rw[if_pos (by simp[h0])]
   rw[uN] at bV;refine⟨⟨β,_,w,?_,aQ,bV,af.cq _ _⟩,xk _⟩;rw[h0];exact Lib.run_unsafeString_none w pt it ty _
  ·have il:=Lib.run_loadBytes (P:=P) w l ⟨lc.b,lc.d,none⟩ .empty gh;rw[lW] at il;have h5:P.cellsOf tb=1:=(O2 ok dG).trans b1';obtain⟨ie,s1⟩:∃ie,w.shape? lc.b=some (tb,ie)∧ie=lc.sz:=⟨_,by unfold World.shape?;rw[k1],k2⟩;obtain⟨s1,s2⟩:=s1;subst s2;have Hz:=U8 (P:=P) (xk 1) h5 lc.sz lc.d rows.length (by rw[Nat.mul_one] at k6;exact k6);rw[Nat.mul_one] at Hz;have Sw:=(ok.ti pt _ Fz).1;refine⟨⟨β,.string ⟨⟨l⟩⟩,w.freeze ⟨lc.b,lc.d,none⟩ rows.length,?_,aQ,bV,af.cq _ _⟩,xk _⟩;have SL:Builtin.unsafeString_ #[pt,it] ty #[.pointer (some ⟨lc.b,lc.d,none⟩),.int .i64 (Int.ofNat rows.length)]=
    (do
     let n←asInt (.int .i64 (Int.ofNat rows.length))
     if n<0 then runtimePanic (.error "unsafe.String: len out of range")
     if n>IntKind.i64.max then unsupported (.unsafePointer "String: a length above the largest int")
     if n=0 then pure (.string .empty)
     else if←variablesAt ⟨lc.b,lc.d,none⟩ (←elemOf pt) n.toNat then do
      let s←loadBytes ⟨lc.b,lc.d,none⟩ .empty n.toNat
      freeze ⟨lc.b,lc.d,none⟩ n.toNat
      pure (.string s)
     else unsupported (.unsafePointer "String: not so many bytes at ptr")):=rfl
   show(Builtin.unsafeString_ #[pt,it] ty #[.pointer (some ⟨lc.b,lc.d,none⟩),.int .i64 (Int.ofNat rows.length)]).run P w=_;rw[SL];have H6:IntKind.i64.max=9223372036854775807:=rfl;have Ia: ¬(9223372036854775807:Int)<(rows.length:Int):=by omega
   have yd: ¬(rows.length:Int)<0:=by omega
   simp[asInt,asIntOf,H6,Ia,yd,h0,variablesAt,s1,elemOf,run_underlying Sw,h5,Hz,il]
include ok in
theorem aO3{w0 w:World}{A A':AW}{β:af}{n:Nat}{g:Gt}{a:Act}(hf:cf β n g a.tmps){t:xN}{x:Operand}{lo hi:Option Operand}{u:xM}(h:PQ E A t (ev E g x) (sV E g lo) (uJ E g hi)=some (u,A'))(inv:Inv w0 E.G β A w):
 ∃ah v',(Instr.sliceAt t (a.eval x) (lo.map a.eval) (hi.map a.eval) none).run P w= .ok v' w∧ai ah u v'∧Inv w0 E.G ah A' w∧β.grow ah A.next∧A.next≤A'.next:=by
 unfold PQ at h;split at h;rotate_left
 ·cases h
 rename_i hr;split at h;rotate_left
 ·cases h
 rename_i hs;split at h;rotate_left
 ·cases h
 rename_i u1 A1 jz;obtain⟨aI,i1,g1,n1,f1⟩:=wH ok (w0:=w0) (w:=w) 4 _ A u1 A1 β jz inv;obtain⟨nd,rt,cy,ht,jj,ga,ig,hu,rfl⟩:=p8 h;have i2:=i1.pop (r:=rt) (fun x hx=>by rw[ht];exact xo _ hx);have nv:ai aI u1 (a.eval x):=f1 aI (af.cq _ _) _ ((jX (a:=a) inv hf x).mono (inv.fX g1));have hq:dt aI.d nd:=ok.q _ _ (i1.eO nd (by rw[ht];exact xn));unfold dt at hq;rw[jj] at hq;obtain⟨ds,d,q1,q2,q3⟩:=hq;rw[ga] at q1;rw[ig] at q2;have q3:Fj (Bn _) ds=some d:=q3;have E1:=fun(y:Operand) (d:D) (hd:cb aI.d (ev E g y)=some d)=>fY hd ((jX (a:=a) inv hf y).mono (inv.fX g1))
 obtain⟨dx,al,hb,k,b,e1,e2,e3,e4⟩:=PD E1 (fun x b=>by unfold Bn;split<;>first|rfl|(rename_i e;cases e)) q1 q3;obtain⟨v',r1,r2⟩:=Xk ok hr hs e2 (fY e1 nv) e3 e4 w;exact⟨aI,v',r1,yZ q2 r2,i2,g1,Nat.le_of_eq n1.symm⟩
end
end
end Go.Ex
