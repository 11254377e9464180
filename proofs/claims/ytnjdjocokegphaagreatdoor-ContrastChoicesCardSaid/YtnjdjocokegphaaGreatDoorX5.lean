/- A verified evaluator of Go functions. -/
import Derived.Test.YtnjdjocokegphaaGreatDoorX4
set_option linter.unusedVariables false
set_option linter.unusedSimpArgs false
namespace Go.Ex
open Go.RowKit
noncomputable section
def ah.pD(β:ah)(B:Nat)(v:xM):ah:={β with o:=fun X=>if X=B then some v else β.o X}
theorem ah.bq1{β:ah}{B:Nat}(v:xM)(h:β.o B=none):β.le (β.pD B v):=
 ⟨fun _ _ e=>e,fun _ _ e=>e,fun X u e=>by
  show(if X=B then some v else β.o X)=some u;rw[if_neg (fun hx=>by rw[hx,h] at e;cases e)];exact e,rfl,rfl⟩
theorem ah.IK(β:ah)(B:Nat)(v:xM):β.grow (β.pD B v) B:=
 ⟨fun _ _=>rfl,fun _ _ e=>e,fun X hX=>by show(if X=B then some v else β.o X)=β.o X;rw[if_neg (by omega)],rfl,rfl⟩
theorem Inv.relabel{w0 w:World}{G:GP}{β:ah}{A:AW}(h:Inv w0 G β A w){B:Nat}{k blk':ap}{v:xM}(hk:A.get B=some k)(hB:B<A.next)(ho:β.o B=none)(hs:k.still=false)
 (fQ:∀l,β B=some l→hM (β.pD B v) l blk' w.heap[l.b]?) (kD:iU (β.pD B v) B blk'):Inv w0 G (β.pD B v) (A.put B (some blk')) w:=by
 have aR:=ah.bq1 (β:=β) v ho;have p9:∀D,((A.put B (some blk')).get D).isSome=true→(A.get D).isSome=true:=fun D h=>by
  rcases A.iO B (some blk') D with⟨_,e⟩|⟨e,_⟩|⟨e,_⟩
  ·rw[e,hk];rfl
  ·rw[e] at h;cases h
  ·rw[e] at h;exact h
 refine⟨h.below,h.gU,fun C hC=> ?_,h.loc,fun C C' lc qX e e' eE ha iz=>h.inj C C' lc qX e e' eE (p9 C ha) (p9 C' iz),fun C kk lc bN e=> ?_,h.jm,h.bH,fun C lc kk hG e bN mb=> ?_,h.fw,fun C kk bN=> ?_,fun C u e=> ?_,h.lay,h.xg,h.jv,h.zo⟩
 ·have Bw:A.next≤C:=hC;rcases A.iO B (some blk') C with⟨_,e⟩|⟨e,_⟩|⟨e,_⟩
  ·omega
  ·exact e
  ·rw[e];exact h.dh C Bw
 ·rcases A.iO B (some blk') C with⟨e2,e3⟩|⟨e2,_⟩|⟨e2,_⟩
  ·subst e3;rw[e2] at bN;cases bN;exact fQ lc e
  ·rw[e2] at bN;cases bN
  ·rw[e2] at bN;exact(h.cont C kk lc bN e).mono aR
 ·rcases A.iO B (some blk') C with⟨e2,e3⟩|⟨e2,_⟩|⟨e2,_⟩
  ·subst e3;exact h.sep C lc k hG e hk hs
  ·rw[e2] at bN;cases bN
  ·rw[e2] at bN;exact h.sep C lc kk hG e bN mb
 ·rcases A.iO B (some blk') C with⟨e2,e3⟩|⟨e2,_⟩|⟨e2,_⟩
  ·subst e3;rw[e2] at bN;cases bN;exact kD
  ·rw[e2] at bN;cases bN
  ·rw[e2] at bN;exact(h.own C kk bN).mono aR
 ·have e':(if C=B then some v else β.o C)=some u:=e;by_cases hC:C=B
  ·show C<A.next;rw[hC];exact hB
  ·rw[if_neg hC] at e';exact h.jj C u e'
def R4(G:Nat)(es:Nat)(e:xN)(A:AW)(s:xM):Option (xM×AW×Option Nat):=
 match s with
 | .slice none 0 0=>some (.slice none 0 0,A,none)
 | .iface B (.chan (some (_+1)))=>match A.get B with
  |some ⟨.own c,aD,_,false,ty⟩=>bs (Nat.beq es aD&&Nat.beq ty e&&Nat.ble G B) (some (c,A,some B)) none
  |_=>none
 | .slice (some ⟨B,o,none⟩) n _=>match A.get B with
  |some ⟨.cells cs,aD,_,_,_⟩=>match mY (Nat.mul n aD) (oO o cs) with
   |some l=>match nE (nD G 3) l A with
    |some (us,A1)=>match ny A1 (.bH aD n) us with
     |some (u,A2)=>match A2.get B with
      |some ⟨.cells _,nV,_,false,ty⟩=>bs (Nat.beq es nV&&Nat.beq es aD&&Nat.beq ty e&&Nat.ble G B&&bs (Nat.beq B rZ) false true) (some (u,A2,some B)) none
      |_=>none
     |none=>none
    |none=>none
   |none=>none
  |_=>none
 |_=>none
def PI(E:av)(t:xN):Option (Row×xN):=
 match E.ti.get none t with
 |some ⟨.slice e,_,_,_,_⟩=>match E.ti.get none e with
  |some re=>bs (re.qS&&Nat.beq (bE re.zero) re.size&&Nat.ble 1 re.size&&Nat.blt e jY) (some (re,e)) none
  |none=>none
 |_=>none
def JX(E:av)(tx:xN):Bool:=match E.ti.get none tx with|some ⟨.slice _,_,_,_,_⟩=>true|some ⟨.string,_,_,_,_⟩=>true|_=>false
def Ct(A:AW)(kill:Option Nat)(u:xM)(es:Nat)(e:xN):Option AW:=
 match((match kill with|some B=>A.put B none|none=>A).add ⟨.cells [],es,false,false,e⟩).get A.next with
 |some ⟨.cells _,_,_,false,_⟩=>some (((match kill with|some B=>A.put B none|none=>A).add ⟨.cells [],es,false,false,e⟩).put A.next (some ⟨.own u,es,false,false,e⟩))
 |_=>none
def TV(E:av)(A:AW)(t tx:xN)(s x:xM):Option (xM×AW):=
 match PI E t with
 |some (re,e)=>bs (JX E tx) (match R4 E.G.n re.size e A s with
  |some (c,A1,kill)=>match nD E.G.n 4 x A1 with
   |some (y,A2)=>match ny A2 (.app re.size re.bytes) [c,y] with
    |some (u,A3)=>bs (match kill with|some B=>(match A3.get B with|some ⟨_,_,_,false,_⟩=>true|_=>false)|none=>true) (match Ct A3 kill u re.size e with|some A4=>some (.iface A3.next u,A4)|none=>none) none
    |none=>none
   |none=>none
  |none=>none) none
 |none=>none
section
variable{E:av}{w0 w:World}{β:ah}{A:AW}
theorem Inv.Xy(h:Inv w0 E.G β A w)(ao:ap)(hp:r7 ao:=by intro c h;cases h):Inv w0 E.G β (A.add ao) w:=by
 have hn:A.get A.next=none:=h.dh _ (xk _);have hb:β A.next=none:=by
  cases hc:β A.next with
  |none=>rfl
  |some l=>exact absurd (h.gU _ l hc) (Nat.lt_irrefl _)
 have ma:∀B l,β B=some l→(A.add ao).get B=A.get B:=fun B l e=>by
  rcases A.rM ao hn B with⟨_,e2⟩|e2
  ·rw[e2,hb] at e;cases e
  ·exact e2
 refine⟨h.below,fun B l e=>Nat.lt_succ_of_lt (h.gU B l e),fun B hB=> ?_,h.loc,fun B B' l l' e e' eE ha iz=> ?_,fun B k l hk e=> ?_,h.jm,h.bH,fun B l kb hG e ha hs=> ?_,h.fw,fun B k hk=> ?_,fun B v e=>Nat.lt_succ_of_lt (h.jj B v e),h.lay,h.xg,h.jv,h.zo⟩
 ·have ry:A.next+1≤B:=hB;rcases A.rM ao hn B with⟨_,e2⟩|e2
  ·omega
  ·exact e2.trans (h.dh B (by omega))
 ·rw[ma B l e] at ha;rw[ma B' l' e'] at iz;exact h.inj B B' l l' e e' eE ha iz
 ·rw[ma B l e] at hk;exact h.cont B k l hk e
 ·rw[ma B l e] at ha;exact h.sep B l kb hG e ha hs
 ·rcases A.rM ao hn B with⟨e2,_⟩|e2
  ·rw[e2] at hk;cases hk;exact hp.ok
  ·rw[e2] at hk;exact h.own B k hk
end
section
variable{P:Program}{E:av}(ok:E.Ok P)
include ok in
theorem ba0{t:xN}{re:Row}{e:xN}(h:PI E t=some (re,e)):∃ie z,P.underlying t=some (.slice e)∧P.info? e=some ie∧ie.size=re.size∧ie.bytes=re.bytes∧ie.zero=some z∧z.cells.size=re.size∧1≤re.size∧e≠jY:=by
 unfold PI at h;split at h
 ·rename_i e0 _ _ _ _ hr;split at h
  ·rename_i r dV;replace h:=aB h;rcases h with⟨hb,h⟩|⟨_,h⟩
   ·cases h;simp only [xf,dg] at hb;obtain⟨⟨⟨hz,hl⟩,h1⟩,h4⟩:=hb;obtain⟨_,ie,gB,hs,ru,eI⟩:=ok.ti e re dV;obtain⟨z,nK,D9⟩:=eI hz;have:e<jY:=xh h4;exact⟨ie,z,(ok.ti t _ hr).1,gB,hs,ru,nK,by rw[D9];exact xb hl,xh h1,Nat.ne_of_lt this⟩
   ·cases h
  ·cases h
 ·cases h
theorem Yq{w:World}{z:Nat→Option (Array xM)}(bc:vd z w){es:Nat}{tx:xN}(wm:(∃e',P.underlying tx=some (.slice e'))∨P.underlying tx=some .string)(cb:1≤es){d:D}{x':xM}{rows:List (List D)}(h:FK es d=some rows)(hx:Rd z d x'):
 ∃de,Src P es tx x' rows.length de w∧de.length=rows.length*es∧∀(i:Nat) (row:List D) (j:Nat) (d:D),rows[i]? =some row→row[j]? =some d→∃v,de[i*es+j]? =some v∧Rd z d v:=by
 unfold FK at h;split at h
 ·rename_i QL;split at h
  ·rename_i fE;cases h;rw[List.all_eq_true] at fE;have fI:∀row∈rows,row.length=es∧∀d∈row,d.cell=true:=fun row hr=>by
    have:=fE row hr;simp only [xf,beq_iff_eq,List.all_eq_true] at this;exact this
   cases hx with
   |qV=>exact⟨[],⟨wm,fun _=>rfl,run_firstCells_none w es 0 0 0,run_firstCells_none w.drew es 0 0 0,by simp,fun _ h=>by cases h⟩,by simp,fun i row j d hi=>by simp at hi⟩
   |mL a c=>exact⟨[],⟨wm,fun _=>rfl,run_firstCells_some w es 0 a 0 c [] (by simp) (fun j u hu=>by simp at hu),run_firstCells_some w.drew es 0 a 0 c [] (by simp) (fun j u hu=>by simp at hu),by simp,fun u hu=>by cases hu⟩,by simp,fun i row j d hi=>by simp at hi⟩
   |sl _ fU b o c cells hz bq di4 hc hs hh=>
    have e0:fU=es:=by
     obtain⟨r0,kp⟩:=List.exists_mem_of_ne_nil rows bq;rw[←di4 r0 kp];exact(fI r0 kp).1
    subst e0;obtain⟨e1,fz,hb⟩:=bc b cells hz
    let de:=(List.range (rows.length*fU)).map fun j=>cells.getD (o+j) undef
    have hn:∀j,j<rows.length*fU→de[j]? =some (cells.getD (o+j) undef):=fun j hj=>by
     show((List.range _).map _)[j]? =_;rw[xx,List.getElem?_range hj];rfl
    have aF:de.length=rows.length*fU:=by simp[de]
    have aR:rows.length*fU≤c*fU:=xD _ hc;have gd:∀j,j<rows.length*fU→cells[o+j]? =some (cells.getD (o+j) undef):=fun j hj=>by
     have:o+j<cells.size:=by omega
     simp[this]
    have My:∀j,j<rows.length*fU→∃row d,rows[j/fU]? =some row∧row[j%fU]? =some d∧d.cell=true:=fun j hj=>by
     have h1:j/fU<rows.length:=by rw[Nat.div_lt_iff_lt_mul (by omega)];exact hj
     have h2:j%fU<fU:=Nat.mod_lt _ (by omega);have h3:=fI _ (List.getElem_mem h1);have h4:j%fU<(rows[j/fU]).length:=by rw[h3.1];exact h2
     exact⟨rows[j/fU],(rows[j/fU])[j%fU],xc h1,xc h4,h3.2 _ (List.getElem_mem h4)⟩
    have aq:∀j u,de[j]? =some u→w.cell? ((⟨b,o,none⟩:Addr).add j)=some u:=fun j u hu=>by
     have hj:j<rows.length*fU:=by rw[←aF];exact(xe.1 hu).1
     rw[hn j hj] at hu;cases hu;rw[Addr.add_mid,cell_of_row w b _ cells e1 fz hb];exact gd j hj
    refine⟨de,⟨wm,fun _=>rfl,run_firstCells_some w fU rows.length _ rows.length c de aF aq,run_firstCells_some w.drew fU rows.length _ rows.length c de aF (by simpa using aq),aF,fun u hu=> ?_⟩,aF,fun i row j d hi hj=> ?_⟩
    ·obtain⟨j,hj,rfl⟩:=List.getElem_of_mem hu;have rn:j<rows.length*fU:=by rw[←aF];exact hj
     obtain⟨row,d,q1,q2,q3⟩:=My j rn;have:=hh (j/fU) row (j%fU) d (cells.getD (o+j) undef) q1 q2 (by
      rw[show o+(j/fU*fU+j%fU)=o+j by rw[Nat.mul_comm];rw[Nat.div_add_mod]];exact gd j rn)
     have e9:de[j]=cells.getD (o+j) undef:=by
      have:=hn j rn;rw[xc hj] at this;exact xC this
     rw[e9];exact(EY this q3).2
    ·have eY:=(xe.1 hi).1;have fG:j<fU:=by rw[←(fI row (xu hi)).1];exact(xe.1 hj).1
     have aX:i*fU+j<rows.length*fU:=by
      have:(i+1)*fU≤rows.length*fU:=xD _ eY;rw[Nat.add_mul] at this;omega
     exact⟨_,hn _ aX,hh i row j d _ hi hj (gd _ aX)⟩
  ·cases h
 ·rename_i l;split at h
  ·rename_i ba;subst ba;cases h;cases hx;refine⟨byteCells ⟨⟨l⟩⟩,?_,?_,fun i row j d hi hj=> ?_⟩
   ·rw[xm];exact⟨wm,fun _=>rfl,firstCells_string ⟨⟨l⟩⟩ w,firstCells_string ⟨⟨l⟩⟩ w.drew,by rw[byteCells_length,Nat.mul_one];rfl,fun u hu=>by
     obtain⟨_,_,rfl⟩:=xJ.1 hu;rfl⟩
   ·simp[byteCells]
   ·rw[xx] at hi;obtain⟨b,hb,rfl⟩:=xp.1 hi;have zm:j=0:=by have:=(xe.1 hj).1;simp at this;exact this
    subst zm;simp at hj;subst hj;refine⟨.int .u8 (b.toNat:Nat),?_,.int _ _⟩;unfold byteCells;simp[hb]
  ·cases h
 ·cases h
theorem zX{δ:Nat→Option D}{v:xM}{d:D}(h:bQ δ v=some d):bT δ v=some d:=by
 unfold bT;split
 ·cases h
 ·exact h
def bU7(G:Nat)(β:ah)(A:AW)(w:World)(s':xM)(es:Nat)(e:xN)(kill:Option Nat)(rows:List (List D)):Prop:=
 ∃a cap,s'= .slice a rows.length cap∧(∀row∈rows,row.length=es)∧
  ((a=none∧rows=[]∧cap=0)∨∃B l d0 aE,kill=some B∧β B=some l∧G≤B∧(∃ao,A.get B=some ao)∧a=some ⟨l.b,d0,none⟩∧w.heap[l.b]? =some (.cells aE e (0,0))∧aE.size=l.sz∧l.es=es∧l.d≤d0∧rows.length≤cap∧d0+cap*es≤l.sz∧
   ∀(i:Nat) (row:List D) (j:Nat) (d:D),rows[i]? =some row→row[j]? =some d→∃v,aE[d0+(i*es+j)]? =some v∧Rd β.z d v)
include ok in
theorem bv7{w0 w:World}{es:Nat}{e:xN}(NI:e≠jY){A A1:AW}{β:ah}{s s' c:xM}{kill:Option Nat}(h:R4 E.G.n es e A s=some (c,A1,kill))(inv:Inv w0 E.G β A w)(hs:ai β s s'):
 ∃aO rows,Inv w0 E.G aO A1 w∧β.grow aO A.next∧A1.next=A.next∧bQ aO.d c=some (.sl rows)∧bU7 E.G.n aO A1 w s' es e kill rows:=by
 unfold R4 at h;split at h
 ·cases h;cases hs;exact⟨β,[],inv,ah.ca _ _,rfl,rfl,none,0,rfl,(fun _ h=>by cases h),.inl ⟨rfl,rfl,rfl⟩⟩
 ·rename_i B c1;split at h
  ·rename_i c2 aD ex ty hg;replace h:=aB h;rcases h with⟨hb,h⟩|⟨_,h⟩<;>cases h
   simp only [xf] at hb;obtain⟨⟨h1,h2⟩,h3⟩:=hb;have e1:=xb h1;have e2:=xb h2;have e3:=xh h3;subst e1;subst e2;obtain⟨rows,hd,ho⟩:=inv.own B _ hg;refine⟨β,rows,inv,ah.ca _ _,rfl,hd,?_⟩;cases hs with
   |own _ _ CM a cap gz ha ig=>
    rcases ho with⟨kp,ho⟩|⟨l,dm8,hl,ho,q1,q2,q3⟩
    ·rw[ho] at gz;have wv:=xC gz;injection wv with r1 r2 r3;refine⟨none,0,by rw[kp,←r1,←r2,←r3];rfl,(fun row hr=>by rw[kp] at hr;cases hr),.inl ⟨rfl,kp,rfl⟩⟩
    ·rw[ho] at gz;have wv:=xC gz;injection wv with r1 r2 r3;obtain⟨aE,FL,k1,k2,k3,k4,k5,k6,k7⟩:=inv.cont B _ l hg hl;have Bd:(D.sl rows)= .sl FL:=xC (hd.symm.trans k3);cases Bd;have kH:l.es=es:=k4;refine⟨some ⟨l.b,l.d,none⟩,dm8,by rw[←r1,←r2,←r3],(fun row hr=>by rw[←kH];exact k5 row hr),.inr ⟨B,l,l.d,aE,rfl,hl,e3,⟨_,hg⟩,rfl,k1,k2,kH,xk _,q1,by rw[←kH];exact q2,fun i row j d hi hj=>by rw[←kH];exact k7 i row j d hi hj⟩⟩
  ·cases h
 ·rename_i B o n cp;split at h
  ·rename_i cs aD ex ro ty hg;split at h
   ·rename_i l hl;split at h
    ·rename_i us A2 hf;split at h
     ·rename_i u A3 eR;split at h
      ·rename_i EB nV NY HD iM;replace h:=aB h;rcases h with⟨hb,h⟩|⟨_,h⟩<;>cases h
       simp only [xf] at hb;obtain⟨⟨⟨⟨h1,h2⟩,h3⟩,h4⟩,h5⟩:=hb;have e1:=xb h1;have e2:=xb h2;have e3:=xb h3;have e4:=xh h4;subst e1;subst e2;subst e3;obtain⟨nd,r,c1,ht,jr,gA,jd,rfl,rfl⟩:=oG eR;obtain⟨aO,i1,g1,n1,el,f1⟩:=PB (w0:=w0) (w:=w) (G:=E.G) (fun v A u A' β h i=>yf ok 3 v A u A' β h i) l A us A2 β hf inv;have i2:=i1.pop (r:=r) (fun x hx=>by rw[ht];exact xo _ hx);have nT:B<A.next:=Nat.lt_of_not_le fun dX=>by rw[inv.dh B dX] at hg;cases hg
       have hq:dw aO.d nd:=ok.q _ _ (i1.fw nd (by rw[ht];exact xn));unfold dw at hq;rw[jr] at hq;obtain⟨ds,d,q1,q2,q3⟩:=hq;rw[gA] at q1;rw[jd] at q2;obtain⟨q4,q5⟩:=oJ q2;have cw:(if ds.length=n*es then(tA es n ds).map D.sl else none)=some d:=q3;split at cw
       ·rename_i ju;obtain⟨rows,vv,rfl⟩:=xp.1 cw;obtain⟨r1,r2,r3,r4⟩:=N9 vv;refine⟨aO,rows,i2,g1,n1,?_,?_⟩
        ·show(aO.d c1).bind _=_;rw[q4];rfl
        ·cases hs with
         |slice _ _ _ _ c' lB nM hn hc he=>
          have aI0:aO B=some lB:=by rw[g1.f B nT];exact nM
          obtain⟨aE,e0,fz,k1,k2,k3,k4,k5,k6,k7⟩:=i2.cont B _ lB iM aI0;have kN:fz=(0,0):=k5 rfl;subst kN;have pU:e0=HD:=k7.2 NI;subst pU;have cb:lB.es=es:=k7.1;obtain⟨l',w1,w2,w3⟩:=wV inv (show iP A B=some cs by unfold iP;rw[hg]) nM o _ l hl;have aR:β.le aO:=inv.fY g1;have mO:=f1 aO (ah.ca _ _) l' (w1.mono aR);rw[←r1] at hn⊢;refine⟨some ⟨lB.b,lB.d+o,none⟩,c',rfl,r2,.inr ⟨B,lB,lB.d+o,aE,rfl,aI0,e4,⟨_,iM⟩,rfl,k1,k2,cb,by omega,by omega,by rw[←cb];exact he,fun i row j d hi hj=> ?_⟩⟩;have hd:=r4 i row j d hi hj;have eY:i*es+j<us.length:=by rw[←kT q1];exact(xe.1 hd).1
          have nN:i*es+j<l'.length:=by rw[←mO.1];exact eY
          have gd:=w3 (i*es+j) _ (xc nN);rw[cell_of_row w lB.b _ aE e0 (0,0) k1] at gd;exact⟨_,gd,gL (β:=aO) (jZ q1 hd (xc eY)) (mO.2 _ _ _ (xc eY) (xc nN))⟩
         |empty o2 a' c'=>
          exact absurd h5 (by decide)
       ·cases cw
      ·cases h
     ·cases h
    ·cases h
   ·cases h
  ·cases h
 ·cases h
include ok in
theorem bw1{w0 w:World}{A A':AW}{β:ah}{t tx ty:xN}{s s' x x' v:xM}(h:TV E A t tx s x=some (v,A'))(inv:Inv w0 E.G β A w)(hs:ai β s s')(hx:ai β x x'):g9 w0 E.G β A ((Builtin.append_ #[t,tx] ty #[s',x']).run P w) v A'∧A.next≤A'.next:=by
 unfold TV at h;split at h;rotate_left
 ·cases h
 rename_i re e her;obtain⟨ie,z,hu,gB,hZ,ru,hz,Nv,h1,NI⟩:=ba0 ok her;replace h:=aB h;rcases h with⟨tX,h⟩|⟨_,h⟩;rotate_left
 ·cases h
 split at h;rotate_left
 ·cases h
 rename_i c A1 kill co8;split at h;rotate_left
 ·cases h
 rename_i y A2 hfy;split at h;rotate_left
 ·cases h
 rename_i u A3 eR;replace h:=aB h;rcases h with⟨dh9,h⟩|⟨_,h⟩;rotate_left
 ·cases h
 split at h;rotate_left
 ·cases h
 rename_i A4 jM;cases h;obtain⟨aO,rows,i1,g1,n1,hdc,a,cap,rfl,wu,bF2⟩:=bv7 ok NI co8 inv hs;obtain⟨cT,i2,g2,n2,f2⟩:=yf ok (w0:=w0) (w:=w) 4 x A1 y A2 aO hfy i1;obtain⟨nd,r,cu,ht,jr,gA,jd,rfl,rfl⟩:=oG eR;have i3:=i2.pop (r:=r) (fun x hx=>by rw[ht];exact xo _ hx);rw[n1] at g2 n2;have Vd:β.grow cT A.next:=ah.iB g1 g2 (xk _);have ot:ai cT y x':=f2 cT (ah.ca _ _) x' (hx.mono (inv.fY Vd));have hq:dw cT.d nd:=ok.q _ _ (i2.fw nd (by rw[ht];exact xn));unfold dw at hq;rw[jr] at hq;obtain⟨ds,d,q1,q2,q3⟩:=hq;rw[gA] at q1;rw[jd] at q2;obtain⟨q4,q5⟩:=oJ q2;obtain⟨dc,dy,rfl,e1,e2⟩:=nX q1;rw[zX (show bQ cT.d c=some (.sl rows) by rw[g2.d];exact hdc)] at e1;cases e1;have cw:Y2 re.size re.bytes (.sl rows) dy=some d:=q3;obtain⟨nr,qM,q6⟩:=xr.1 (show(FK re.size dy).bind _=some d from cw);split at q6;rotate_left
 ·cases q6
 rename_i qN;cases q6;unfold lj at qN;simp only [xf,decide_eq_true_iff] at qN;obtain⟨dH2,dl3⟩:=qN;have wm:(∃e',P.underlying tx=some (.slice e'))∨P.underlying tx=some .string:=by
  unfold JX at tX;split at tX
  ·rename_i hr;exact .inl ⟨_,(ok.ti tx _ hr).1⟩
  ·rename_i hr;exact .inr (ok.ti tx _ hr).1
  ·cases tX
 obtain⟨de,src,jV,bE4⟩:=Yq i2.bH wm h1 qM (gL e2 ot);rw[←hZ] at src;generalize NU:(match kill with|some B=>(A2.pop r).put B none|none=>A2.pop r)=Ak;have ik:Inv w0 E.G cT Ak w:=by
  rw[←NU];cases kill with
  |none=>exact i3
  |some B=>exact i3.kill B
 have DA:Ak.next=A.next:=by
  rw[←NU];cases kill with
  |none=>exact n2
  |some B=>exact n2
 have jc:(A2.pop r).next=Ak.next:=by rw[DA];exact n2
 unfold Ct at jM;rw[NU] at jM;split at jM;rotate_left
 ·cases jM
 rename_i csx esx exx tyx gk;cases jM;rw[jc] at gk⊢;have qP:∃ao,(Ak.add ⟨.cells [],re.size,false,false,e⟩).get Ak.next=some ao∧ao.still=false:=⟨_,gk,rfl⟩;have hAn:Ak.next≤((Ak.add ⟨.cells [],re.size,false,false,e⟩).put Ak.next (some ⟨.own (.chan (some (cu+1))),re.size,false,false,e⟩)).next:=Nat.le_succ _;have Lx:(rows++nr).length=rows.length+nr.length:=xa;have ap4:∀(gu:ah) (w':World) (l2:Loc) (ub:Nat),Inv w0 E.G gu (Ak.add ⟨.cells [],re.size,false,false,e⟩) w'→cT.grow gu Ak.next→gu Ak.next=some l2→gu.o Ak.next=none→l2.es=re.size→(rows++nr).length≤ub→l2.d+ub*re.size≤l2.sz→
  (∃aE,w'.heap[l2.b]? =some (.cells aE e (0,0))∧aE.size=l2.sz∧∀(i:Nat) (row:List D) (j:Nat) (d:D),(rows++nr)[i]? =some row→row[j]? =some d→∃v,aE[l2.d+(i*re.size+j)]? =some v∧Rd gu.z d v)→
  ∃A8 v',v'= .slice (some ⟨l2.b,l2.d,none⟩) (rows++nr).length ub∧ai A8 (.iface Ak.next (.chan (some (cu+1)))) v'∧Inv w0 E.G A8 ((Ak.add ⟨.cells [],re.size,false,false,e⟩).put Ak.next (some ⟨.own (.chan (some (cu+1))),re.size,false,false,e⟩)) w'∧β.grow A8 A.next:=fun gu w' l2 ub iv g hb ho cb bY aU C0=>by
  obtain⟨ao,cz,cg⟩:=qP;have hd3:gu.d=cT.d:=g.d;have df0:∀row∈rows++nr,row.length=re.size:=fun row hr=>by
   rcases xF.1 hr with hr|hr
   ·exact wu row hr
   ·unfold FK at qM;split at qM
    ·split at qM
     ·rename_i fE;cases qM;rw[List.all_eq_true] at fE;have:=fE row hr;simp only [xf,beq_iff_eq] at this;exact this.1
     ·cases qM
    ·split at qM
     ·rename_i h1e;cases qM;obtain⟨b,_,rfl⟩:=xJ.1 hr;rw[h1e];rfl
     ·cases qM
    ·cases qM
  have jl:∀(B:Nat) (v:xM),bQ (gu.pD B v).d (.chan (some (cu+1)))=some (.sl (rows++nr)):=fun B v=>by
   show((gu.pD B v).d cu).bind _=_;have:(gu.pD B v).d=cT.d:=hd3;rw[this,q4];rfl
  obtain⟨aE,c1,c2,c3⟩:=C0;have wz:=iv.relabel (B:=Ak.next) (blk':=⟨.own (.chan (some (cu+1))),re.size,false,false,e⟩) (v:= .slice (some ⟨l2.b,l2.d,none⟩) (rows++nr).length ub) cz (Nat.lt_succ_self _) ho cg (fun l hl=>by
   rw[hb] at hl;cases hl;refine⟨aE,rows++nr,c1,c2,jl _ _,cb,(fun row hr=>by rw[cb];exact df0 row hr),?_,fun i row j d hi hj=>by rw[cb];exact c3 i row j d hi hj⟩;rw[cb];have:(rows++nr).length*re.size≤ub*re.size:=xD _ bY;omega) ⟨rows++nr,jl _ _,.inr ⟨l2,ub,hb,by show(if Ak.next=Ak.next then _ else _)=_;rw[if_pos rfl],bY,by rw[cb];exact aU,cb⟩⟩
  refine⟨_,_,rfl,?_,wz,?_⟩
  ·exact .own Ak.next cu (rows++nr) _ ub (by show(if Ak.next=Ak.next then _ else _)=_;rw[if_pos rfl]) (.inr ⟨l2,hb,rfl⟩) (by show gu.d cu=_;rw[hd3];exact q4)
  ·rw[←DA];exact ah.iB (ah.iB (by rw[DA];exact Vd) g (xk _)) (ah.IK gu Ak.next _) (xk _)
 refine⟨?_,by rw[←DA];exact hAn⟩;have Bk:∀gu:ah,cT.o=gu.o→gu.o Ak.next=none:=fun gu e=>by
  rw[←e];cases hq:cT.o Ak.next with
  |none=>rfl
  |some v=>have:=ik.jj _ _ hq;omega
 have YU:∀(gu:ah) (aE:Array xM) (d0:Nat),(∀b c,cT.z b=some c→gu.z b=some c)→(∀(i:Nat) (row:List D) (j:Nat) (d:D),rows[i]? =some row→row[j]? =some d→∃v,aE[d0+(i*re.size+j)]? =some v∧Rd gu.z d v)→(∀j v,de[j]? =some v→aE[d0+rows.length*re.size+j]? =some v)→
  ∀(i:Nat) (row:List D) (j:Nat) (d:D),(rows++nr)[i]? =some row→row[j]? =some d→∃v,aE[d0+(i*re.size+j)]? =some v∧Rd gu.z d v:=fun gu aE d0 hz ho hn i row j d hi hj=>by
  by_cases aX:i<rows.length
  ·rw[xw aX] at hi;exact ho i row j d hi hj
  ·rw[xq (by omega)] at hi;obtain⟨v,v1,v2⟩:=bE4 _ row j d hi hj;refine⟨v,?_,v2.mono hz⟩;have:=hn _ v v1;rw[show d0+rows.length*re.size+((i - rows.length)*re.size+j)=d0+(i*re.size+j) by
    have e7:rows.length*re.size+(i - rows.length)*re.size=i*re.size:=by rw[←Nat.add_mul];congr 1;omega
    omega] at this
   exact this
 have f1':((rows.length+nr.length:Nat):Int)≤9223372036854775807:=by omega
 have GM:∀(mG:Option Addr) (ei:List xM),(Builtin.firstCells ie.size rows.length (.slice mG rows.length cap)).run P w.drew= .ok ei.toArray w.drew→ei.length=rows.length*re.size→cap<rows.length+nr.length→(∀(i:Nat) (row:List D) (j:Nat) (d:D),rows[i]? =some row→row[j]? =some d→∃v,ei[i*re.size+j]? =some v∧Rd cT.z d v)→
  g9 w0 E.G β A ((Builtin.append_ #[t,tx] ty #[.slice mG rows.length cap,x']).run P w) (.iface Ak.next (.chan (some (cu+1)))) ((Ak.add ⟨.cells [],re.size,false,false,e⟩).put Ak.next (some ⟨.own (.chan (some (cu+1))),re.size,false,false,e⟩)):=fun mG ei oe o8 aX uu=>by
  have aM:=run_append_grow_src (P:=P) w t tx ty e ie z hu gB hz mG rows.length cap ei oe x' nr.length de src aX f1' (growslice_fits aX (by rw[ru];exact dl3));have dX:=grownCap_ge w (rows.length+nr.length) cap e;obtain⟨Ew,Im⟩:=IU (E:=E) ik [] [] ((ei++de).toArray++Builtin.zeroCells z.cells (grownCap w (rows.length+nr.length) cap e - (rows.length+nr.length))).toList e re.size ((ei++de).toArray++Builtin.zeroCells z.cells (grownCap w (rows.length+nr.length) cap e - (rows.length+nr.length))) (by simp) (fun ak hb=>aT.nil ak);have aU:((ei++de).toArray++Builtin.zeroCells z.cells (grownCap w (rows.length+nr.length) cap e - (rows.length+nr.length))).size=grownCap w (rows.length+nr.length) cap e*re.size:=by
   simp only [Array.size_append,List.size_toArray,xa,Iw,Nv,jV,o8,←Nat.add_mul]
   congr 1
   omega
  obtain⟨A8,v',mg,uH,Ez,Vg⟩:=ap4 _ _ ⟨w.heap.size,0,re.size,((ei++de).toArray++Builtin.zeroCells z.cells (grownCap w (rows.length+nr.length) cap e - (rows.length+nr.length))).size⟩ (grownCap w (rows.length+nr.length) cap e) Ew Im (jy _ _ _) (Bk _ rfl) rfl (by rw[Lx];exact dX) (by show 0+grownCap w (rows.length+nr.length) cap e*re.size≤Array.size _;rw[aU,Nat.zero_add];exact xk _) ⟨_,heap_alloc_new w.drew _,rfl,YU _ _ 0 (fun _ _ h=>h) (fun i row j d hi hj=>by
   obtain⟨v,v1,v2⟩:=uu i row j d hi hj;refine⟨v,?_,v2⟩;rw[Nat.zero_add,Array.getElem?_append_left (by have:=(xe.1 v1).1;simp;omega)];have:=(xe.1 v1).1;simp[xw this,v1]) (fun j v hj=>by
   have kM:=(xe.1 hj).1;rw[Nat.zero_add,Array.getElem?_append_left (by simp;omega)];rw[←o8];simp[xq,hj])⟩
  refine⟨A8,v',_,?_,uH,Ez,Vg⟩;rw[mg,Lx];exact aM
 rcases bF2 with⟨rfl,rfl,rfl⟩|⟨B,l,d0,aE,cn9,hl,uE,⟨dH3,aj5⟩,rfl,hh,bZ,dF7,wD,pL,qN,C0⟩
 ·by_cases mQ:nr.length=0
  ·have yS:nr=[]:=xE.1 mQ;rw[yS] at src;have aM:=EG (P:=P) (ty:=ty) hu gB src none 0 0 (xk _);have hr:=ik.Xy ⟨.cells [],re.size,false,false,e⟩;obtain⟨ao,cz,cg⟩:=qP;have Bq:cT Ak.next=none:=by
    cases hc:cT Ak.next with
    |none=>rfl
    |some l=>exact absurd (ik.gU _ l hc) (Nat.lt_irrefl _)
   have wz:=hr.relabel (B:=Ak.next) (blk':=⟨.own (.chan (some (cu+1))),re.size,false,false,e⟩) (v:= .slice none 0 0) cz (Nat.lt_succ_self _) (Bk _ rfl) cg (fun l hl=>by rw[Bq] at hl;cases hl)
    ⟨([]++nr),(by show((cT.pD Ak.next (.slice none 0 0)).d cu).bind _=_;have:(cT.pD Ak.next (.slice none 0 0)).d=cT.d:=rfl;rw[this,q4];rfl),.inl ⟨yS,by show(if Ak.next=Ak.next then _ else _)=_;rw[if_pos rfl]⟩⟩
   refine⟨_,_,_,aM,?_,wz,by rw[←DA];exact ah.iB (by rw[DA];exact Vd) (ah.IK cT Ak.next _) (xk _)⟩;have:=ai.own (β:=cT.pD Ak.next (.slice none 0 0)) Ak.next cu ([]++nr) none 0 (by show(if Ak.next=Ak.next then _ else _)=_;rw[if_pos rfl,yS];rfl) (.inl ⟨rfl,yS⟩) q4;rw[yS] at this;exact this
  ·exact GM none [] (run_firstCells_none w.drew ie.size 0 0 0) (by simp) (by simp;omega) (fun i row j d hi=>by simp at hi)
 ·subst cn9;have nT:B<A.next:=by rw[←n1];exact Nat.lt_of_not_le fun dX=>by rw[i1.dh B dX] at aj5;cases aj5
  have bF:cT B=some l:=by rw[g2.f B nT];exact hl
  have dk3:Ak=(A2.pop r).put B none:=NU.symm;obtain⟨dn0,uy,de8⟩:∃ao,(A2.pop r).get B=some ao∧ao.still=false:=by
   have js:(match(A2.pop r).get B with|some ⟨_,_,_,false,_⟩=>true|_=>false)=true:=dh9;split at js
   ·rename_i o1 o2 o3 o5 hq;refine⟨_,hq,?_⟩;unfold ap.still;cases o1<;>rfl
   ·cases js
  have hzB:cT.z l.b=none:=i3.sep B l dn0 uE bF uy de8;obtain⟨cn8,cn7⟩:=i3.loc B l bF;have gG:∀C lc,cT C=some lc→lc.b=l.b→Ak.get C=none:=fun C lc hC eE=>by
   rw[dk3];rcases(A2.pop r).iO B none C with⟨e1,_⟩|⟨e1,_⟩|⟨e1,bq⟩
   ·exact e1
   ·exact e1
   ·rw[e1];cases UX:(A2.pop r).get C with
    |none=>rfl
    |some kk=>exact absurd (i3.inj C B lc l hC bF eE (by rw[UX];rfl) (by rw[uy];rfl)) bq
  have YT:∀(i:Nat) (row:List D) (j:Nat) (d:D),rows[i]? =some row→row[j]? =some d→∃v,aE[d0+(i*re.size+j)]? =some v∧Rd cT.z d v:=fun i row j d hi hj=>(C0 i row j d hi hj).imp fun v ⟨a,b⟩=>⟨a,b.mono g2.z⟩
  have X0:∀(w':World) (ua:Array xM),w.grownBy w' (some l.b)→w'.heap.size=w.heap.size→w'.heap[l.b]? =some (.cells ua e (0,0))→ua.size=aE.size→(∀j,j<rows.length*re.size→ua[d0+j]? =aE[d0+j]?)→(∀j v,de[j]? =some v→ua[d0+rows.length*re.size+j]? =some v)→rows.length+nr.length≤cap→
   (Builtin.append_ #[t,tx] ty #[.slice (some ⟨l.b,d0,none⟩) rows.length cap,x']).run P w= .ok (.slice (some ⟨l.b,d0,none⟩) (rows.length+nr.length) cap) w'→
   g9 w0 E.G β A ((Builtin.append_ #[t,tx] ty #[.slice (some ⟨l.b,d0,none⟩) rows.length cap,x']).run P w) (.iface Ak.next (.chan (some (cu+1)))) ((Ak.add ⟨.cells [],re.size,false,false,e⟩).put Ak.next (some ⟨.own (.chan (some (cu+1))),re.size,false,false,e⟩)):=fun w' ua hw aU hh2 Dz ho hn nu aM=>by
   obtain⟨Ew,Im⟩:=Inv.ao8 (E:=E) ik (w':=w') ⟨l.b,d0,re.size,l.sz⟩ ⟨.cells [],re.size,false,false,e⟩ cn8 (cn7.resolve_left (by omega)) hzB gG hw aU (by
    rw[hh2];exact⟨ua,e,(0,0),rfl,Dz.trans bZ,by
     show d0+0≤l.sz;omega,(fun i v hv=>by simp at hv),fun _=>rfl,(fun h=>by cases h),rfl,fun _=>rfl⟩)
   obtain⟨A8,v',mg,uH,Ez,Vg⟩:=ap4 _ _ ⟨l.b,d0,re.size,l.sz⟩ cap Ew Im (jy _ _ _) (Bk _ rfl) rfl (by rw[Lx];exact nu) qN ⟨ua,hh2,Dz.trans bZ,YU _ ua d0 (fun _ _ h=>h) (fun i row j d hi hj=>by
    obtain⟨v,v1,v2⟩:=YT i row j d hi hj;refine⟨v,?_,v2⟩;rw[ho (i*re.size+j) ?_]
    ·exact v1
    ·have eY:=(xe.1 hi).1;have fG:j<re.size:=by rw[←wu row (xu hi)];exact(xe.1 hj).1
     have:(i+1)*re.size≤rows.length*re.size:=xD _ eY;rw[Nat.add_mul] at this;omega) hn⟩
   refine⟨A8,v',w',?_,uH,Ez,Vg⟩;rw[mg,Lx];exact aM
  have dD4:rows.length*re.size≤cap*re.size:=xD _ pL;by_cases mQ:nr.length=0
  ·have yS:nr=[]:=xE.1 mQ;have bE5:de=[]:=xE.1 (by rw[jV,mQ,Nat.zero_mul]);have cQ6:Src P ie.size tx x' 0 de w:=by rw[mQ] at src;exact src
   have aM:=EG (P:=P) (ty:=ty) hu gB cQ6 (some ⟨l.b,d0,none⟩) rows.length cap pL;refine X0 w aE ⟨rfl,rfl,rfl,xk _,fun _ _ _=>rfl⟩ rfl hh rfl (fun _ _=>rfl) (fun j v hj=>by rw[bE5] at hj;simp at hj) (by omega) ?_;rw[mQ];exact aM
  ·by_cases nu:rows.length+nr.length≤cap
   ·have Dx:(rows.length+nr.length)*re.size≤cap*re.size:=xD _ nu;rw[Nat.add_mul] at Dx;have gd:∀j,j<de.length→(w.cell? ⟨l.b,d0+rows.length*ie.size+j,none⟩).isSome=true:=fun j hj=>by
     rw[cell_of_row w l.b _ aE e (0,0) hh];have:d0+rows.length*ie.size+j<aE.size:=by rw[hZ];omega
     simp[this]
    have kN:∀j,j<de.length→w.frozen? ⟨l.b,d0+rows.length*ie.size+j,none⟩=false:=fun j _=>by simp[World.frozen?,hh]
    have aM:=run_append_room_src (P:=P) w t tx ty e ie hu gB l.b d0 rows.length cap x' nr.length de src nu gd kN;have qJ:=run_storeCells_cells (P:=P) l.b (d0+rows.length*ie.size) de 0 w (by simpa using gd) (by simpa using kN) src.one;rw[Nat.add_zero] at qJ;have bc:=run_storeCells_at (P:=P) l.b (d0+rows.length*ie.size) e de 0 aE w hh (by rw[hZ];omega) src.one;rw[Nat.add_zero,qJ] at bc;have Tm:=(Result.ok.inj bc).2;rw[Tm] at aM;have C2:d0+rows.length*ie.size+de.length≤aE.size:=by rw[hZ];omega
    refine X0 _ _ (Ix w l.b _) (by simp) (setRow_heap w l.b aE _ e (0,0) hh) (Iz _ _ _ C2) (fun j hj=> ?_) (fun j v hj=> ?_) nu aM
    ·rw[zL _ _ _ C2,if_neg (by rw[hZ];omega)]
    ·have kM:=(xe.1 hj).1;rw[zL _ _ _ C2,if_pos (by rw[hZ];omega),show d0+rows.length*re.size+j - (d0+rows.length*ie.size)=j by rw[hZ];omega];exact hj
   ·let ei:=(List.range (rows.length*re.size)).map fun j=>aE.getD (d0+j) undef
    have o8:ei.length=rows.length*re.size:=by simp[ei]
    have hog:∀j,j<rows.length*re.size→ei[j]? =some (aE.getD (d0+j) undef):=fun j hj=>by
     show((List.range _).map _)[j]? =_;rw[xx,List.getElem?_range hj];rfl
    have hcg:∀j,j<rows.length*re.size→aE[d0+j]? =some (aE.getD (d0+j) undef):=fun j hj=>by
     have:d0+j<aE.size:=by omega
     simp[this]
    refine GM (some ⟨l.b,d0,none⟩) ei (run_firstCells_some w.drew ie.size rows.length _ rows.length cap ei (by rw[hZ];exact o8) (fun j u hu=> ?_)) o8 (by omega) (fun i row j d hi hj=> ?_)
    ·have hj:j<rows.length*re.size:=by rw[←o8];exact(xe.1 hu).1
     rw[hog j hj] at hu;cases hu;rw[Addr.add_mid,World.cell?_drew,cell_of_row w l.b _ aE e (0,0) hh];exact hcg j hj
    ·obtain⟨v,v1,v2⟩:=YT i row j d hi hj;have eY:=(xe.1 hi).1;have fG:j<re.size:=by rw[←wu row (xu hi)];exact(xe.1 hj).1
     have aX:i*re.size+j<rows.length*re.size:=by
      have:(i+1)*re.size≤rows.length*re.size:=xD _ eY;rw[Nat.add_mul] at this;omega
     refine⟨_,hog _ aX,?_⟩;rw[hcg _ aX] at v1;cases v1;exact v2
end
def rQ(v:xM):List xM:=match v with| .agg ⟨l⟩=>l|v=>[v]
def PZ(E:av)(A:AW)(t:xN)(a x:xM):Option AW:=
 match a,E.ti.get none t with
 | .iface B (.agg ⟨[iv,.int .i64 (.ofNat es),.int .i64 (.ofNat off)]⟩),some r=>match nD E.G.n 4 x A with
  |some (u,A1)=>match A1.get B with
   |some ⟨.own c,aD,ex,false,ty⟩=>bs (Nat.beq es aD&&Nat.ble E.G.n B&&Nat.beq (bE (rQ u)) r.size&&eo one (rQ u)) (match ny A1 (.fO off) (c::iv::rQ u) with
    |some (y,A2)=>some (A2.put B (some ⟨.own y,aD,ex,false,ty⟩))
    |none=>none) none
   |_=>none
  |none=>none
 |_,_=>none
def Ur(E:av)(A:AW)(t:xN)(l c:xM):Option (xM×AW):=
 match E.ti.get none t with
 |some ⟨.slice e,_,_,_,_⟩=>match E.ti.get none e with
  |some re=>bs (re.qS&&Nat.beq (bE re.zero) re.size&&Nat.ble 1 re.size&&Nat.blt e jY&& (iH l||iH c)) (match ny A (.j6 re.size re.bytes) (l::c::ez pE re.zero) with
   |some (u,A1)=>(match Ct A1 none u re.size e with|some A2=>some (.iface A1.next u,A2)|none=>none)
   |none=>none) none
  |none=>none
 |_=>none
def P2(E:av)(A:AW)(t:xN)(x lo:xM)(hi:List xM):Option (xM×AW):=
 match E.ti.get none t with
 |some ⟨.slice e,_,_,_,_⟩=>match jE E e with
  |some n=>match nD E.G.n 4 x A with
   |some (u,A1)=>ny A1 (.gw n) (u::lo::hi)
   |none=>none
  |none=>none
 |_=>none
section
variable{P:Program}{E:av}(ok:E.Ok P)
include ok in
theorem run_make{t e:xN}{re:Row}{a1 a2 a3 a4}(hr:E.ti.get none t=some ⟨.slice e,a1,a2,a3,a4⟩)(dV:E.ti.get none e=some re)(vP:re.qS=true)(nC:re.zero.length=re.size){ln cn:Nat}(aH9:ln≤cn)(co7:cn≤9223372036854775807)(TC:cn*re.bytes≤140737488355328)(w:World):
 ∃C:List xM,C.length=cn*re.size∧(∀i,i<cn*re.size→C[i]? =re.zero[i%re.size]?)∧(Instr.makeSlice t (.int .i64 (ln:Nat)) (.int .i64 (cn:Nat))).run P w= .ok (.slice (some ⟨w.heap.size,0,none⟩) ln cn) (w.alloc (.cells ⟨C⟩ e)):=by
  have hu:=(ok.ti t _ hr).1;obtain⟨_,ie,gB,hZ,zq,hz⟩:=ok.ti e re dV;obtain⟨z,iu,eI⟩:=hz vP;obtain⟨C,hC⟩:∃C:List xM,((Array.range (cn*re.size)).map (fun x=>(if cn*re.size=0 then #[] else(⟨re.zero⟩:Array xM))[x% (if cn*re.size=0 then #[] else(⟨re.zero⟩:Array xM)).size]!))=⟨C⟩:=⟨_,rfl⟩;have Bv:C.length=cn*re.size:=by have:=congrArg Array.size hC;simpa using this.symm
  refine⟨C,Bv,fun i hi=> ?_,?_⟩
  ·have h0: ¬cn*re.size=0:=by omega
   have aU:0<re.size:=by
    rcases xI re.size with e|e
    ·rw[e] at hi;omega
    ·exact e
   have hm:i%re.size<re.zero.length:=by rw[nC];exact Nat.mod_lt _ aU
   have h2:=congrArg (fun a:Array xM=>a[i]?) hC;simp only [if_neg h0] at h2;rw[Array.getElem?_map,Array.getElem?_range] at h2;rw[if_pos hi] at h2;simp only [Option.map_some,List.size_toArray,nC] at h2;rw[show C[i]? =(⟨C⟩:Array xM)[i]? by simp,←h2];simp[hm]
  have w1:IntKind.i64.wrap (ln:Int)=(ln:Int):=IntWalk.i64_in _ (by omega);have w2:IntKind.i64.wrap (cn:Int)=(cn:Int):=IntWalk.i64_in _ (by omega);have cg: ¬((281474976710656:Int)<(re.bytes:Int)*(cn:Int)):=by
   have h5:((cn*re.bytes:Nat):Int)≤140737488355328:=by omega
   rw[Int.natCast_mul,Int.mul_comm] at h5;omega
  have nu: ¬roomBytes<cn*re.bytes:=by rw[show roomBytes=140737488355328 from rfl];omega
  have vQ: ¬((cn:Int)<0):=by omega
  have GI: ¬((ln:Int)<0):=by omega
  have su: ¬((cn:Int)<(ln:Int)):=by omega
  by_cases h0:cn*re.size=0
  ·rw[if_pos h0] at hC;simp[Instr.makeSlice,run_underlying hu,asInt,asIntOf,typeInfo,gB,zq,w1,w2,cg,vQ,GI,su,askRoom,nu,dD ok dV,h0,newRow];simp[h0] at hC;rw[hC]
  ·rw[if_neg h0] at hC;simp[Instr.makeSlice,run_underlying hu,asInt,asIntOf,typeInfo,gB,zq,w1,w2,cg,vQ,GI,su,askRoom,nu,dD ok dV,h0,newRow,zeroValue,iu,eI];simp at hC;rw[hC]
theorem ba5{β:ah}{u v':xM}{n:Nat}(h1:eo one (rQ u)=true)(hv:ai β u v')(bq:∀d,u= .agg d→True:=fun _ _=>trivial)(hd:(bT β.d u).isSome=true):∃l',v'.cells=⟨l'⟩∧aT β (rQ u) l':=by
 unfold rQ at h1⊢;split at h1
 ·cases hv with
  |agg _ p' hp h2=>exact⟨p',rfl,hp,h2⟩
 ·rename_i gA;have mf:one u=true:=mq one _ h1 u xn;have cx:=XM mf hv;refine⟨[v'],?_,aT.cons hv (aT.nil β)⟩;obtain⟨d,hd⟩:=Option.isSome_iff_exists.1 hd;have eC:=gL hd hv;have hc:d.cell=true:=by
   unfold bT at hd;split at hd
   ·exact absurd rfl (gA _)
   ·exact(E9 hd hv).2
  exact(EY eC hc).1
theorem Yd{δ:Nat→Option D}:∀(l0:List xM) (ds:List D),eo one l0=true→aW (bT δ) l0=some ds→aW (bQ δ) l0=some ds
 |[],ds,_,h=>h
 |v::l0,ds,ho,h=>by
  obtain⟨d1,d2,rfl,e1,e2⟩:=kw h;have jb:bs (one v) (eo one l0) false=true:=ho;rcases aB jb with⟨h1,h2⟩|⟨_,h2⟩
  ·unfold aW;rw[Yd l0 d2 h2 e2];have:bQ δ v=some d1:=by
    unfold bT at e1;split at e1
    ·cases h1
    ·exact e1
   rw[this]
  ·cases h2
theorem ba6{δ:Nat→Option D}{u:xM}{ds:List D}(h1:eo one (rQ u)=true)(h:aW (bT δ) (rQ u)=some ds):(bT δ u).isSome=true:=by
 unfold rQ at h h1;split at h
 ·rename_i l0;have e:=Yd l0 _ h1 h;show(Option.map D.agg (aW (bQ δ) l0)).isSome=true;rw[e];rfl
 ·obtain⟨d1,rfl,e4⟩:=mU h;rw[e4];rfl
include ok in
theorem bb3{w0 w:World}{A A':AW}{β:ah}{t:xN}{a a' x x':xM}(h:PZ E A t a x=some A')(inv:Inv w0 E.G β A w)(ha:ai β a a')(hx:ai β x x'):∃ak w',(Instr.storeAt t a' x').run P w= .ok () w'∧Inv w0 E.G ak A' w'∧β.grow ak A.next∧A.next≤A'.next:=by
 unfold PZ at h;split at h;rotate_left
 ·cases h
 rename_i B iv es off r hr;split at h;rotate_left
 ·cases h
 rename_i u A1 hf;split at h;rotate_left
 ·cases h
 rename_i c aD ex ty hg;replace h:=aB h;rcases h with⟨hb,h⟩|⟨_,h⟩;rotate_left
 ·cases h
 split at h;rotate_left
 ·cases h
 rename_i y A2 eR;cases h;simp only [xf,dg] at hb;obtain⟨⟨⟨cb,hG⟩,aU⟩,qL⟩:=hb;have qO:=xb cb;subst qO;have uE:=xh hG;have Hg:=xb aU;obtain⟨aO,i1,g1,n1,f1⟩:=yf ok (w0:=w0) (w:=w) 4 x A u A1 β hf inv;obtain⟨nd,rt,cy,ht,jr,gA,jd,rfl,rfl⟩:=oG eR;have i2:=i1.pop (r:=rt) (fun x hx=>by rw[ht];exact xo _ hx);have hu:ai aO u x':=f1 aO (ah.ca _ _) x' (hx.mono (inv.fY g1));have hq:dw aO.d nd:=ok.q _ _ (i1.fw nd (by rw[ht];exact xn));unfold dw at hq;rw[jr] at hq;obtain⟨ds,d,q1,q2,q3⟩:=hq;rw[gA] at q1;rw[jd] at q2;obtain⟨q4,q5⟩:=oJ q2;obtain⟨dc,ds1,rfl,e1,q1⟩:=kw q1;obtain⟨di,mh,rfl,e2,e3⟩:=kw q1;have iM:(A1.pop rt).get B=some ⟨.own c,es,ex,false,ty⟩:=hg;obtain⟨rows,hd,ho⟩:=i2.own B _ iM;rw[zX hd] at e1;cases e1;have cw:W6 off (.sl rows) di mh=some d:=q3;have mc:ai aO (.iface B (.agg ⟨[iv,.int .i64 (.ofNat es),.int .i64 (.ofNat off)]⟩)) a':=ha.mono (inv.fY g1);cases mc with
 |pG _ _ _ m l _ k hl hi=>
  rw[zX hi] at e2;cases e2;obtain⟨row,fI,q6⟩:=xr.1 (show(rows[m]?).bind _=some d from cw);split at q6;rotate_left
  ·cases q6
  rename_i qN;cases q6;obtain⟨aE,FL,k1,k2,k3,k4,k5,k6,k7⟩:=i2.cont B _ l iM hl;have Bd:(D.sl rows)= .sl FL:=xC (hd.symm.trans k3);cases Bd;have kH:l.es=es:=k4;have wu:row.length=es:=by rw[←kH];exact k5 row (xu fI)
  have Mv:=(xe.1 fI).1;have dj0:mh.length=(rQ u).length:=kT e3;have cm5:=ba6 qL e3;obtain⟨l',dW,gR⟩:=ba5 (n:=0) qL hu (fun _ _=>trivial) cm5;have kL:l'.length=r.size:=by rw[←gR.1,Hg]
  have Dx:(m+1)*es≤rows.length*es:=xD _ Mv;rw[Nat.add_mul] at Dx;rw[kH] at k6;have aj3:l.d+(m*es+off)+l'.length≤aE.size:=by rw[k2];omega
  have cn1:=Jw qL gR;have bc:=run_storeCells_at (P:=P) l.b (l.d+(m*es+off)) ty l' 0 aE w k1 (by omega) cn1;rw[Nat.add_zero] at bc;have aM:(Instr.storeAt t (.pointer (some ⟨l.b,l.d+(m*es+off),none⟩)) x').run P w= .ok () (w.setRow l.b (aE.toList.take (l.d+(m*es+off))++l'++aE.toList.drop (l.d+(m*es+off)+l'.length)).toArray):=by
   simp[Instr.storeAt,Instr.sureAddr,storeVar,dD ok hr,dW,kL,bc]
  have pK:∀(i:Nat) (y5:List D) (j:Nat) (d:D),(rows.set m (row.take off++mh++row.drop (off+mh.length)))[i]? =some y5→y5[j]? =some d→j<es∧((i=m∧off≤j∧j<off+mh.length∧mh[j - off]? =some d)∨(rows[i]? =some y5∧i≠m)∨(i=m∧(j<off∨off+mh.length≤j)∧row[j]? =some d)):=fun i y5 j d hi hj=>by
   by_cases UW:m=i
   ·subst UW;rw[List.getElem?_set_self Mv] at hi
    ·cases hi;have kM:=(xe.1 hj).1;simp only [xa,xz,List.length_drop] at kM;have di0:j<es:=by omega
     refine⟨di0,?_⟩;by_cases h1:j<off
     ·rw[List.append_assoc,xw (by simp;omega),List.getElem?_take,if_pos h1] at hj;exact .inr (.inr ⟨rfl,.inl h1,hj⟩)
     ·by_cases h2:j<off+mh.length
      ·rw[List.append_assoc,xq (by simp;omega),xw (by simp;omega)] at hj;rw[xz,Nat.min_eq_left (by omega)] at hj;exact .inl ⟨rfl,by omega,h2,hj⟩
      ·rw[xq (by simp;omega)] at hj;rw[xa,xz,Nat.min_eq_left (by omega),List.getElem?_drop] at hj;rw[show off+mh.length+(j - (off+mh.length))=j by omega] at hj;exact .inr (.inr ⟨rfl,.inr (by omega),hj⟩)
   ·rw[List.getElem?_set_ne UW] at hi;refine⟨?_,.inr (.inl ⟨hi,Ne.symm UW⟩)⟩;rw[←kH,←k5 y5 (xu hi)];exact(xe.1 hj).1
  have aH4:∀G6∈rows.set m (row.take off++mh++row.drop (off+mh.length)),G6.length=es:=fun G6 ej=>by
   rcases List.mem_or_eq_of_mem_set ej with h9|h9
   ·rw[←kH];exact k5 G6 h9
   ·rw[h9];simp only [xa,xz,List.length_drop];omega
  have jl:bQ aO.d (.chan (some (cy+1)))=some (.sl (rows.set m (row.take off++mh++row.drop (off+mh.length)))):=by
   show(aO.d cy).bind _=_;rw[q4];rfl
  have ju:mh.length=l'.length:=by rw[dj0,gR.1]
  have hw:=i2.write (w':=w.setRow l.b (aE.toList.take (l.d+(m*es+off))++l'++aE.toList.drop (l.d+(m*es+off)+l'.length)).toArray) B l _ ⟨.own (.chan (some (cy+1))),es,ex,false,ty⟩ iM hl uE (Ix w l.b _) (by simp) (by
   rw[setRow_heap w l.b aE _ ty (0,0) k1];refine⟨_,_,rfl,by rw[Iz _ _ _ aj3];exact k2,jl,kH,(fun G6 ej=>by rw[kH];exact aH4 G6 ej),by rw[kH,xt];exact k6,fun i y5 j d hi hj=> ?_⟩;rw[kH];rw[zL _ _ _ aj3];obtain⟨hje,hc⟩:=pK i y5 j d hi hj;rcases hc with⟨rfl,h1,h2,h3⟩|⟨h1,h2⟩|⟨rfl,h1,h2⟩
   ·rw[if_pos (by omega),show l.d+(i*es+j) - (l.d+(i*es+off))=j - off by omega];have uw:j - off<l'.length:=by omega
    refine⟨l'[j - off],xc uw,?_⟩;have H7:j - off<(rQ u).length:=by omega
    exact gL (jZ e3 h3 (xc H7)) (gR.2 _ _ _ (xc H7) (xc uw))
   ·have: ¬(l.d+(m*es+off)≤l.d+(i*es+j)∧l.d+(i*es+j)<l.d+(m*es+off)+l'.length):=by
     rcases Nat.lt_or_gt_of_ne h2 with h9|h9
     ·have:(i+1)*es≤m*es:=xD _ h9;rw[Nat.add_mul] at this;omega
     ·have:(m+1)*es≤i*es:=xD _ h9;rw[Nat.add_mul] at this;omega
    rw[if_neg this];have:=k7 i y5 j d h1 hj;rw[kH] at this;exact this
   ·rw[if_neg (by omega)];have:=k7 i row j d fI h2;rw[kH] at this;exact this) (by
   refine⟨_,jl,?_⟩;rcases ho with⟨kp,_⟩|⟨l2,cap,p1,p2,p3,p4,p5⟩
   ·rw[kp] at Mv;simp at Mv
   ·rw[hl] at p1;cases p1;exact .inr ⟨l,cap,hl,by rw[xt];exact p2,by rw[xt];exact p3,p4,p5⟩)
  exact⟨aO,_,aM,hw,g1,by show A.next≤A1.next;rw[n1];exact xk _⟩
include ok in
theorem bj5{w0 w:World}{A A':AW}{β:ah}{t:xN}{l l' c c' v:xM}(h:Ur E A t l c=some (v,A'))(inv:Inv w0 E.G β A w)(hl:ai β l l')(hc:ai β c c'):g9 w0 E.G β A ((Instr.makeSlice t l' c').run P w) v A'∧A.next≤A'.next:=by
 unfold Ur at h;split at h;rotate_left
 ·cases h
 rename_i e _ _ _ _ hr;split at h;rotate_left
 ·cases h
 rename_i re dV;replace h:=aB h;rcases h with⟨hb,h⟩|⟨_,h⟩;rotate_left
 ·cases h
 split at h;rotate_left
 ·cases h
 rename_i u A1 eR;split at h;rotate_left
 ·cases h
 rename_i A2 jM;cases h;simp only [xf,dg] at hb;obtain⟨⟨⟨⟨vP,sJ⟩,h1⟩,NI⟩,_⟩:=hb;have nC:=xb sJ;have mf:=xh h1;obtain⟨nd,rt,cu,ht,jr,gA,jd,rfl,rfl⟩:=oG eR;have i2:=inv.pop (r:=rt) (fun x hx=>by rw[ht];exact xo _ hx);have hq:dw β.d nd:=ok.q _ _ (inv.fw nd (by rw[ht];exact xn));unfold dw at hq;rw[jr] at hq;obtain⟨ds,d,q1,q2,q3⟩:=hq;rw[gA] at q1;rw[jd] at q2;obtain⟨q4,q5⟩:=oJ q2;obtain⟨dl,ds1,rfl,e1,q7⟩:=kw q1;obtain⟨dc,zs,rfl,e2,e3⟩:=kw q7;clear q1 q7;have cw:GU re.size re.bytes dl dc zs=some d:=q3;unfold GU at cw;split at cw;rotate_left
 ·cases cw
 rename_i ln cn;split at cw;rotate_left
 ·cases cw
 rename_i GL;obtain⟨iu,eI,nK⟩:=GL;cases cw;have bF:=gL e1 hl;have bY:=gL e2 hc;cases bF;cases bY;unfold lj at nK;simp only [xf,decide_eq_true_iff] at nK;obtain⟨C,hC1,hC2,aM⟩:=run_make (P:=P) ok hr dV vP nC (ln:=ln) (cn:=cn) eI nK.1 nK.2 w;have ai5:=BS β re.zero;unfold Ct at jM;simp only at jM;split at jM;rotate_left
 ·cases jM
 rename_i csx esx exx tyx gk;cases jM;have aH4:=Wm (E:=E) (w:=w) i2 [] [] e re.size false (fun ak hb=>aT.nil ak);obtain⟨g1,g2⟩:=i2.new (l:=⟨w.heap.size,0,re.size,C.length⟩) ⟨.cells [],re.size,false,false,e⟩ (.cells ⟨C⟩ e) rfl
  ⟨⟨C⟩,e,(0,0),rfl,rfl,by simp,(fun i v hv=>by simp at hv),fun _=>rfl,(fun h=>by cases h),rfl,fun _=>rfl⟩
 have Bk:(β.put (A.pop rt).next ⟨w.heap.size,0,re.size,C.length⟩).o (A.pop rt).next=none:=by
  show β.o A.next=none;cases hq:β.o A.next with
  |none=>rfl
  |some v=>have:=inv.jj _ _ hq;omega
 have jl:∀(cT:ah),cT.d=β.d→bQ cT.d (.chan (some (cu+1)))=some (.sl (List.replicate ln zs)):=fun cT e=>by
  show(cT.d cu).bind _=_;rw[e,q4];rfl
 have wz:=g1.relabel (B:=(A.pop rt).next) (blk':=⟨.own (.chan (some (cu+1))),re.size,false,false,e⟩) (v:= .slice (some ⟨w.heap.size,0,none⟩) (List.replicate ln zs).length cn) gk (Nat.lt_succ_self _) Bk rfl (fun l2 bF=>by
  rw[jy] at bF;cases bF;refine⟨⟨C⟩,List.replicate ln zs,heap_alloc_new w _,rfl,jl _ rfl,rfl,(fun row hr=>by rw[(List.mem_replicate.1 hr).2];exact iu),?_,fun i row j d hi hj=> ?_⟩
  ·show 0+(List.replicate ln zs).length*re.size≤C.length;rw[List.length_replicate,hC1];have:ln*re.size≤cn*re.size:=xD _ eI;omega
  ·have eY:=(xe.1 hi).1;rw[List.length_replicate] at eY;rw[List.getElem?_replicate,if_pos eY] at hi;cases hi;have fG:j<re.size:=by rw[←iu];exact(xe.1 hj).1
   have aX:i*re.size+j<cn*re.size:=by
    have:(i+1)*re.size≤cn*re.size:=xD _ (by omega);rw[Nat.add_mul] at this;omega
   have vR:(i*re.size+j)%re.size=j:=by
    rw[Nat.mul_comm,Nat.mul_add_mod,Nat.mod_eq_of_lt fG]
   have NT:=hC2 _ aX;rw[vR] at NT;have uw:j<re.zero.length:=by rw[nC];exact fG
   refine⟨re.zero[j],?_,?_⟩
   ·show(⟨C⟩:Array xM)[0+(i*re.size+j)]? =_;rw[Nat.zero_add];simpa[uw] using NT
   ·have H7:j<(ez pE re.zero).length:=by rw[ai5.1];exact uw
    exact gL (β:=β) (jZ e3 hj (xc H7)) (ai5.2 _ _ _ (xc H7) (xc uw)))
  ⟨List.replicate ln zs,jl _ rfl,.inr ⟨_,cn,jy _ _ _,by show(if(A.pop rt).next=(A.pop rt).next then _ else _)=_;rw[if_pos rfl],by rw[List.length_replicate];exact eI,by show 0+cn*re.size≤C.length;rw[hC1];omega,rfl⟩⟩
 refine⟨⟨_,_,_,aM,?_,wz,?_⟩,Nat.le_succ _⟩
 ·have:=ai.own (β:=(β.put (A.pop rt).next ⟨w.heap.size,0,re.size,C.length⟩).pD (A.pop rt).next (.slice (some ⟨w.heap.size,0,none⟩) (List.replicate ln zs).length cn)) (A.pop rt).next cu (List.replicate ln zs) (some ⟨w.heap.size,0,none⟩) cn (by show(if(A.pop rt).next=(A.pop rt).next then _ else _)=_;rw[if_pos rfl]) (.inr ⟨_,jy _ _ _,rfl⟩) q4;have e9:Value.slice (some ⟨w.heap.size,0,none⟩) ln cn= .slice (some ⟨w.heap.size,0,none⟩) (List.replicate ln zs).length cn:=by rw[List.length_replicate]
  rw[e9];exact this
 ·exact ah.iB g2 (ah.IK _ _ _) (xk _)
end
def Qv(E:av)(A:AW)(s d:xN)(x:xM):Option (xM×AW):=
 match E.ti.get none s,E.ti.get none d with
 |some ⟨.string,_,_,_,_⟩,some ⟨.slice e,_,_,_,_⟩=>match E.ti.get none e with
  |some ⟨.int .u8,_,_,_,_⟩=>bs (iH x) (match ny A .EA [x] with
   |some (x2,A0)=>(match ny A0 (.app 1 1) [.slice none 0 0,x2] with
    |some (u,A1)=>(match(A1.add ⟨.cells [],1,false,true,e⟩).get A1.next with
     |some ⟨.cells [],1,false,true,ty⟩=>some (u,(A1.add ⟨.cells [],1,false,true,e⟩).put A1.next (some ⟨.cells [],1,false,true,ty⟩))
     |_=>none)
    |none=>none)
   |none=>none) none
  |_=>none
 |_,_=>none
section
variable{P:Program}{E:av}(ok:E.Ok P)
include ok in
theorem be9{w0 w:World}{A A':AW}{β:ah}{s d:xN}{x x' v:xM}(h:Qv E A s d x=some (v,A'))(inv:Inv w0 E.G β A w)(hx:ai β x x'):g9 w0 E.G β A ((convert s d x').run P w) v A'∧A.next≤A'.next:=by
 unfold Qv at h;split at h;rotate_left
 ·cases h
 rename_i e _ _ _ _ hs hd;split at h;rotate_left
 ·cases h
 rename_i he;replace h:=aB h;rcases h with⟨_,h⟩|⟨_,h⟩;rotate_left
 ·cases h
 split at h;rotate_left
 ·cases h
 rename_i x2 A0 o7;split at h;rotate_left
 ·cases h
 rename_i u A1 eR;split at h;rotate_left
 ·cases h
 rename_i ty gk;cases h;obtain⟨zb,HG,c0,Ny,dg0,dg4,yS,rfl,rfl⟩:=oG o7;have i1:=inv.pop (r:=HG) (fun x hx=>by rw[Ny];exact xo _ hx);have pS:dw β.d zb:=ok.q _ _ (inv.fw zb (by rw[Ny];exact xn));unfold dw at pS;rw[dg0] at pS;obtain⟨ds0,d2,r1,r2,r3⟩:=pS;rw[dg4] at r1;rw[yS] at r2;obtain⟨r4,r5⟩:=oJ r2;obtain⟨dx,rfl,r6⟩:=mU r1;have M3:FB dx=some d2:=r3;unfold FB at M3;split at M3;rotate_left
 ·cases M3
 rename_i l;cases M3;have ot:=gL r6 hx;cases ot;obtain⟨nd,rt,cu,ht,jr,gA,jd,rfl,rfl⟩:=oG eR;have i2:=i1.pop (r:=rt) (fun x hx=>by rw[ht];exact xo _ hx);have hq:dw β.d nd:=ok.q _ _ (i1.fw nd (by rw[ht];exact xn));unfold dw at hq;rw[jr] at hq;obtain⟨ds,d1,q1,q2,q3⟩:=hq;rw[gA] at q1;rw[jd] at q2;obtain⟨q4,q5⟩:=oJ q2;obtain⟨d0,ds1,rfl,e1,q7⟩:=kw q1;obtain⟨dy,rfl,e2⟩:=mU q7;have mg:D.sl []=d0:=xC e1;subst mg;have uH:(β.d c0).bind (fun x=>if x.cell then some x else none)=some dy:=e2;rw[r4] at uH;have uH:D.str l=dy:=xC uH;subst uH;have cw:(if lj (([]:List (List D)).length+(l.map fun b=>[D.int .u8 (b.toNat:Nat)]).length) 1 then some (D.sl ([]++l.map fun b=>[D.int .u8 (b.toNat:Nat)])) else none)=some d1:=q3;split at cw;rotate_left
 ·cases cw
 cases cw;have h1:=(ok.ti s _ hs).1;have h2:=(ok.ti d _ hd).1;have h3:=(ok.ti e _ he).1;have aM:=Lib.run_convert_string_bytes (P:=P) w s d e ⟨⟨l⟩⟩ h1 h2 h3;rw[Vw] at aM;have dX:=grownCap_ge w (ByteArray.size ⟨⟨l⟩⟩) 0 e;have aU:ByteArray.size ⟨⟨l⟩⟩=l.length:=rfl;rw[aU] at dX;have bZ:(Lib.bytesCells w e ⟨⟨l⟩⟩).size=grownCap w l.length 0 e:=by
  unfold Lib.bytesCells;rw[Array.size_append,Array.size_map,Array.size_replicate,aU];show l.length+_=_;omega
 obtain⟨g1,g2⟩:=(i2.drew (w.drawn+1)).new (l:=⟨w.heap.size,0,1,(Lib.bytesCells w e ⟨⟨l⟩⟩).size⟩) ⟨.cells [],1,false,true,e⟩ (.cells (Lib.bytesCells w e ⟨⟨l⟩⟩) e ((Lib.bytesCells w e ⟨⟨l⟩⟩).size,(Lib.bytesCells w e ⟨⟨l⟩⟩).size+1)) rfl
  ⟨_,_,_,rfl,rfl,by simp,(fun i v hv=>by simp at hv),(fun h=>by cases h),(fun h=>by cases h),rfl,fun _=>rfl⟩
 have iV:(β.put ((A.pop HG).pop rt).next ⟨w.heap.size,0,1,(Lib.bytesCells w e ⟨⟨l⟩⟩).size⟩) ((A.pop HG).pop rt).next=some ⟨w.heap.size,0,1,(Lib.bytesCells w e ⟨⟨l⟩⟩).size⟩:=jy _ _ _;have hB:E.G.n≤((A.pop HG).pop rt).next:=by
  rcases Nat.lt_or_ge ((A.pop HG).pop rt).next E.G.n with aX|dX
  ·obtain⟨l,hl,_⟩:=i2.jm _ aX;have:=i2.gU _ _ hl;omega
  ·exact dX
 obtain⟨k1,k2⟩:=g1.still gk (.inl ⟨_,rfl⟩) hB iV (heap_alloc_new _ _);refine⟨⟨_,_,_,aM,?_,k1,ah.iB g2 (k2 _) (xk _)⟩,Nat.le_succ _⟩;refine .sym cu (.sl ([]++l.map fun b=>[D.int .u8 (b.toNat:Nat)])) _ q4 rfl ?_;rw[List.nil_append];cases l with
 |nil=>exact .mL _ _
 |cons b0 l0=>
  have aF:((b0::l0).map fun b=>[D.int .u8 (b.toNat:Nat)]).length=(b0::l0).length:=xm _;have hval:(Value.slice (some ⟨w.heap.size,0,none⟩) (ByteArray.size ⟨⟨b0::l0⟩⟩) (grownCap w (ByteArray.size ⟨⟨b0::l0⟩⟩) 0 e))= .slice (some ⟨w.heap.size,0,none⟩) ((b0::l0).map fun b=>[D.int .u8 (b.toNat:Nat)]).length (grownCap w (ByteArray.size ⟨⟨b0::l0⟩⟩) 0 e):=by rw[aF,aU]
  rw[hval];refine .sl _ 1 w.heap.size 0 _ (Lib.bytesCells w e ⟨⟨b0::l0⟩⟩) (by rw[ah.yl,if_pos rfl]) (by simp) (fun row hr=>by
   obtain⟨b,_,rfl⟩:=xJ.1 hr;rfl) (by rw[aF];exact dX) (by rw[bZ,Nat.zero_add,Nat.mul_one];exact xk _) fun i row j d v hi hj hv=> ?_
  rw[xx] at hi;obtain⟨b,hb,rfl⟩:=xp.1 hi;have zm:j=0:=by
   have:=(xe.1 hj).1;simpa using this
  subst zm;have ig:D.int .u8 (b.toNat:Nat)=d:=by simpa using hj
  subst ig;have oB:=(xe.1 hb).1;unfold Lib.bytesCells at hv;rw[Nat.zero_add,Nat.mul_one,Nat.add_zero,Array.getElem?_append_left (by simpa using oB)] at hv;have cg:l0.length+1=(b0::l0).length:=rfl;have cx:((b0::l0).map fun b=>Value.int .u8 (b.toNat:Nat))[i]? =some v:=by simpa using hv
  rw[xx,hb] at cx;cases cx;exact .int _ _
end
def P4(A:AW)(x:xM):Option (xM×AW):=
 match x with
 | .iface B (.chan (some (c+1)))=>match A.get B,A.tape with
  |some ⟨.own _,es,_,_,_⟩,nd::r=>bs (vL nd.k .jF&&lm nd.args [.chan (some (c+1)),.int .i64 0]&&pC nd.res (.bool true)) (some (.iface B (.agg ⟨[.int .i64 0,.int .i64 (.ofNat es),.int .i64 0]⟩),A.pop r)) none
  |_,_=>none
 |_=>none
def QC(E:av)(A:AW)(pt:xN)(p n:xM):Option (xM×AW):=
 match p,E.ti.get none pt with
 | .iface B (.agg ⟨[.int .i64 (.ofNat 0),.int .i64 (.ofNat 1),.int .i64 (.ofNat 0)]⟩),some ⟨.pointer e,_,_,_,_⟩=>match A.get B,E.ti.get none e with
  |some ⟨.own c,1,ex,false,ty⟩,some re=>bs (Nat.beq re.size 1&&Nat.beq ty e&&Nat.ble E.G.n B&&iH n) (match ny A .z7 [c,n] with
   |some (y,A1)=>some (y,A1.put B (some ⟨.cells [],1,false,true,ty⟩))
   |none=>none) none
  |_,_=>none
 |_,_=>none
theorem RW:∀{rows:List (List D)},(∀row∈rows,row.length=1)→rows.flatten.length=rows.length∧∀(j:Nat) (d:D),rows.flatten[j]? =some d→∃row,rows[j]? =some row∧row[0]? =some d
 |[],_=>⟨rfl,fun j d h=>by simp at h⟩
 |row::rows,h=>by
  have h0:=h row xn;obtain⟨h1,h2⟩:=RW (rows:=rows) fun r hr=>h r (xo _ hr)
  match row,h0 with
  |[x],_=>
   refine⟨by simp[h1],fun j d hd=> ?_⟩;cases j with
   |zero=>simp at hd;subst hd;exact⟨[x],rfl,rfl⟩
   |succ j=>simp at hd;simpa using h2 j d hd
section
variable{P:Program}{E:av}(ok:E.Ok P)
include ok in
theorem bb9{w0 w:World}{A A':AW}{β:ah}{tys:Array xN}{ty:xN}{x x' v:xM}(h:P4 A x=some (v,A'))(inv:Inv w0 E.G β A w)(hx:ai β x x'):g9 w0 E.G β A ((Builtin.unsafeSliceData_ tys ty #[x']).run P w) v A'∧A.next≤A'.next:=by
 unfold P4 at h;split at h;rotate_left
 ·cases h
 rename_i B c;split at h;rotate_left
 ·cases h
 rename_i c0 es ex ro tb nd r hg ht;replace h:=aB h;rcases h with⟨hb,h⟩|⟨_,h⟩;rotate_left
 ·cases h
 cases h;simp only [xf] at hb;obtain⟨⟨b1,b2⟩,b3⟩:=hb;have e1:=B9 b1;have e2:=lQ _ _ b2;have e3:=uS b3;have hq:dw β.d nd:=ok.q _ _ (inv.fw nd (by rw[ht];exact xn));unfold dw at hq;rw[e1] at hq;obtain⟨ds,d,q1,q2,q3⟩:=hq;rw[e2] at q1;rw[e3] at q2;have ui:some (D.bool true)=some d:=q2;cases ui;obtain⟨dx,di,rfl,e5,e6⟩:=nX q1;have e6':some (D.int .i64 0)=some di:=e6;cases e6';cases hx with
 |own _ _ rows a cap ho ha hd=>
  have Ey:(β.d c).bind (fun x=>if x.cell then some x else none)=some dx:=e5;rw[hd] at Ey;have Ey:D.sl rows=dx:=xC Ey;subst Ey;have cw:some (D.bool (decide (0<rows.length)))=some (.bool true):=q3;have aH0:0<rows.length:=by
   have:=xC cw;injection this with this;exact of_decide_eq_true this
  obtain⟨cf3,h1,h2⟩:=inv.own B _ hg;rcases h2 with⟨_,e⟩|⟨l,cap',k1,k2,k3,_⟩
  ·rw[ho] at e;injection e with e;injection e with e7 e8 e9;omega
  ·rw[ho] at k2;injection k2 with k2;injection k2 with e7 e8 e9;subst e7 e9;refine⟨⟨β,_,w,Lib.run_unsafeSliceData_row w tys ty _ _ cap (by omega),?_,inv.pop (fun x hx=>by rw[ht];exact xo _ hx),ah.ca _ _⟩,xk _⟩;have:=ai.pG (β:=β) B es 0 0 l (.int .i64 0) .i64 k1 rfl;simpa using this
include ok in
theorem bg1{w0 w:World}{A A':AW}{β:ah}{pt it ty:xN}{p p' n n' v:xM}(h:QC E A pt p n=some (v,A'))(inv:Inv w0 E.G β A w)(hp:ai β p p')(hn:ai β n n'):g9 w0 E.G β A ((Builtin.unsafeString_ #[pt,it] ty #[p',n']).run P w) v A'∧A.next≤A'.next:=by
 unfold QC at h;split at h;rotate_left
 ·cases h
 rename_i B e _ _ _ _ UM;split at h;rotate_left
 ·cases h
 rename_i c ex tb re hg dV;replace h:=aB h;rcases h with⟨hb,h⟩|⟨_,h⟩;rotate_left
 ·cases h
 split at h;rotate_left
 ·cases h
 rename_i y A1 eR;cases h;simp only [xf] at hb;obtain⟨⟨⟨b1,b2⟩,b3⟩,b4⟩:=hb;have b1':=xb b1;have b2':=xb b2;have Vj:=xh b3;subst b2';obtain⟨nd,rt,cy,ht,jr,gA,jd,rfl,rfl⟩:=oG eR;have i2:=inv.pop (r:=rt) (fun x hx=>by rw[ht];exact xo _ hx);have hq:dw β.d nd:=ok.q _ _ (inv.fw nd (by rw[ht];exact xn));unfold dw at hq;rw[jr] at hq;obtain⟨ds,d,q1,q2,q3⟩:=hq;rw[gA] at q1;rw[jd] at q2;obtain⟨q4,q5⟩:=oJ q2;obtain⟨dx,dn,rfl,e5,e6⟩:=nX q1;obtain⟨rows,h1,h2⟩:=i2.own B _ hg;rw[zX h1] at e5;cases e5;have iw:=gL e6 hn;have cw:O4 (.sl rows) dn=some d:=q3;unfold O4 at cw;split at cw;rotate_left
 ·cases cw
 rename_i QL m vv;cases vv;split at cw;rotate_left
 ·cases cw
 rename_i hm;obtain⟨pT,eK⟩:=hm;obtain⟨l,hl,rfl⟩:=xp.1 cw;subst pT;cases iw;cases hp with
 |pG _ _ _ m0 lc _ k cF hi=>
  have hi':D.int .i64 0= .int k (m0:Nat):=xC hi;injection hi' with _ kq;have dg8:m0=0:=by omega
  subst dg8;obtain⟨aE,FL,k1,k2,k3,k4,k5,k6,k7⟩:=i2.cont B _ lc hg cF;have Bd:(D.sl rows)= .sl FL:=xC (h1.symm.trans k3);cases Bd;have kH:lc.es=1:=k4;rw[kH] at k5 k6 k7;obtain⟨f1,f2⟩:=RW k5;obtain⟨g1,g2⟩:=Ov hl;have kL:l.length=rows.length:=by rw[←g1,f1]
  have gd:∀j x,l[j]? =some x→w.cell? ((⟨lc.b,lc.d,none⟩:Addr).add j)=some (.int .u8 x.toNat):=fun j x hx=>by
   obtain⟨row,ep,bK⟩:=f2 j _ (g2 j x hx);obtain⟨v,mN,cx⟩:=k7 j row 0 _ ep bK;cases cx;rw[Addr.add_mid,cell_of_row w lc.b _ aE tb (0,0) k1];rw[Nat.mul_one,Nat.add_zero] at mN;exact mN
  have bU:Inv w0 E.G β ((A.pop rt).put B (some ⟨.cells [],1,false,true,tb⟩)) (w.freeze ⟨lc.b,lc.d,none⟩ rows.length):=by
   obtain⟨Io,hf⟩:=Wz w lc.b lc.d rows.length k1;refine i2.PU B lc _ _ hg cF Vj (Vz w lc.b lc.d rows.length) (VK w lc.b lc.d rows.length) ?_ trivial (fun bu hz=> ?_) (fun h=>by cases h)
   ·rw[hf];exact⟨aE,tb,Io,rfl,k2,by simp;omega,(fun i v hv=>by simp at hv),(fun h=>by cases h),(fun h=>by cases h),kH,fun _=>rfl⟩
   ·obtain⟨e2,NW,h2⟩:=i2.bH _ _ hz;rw[k1] at h2;cases h2;exact⟨_,_,hf⟩
  have bc:ai β (.chan (some (cy+1))) (.string ⟨⟨l⟩⟩):= .sym cy (.str l) _ q4 rfl (.str _);have dG8:(⟨lc.b,lc.d+(0*1+0),none⟩:Addr)=⟨lc.b,lc.d,none⟩:=rfl;by_cases h0:rows.length=0
  ·have rm:l=[]:=xA (by omega);subst rm;have sU:w.freeze ⟨lc.b,lc.d,none⟩ rows.length=w:=by
    unfold World.freeze;rw[if_pos (by simp[h0])]
   rw[sU] at bU;refine⟨⟨β,_,w,?_,bc,bU,ah.ca _ _⟩,xk _⟩;rw[h0];exact Lib.run_unsafeString_none w pt it ty _
  ·have gS:=Lib.run_loadBytes (P:=P) w l ⟨lc.b,lc.d,none⟩ .empty gd;rw[kL] at gS;have h5:P.cellsOf tb=1:=(Pe ok dV).trans b1';obtain⟨ie,s1⟩:∃ie,w.shape? lc.b=some (tb,ie)∧ie=lc.sz:=⟨_,by unfold World.shape?;rw[k1],k2⟩;obtain⟨s1,s2⟩:=s1;subst s2;have GJ:=VY (P:=P) (xk 1) h5 lc.sz lc.d rows.length (by rw[Nat.mul_one] at k6;exact k6);rw[Nat.mul_one] at GJ;have To:=(ok.ti pt _ UM).1;refine⟨⟨β,.string ⟨⟨l⟩⟩,w.freeze ⟨lc.b,lc.d,none⟩ rows.length,?_,bc,bU,ah.ca _ _⟩,xk _⟩;have TA:Builtin.unsafeString_ #[pt,it] ty #[.pointer (some ⟨lc.b,lc.d,none⟩),.int .i64 (Int.ofNat rows.length)]=
    (do
     let n←asInt (.int .i64 (Int.ofNat rows.length))
     if n<0 then runtimePanic (.error "unsafe.String: len out of range")
     if n>IntKind.i64.max then unsupported (.unsafePointer "String: a length above the largest int")
     if n=0 then pure (.string .empty)
     else if←variablesAt ⟨lc.b,lc.d,none⟩ (←elemOf pt) n.toNat then do
      let s←loadBytes ⟨lc.b,lc.d,none⟩ .empty n.toNat
      freeze ⟨lc.b,lc.d,none⟩ n.toNat
      pure (.string s)
     else unsupported (.unsafePointer "String: not so many bytes at ptr")):=rfl
   show(Builtin.unsafeString_ #[pt,it] ty #[.pointer (some ⟨lc.b,lc.d,none⟩),.int .i64 (Int.ofNat rows.length)]).run P w=_;rw[TA];have Hk:IntKind.i64.max=9223372036854775807:=rfl;have Hq: ¬(9223372036854775807:Int)<(rows.length:Int):=by omega
   have vQ: ¬(rows.length:Int)<0:=by omega
   simp[asInt,asIntOf,Hk,Hq,vQ,h0,variablesAt,s1,elemOf,run_underlying To,h5,GJ,gS]
include ok in
theorem bb4{w0 w:World}{A A':AW}{β:ah}{n:Nat}{g:Gt}{a:Act}(hf:bX β n g a.tmps){t:xN}{x:Operand}{lo hi:Option Operand}{u:xM}(h:P2 E A t (ev E g x) (qW E g lo) (sQ E g hi)=some (u,A'))(inv:Inv w0 E.G β A w):
 ∃ak v',(Instr.sliceAt t (a.eval x) (lo.map a.eval) (hi.map a.eval) none).run P w= .ok v' w∧ai ak u v'∧Inv w0 E.G ak A' w∧β.grow ak A.next∧A.next≤A'.next:=by
 unfold P2 at h;split at h;rotate_left
 ·cases h
 rename_i hr;split at h;rotate_left
 ·cases h
 rename_i hs;split at h;rotate_left
 ·cases h
 rename_i u1 A1 kN;obtain⟨aO,i1,g1,n1,f1⟩:=yf ok (w0:=w0) (w:=w) 4 _ A u1 A1 β kN inv;obtain⟨nd,rt,cy,ht,jr,gA,jd,hu,rfl⟩:=oG h;have i2:=i1.pop (r:=rt) (fun x hx=>by rw[ht];exact xo _ hx);have nL:ai aO u1 (a.eval x):=f1 aO (ah.ca _ _) _ ((ky (a:=a) inv hf x).mono (inv.fY g1));have hq:dw aO.d nd:=ok.q _ _ (i1.fw nd (by rw[ht];exact xn));unfold dw at hq;rw[jr] at hq;obtain⟨ds,d,q1,q2,q3⟩:=hq;rw[gA] at q1;rw[jd] at q2;have q3:DZ (zY _) ds=some d:=q3;have E1:=fun(y:Operand) (d:D) (hd:bT aO.d (ev E g y)=some d)=>gL hd ((ky (a:=a) inv hf y).mono (inv.fY g1))
 obtain⟨dx,al,hb,k,b,e1,e2,e3,e4⟩:=PT E1 (fun x b=>by unfold zY;split<;>first|rfl|(rename_i e;cases e)) q1 q3;obtain⟨v',r1,r2⟩:=Ys ok hr hs e2 (gL e1 nL) e3 e4 w;exact⟨aO,v',r1,wY q2 r2,i2,g1,Nat.le_of_eq n1.symm⟩
end
end
end Go.Ex
