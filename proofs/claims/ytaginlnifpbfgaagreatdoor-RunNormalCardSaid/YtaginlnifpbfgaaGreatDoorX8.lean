/- A verified evaluator of Go functions. -/
import Derived.Test.YtaginlnifpbfgaaGreatDoorX7
set_option linter.unusedVariables false
set_option linter.unusedSimpArgs false
namespace Go.Ex
open Go.RowKit
noncomputable section
def qG(op:Op):Bool:=
 match op with
 | .move _=>true
 | .assign _=>true
 | .pick _ _ _=>true
 | .build _ _=>true
 | .nilCheck _=>true
 | .binOp _ _ _ _ _=>true
 | .unOp _ _ _=>true
 | .makeFunc _ _ _=>true
 | .fieldAddr _ _ _=>true
 | .field _ _ _=>true
 | .indexAddr _ _ _=>true
 | .index _ _ _=>true
 | .extract _ _=>true
 |_=>false
def fj(E:aq)(op:Op):Nat:=
 match op with
 | .load _ _=>0
 | .convert _ d _=>match E.ti.get none d with|some ⟨.slice _,_,_,_,_⟩=>2|_=>0
 | .slice _ _ _ _ _=>0
 | .call ⟨.builtin .len,_,_⟩=>0
 | .call ⟨.builtin .min,_,_⟩=>0
 | .call ⟨.builtin .max,_,_⟩=>0
 | .alloc _=>1
 | .box _ _=>1
 | .buildSlice _ _ _=>1
 | .makeSlice _ _ _=>1
 |op=>bif qG op then 0 else 2
section
variable{P:Program}{E:aq}(ok:E.Ok P){sq:List (Nat×List xO)}{w0 w:World}{β:af}{A:AW}
theorem VQ{A2:AW}{g:Gt}{op:Op}{v:xM}{A':AW}(hp:qG op=true)(h:aF E sq A g op= .val v A'):A'=A∧aF E sq A2 g op= .val v A2:=by
 cases op<;>try(cases hp;done)
 case makeFunc fn p q=>
  obtain⟨p⟩:=p;obtain⟨q⟩:=q;cases fn<;>simp only [aF] at h⊢<;>cases h
  exact⟨rfl,rfl⟩
 case build t ps=>
  obtain⟨ps⟩:=ps;simp only [aF] at h⊢;obtain⟨h1,rfl⟩:=uX h;exact⟨rfl,by rw[h1];rfl⟩
 all_goals
  simp only [aF] at h⊢
  first
  |(cases h;exact⟨rfl,rfl⟩)
  |(obtain⟨h1,rfl⟩:=uX h
    exact⟨rfl,by rw[h1];rfl⟩)
theorem N3{g:Gt}{op:Op}{v:xM}{A':AW}(hk:fj E op=0)(h:aF E sq A g op= .val v A'):A'=A:=by
 cases hp:qG op with
 |true=>exact(VQ (A2:=A) hp h).1
 |false=>
  cases op<;>simp only [fj,hp] at hk<;>try(cases hk;done)
  case load t x=>simp only [aF] at h;exact(uX h).2
  case slice t x lo hi mx=>simp only [aF] at h;exact(uX h).2
  case convert s d x=>
   simp only [aF,Eu] at h;split at h
   ·cases h;rfl
   ·split at h
    ·cases h;rfl
    ·have h2:=mZ h;unfold DK at h2;split at h2
     ·rename_i hd _;rw[hd] at hk;cases hk
     ·cases h2
  case call c=>
   obtain⟨wI,⟨args⟩,⟨tys⟩⟩:=c;cases wI with
   |value f=>cases hk
   |invoke r m=>cases hk
   |builtin b=>
    simp only [aF,Df] at h;split at h
    ·exact(uX h).2
    all_goals first
     |(cases hk;done)
     |(cases h;done)
     |exact(uX h).2
include ok in
theorem aX9{A2:AW}(inv:Inv w0 E.G β A2 w){n:Nat}{g:Gt}{a:Act}(hf:cf β n g a.tmps){o:Oper}{v:xM}{A':AW}(hk:fj E o.op=1)(h:aF E sq A g o.op= .val v A'):
 ∃cs es bC e v',A'=A.add ⟨.cells cs,es,true,false,e⟩∧(execOp a.eval o).run P w= .ok (.value v') (w.alloc (.cells ⟨bC⟩ e))∧aP β cs bC∧∀ah:af,ah A.next=some ⟨w.heap.size,0,es,bC.length⟩→ai ah v v':=by
 obtain⟨dst,op,type,uz,after,guard⟩:=o;have E1:=jX (a:=a) inv hf;simp only at hk h;cases hp:qG op with
 |true=>cases op<;>simp only [fj,qG] at hk hp<;>first|(cases hp;done)|(cases hk;done)
 |false=>
  cases op<;>simp only [fj,hp] at hk<;>try(cases hk;done)
  case convert s d x=>split at hk<;>cases hk
  case alloc t=>
   simp only [aF] at h;obtain⟨cs,es,e,rfl,bC,v',h1,h2,h3⟩:=We (P:=P) ok (mZ h) β w;exact⟨cs,es,bC,e,v',rfl,by simp[execOp,h1],h2,h3⟩
  case box t x=>
   simp only [aF] at h;obtain⟨cs,es,e,rfl,bC,v',h1,h2,h3⟩:=XP (P:=P) (t:=t) (mZ h) (E1 x) w;exact⟨cs,es,bC,e,v',rfl,by simp[execOp,h1],h2,h3⟩
  case buildSlice t len ps=>
   obtain⟨ps⟩:=ps;simp only [aF] at h;obtain⟨cs,es,e,rfl,bC,v',h1,h2,h3⟩:=UF (P:=P) ok (mZ h) (JI hf inv ps) w;refine⟨cs,es,bC,e,v',rfl,?_,h2,h3⟩;have:(Instr.buildSlice t len (Array.map (fun(p:Nat×Operand)=>(p.1,a.eval p.2)) ⟨ps⟩)).run P w= .ok v' (w.alloc (.cells ⟨bC⟩ e)):=by simpa using h1
   show(do pure (Next.value (←Instr.buildSlice t len (Array.map (fun(p:Nat×Operand)=>(p.1,a.eval p.2)) ⟨ps⟩))):Sem Next).run P w=_;simp only [Sem.run_bind,this];rfl
  case makeSlice t x y=>
   simp only [aF] at h;obtain⟨cs,es,e,rfl,bC,v',h1,h2,h3⟩:=UG (P:=P) ok (mZ h) (E1 x) (E1 y) w;exact⟨cs,es,bC,e,v',rfl,by simp[execOp,h1],h2,h3⟩
  case call c=>
   obtain⟨wI,args,tys⟩:=c;cases wI<;>simp only [fj,qG] at hk<;>try(cases hk;done)
   rename_i b;cases b<;>simp only [fj,qG] at hk<;>cases hk
theorem Inv.map(h:Inv w0 E.G β A w)(N:Nat)(hN:N<A.next)(hb:β N=none)(o:Obj)(l:Loc)(hl:l.b=w.heap.size)(fB:∀aj,A.get N=some aj→gH (β.put N l) l aj (some o)):
 Inv w0 E.G (β.put N l) A (w.alloc o):=by
 have jr:∀B lb,β.put N l B=some lb→(B=N∧lb=l)∨(B≠N∧β B=some lb):=fun B lb e=>by
  rw[af.rR] at e;split at e
  ·cases e;exact .inl ⟨by assumption,rfl⟩
  ·exact .inr ⟨by assumption,e⟩
 have aK:β.le (β.put N l):=⟨fun B lb e=>by
  rw[af.rR];rw[if_neg (fun e2=>by rw[e2,hb] at e;cases e)];exact e,fun _ _ h=>h,fun _ _ h=>h,rfl,rfl⟩
 have aT:(w.alloc o).heap.size=w.heap.size+1:=by simp
 refine⟨h.below.alloc o,fun B lb e=> ?_,h.dz,fun B lb e=> ?_,fun B B' lb uB e e' eo ha iW=> ?_,fun B k lb hk e=> ?_,fun g hg=> ?_,fun b cs hz=>Uz (h.bB b cs hz),fun B lb kb hG e ha hs=> ?_,h.eO,fun B k hk=>(h.own B k hk).mono aK,h.jf,h.lay,h.xg,h.jA,h.zo⟩
 ·rcases jr B lb e with⟨e1,_⟩|⟨_,e⟩
  ·omega
  ·exact h.g9 B lb e
 ·rw[aT];rcases jr B lb e with⟨_,e2⟩|⟨_,e⟩
  ·rw[e2];exact⟨by omega,.inr (.inl (by rw[hl];exact h.below.size))⟩
  ·exact⟨Nat.lt_succ_of_lt (h.loc B lb e).1,(h.loc B lb e).2⟩
 ·rcases jr B lb e with⟨h1,h2⟩|⟨hB,f⟩<;>rcases jr B' uB e' with⟨mU,AU⟩|⟨te,f'⟩
  ·rw[h1,mU]
  ·have:=(h.loc B' uB f').1;rw[h2,hl] at eo;omega
  ·have:=(h.loc B lb f).1;rw[AU,hl] at eo;omega
  ·exact h.inj B B' lb uB f f' eo ha iW
 ·rcases jr B lb e with⟨h1,h2⟩|⟨hB,f⟩
  ·rw[h1] at hk;rw[h2,hl,heap_alloc_new];exact fB k hk
  ·rw[Below.heap_alloc w o _ (h.loc B lb f).1];exact(h.cont B k lb hk f).mono aK
 ·obtain⟨lg,a,b,c⟩:=h.jg g hg;exact⟨lg,aK.f _ _ a,b,c⟩
 ·rcases jr B lb e with⟨_,h2⟩|⟨hB,f⟩
  ·rw[h2];exact h.XV (by omega)
  ·exact h.sep B lb kb hG f ha hs
end
def Lz(a b:ao):Bool:=
 match a,b with
 |⟨.cells x,e,ex,ro,ty⟩,⟨.cells y,e',gM,gK,gJ⟩=>kK x y&&Nat.beq e e'&&bs ex gM (not gM)&&bs ro gK (not gK)&&Nat.beq ty gJ
 |⟨.n4 x,e,ex,ro,ty⟩,⟨.n4 y,e',gM,gK,gJ⟩=>uu x y&&Nat.beq e e'&&bs ex gM (not gM)&&bs ro gK (not gK)&&Nat.beq ty gJ
 |_,_=>false
theorem JH{a b:ao}(h:Lz a b=true):a=b:=by
 unfold Lz at h;split at h
 ·rename_i x e ex ro ty y e' gM gK gJ;simp only [xf] at h;rw[kV _ _ h.1.1.1.1,xb h.1.1.1.2,xb h.2];have h1:ex=gM:=by have:=h.1.1.2;cases ex<;>cases gM<;>first|rfl|cases this
  have h2:ro=gK:=by have:=h.1.2;cases ro<;>cases gK<;>first|rfl|cases this
  rw[h1,h2]
 ·rename_i x e ex ro ty y e' gM gK gJ;simp only [xf] at h;rw[Dp h.1.1.1.1,xb h.1.1.1.2,xb h.2];have h1:ex=gM:=by have:=h.1.1.2;cases ex<;>cases gM<;>first|rfl|cases this
  have h2:ro=gK:=by have:=h.1.2;cases ro<;>cases gK<;>first|rfl|cases this
  rw[h1,h2]
 ·cases h
def sR(E:aq)(nd:Node)(N:Nat)(g:Gt)(op:Op):Option (xM×ao):=
 match op with
 | .makeSlice t l c=>match E.ti.get none t with
  |some ⟨.slice e,_,_,_,_⟩=>match E.ti.get none e with
   |some re=>bs (re.ri&&Nat.beq (bI re.zero) re.size&&Nat.ble 1 re.size&&Nat.blt e iY&&gF nd.res&&uf nd.k (.gR re.size re.bytes)&&kK nd.args (ev E g l::ev E g c::ew pH re.zero)) (some (.iface N nd.res,⟨.n4 nd.res,re.size,false,false,e⟩)) none
   |none=>none
  |_=>none
 |_=>none
theorem aN5{E:aq}{nd:Node}{N:Nat}{g g':Gt}{op:Op}(h:∀x∈op.operands,ev E g x=ev E g' x):sR E nd N g op=sR E nd N g' op:=by
 unfold sR;split
 ·rename_i t l c;rw[h l (by simp[Op.operands]),h c (by simp[Op.operands])]
 ·rfl
theorem aN4{E:aq}{nd:Node}{N:Nat}{g:Gt}{op:Op}{v:xM}{aj:ao}(h:sR E nd N g op=some (v,aj)):qj aj∧aj.ro=false∧fj E op=1:=by
 unfold sR at h;split at h;rotate_left
 ·cases h
 split at h;rotate_left
 ·cases h
 split at h;rotate_left
 ·cases h
 rcases au h with⟨_,h⟩|⟨_,h⟩<;>cases h
 exact⟨(fun c h=>by cases h),rfl,rfl⟩
def ZF(G:Nat)(β:af)(N:Nat)(aj:ao):Prop:=
 G≤N∧aj.ro=false∧∃u rows l cap,aj.obj= .n4 u∧bP β.d u=some (.sl rows)∧β N=some l∧β.o N=some (.slice (some ⟨l.b,l.d,none⟩) rows.length cap)∧rows.length≤cap∧l.d+cap*l.es≤l.sz∧l.es=aj.es
theorem ZF.mono{G:Nat}{β ah:af}(hb:β.le ah){N:Nat}{aj:ao}(h:ZF G β N aj):ZF G ah N aj:=by
 obtain⟨h0,h1,u,rows,l,cap,a,b,c,d,e⟩:=h;exact⟨h0,h1,u,rows,l,cap,a,by rw[hb.d];exact b,hb.f _ _ c,hb.o _ _ d,e⟩
def tN(N:Nat)(A:AW):AW:=match A.get N with|some ⟨.n4 u,es,ex,ro,ty⟩=>A.put N (some ⟨.own u,es,ex,ro,ty⟩)|_=>A
theorem Inv.bM7{G:GP}{β:af}{A:AW}{w0 w:World}(h:Inv w0 G β A w){N:Nat}(hN:N<A.next)(ho:β.o N=none)(v:xM):Inv w0 G (β.pG N v) A w:=by
 have aK:=af.O3 (β:=β) v ho;refine⟨h.below,h.g9,h.dz,h.loc,h.inj,fun C k lc hk e=>(h.cont C k lc hk e).mono aK,h.jg,h.bB,h.sep,h.eO,fun C k hk=>(h.own C k hk).mono aK,fun C u e=> ?_,h.lay,h.xg,h.jA,h.zo⟩;have e':(if C=N then some v else β.o C)=some u:=e;by_cases hC:C=N
 ·rw[hC];exact hN
 ·rw[if_neg hC] at e';exact h.jf C u e'
theorem aT4{G:GP}{β:af}{A:AW}{w0 w:World}(h:Inv w0 G β A w){N:Nat}{aj:ao}(hA:∀b u,A.get N=some b→b.obj= .n4 u→b=aj)(hz:ZF G.n β N aj):Inv w0 G β (tN N A) w:=by
 unfold tN;split
 ·rename_i u es ex ro ty hg;have:=hA _ u hg rfl;subst this;obtain⟨h0,h1,u2,rows,l,cap,a,b,c,d,e1,e2,e3⟩:=hz;cases a;have hr:ro=false:=h1;subst hr;have pd:gH β l ⟨.own u,es,ex,false,ty⟩ w.heap[l.b]? :=by
   have:=h.cont N _ l hg c;unfold gH at this⊢;exact this
  refine h.Gv N l _ ⟨.own u,es,ex,false,ty⟩ hg c h0 (World.grownBy.refl _ _) rfl pd ⟨rows,b,.inr ⟨l,cap,c,d,e1,e2,e3⟩⟩ (fun cs hz=>h.bB _ _ hz) (fun _=>h.sep N l _ h0 c hg rfl)
 ·exact h
theorem aN7(N:Nat)(A:AW)(M:Nat):(tN N A).get M=A.get M∨∀u b,(tN N A).get M=some b→b.obj≠ .n4 u:=by
 unfold tN;split
 ·rename_i u es ex ro ty hg;rcases A.ja N (some ⟨.own u,es,ex,ro,ty⟩) M with⟨e,_⟩|⟨e,_⟩|⟨e,_⟩
  ·exact .inr fun u2 b h1 h2=>by rw[e] at h1;cases h1;cases h2
  ·exact .inr fun u2 b h1 h2=>by rw[e] at h1;cases h1
  ·exact .inl e
 ·exact .inl rfl
theorem aK1(N:Nat)(A:AW):(tN N A).next=A.next:=by
 unfold tN;split<;>rfl
section
variable{P:Program}{E:aq}(ok:E.Ok P){w0 w:World}{β:af}{A:AW}
include ok in
theorem bi5(inv:Inv w0 E.G β A w){n:Nat}{g:Gt}{a:Act}(hf:cf β n g a.tmps){o:Oper}{nd:Node}{N:Nat}{v:xM}{aj:ao}(h:sR E nd N g o.op=some (v,aj))(hq:dt β.d nd)(hN:N<A.next)(hb:β N=none)(ho:β.o N=none)(hA:∀b,A.get N=some b→b=aj):
 ∃ah v' w',(execOp a.eval o).run P w= .ok (.value v') w'∧ai ah v v'∧Inv w0 E.G ah A w'∧β.le ah∧(∀B,B≠N→ah B=β B)∧(∀B,B≠N→ah.o B=β.o B)∧(∀b c,β.z b=some c→ah.z b=some c)∧ah.d=β.d∧ah.x=β.x∧ZF E.G.n ah N aj:=by
 obtain⟨dst,op,type,uz,after,guard⟩:=o;simp only at h;unfold sR at h;split at h;rotate_left
 ·cases h
 rename_i t l c;split at h;rotate_left
 ·cases h
 rename_i e _ _ _ _ hr;split at h;rotate_left
 ·cases h
 rename_i re dG;rcases au h with⟨eo,h⟩|⟨_,h⟩;rotate_left
 ·cases h
 cases h;simp only [xf,dA] at eo;obtain⟨⟨⟨⟨⟨⟨ui,rn⟩,h1⟩,IR⟩,uF⟩,jj⟩,ga⟩:=eo;have mK:=xb rn;have mU:=xh h1;obtain⟨cu,Nt⟩:=Jq uF;have cM9:=y8 jj;have cN4:=kV _ _ ga;unfold dt at hq;rw[cM9] at hq;obtain⟨ds,d,q1,q2,q3⟩:=hq;rw[cN4] at q1;rw[Nt] at q2;obtain⟨q4,q5⟩:=oq q2;obtain⟨dl,ds1,rfl,e1,q7⟩:=jB q1;obtain⟨dc,zs,rfl,e2,e3⟩:=jB q7;clear q1 q7;have bN:BP re.size re.bytes dl dc zs=some d:=q3;unfold BP at bN;split at bN;rotate_left
 ·cases bN
 rename_i ln cn;split at bN;rotate_left
 ·cases bN
 rename_i BK;obtain⟨gw,dX,kR⟩:=BK;cases bN;have bG:=fY e1 (jX (a:=a) inv hf l);have bQ:=fY e2 (jX (a:=a) inv hf c);generalize rb:a.eval l=l' at bG;generalize cQ0:a.eval c=c' at bQ;cases bG;cases bQ;unfold jI at kR;simp only [xf,decide_eq_true_iff] at kR;obtain⟨C,IZ,Uh,aJ⟩:=run_make (P:=P) ok hr dG ui mK (ln:=ln) (cn:=cn) dX kR.1 kR.2 w;have Hw:=A5 β re.zero;have hGN:E.G.n≤N:=Nat.le_of_not_lt fun bg=>by
  obtain⟨lg,hg,_⟩:=inv.jg N bg;rw[hb] at hg;cases hg
 have bT1:β.le (β.put N ⟨w.heap.size,0,re.size,C.length⟩):=⟨fun B lb eb=>by
  rw[af.rR];rw[if_neg (fun e2=>by rw[e2,hb] at eb;cases eb)];exact eb,fun _ _ h=>h,fun _ _ h=>h,rfl,rfl⟩
 have gj:∀(cK:af),cK.d=β.d→bP cK.d (.chan (some (cu+1)))=some (.sl (List.replicate ln zs)):=fun cK e=>by
  show(cK.d cu).bind _=_;rw[e,q4];rfl
 have i1:=inv.map N hN hb (.cells ⟨C⟩ e) ⟨w.heap.size,0,re.size,C.length⟩ rfl (fun b cx=>by
  have:=hA b cx;subst this;rw[Nt];refine⟨⟨C⟩,List.replicate ln zs,rfl,rfl,gj _ rfl,rfl,(fun row hr=>by rw[(List.mem_replicate.1 hr).2];exact gw),?_,fun i row j d hi hj=> ?_⟩
  ·show 0+(List.replicate ln zs).length*re.size≤C.length;rw[List.length_replicate,IZ];have:ln*re.size≤cn*re.size:=xD _ dX;omega
  ·have eI:=(xe.1 hi).1;rw[List.length_replicate] at eI;rw[List.getElem?_replicate,if_pos eI] at hi;cases hi;have fL:j<re.size:=by rw[←gw];exact(xe.1 hj).1
   have bg:i*re.size+j<cn*re.size:=by
    have:(i+1)*re.size≤cn*re.size:=xD _ (by omega);rw[Nat.add_mul] at this;omega
   have uj:(i*re.size+j)%re.size=j:=by
    rw[Nat.mul_comm,Nat.mul_add_mod,Nat.mod_eq_of_lt fL]
   have CH:=Uh _ bg;rw[uj] at CH;have qz:j<re.zero.length:=by rw[mK];exact fL
   refine⟨re.zero[j],?_,?_⟩
   ·show(⟨C⟩:Array xM)[0+(i*re.size+j)]? =_;rw[Nat.zero_add];simpa[qz] using CH
   ·have AI:j<(ew pH re.zero).length:=by rw[Hw.1];exact qz
    exact fY (β:=β) (jU e3 hj (xc AI)) (Hw.2 _ _ _ (xc AI) (xc qz)))
 have i2:=i1.bM7 hN (by exact ho) (.slice (some ⟨w.heap.size,0,none⟩) (List.replicate ln zs).length cn);have SC:=af.O3 (β:=β.put N ⟨w.heap.size,0,re.size,C.length⟩) (B:=N) (.slice (some ⟨w.heap.size,0,none⟩) (List.replicate ln zs).length cn) ho;have sY:((β.put N ⟨w.heap.size,0,re.size,C.length⟩).pG N (.slice (some ⟨w.heap.size,0,none⟩) (List.replicate ln zs).length cn)).o N=some (.slice (some ⟨w.heap.size,0,none⟩) (List.replicate ln zs).length cn):=by
  show(if N=N then _ else _)=_;rw[if_pos rfl]
 refine⟨_,.slice (some ⟨w.heap.size,0,none⟩) (List.replicate ln zs).length cn,_,?_,?_,i2,af.le_trans bT1 SC,fun B hB=> ?_,fun B hB=> ?_,fun _ _ h=>h,rfl,rfl,hGN,rfl,nd.res,List.replicate ln zs,⟨w.heap.size,0,re.size,C.length⟩,cn,rfl,by rw[Nt];exact gj _ rfl,jl _ _ _,sY,by rw[List.length_replicate];exact dX,?_,rfl⟩
 ·rw[List.length_replicate];have BG:(Instr.makeSlice t (a.eval l) (a.eval c)).run P w= .ok (.slice (some ⟨w.heap.size,0,none⟩) ln cn) (w.alloc (.cells ⟨C⟩ e)):=by rw[rb,cQ0];exact aJ
  simp[execOp,BG]
 ·rw[Nt];exact .own N cu (List.replicate ln zs) (some ⟨w.heap.size,0,none⟩) cn sY (.inr ⟨_,jl _ _ _,rfl⟩) q4
 ·show(β.put N _) B=β B;rw[af.rR,if_neg hB]
 ·show(if B=N then _ else β.o B)=β.o B;rw[if_neg hB]
 ·show 0+cn*re.size≤C.length;rw[IZ];omega
end
structure fh where
 i:Nat
 o:Oper
 g:Gt
 v:xM
 wanted:Bool
 nb:Option (Nat×ao)
 sy:Option Node
def qU(E:aq)(sq:List (Nat×List xO))(A:AW)(e:fh):Bool:=
 bs e.wanted (match e.nb with
  |some (N,aj)=>(match A.get N with|none=>true|some b=>Lz b aj)
  |none=>match e.sy with
   |some nd=>(match pF E sq A e.g e.o.op nd with|some v=>uu v e.v|none=>false)
   |none=>bs (qG e.o.op) true (match Fo e.o.op E sq A e.g with| .val v _=>uu v e.v|_=>false)) true
def ma(l:List fh)(A:AW):AW:=
 List.rec (motive:=fun _=>AW→AW) (fun A=>A) (fun e _ ih A=>match e.sy,e.nb with
  |some _,some (N,_)=>ih (tN N A)
  |_,_=>ih A) l A
theorem UZ(e:fh)(l:List fh)(A:AW):ma (e::l) A=match e.sy,e.nb with|some _,some (N,_)=>ma l (tN N A)|_,_=>ma l A:=rfl
theorem Ox{G:GP}{β:af}{w0 w:World}:∀(l:List fh) (A:AW),Inv w0 G β A w→(∀e∈l,∀nd N aj,e.sy=some nd→e.nb=some (N,aj)→ZF G.n β N aj∧∀b u,A.get N=some b→b.obj= .n4 u→b=aj)→Inv w0 G β (ma l A) w
 |[],A,h,_=>h
 |e::l,A,h,hl=>by
  rw[UZ];have rest:=fun e' cS=>hl e' (xo _ cS)
  split
  ·rename_i nd N aj h1 h2;obtain⟨z1,z2⟩:=hl e xn _ _ _ h1 h2;refine Ox l _ (aT4 h z2 z1) fun e' cS nd' N' blk' h3 h4=>⟨(rest e' cS _ _ _ h3 h4).1,fun b u hb hu=> ?_⟩
   rcases aN7 N A N' with e1|e1
   ·exact(rest e' cS _ _ _ h3 h4).2 b u (e1▸hb) hu
   ·exact absurd hu (e1 u b hb)
  ·exact Ox l A h rest
theorem Jf:∀(l:List fh) (A:AW),(ma l A).next=A.next
 |[],_=>rfl
 |e::l,A=>by
  rw[UZ];split
  ·rw[Jf l];exact aK1 _ _
  ·exact Jf l A
def GJ{ρ:Type}(E:aq)(sq:List (Nat×List xO))(call:cT→List xM→AW→aZ xM)(ops:List Oper)(ih:List fh→Gt→AW→List Tr→Option ρ)(i:Nat)(aS:List fh)(g:Gt)(A:AW)(tr:List Tr):Option ρ:=
 match dB ops i with
 |none=>none
 |some o=>match qb ops g o with
  |none=>none
  |some wd=>
   bs (Nat.ble 2 (fj E o.op))
    (bs (ey (qU E sq A) aS) (tJ (ma (hM (fun e=>bit (fN ops i) e.i) aS) A) (fun A=>
     (bs wd
      (match ju E sq A g o.op with
      | .val v A'=>zg v (fun v=>tJ A' (fun A'=>ih (hM (fun e=>not (bit (fN ops i) e.i)) aS) (gU g o.dst v) A' (⟨i,o.dst,v⟩::tr)))
      | .call f args=>(match call f args A with
       |some [(v,A')]=>ih (hM (fun e=>not (bit (fN ops i) e.i)) aS) (gU g o.dst v) A' (⟨i,o.dst,v⟩::tr)
       |_=>none)
      | .fail=>none
      | .nd _=>none)
      (ih (hM (fun e=>not (bit (fN ops i) e.i)) aS) (gU g o.dst undef) A (⟨i,o.dst,undef⟩::tr))))) none)
    (bs wd
     (match Fo o.op E sq A g with
     | .val v A'=>zg v (fun v=>tJ A' (fun A'=>
      bs (Nat.beq (fj E o.op) 1)
       (match A'.get A.next with
       |some b=>ih (⟨i,o,g,v,true,some (A.next,b),none⟩::aS) (gU g o.dst v) A' (⟨i,o.dst,v⟩::tr)
       |none=>none)
       (ih (⟨i,o,g,v,true,none,none⟩::aS) (gU g o.dst v) A' (⟨i,o.dst,v⟩::tr))))
     | .fail=>(match A.tape with
      |[]=>none
      |nd::r=>match pF E sq A g o.op nd with
       |some v=>ih (⟨i,o,g,v,true,none,some nd⟩::aS) (gU g o.dst v) (A.pop r) (⟨i,o.dst,v⟩::tr)
       |none=>(match sR E nd A.next g o.op with
        |some (v,aj)=>ih (⟨i,o,g,v,true,some (A.next,aj),some nd⟩::aS) (gU g o.dst v) ((A.pop r).add aj) (⟨i,o.dst,v⟩::tr)
        |none=>none))
     |_=>none)
     (ih (⟨i,o,g,undef,false,none,none⟩::aS) (gU g o.dst undef) A (⟨i,o.dst,undef⟩::tr)))
def Bj{ρ:Type}(E:aq)(sq:List (Nat×List xO))(call:cT→List xM→AW→aZ xM)(ops:List Oper)(fin:List fh→Gt→AW→List Tr→Option ρ)(L:List Nat):List fh→Gt→AW→List Tr→Option ρ:=
 List.rec (motive:=fun _=>List fh→Gt→AW→List Tr→Option ρ) fin (fun i _ ih=>GJ E sq call ops ih i) L
def P'(E:aq)(sq:List (Nat×List xO))(aS:List fh)(_:Gt)(A:AW)(tr:List Tr):Option (List Tr×AW):=bs (ey (qU E sq A) aS) (some (tr,ma aS A)) none
def Gz(bJ:Nat)(o:Oper):Bool:=ey (fun e=>bs (Region.binds .any e) (bit bJ e.on) true) o.after.toList
def Ci(E:aq)(ops:List Oper)(ih:Nat→Option Nat→Bool)(i bJ:Nat)(uh:Option Nat):Bool:=
 match dB ops i with
 |none=>false
 |some o=>not (bit bJ i)&&Gz bJ o&& (match uh with|none=>true|some e=>bit (fN ops i) e)&&ih (Nat.lor bJ (Nat.pow 2 i)) (bs (Nat.ble 2 (fj E o.op)) (some i) uh)
def yk(E:aq)(ops:List Oper)(L:List Nat):Nat→Option Nat→Bool:=
 List.rec (motive:=fun _=>Nat→Option Nat→Bool) (fun _ _=>true) (fun i _ ih=>Ci E ops ih i) L
def tQ{α:Type}(f:Nat→α→Bool)(l:List α):Nat→Bool:=
 List.rec (motive:=fun _=>Nat→Bool) (fun _=>true) (fun a _ ih i=>bs (f i a) (ih (Nat.add i 1)) false) l
theorem Dc{α:Type}(f:Nat→α→Bool):∀(l:List α) (k:Nat),tQ f l k=true→∀i a,l[i]? =some a→f (k+i) a=true
 |[],_,_,i,a,h=>by simp at h
 |b::l,k,h,i,a,hi=>by
  have h':bs (f k b) (tQ f l (k+1)) false=true:=h;cases hb:f k b with
  |false=>rw[hb] at h';cases h'
  |true=>
   rw[hb,eg] at h';cases i with
   |zero=>simp at hi;subst hi;exact hb
   |succ i=>
    have:=Dc f l (k+1) h' i a (by simpa using hi);rw[show k+(i+1)=k+1+i by omega];exact this
def DQ(ops:List Oper)(i:Nat)(oi:Oper)(j:Nat)(oj:Oper):Bool:=
 match oj.dst with
 |none=>true
 |some t=>bs ((oi.looksAt ⟨ops⟩).contains t) (Nat.beq j i||bit (fN ops i) j||bit (fN ops j) i) true&& (match oi.dst with|some t'=>bs (Nat.beq t' t) (Nat.beq i j) true|none=>true)
def bQ7{α:Type}(f:α→Bool)(l:List α):Option α:=List.rec (motive:=fun _=>Option α) none (fun a _ ih=>bs (f a) (some a) ih) l
def YA(E:aq)(n:Nat)(ops:List Oper)(L:List Nat):Bool:=
 yk E ops L 0 none&&tQ (fun i _=>vM i L) ops 0&&tQ (fun i oi=>tQ (fun j oj=>DQ ops i oi j oj) ops 0) ops 0&&ey (fun o=>match o.dst with|some d=>Nat.blt d n|none=>true) ops&&Region.noSelect ⟨ops⟩
theorem VN{ops:List Oper}(h:tQ (fun i oi=>tQ (fun j oj=>DQ ops i oi j oj) ops 0) ops 0=true):Ew ops:=by
 have key:∀(i:Nat) (oi:Oper) (j:Nat) (oj:Oper),ops[i]? =some oi→ops[j]? =some oj→DQ ops i oi j oj=true:=fun i oi j oj hi hj=>by
  have h1:=Dc _ ops 0 h i oi hi;rw[Nat.zero_add] at h1;have h2:=Dc _ ops 0 h1 j oj hj
  rwa [Nat.zero_add] at h2
 refine⟨fun i oi j oj t hi hj ht hd=> ?_,fun i oi j oj t hi hj qC io=> ?_⟩
 ·have hb:=key i oi j oj hi hj;unfold DQ at hb;rw[hd] at hb;simp only [xf] at hb;have hc:(oi.looksAt ⟨ops⟩).contains t=true:=by simpa using ht
  rw[hc,eg] at hb;simp only [Bool.or_eq_true] at hb;rcases hb.1 with(e|e)|e
  ·exact .inl (xb e)
  ·exact .inr (.inl e)
  ·exact .inr (.inr e)
 ·have hb:=key i oi j oj hi hj;unfold DQ at hb;rw[io] at hb;simp only [xf,qC] at hb;have:Nat.beq t t=true:=by rw[na];simp
  rw[this,eg] at hb;exact xb hb.2
def YB(E:aq)(ops:List Oper)(bJ:Nat)(cT3:Bool)(rest:List Nat):Option Nat:=
 bQ7 (fun i=>match dB ops i with|some o=>Gz bJ o&& (not cT3||Nat.blt (fj E o.op) 2)|none=>false) rest
def bm8(E:aq)(ops:List Oper)(aN:Nat):Nat→List Nat→List Nat:=
 Nat.rec (motive:=fun _=>Nat→List Nat→List Nat) (fun _ _=>[])
  (fun _ ih bJ rest=>match YB E ops bJ true rest with
   |some i=>i::ih (Nat.lor bJ (Nat.pow 2 i)) (hM (fun j=>not (Nat.beq j i)) rest)
   |none=>match YB E ops bJ false rest with
    |some i=>i::ih (Nat.lor bJ (Nat.pow 2 i)) (hM (fun j=>not (Nat.beq j i)) rest)
    |none=>[]) aN
def JU(E:aq)(ops:List Oper):List Nat:=bm8 E ops (bI ops) 0 (sE (fun i=>i) (bI ops) [])
def PH(n:Nat)(fr:Fr)(tr:List Tr):Option Fr:=
 List.rec (motive:=fun _=>Option Fr) (some fr) (fun x _ ih=>match ih with
  |none=>none
  |some cY=>match x.dst with
   |none=>some cY
   |some d=>bs (Nat.blt d n) (some (cY.set d x.v)) none) tr
theorem UY{n:Nat}{fr:Fr}:∀(tr:List Tr) (cY:Fr),PH n fr tr=some cY→∀t,cY.get J t=gv (fun _=>True) tr (fr.get J) t∨cY.get J t=J
 |[],cY,h,t=>by cases h;exact .inl rfl
 |x::tr,cY,h,t=>by
  have h':(match PH n fr tr with
   |none=>none
   |some cY=>match x.dst with
    |none=>some cY
    |some d=>bs (Nat.blt d n) (some (cY.set d x.v)) none)=some cY:=h
  clear h;rw[NW,C5];split at h'
  ·cases h'
  ·rename_i f1 AL;have ih:=UY tr f1 AL t;split at h'
   ·rename_i hd;cases h';rw[if_neg (by rw[hd];simp)];exact ih
   ·rename_i d hd;replace h':=au h';rcases h' with⟨_,h'⟩|⟨_,h'⟩
    ·cases h';by_cases uO:d=t
     ·subst uO;rw[if_pos hd];rcases T.yU J f1 d x.v with e|e
      ·exact .inl e
      ·exact .inr e.1
     ·rw[if_neg (by rw[hd];intro e;exact uO (xC e)),T.wc J f1 d t x.v uO];exact ih
    ·cases h'
def T.has{α:Type}(t:T α):Nat→Bool:=
 T.rec (motive:=fun _=>Nat→Bool) (fun _=>false)
  (fun _ _ _ gl gr n=>Nat.rec (motive:=fun _=>Bool) true (fun p _=>Nat.rec (motive:=fun _=>Bool) (gl (Nat.div p 2)) (fun _ _=>gr (Nat.div p 2)) (Nat.mod p 2)) n) t
theorem T.aX7{α:Type}(l r:T α)(v:α)(n:Nat):T.has (.node l v r) n=if n=0 then true else if n%2=1 then l.has (n/2) else r.has (n/2 - 1):=by
 cases n with
 |zero=>rfl
 |succ p=>
  show Nat.rec (motive:=fun _=>Bool) (l.has (p/2)) (fun _ _=>r.has (p/2)) (Nat.mod p 2)=_;rw[mO,if_neg (show ¬p+1=0 by omega)];by_cases h:p%2=0
  ·rw[if_pos h,if_pos (by omega),show(p+1)/2=p/2 by omega]
  ·rw[if_neg h,if_neg (by omega),show(p+1)/2 - 1=p/2 by omega]
theorem T.NX{α:Type}(d:α):∀(t:T α) (i:Nat) (x:α),t.has i=true→(t.set i x).get d i=x
 | .nil,_,_,h=>by cases h
 | .node l v r,i,x,h=>by
  rw[T.aX7] at h;rw[T.OD];by_cases h0:i=0
  ·subst h0;rw[if_pos rfl,T.jT,if_pos rfl]
  ·rw[if_neg h0] at h⊢;by_cases h1:i%2=1
   ·rw[if_pos h1] at h⊢;rw[T.jT,if_neg h0,if_pos h1];exact T.NX d l _ x h
   ·rw[if_neg h1] at h⊢;rw[T.jT,if_neg h0,if_neg h1];exact T.NX d r _ x h
def vp{ρ:Type}(fr:Fr)(dst:Option Tmp)(v:xM)(k:Fr→Option ρ):Option ρ:=
 Option.rec (motive:=fun _=>Fr→xM→(Fr→Option ρ)→Option ρ) (fun fr _ k=>k fr)
  (fun d fr v k=>Bool.rec (motive:=fun _=>Option ρ) none (fr.k9 d v k) (fr.has d)) dst fr v k
theorem bd3{ρ:Type}{fr:Fr}{dst:Option Tmp}{v:xM}{k:Fr→Option ρ}{res:ρ}(h:vp fr dst v k=some res):∃cY:Fr,k cY=some res∧cY.get J=gU (fr.get J) dst v:=by
 cases dst with
 |none=>exact⟨fr,h,rfl⟩
 |some d=>
  have h':Bool.rec (motive:=fun _=>Option ρ) none (fr.k9 d v k) (fr.has d)=some res:=h;cases hd:fr.has d with
  |false=>rw[hd] at h';cases h'
  |true=>
   rw[hd] at h';have h2:fr.k9 d v k=some res:=h';rw[T.JO] at h2;refine⟨fr.set d v,h2,funext fun t=> ?_⟩;rw[C5];by_cases ht:d=t
   ·subst ht;rw[if_pos rfl];exact T.NX J fr d v hd
   ·rw[if_neg (fun e=>ht (xC e))];exact T.wc J fr d t v ht
def O8{ρ:Type}(E:aq)(sq:List (Nat×List xO))(call:cT→List xM→AW→aZ xM)(ops:List Oper)(ih:List fh→Fr→AW→List Tr→Option ρ)(i:Nat)(aS:List fh)(fr:Fr)(A:AW)(tr:List Tr):Option ρ:=
 match dB ops i with
 |none=>none
 |some o=>match qb ops (fr.get J) o with
  |none=>none
  |some wd=>
   bs (Nat.ble 2 (fj E o.op))
    (bs (ey (qU E sq A) aS) (tJ (ma (hM (fun e=>bit (fN ops i) e.i) aS) A) (fun A=>
     (bs wd
      (match ju E sq A (fr.get J) o.op with
      | .val v A'=>zg v (fun v=>tJ A' (fun A'=>vp fr o.dst v (fun fr=>ih (hM (fun e=>not (bit (fN ops i) e.i)) aS) fr A' (⟨i,o.dst,v⟩::tr))))
      | .call f args=>(match call f args A with
       |some [(v,A')]=>vp fr o.dst v (fun fr=>ih (hM (fun e=>not (bit (fN ops i) e.i)) aS) fr A' (⟨i,o.dst,v⟩::tr))
       |_=>none)
      | .fail=>none
      | .nd _=>none)
      (vp fr o.dst undef (fun fr=>ih (hM (fun e=>not (bit (fN ops i) e.i)) aS) fr A (⟨i,o.dst,undef⟩::tr)))))) none)
    (bs wd
     (match Fo o.op E sq A (fr.get J) with
     | .val v A'=>zg v (fun v=>tJ A' (fun A'=>
      bs (Nat.beq (fj E o.op) 1)
       (match A'.get A.next with
       |some b=>vp fr o.dst v (fun yK=>ih (⟨i,o,fr.get J,v,true,some (A.next,b),none⟩::aS) yK A' (⟨i,o.dst,v⟩::tr))
       |none=>none)
       (vp fr o.dst v (fun yK=>ih (⟨i,o,fr.get J,v,true,none,none⟩::aS) yK A' (⟨i,o.dst,v⟩::tr)))))
     | .fail=>(match A.tape with
      |[]=>none
      |nd::r=>match pF E sq A (fr.get J) o.op nd with
       |some v=>vp fr o.dst v (fun yK=>ih (⟨i,o,fr.get J,v,true,none,some nd⟩::aS) yK (A.pop r) (⟨i,o.dst,v⟩::tr))
       |none=>(match sR E nd A.next (fr.get J) o.op with
        |some (v,aj)=>vp fr o.dst v (fun yK=>ih (⟨i,o,fr.get J,v,true,some (A.next,aj),some nd⟩::aS) yK ((A.pop r).add aj) (⟨i,o.dst,v⟩::tr))
        |none=>none))
     |_=>none)
     (vp fr o.dst undef (fun yK=>ih (⟨i,o,fr.get J,undef,false,none,none⟩::aS) yK A (⟨i,o.dst,undef⟩::tr))))
def GI{ρ:Type}(E:aq)(sq:List (Nat×List xO))(call:cT→List xM→AW→aZ xM)(ops:List Oper)(fin:List fh→Gt→AW→List Tr→Option ρ)(L:List Nat):List fh→Fr→AW→List Tr→Option ρ:=
 List.rec (motive:=fun _=>List fh→Fr→AW→List Tr→Option ρ) (fun aS fr A tr=>fin aS (fr.get J) A tr) (fun i _ ih=>O8 E sq call ops ih i) L
theorem Ol{ρ:Type}{E:aq}{sq:List (Nat×List xO)}{call:cT→List xM→AW→aZ xM}{ops:List Oper}{fin:List fh→Gt→AW→List Tr→Option ρ}{res:ρ}:
 ∀(L:List Nat) (aS:List fh) (fr:Fr) (A:AW) (tr:List Tr),GI E sq call ops fin L aS fr A tr=some res→Bj E sq call ops fin L aS (fr.get J) A tr=some res
 |[],aS,fr,A,tr,h=>h
 |i::L,aS,fr,A,tr,h=>by
  have h':O8 E sq call ops (GI E sq call ops fin L) i aS fr A tr=some res:=h;show GJ E sq call ops (Bj E sq call ops fin L) i aS (fr.get J) A tr=some res;clear h;have put:∀(dst:Option Tmp) (v:xM) (p:List fh) (A':AW) (t:List Tr),vp fr dst v (fun fr=>GI E sq call ops fin L p fr A' t)=some res→Bj E sq call ops fin L p (gU (fr.get J) dst v) A' t=some res:=fun dst v p A' t hp=>by
   obtain⟨cY,h1,h2⟩:=bd3 hp;rw[←h2];exact Ol L p cY A' t h1
  unfold O8 at h';unfold GJ;cases ho:dB ops i with
  |none=>rw[ho] at h';cases h'
  |some o=>
   rw[ho] at h';simp only at h'⊢;cases hw:qb ops (fr.get J) o with
   |none=>rw[hw] at h';cases h'
   |some wd=>
    rw[hw] at h';simp only at h'⊢;cases hk:Nat.ble 2 (fj E o.op) with
    |true=>
     rw[hk,eg] at h';rw[eg];cases hs:ey (qU E sq A) aS with
     |false=>rw[hs,gN] at h';cases h'
     |true=>
      rw[hs,eg,yX] at h';rw[eg,yX];cases wd with
      |false=>rw[gN] at h';rw[gN];exact put _ _ _ _ _ h'
      |true=>
       rw[eg] at h';rw[eg];cases eE:ju E sq (ma (hM (fun e=>bit (fN ops i) e.i) aS) A) (fr.get J) o.op with
       |fail=>rw[eE] at h';cases h'
       |nd q=>rw[eE] at h';cases h'
       |val v A'=>
        rw[eE] at h';simp only [F',yX] at h'⊢;exact put _ _ _ _ _ h'
       |call f args=>
        rw[eE] at h';simp only at h'⊢;split at h'
        ·rename_i v A' hc;exact put _ _ _ _ _ h'
        ·cases h'
    |false=>
     rw[hk,gN] at h';rw[gN];cases wd with
     |false=>rw[gN] at h';rw[gN];exact put _ _ _ _ _ h'
     |true=>
      rw[eg] at h';rw[eg];cases eE:Fo o.op E sq A (fr.get J) with
      |fail=>
       rw[eE] at h';simp only at h'⊢;split at h'
       ·cases h'
       ·split at h'
        ·exact put _ _ _ _ _ h'
        ·split at h'
         ·exact put _ _ _ _ _ h'
         ·cases h'
      |nd q=>rw[eE] at h';cases h'
      |call f args=>rw[eE] at h';cases h'
      |val v A'=>
       rw[eE] at h';simp only [F',yX] at h'⊢;cases hb:Nat.beq (fj E o.op) 1 with
       |true=>
        rw[hb,eg] at h';rw[eg];split at h'
        ·rename_i b hg;exact put _ _ _ _ _ h'
        ·cases h'
       |false=>
        rw[hb,gN] at h';rw[gN];exact put _ _ _ _ _ h'
theorem bq5{ops:List Oper}(hs:Ew ops){tr:List Tr}(hw:nZ ops tr){x0:Tr}(hx:x0∈tr){D:Nat→Prop}(hD: ¬D x0.i)(g0:Gt)(t:Nat):
 gv (fun j=>D j∨j=x0.i) tr g0 t=gU (gv D tr g0) x0.dst x0.v t:=by
 rw[C5];obtain⟨o0,FB,yG⟩:=hw.op x0 hx;have z6:∀x∈tr,∀y∈tr,x.dst=some t→y.dst=some t→x=y:=fun x hx y hy h1 h2=>by
  obtain⟨ox,Nl,Ns⟩:=hw.op x hx;obtain⟨oy,TW,IS⟩:=hw.op y hy;exact hw.HK x hx y hy (hs.2 _ _ _ _ t Nl TW (Ns▸h1) (IS▸h2))
 by_cases hd:x0.dst=some t
 ·rw[if_pos hd];rcases ww (fun j=>D j∨j=x0.i) g0 t tr with⟨x,nv,_,yA,hv⟩|⟨gX,_⟩
  ·rw[hv,z6 x nv x0 hx yA hd]
  ·exact absurd hd (gX x0 hx (.inr rfl))
 ·rw[if_neg hd];rcases ww (fun j=>D j∨j=x0.i) g0 t tr with⟨x,nv,NC,yA,hv⟩|⟨gX,hv⟩
  ·have cQ8:D x.i:=NC.resolve_right (fun e=>hd (by rw[←hw.HK x nv x0 hx e];exact yA));rcases ww D g0 t tr with⟨y,hy,_,Fu,cM⟩|⟨Sz,_⟩
   ·rw[hv,cM,z6 x nv y hy yA Fu]
   ·exact absurd yA (Sz x nv cQ8)
  ·rcases ww D g0 t tr with⟨y,hy,AS,Fu,_⟩|⟨_,cM⟩
   ·exact absurd Fu (gX y hy (.inl AS))
   ·rw[hv,cM]
theorem cf.gU{β:af}{n:Nat}{g:Gt}{a:Act}(h:cf β n g a.tmps){dst:Option Tmp}(hd:∀d,dst=some d→d<n){v v':xM}(hv:ai β v v'):cf β n (Go.Ex.gU g dst v) (a.put dst v').tmps:=by
 cases dst with
 |none=>exact h
 |some d=>
  have pZ:=hd d rfl;refine⟨by simp[Act.put,h.1],fun t=> ?_⟩;rw[C5];show ai β _ ((a.tmps.setIfInBounds d v').getD t undef);by_cases uO:d=t
  ·subst uO;have hs:d<a.tmps.size:=by rw[h.1];exact pZ
   rw[if_pos rfl];have:(a.tmps.setIfInBounds d v').getD d undef=v':=by simp[hs]
   rw[this];exact hv
  ·rw[if_neg (fun e=>uO (xC e))];have:(a.tmps.setIfInBounds d v').getD t undef=a.tmps.getD t undef:=by simp[Array.getElem?_setIfInBounds_ne uO]
   rw[this];exact h.2 t
theorem cf.ext{β:af}{n:Nat}{g g':Gt}{tmps:Array xM}(h:cf β n g tmps)(e:∀t,g' t=g t):cf β n g' tmps:=⟨h.1,fun t=>by rw[e t];exact h.2 t⟩
theorem UM{ops:List Oper}{g g':Gt}{o:Oper}(h:∀t∈o.looksAt ⟨ops⟩,g t=g' t):qb ops g o=qb ops g' o:=by
 unfold qb;split
 ·rfl
 ·rename_i j want hg;rw[eM];cases hj:ops[j]? with
  |none=>rfl
  |some og=>
   cases hd:og.dst with
   |none=>simp only [hd]
   |some t=>
    simp only [hd];rw[h t (by
     unfold Oper.looksAt;rw[hg];refine List.mem_append_right _ ?_;simp[hj,hd])]
theorem Je{E:aq}{ops:List Oper}{g g':Gt}{o:Oper}(h:∀t∈o.looksAt ⟨ops⟩,g t=g' t):∀x∈o.op.operands,ev E g x=ev E g' x:=fun x hx=>aY3 fun t ht=>h t (by
 unfold Oper.looksAt;refine List.mem_append_left _ (List.mem_filterMap.2 ⟨x,by simpa using hx,by rw[ht]⟩))
structure PE (E:aq) (sq:List (Nat×List xO)) (δ:Nat→Option D) (ops:List Oper) (g0:Gt) (tr:List Tr) (e:fh):Prop where
 ex:∃pre x0 tl,tr=pre++x0::tl∧x0.i=e.i∧x0.v=e.v∧nZ ops (x0::tl)∧e.g=gv (fun _=>True) tl g0
 op:ops[e.i]? =some e.o
 kind:fj E e.o.op≤1
 want:qb ops e.g e.o=some e.wanted
 unw:e.wanted=false→e.v=undef
 qt:e.wanted=true→e.nb=none→e.sy=none→fj E e.o.op=0∧∃A1,aF E sq A1 e.g e.o.op= .val e.v A1
 fr:e.wanted=true→e.sy=none→∀N aj,e.nb=some (N,aj)→fj E e.o.op=1∧∃A1 A2,A1.next=N∧A1.get N=none∧aF E sq A1 e.g e.o.op= .val e.v A2∧A2.get N=some aj
 sy:∀nd,e.sy=some nd→e.wanted=true∧dt δ nd∧∀N aj,e.nb=some (N,aj)→sR E nd N e.g e.o.op=some (e.v,aj)
theorem PE.cons{E:aq}{sq:List (Nat×List xO)}{δ:Nat→Option D}{ops:List Oper}{g0:Gt}{tr:List Tr}{e:fh}(h:PE E sq δ ops g0 tr e)(x:Tr):PE E sq δ ops g0 (x::tr) e:=by
 obtain⟨pre,x0,tl,h1,h2⟩:=h.ex;exact⟨⟨x::pre,x0,tl,by rw[h1];rfl,h2⟩,h.op,h.kind,h.want,h.unw,h.qt,h.fr,h.sy⟩
structure PJ (w0:World) (E:aq) (n:Nat) (ops:List Oper) (g0:Gt) (β0:af) (A0:AW) (ds:List Deferred) (D:Nat→Prop) (β:af) (A:AW) (aS:List fh) (tr:List Tr) (a:Act) (w:World):Prop where
 qE:AX ops D
 Mo:∀x∈tr,∀o,ops[x.i]? =some o→2≤fj E o.op→D x.i
 un:∀x∈tr,¬D x.i→∃e∈aS,e.i=x.i
 only:∀j,D j→∃x∈tr,x.i=j
 frame:cf β n (gv D tr g0) a.tmps
 inv:Inv w0 E.G β A w
 fresh:∀e∈aS,¬D e.i→∀N aj,e.nb=some (N,aj)→β N=none∧N<A.next∧A0.next≤N∧β.o N=none
 n4:∀e∈aS,D e.i→∀nd N aj,e.sy=some nd→e.nb=some (N,aj)→ZF E.G.n β N aj
 grow:β0.grow β A0.next
 dz:A0.next≤A.next
 defers:a.defers=ds
section
variable{P:Program}{E:aq}(ok:E.Ok P){sq:List (Nat×List xO)}(ba:E.Seq P sq){w0:World}{n:Nat}{ops:List Oper}(hs:Ew ops)(kM:∀o∈ops,∀d,o.dst=some d→d<n){g0:Gt}{β0:af}{A0:AW}{ds:List Deferred}{ro:Option Nat}
include ok ba hs kM
theorem VC{D:Nat→Prop}{β:af}{A:AW}{aS:List fh}{tr:List Tr}{a:Act}{w:World}(hw:nZ ops tr)(j:PJ w0 E n ops g0 β0 A0 ds D β A aS tr a w)(jO:∀e∈aS,PE E sq β0.d ops g0 tr e)(o7:∀e∈aS,∀e'∈aS,∀N b b',e.nb=some (N,b)→e'.nb=some (N,b')→e.i=e'.i)(hun:∀e∈aS,∀e'∈aS,e.i=e'.i→e=e')
 {e:fh} (he:e∈aS) (aQ:qU E sq A e=true) (hn: ¬D e.i) (hr:∀ed∈e.o.after.toList,Region.binds .any ed=true→D ed.on) {Q:Exit→Act→World→Prop} {K:Act→World→Prop}
 (hK:∀ah a' w',PJ w0 E n ops g0 β0 A0 ds (fun x=>D x∨x=e.i) ah A aS tr a' w'→K a' w'):wpOpIn (jY ro) 0 P ⟨ops⟩ Q e.i K a w:=by
 have pe:=jO e he;obtain⟨pre,x0,tl,Cx,rq,hxv,TI,hg⟩:=pe.ex;have Sp:x0∈tr:=by rw[Cx];exact List.mem_append_right _ xn
 have cL1:x0.dst=e.o.dst:=by
  obtain⟨o1,pX,qC⟩:=hw.op x0 Sp;rw[rq,pe.op] at pX;cases pX;exact qC
 have ag:∀t∈e.o.looksAt ⟨ops⟩,gv D tr g0 t=e.g t:=fun t ht=>by rw[hg];exact ac5 hs j.qE pe.op hr hn Cx rq hw TI g0 ht
 have hom:e.o∈ops:=xu pe.op;have cP8:AX ops (fun x=>D x∨x=e.i):=fun i oi hi hd ed IQ hb=>by
  rcases hd with hd|hd
  ·exact .inl (j.qE i oi hi hd ed IQ hb)
  ·subst hd;rw[pe.op] at hi;cases hi;exact .inl (hr ed IQ hb)
 have mk:∀ah v' w',ai ah e.v v'→Inv w0 E.G ah A w'→β.le ah→(∀B,B<A.next→(∀N b,e.nb=some (N,b)→B≠N)→ah B=β B∧ah.o B=β.o B)→β0.grow ah A0.next→(∀nd N aj,e.sy=some nd→e.nb=some (N,aj)→ZF E.G.n ah N aj)→PJ w0 E n ops g0 β0 A0 ds (fun x=>D x∨x=e.i) ah A aS tr (a.put e.o.dst v') w':=fun ah v' w' hv bV aK Ls hg0 TE=>by
  refine⟨cP8,fun x hx o ho hk=> .inl (j.Mo x hx o ho hk),fun x hx iK=>j.un x hx (fun h=>iK (.inl h)),fun i hi=> ?_,?_,bV,fun e' cS au2 N aj H4=> ?_,fun e' cS kx nd N aj h1 h2=> ?_,hg0,j.dz,?_⟩
  ·rcases hi with hi|hi
   ·exact j.only i hi
   ·exact⟨x0,Sp,rq.trans hi.symm⟩
  ·have h1:=(j.frame.mono aK).gU (dst:=e.o.dst) (fun d hd=>kM e.o hom d hd) hv;refine h1.ext (fun t=> ?_);have h2:=bq5 hs hw Sp (D:=D) (by rw[rq];exact hn) g0 t;rw[rq,cL1,hxv] at h2;exact h2
  ·obtain⟨h1,h2,h3,h4⟩:=j.fresh e' cS (fun h=>au2 (.inl h)) N aj H4;obtain⟨g1,g2⟩:=Ls N h2 (fun N2 b2 cx hNN=>by subst hNN;exact au2 (.inr (o7 e' cS e he N aj b2 H4 cx)));exact⟨by rw[g1];exact h1,h2,h3,by rw[g2];exact h4⟩
  ·rcases kx with kx|kx
   ·exact(j.n4 e' cS kx nd N aj h1 h2).mono aK
   ·have:=hun e' cS e he kx;subst this;exact TE nd N aj h1 h2
  ·cases e.o.dst<;>exact j.defers
 unfold wpOpIn;have eE:(⟨ops⟩:Array Oper)[e.i]? =some e.o:=by simpa using pe.op
 simp only [eE];have zS:=Gf (a:=a) (by rw[UM ag];exact pe.want) j.frame;rw[zS];cases vO:e.wanted with
 |false=>
  rw[if_neg (by simp)];refine⟨fun _ _=>trivial,hK β _ w (mk β undef w ?_ j.inv (af.le_refl _) (fun _ _ _=>⟨rfl,rfl⟩) j.grow (fun nd N aj h1 _=>by have:=(pe.sy nd h1).1;rw[vO] at this;cases this))⟩;rw[pe.unw vO];exact ai.undef
 |true=>
  rw[if_pos rfl];unfold Oper.wpIn;refine⟨fun _ _=>trivial,?_⟩;have oc:∀A1,aF E sq A1 (gv D tr g0) e.o.op=aF E sq A1 e.g e.o.op:=fun A1=>Vo (Je ag)
  cases uF:e.sy with
  |some nd=>
   obtain⟨_,h3,Nf⟩:=pe.sy nd uF;cases pN:e.nb with
   |some nb=>
    obtain⟨N,aj⟩:=nb;have hz:=Nf N aj pN;obtain⟨Nx,SQ,cQ7,sY⟩:=j.fresh e he hn N aj pN;have dX:=(aN5 (nd:=nd) (N:=N) (Je ag)).trans hz;obtain⟨ah,v',w',aJ,hv,bV,aK,AL,pX,gw,qC,nv,TE⟩:=bi5 ok j.inv j.frame dX (by rw[j.grow.d];exact h3) SQ Nx sY (fun b hb=>by
     unfold qU at aQ;rw[vO,eg,pN] at aQ;simp only [hb] at aQ;exact JH aQ)
    have cL5:Oper.semAt ro a.eval e.o=execOp a.eval e.o:=Oper.semAt_eq ro a.eval e.o (fun c hc=>by
     unfold sR at hz;rw[hc] at hz;cases hz)
    rw[cL5,aJ];exact hK ah _ w' (mk ah v' w' hv bV aK (fun B _ hB=>⟨AL B (hB N aj pN),pX B (hB N aj pN)⟩) ⟨fun B hB=>by rw[AL B (by omega)];exact j.grow.f B hB,fun b c h=>gw b c (j.grow.z b c h),fun B hB=>by rw[pX B (by omega)];exact j.grow.o B hB,qC.trans j.grow.d,nv.trans j.grow.x⟩ (fun Fp N2 uq _ h5=>by rw[pN] at h5;cases h5;exact TE))
   |none=>
   have h2:pF E sq A e.g e.o.op nd=some e.v:=by
    unfold qU at aQ;rw[vO,eg,pN,uF] at aQ;simp only at aQ;split at aQ
    ·rename_i v2 h4;rw[h4,Dp aQ]
    ·cases aQ
   have h5:=(U1 (Je ag) nd).trans h2;obtain⟨v',aJ,hv⟩:=Xh ok ba j.inv j.frame h5 (by rw[j.grow.d];exact h3);rw[aO6 h5,aJ];exact hK β _ w (mk β v' w hv j.inv (af.le_refl _) (fun _ _ _=>⟨rfl,rfl⟩) j.grow (fun Fp N2 uq _ h5=>by rw[pN] at h5;cases h5))
  |none=>
  cases pN:e.nb with
  |none=>
   obtain⟨jQ,A1,AT⟩:=pe.qt vO pN uF;have au1:aF E sq A (gv D tr g0) e.o.op= .val e.v A:=by
    rw[oc];unfold qU at aQ;rw[vO,eg,pN,uF] at aQ;simp only [GL] at aQ;cases hp:qG e.o.op with
    |true=>exact(VQ hp AT).2
    |false=>
     rw[hp,gN] at aQ;split at aQ
     ·rename_i v2 A3 h3;have:=N3 jQ h3;subst this;rw[h3,Dp aQ]
     ·cases aQ
   obtain⟨ah,v',w',aJ,hv,bV,kT,_⟩:=Qy ok ba j.inv j.frame au1;have res:=hK ah _ w' (mk ah v' w' hv bV (j.inv.fX kT) (fun B hB _=>⟨kT.f B hB,kT.o B hB⟩) (af.iZ j.grow kT j.dz) (fun Fp N2 uq h5 _=>by rw[uF] at h5;cases h5));rw[Oh au1 (by simp)];rcases aJ with eC|⟨eC,rfl⟩
   ·rw[eC];exact res
   ·rw[eC];exact res
  |some nb=>
   obtain⟨N,aj⟩:=nb;obtain⟨eP,A1,A2,hN1,hN0,AT,CJ⟩:=pe.fr vO uF N aj pN;obtain⟨cs,es,bC,ty,v',kn,aJ,cw,hv⟩:=aX9 (A:=A1) ok j.inv j.frame eP ((oc A1).trans AT);have sO:aj=⟨.cells cs,es,true,false,ty⟩:=by
    rw[kn] at CJ;rcases A1.tG ⟨.cells cs,es,true,false,ty⟩ (by rw[hN1];exact hN0) N with⟨e1,_⟩|e1
    ·rw[e1] at CJ;cases CJ;rfl
    ·rw[e1,hN0] at CJ;cases CJ
   obtain⟨Nx,SQ,cQ7,_⟩:=j.fresh e he hn N aj pN;have aK:β.le (β.put N ⟨w.heap.size,0,es,bC.length⟩):=⟨fun B lb eb=>by
    rw[af.rR];rw[if_neg (fun e2=>by rw[e2,Nx] at eb;cases eb)];exact eb,fun _ _ h=>h,fun _ _ h=>h,rfl,rfl⟩
   have bV:=j.inv.map N SQ Nx (.cells ⟨bC⟩ ty) ⟨w.heap.size,0,es,bC.length⟩ rfl (fun b hb=>by
    unfold qU at aQ;rw[vO,eg,pN] at aQ;simp only [hb] at aQ;have:=JH aQ;subst this;rw[sO];have ES:=cw.mono aK;refine⟨⟨bC⟩,ty,(0,0),rfl,rfl,by simp[ES.1],fun i v hv=> ?_,fun _=>rfl,fun _=>by simp[ES.1],rfl,fun _=>rfl⟩;obtain⟨v2,cM,bK⟩:=ES.get hv;exact⟨v2,by simpa using cM,bK⟩)
   rw[Oh AT (by simp),aJ];refine hK _ _ _ (mk _ v' _ (hv _ (by rw[hN1];exact jl _ _ _)) bV aK (fun B hB bA=>⟨?_,rfl⟩) ⟨fun B hB=> ?_,j.grow.z,j.grow.o,j.grow.d,j.grow.x⟩ (fun Fp N2 uq h5 _=>by rw[uF] at h5;cases h5))
   ·rw[af.rR];rw[if_neg (bA N aj pN)]
   ·rw[af.rR];by_cases hBN:B=N
    ·omega
    ·rw[if_neg hBN];exact j.grow.f B hB
end
theorem Ks{D D':Nat→Prop}{g0:Gt}:∀{tr:List Tr},(∀x∈tr,D x.i↔D' x.i)→gv D tr g0=gv D' tr g0
 |[],_=>rfl
 |x::tr,h=>by
  have ih:=Ks (g0:=g0) (tr:=tr) (fun y hy=>h y (xo _ hy));rw[gv,gv,ih];by_cases hD:D x.i
  ·rw[if_pos hD,if_pos ((h x xn).1 hD)]
  ·rw[if_neg hD,if_neg (fun e=>hD ((h x xn).2 e))]
theorem aL5{D:Nat→Prop}{g0:Gt}{x:Tr}{tr:List Tr}(h:D x.i):gv D (x::tr) g0=gU (gv D tr g0) x.dst x.v:=by rw[gv,if_pos h]
theorem US{D:Nat→Prop}{g0:Gt}{x:Tr}{tr:List Tr}(h: ¬D x.i):gv D (x::tr) g0=gv D tr g0:=by rw[gv,if_neg h]
def PN(A:AW)(aS:List fh):Prop:=(∀e∈aS,∀N b,e.nb=some (N,b)→N<A.next)∧(∀e∈aS,∀e'∈aS,∀N b b',e.nb=some (N,b)→e'.nb=some (N,b')→e.i=e'.i)∧∀e∈aS,∀e'∈aS,e.i=e'.i→e=e'
theorem N7{ops:List Oper}{D:Nat→Prop}:∀{tr:List Tr},nZ ops tr→(∃x∈tr,¬D x.i)→∃x∈tr,¬D x.i∧∃o,ops[x.i]? =some o∧∀e∈o.after.toList,Region.binds .any e=true→D e.on
 |[],_,⟨x,hx,_⟩=>by cases hx
 |y::tr,⟨h1,h2,o,ho,hd,he⟩,⟨x,hx,hn⟩=>by
  by_cases FH:∃z∈tr,¬D z.i
  ·obtain⟨z,hz,h⟩:=N7 h1 FH;exact⟨z,xo _ hz,h⟩
  ·have all:∀z∈tr,D z.i:=fun z hz=>Classical.byContradiction fun h=>FH ⟨z,hz,h⟩
   cases hx with
   |head=>
    refine⟨y,xn,hn,o,ho,fun e vV hb=> ?_⟩;obtain⟨z,hz,Ct⟩:=he e vV hb;exact Ct▸all z hz
   |tail _ hx=>exact absurd (all x hx) hn
theorem OS{E:aq}{ops:List Oper}:∀(L:List Nat) (bJ e0:Nat),yk E ops L bJ (some e0)=true→bit bJ e0=true→∀i∈L,∃e,(e=e0∨e∈L)∧e≠i∧bit (fN ops i) e=true
 |[],_,_,_,_,i,hi=>by cases hi
 |k::L,bJ,e0,h,rD,i,hi=>by
  have h':Ci E ops (yk E ops L) k bJ (some e0)=true:=h;clear h;unfold Ci at h';split at h'
  ·cases h'
  ·rename_i o ho;simp only [xf,Bool.not_eq_true'] at h';obtain⟨⟨⟨hk,ez⟩,hb⟩,oN⟩:=h';have bA:e0≠k:=fun e=>by rw[e] at rD;rw[rD] at hk;cases hk
   cases hi with
   |head=>exact⟨e0,.inl rfl,bA,hb⟩
   |tail _ hi=>
    have H':∀q,bit (Nat.lor bJ (Nat.pow 2 k)) q=(bit bJ q||decide (k=q)):=fun q=>by
     rw[u9,u9];show(bJ|||2^k).testBit q=_;rw[Nat.testBit_or,Nat.testBit_two_pow]
    cases jy:Nat.ble 2 (fj E o.op) with
    |true=>
     rw[jy,eg] at oN;obtain⟨e,h1,h2,h3⟩:=OS L _ k oN (by rw[H'];simp) i hi;refine⟨e,.inr ?_,h2,h3⟩;rcases h1 with rfl|h1
     ·exact xn
     ·exact xo _ h1
    |false=>
     rw[jy,gN] at oN;obtain⟨e,h1,h2,h3⟩:=OS L _ e0 oN (by rw[H',rD];rfl) i hi;refine⟨e,?_,h2,h3⟩;rcases h1 with h1|h1
     ·exact .inl h1
     ·exact .inr (xo _ h1)
section
variable{P:Program}{E:aq}(ok:E.Ok P){sq:List (Nat×List xO)}(ba:E.Seq P sq){w0:World}{n:Nat}{ops:List Oper}(hs:Ew ops)(kM:∀o∈ops,∀d,o.dst=some d→d<n){g0:Gt}{β0:af}{A0:AW}{ds:List Deferred}{ro:Option Nat}
 {call:cT→List xM→AW→aZ xM} (hc:fG P E call)
theorem be3{D:Nat→Prop}{β ah:af}{A A':AW}{aS:List fh}{tr:List Tr}{a:Act}{w w':World}(kM:∀o∈ops,∀d,o.dst=some d→d<n)(j:PJ w0 E n ops g0 β0 A0 ds D β A aS tr a w)
 {i:Nat} {o:Oper} (ho:ops[i]? =some o) (nw:∀x∈tr,x.i≠i) (Nk:∀e∈aS,e.i≠i) (hr:∀ed∈o.after.toList,Region.binds .any ed=true→D ed.on) {v v':xM} (hv:ai ah v v') (bV:Inv w0 E.G ah A' w') (kT:β.grow ah A.next) (hn:A.next≤A'.next):
 PJ w0 E n ops g0 β0 A0 ds (fun x=>D x∨x=i) ah A' (hM (fun e=>not (bit (fN ops i) e.i)) aS) (⟨i,o.dst,v⟩::tr) (a.put o.dst v') w':=by
 have TZ: ¬D i:=fun h=>by obtain⟨x,hx,fU⟩:=j.only i h;exact nw x hx fU
 have aK:=j.inv.fX kT;refine⟨fun k ok hk hd ed IQ hb=> ?_,fun x hx o' jx hk=> ?_,fun x hx iK=> ?_,fun k hk=> ?_,?_,bV,fun e he bA N aj o7=> ?_,fun e he hd nd N aj h1 h2=> ?_,af.iZ j.grow kT j.dz,xH j.dz hn,?_⟩
 ·rcases hd with hd|hd
  ·exact .inl (j.qE k ok hk hd ed IQ hb)
  ·subst hd;rw[ho] at hk;cases hk;exact .inl (hr ed IQ hb)
 ·cases hx with
  |head=>exact .inr rfl
  |tail _ hx=>exact .inl (j.Mo x hx o' jx hk)
 ·cases hx with
  |head=>exact absurd (.inr rfl) iK
  |tail _ hx=>
   obtain⟨e,he,s6⟩:=j.un x hx (fun h=>iK (.inl h));refine⟨e,?_,s6⟩;rw[tk,List.mem_filter];refine⟨he,?_⟩;cases hb:bit (fN ops i) e.i with
   |false=>rfl
   |true=>
    rcases C4 j.qE ho hr hb with h1|h1
    ·exact absurd (.inl (s6▸h1)) iK
    ·exact absurd (s6.symm.trans h1) (nw x hx)
 ·rcases hk with hk|hk
  ·obtain⟨x,hx,fU⟩:=j.only k hk;exact⟨x,xo _ hx,fU⟩
  ·exact⟨_,xn,hk.symm⟩
 ·rw[aL5 (x:=⟨i,o.dst,v⟩) (.inr rfl),Ks (D':=D) (fun x hx=>⟨fun h=>h.resolve_right (nw x hx),.inl⟩)];exact(j.frame.mono aK).gU (fun d hd=>kM o (xu ho) d hd) hv
 ·rw[tk,List.mem_filter] at he;obtain⟨h1,h2,h3,h4⟩:=j.fresh e he.1 (fun h=>bA (.inl h)) N aj o7;exact⟨by rw[kT.f N h2];exact h1,xK h2 hn,h3,by rw[kT.o N h2];exact h4⟩
 ·rw[tk,List.mem_filter] at he;exact(j.n4 e he.1 (hd.resolve_right (Nk e he.1)) nd N aj h1 h2).mono aK
 ·cases o.dst<;>exact j.defers
theorem bh2{D:Nat→Prop}{β:af}{A A':AW}{aS:List fh}{tr:List Tr}{a:Act}{w:World}(j:PJ w0 E n ops g0 β0 A0 ds D β A aS tr a w)
 {i:Nat} {o:Oper} (hk:fj E o.op≤1) (ho:ops[i]? =some o) (nw:∀x∈tr,x.i≠i) {e:fh} (s6:e.i=i) {v:xM} (hA:A'=A∨(∃aj,qj aj∧A'=A.add aj)∨(∃r,(∀nd∈r,nd∈A.tape)∧A'=A.pop r)∨∃r aj,(∀nd∈r,nd∈A.tape)∧qj aj∧A'=(A.pop r).add aj) (o7:∀N b,e.nb=some (N,b)→N=A.next∧A.next<A'.next):
 PJ w0 E n ops g0 β0 A0 ds D β A' (e::aS) (⟨i,o.dst,v⟩::tr) a w:=by
 have TZ: ¬D i:=fun h=>by obtain⟨x,hx,fU⟩:=j.only i h;exact nw x hx fU
 have hn:A.next≤A'.next:=by
  rcases hA with rfl|⟨aj,_,rfl⟩|⟨r,_,rfl⟩|⟨r,aj,_,_,rfl⟩
  ·exact xk _
  ·exact Nat.le_succ _
  ·exact xk _
  ·exact Nat.le_succ _
 have hon:β.o A.next=none:=by
  cases hc:β.o A.next with
  |none=>rfl
  |some l=>exact absurd (j.inv.jf _ l hc) (Nat.lt_irrefl _)
 have CC:β A.next=none:=by
  cases hc:β A.next with
  |none=>rfl
  |some l=>exact absurd (j.inv.g9 _ l hc) (Nat.lt_irrefl _)
 refine⟨j.qE,fun x hx o' jx bW=> ?_,fun x hx iK=> ?_,fun k bW=> ?_,?_,?_,fun e' cS bA N aj H4=> ?_,fun e' cS hd nd N aj h1 h2=> ?_,j.grow,xH j.dz hn,j.defers⟩
 ·cases hx with
  |head=>have fE:ops[i]? =some o':=jx;rw[ho] at fE;cases fE;omega
  |tail _ hx=>exact j.Mo x hx o' jx bW
 ·cases hx with
  |head=>exact⟨e,xn,s6⟩
  |tail _ hx=>
   obtain⟨e',cS,h⟩:=j.un x hx iK;exact⟨e',xo _ cS,h⟩
 ·obtain⟨x,hx,fU⟩:=j.only k bW;exact⟨x,xo _ hx,fU⟩
 ·rw[US (x:=⟨i,o.dst,v⟩) TZ];exact j.frame
 ·rcases hA with rfl|⟨aj,hp,rfl⟩|⟨r,hr,rfl⟩|⟨r,aj,hr,hp,rfl⟩
  ·exact j.inv
  ·exact j.inv.O6 aj hp
  ·exact j.inv.pop hr
  ·exact(j.inv.pop hr).O6 aj hp
 ·cases cS with
  |head=>
   obtain⟨rfl,h2⟩:=o7 N aj H4;exact⟨CC,h2,j.dz,hon⟩
  |tail _ cS=>
   obtain⟨h1,h2,h3⟩:=j.fresh e' cS bA N aj H4;exact⟨h1,xK h2 hn,h3⟩
 ·cases cS with
  |head=>exact absurd (s6▸hd) TZ
  |tail _ cS=>exact j.n4 e' cS hd nd N aj h1 h2
def tO(N:Nat)(listed:Array Bool):Nat:=((List.range N).filter fun k=> !listed.getD k false).length
theorem A8{N:Nat}{listed:Array Bool}{i:Nat}(hi:i<N)(aT:listed.size=N)(hl:listed.getD i false=false):tO N (listed.setIfInBounds i true)<tO N listed:=by
 unfold tO;have:(List.range N).filter (fun k=> !(listed.setIfInBounds i true).getD k false)=((List.range N).filter fun k=> !listed.getD k false).filter (fun k=>decide (k≠i)):=by
  rw[List.filter_filter];apply List.filter_congr;intro k _;by_cases hk:k=i
  ·subst hk;have:(listed.setIfInBounds k true).getD k false=true:=by simp[aT,hi]
   simp[this]
  ·rw[getD_set_ne false (Ne.symm hk)];simp[hk]
 rw[this,List.length_filter_lt_length_iff_exists];exact⟨i,by simp[hi];simpa using hl,by simp⟩
theorem KF{listed:Array Bool}{i:Nat}(hi:i<listed.size):(fun k=>(listed.setIfInBounds i true).getD k false=true)=(fun k=>listed.getD k false=true∨k=i):=by
 funext k
 apply propext;by_cases hk:k=i
 ·subst hk;simp[hi]
 ·rw[getD_set_ne false (Ne.symm hk)];simp[hk]
end
section
variable{P:Program}{E:aq}(ok:E.Ok P){sq:List (Nat×List xO)}(ba:E.Seq P sq){w0:World}{n:Nat}{ops:List Oper}(hs:Ew ops)(kM:∀o∈ops,∀d,o.dst=some d→d<n){g0:Gt}{β0:af}{A0:AW}{ds:List Deferred}{ro:Option Nat}
 {call:cT→List xM→AW→aZ xM} (hc:fG P E call)
theorem Ju{listed:Array Bool}{i:Nat}{o:Oper}(ho:ops[i]? =some o)(aT:listed.size=ops.length)(hn: ¬listed.getD i false=true)(hr:∀e∈o.after.toList,Region.binds .any e=true→listed.getD e.on false=true):i∈Region.ready .any ⟨ops⟩ listed:=by
 rw[mem_ready];have hi:i<listed.size:=by rw[aT];exact(xe.1 ho).1
 refine⟨?_,o,by simpa using ho,fun e he hb=>hr e (by simpa using he) hb⟩;have h2:listed.getD i false=false:=by simpa using hn
 simp[hi] at h2⊢;exact h2
theorem C0{listed:Array Bool}{i:Nat}(aT:listed.size=ops.length)(h:i∈Region.ready .any ⟨ops⟩ listed):∃o,ops[i]? =some o∧ ¬listed.getD i false=true∧∀e∈o.after.toList,Region.binds .any e=true→listed.getD e.on false=true:=by
 rw[mem_ready] at h;obtain⟨h1,o,ho,h2⟩:=h;have jx:ops[i]? =some o:=by simpa using ho
 have hi:i<listed.size:=by rw[aT];exact(xe.1 jx).1
 refine⟨o,jx,?_,fun e he hb=>h2 e (by simpa using he) hb⟩;simp[hi] at h1⊢;exact h1
theorem aQ1{A A':AW}{g:Gt}{op:Op}{v:xM}(hk:fj E op=1)(h:aF E sq A g op= .val v A'):∃aj,qj aj∧A'=A.add aj:=by
 cases hp:qG op with
 |true=>cases op<;>simp only [fj,qG] at hk hp<;>first|(cases hp;done)|(cases hk;done)
 |false=>
  cases op<;>simp only [fj,hp] at hk<;>try(cases hk;done)
  case convert s d x=>split at hk<;>cases hk
  case alloc t=>
   simp only [aF] at h;have h:=mZ h;unfold zj at h;split at h
   ·replace h:=au h;rcases h with⟨_,h⟩|⟨_,h⟩<;>cases h
    exact⟨_,(fun c h=>by cases h),rfl⟩
   ·cases h
  case box t x=>
   simp only [aF] at h;have h:=mZ h;unfold Ah at h;split at h<;>cases h
   exact⟨_,(fun c h=>by cases h),rfl⟩
  case buildSlice t len ps=>
   obtain⟨ps⟩:=ps;simp only [aF] at h;have h:=mZ h;unfold yS at h;split at h
   ·split at h
    ·replace h:=au h;rcases h with⟨_,h⟩|⟨_,h⟩
     ·split at h<;>cases h
      exact⟨_,(fun c h=>by cases h),rfl⟩
     ·cases h
    ·cases h
   ·cases h
  case makeSlice t x y=>
   simp only [aF] at h;have h:=mZ h;unfold yT at h;split at h
   ·split at h
    ·replace h:=au h;rcases h with⟨_,h⟩|⟨_,h⟩<;>cases h
     exact⟨_,(fun c h=>by cases h),rfl⟩
    ·cases h
   ·cases h
  case call c=>
   obtain⟨wI,args,tys⟩:=c;cases wI<;>simp only [fj,qG] at hk<;>try(cases hk;done)
   rename_i b;cases b<;>simp only [fj,qG] at hk<;>cases hk
theorem Ow{ops:List Oper}:∀(L:List Nat) (bJ:Nat) (uh:Option Nat),yk E ops L bJ uh=true→∀i∈L,bit bJ i=false
 |[],_,_,_,i,hi=>by cases hi
 |k::L,bJ,uh,h,i,hi=>by
  have h':Ci E ops (yk E ops L) k bJ uh=true:=h;clear h;unfold Ci at h';split at h'
  ·cases h'
  ·rename_i o ho;simp only [xf,Bool.not_eq_true'] at h';obtain⟨⟨⟨hk,_⟩,_⟩,oN⟩:=h';cases hi with
   |head=>exact hk
   |tail _ hi=>
    have:=Ow L _ _ oN i hi;rw[u9] at this⊢;have h2:(bJ|||2^k).testBit i=false:=this;rw[Nat.testBit_or,Bool.or_eq_false_iff] at h2;exact h2.1
theorem aU5{A:AW}{e:fh}{N:Nat}{aj b:ao}(aQ:qU E sq A e=true)(vO:e.wanted=true)(o7:e.nb=some (N,aj))(hb:A.get N=some b):b=aj:=by
 unfold qU at aQ;rw[vO,eg,o7] at aQ;simp only [hb] at aQ;exact JH aQ
theorem VG{D:Nat→Prop}{β:af}{A:AW}{aS l:List fh}{tr:List Tr}{a:Act}{w:World}(j:PJ w0 E n ops g0 β0 A0 ds D β A aS tr a w)(jO:∀e∈aS,PE E sq β0.d ops g0 tr e)(aQ:∀e∈aS,qU E sq A e=true)(hl:∀e∈l,e∈aS∧D e.i):Inv w0 E.G β (ma l A) w:=
 Ox l A j.inv fun e he nd N aj h1 h2=>⟨j.n4 e (hl e he).1 (hl e he).2 nd N aj h1 h2,fun b u hb _=>aU5 (aQ e (hl e he).1) ((jO e (hl e he).1).sy nd h1).1 h2 hb⟩
theorem O9{aS:List fh}{tr:List Tr}(jO:∀e∈aS,PE E sq β0.d ops g0 tr e):∀e∈aS,∃x∈tr,x.i=e.i:=fun e he=>by
 obtain⟨pre,x0,tl,Cx,rq,_⟩:=(jO e he).ex;exact⟨x0,by rw[Cx];exact List.mem_append_right _ xn,rq⟩
include ok ba hs kM in
theorem aQ5{aS:List fh}{g:Gt}{A:AW}{tr:List Tr}{res:List Tr×AW}(h:P' E sq aS g A tr=some res)(hw:nZ ops tr)(jO:∀e∈aS,PE E sq β0.d ops g0 tr e)(eA:PN A aS)(eT:∀k o,ops[k]? =some o→∃x∈tr,x.i=k)
 (Q:Exit→Act→World→Prop) (hQ:∀β a w,cf β n (gv (fun _=>True) res.1 g0) a.tmps→Inv w0 E.G β res.2 w→β0.grow β A0.next→A0.next≤res.2.next→a.defers=ds→Q .normal a w) (aN:Nat):
 ∀(listed:Array Bool) (β:af) (a:Act) (w:World),listed.size=ops.length→tO ops.length listed≤aN→PJ w0 E n ops g0 β0 A0 ds (fun k=>listed.getD k false=true) β A aS tr a w→wpAnyIn (jY ro) 0 P .any ⟨ops⟩ Q aN listed a w:=by
 have h':bs (ey (qU E sq A) aS) (some (tr,ma aS A)) none=some res:=h;clear h;replace h':=au h';rcases h' with⟨Rh,h'⟩|⟨_,h'⟩
 ·cases h';have aQ:=nI _ _ Rh;have fin:∀(listed:Array Bool) (β:af) (a:Act) (w:World),listed.size=ops.length→PJ w0 E n ops g0 β0 A0 ds (fun k=>listed.getD k false=true) β A aS tr a w→Region.ready .any ⟨ops⟩ listed=[]→Q .normal a w:=fun listed β a w aT j ez=>by
   have all:∀x∈tr,listed.getD x.i false=true:=fun x hx=>Classical.byContradiction fun hn=>by
    obtain⟨y,hy,TX,o,ho,hr⟩:=N7 (D:=fun k=>listed.getD k false=true) hw ⟨x,hx,hn⟩;have:=Ju ho aT TX hr;rw[ez] at this;cases this
   refine hQ β a w ?_ (VG j jO aQ fun e he=>⟨he,by obtain⟨x,hx,fU⟩:=O9 jO e he;exact fU▸all x hx⟩) j.grow (by show A0.next≤(ma aS A).next;rw[Jf];exact j.dz) j.defers;have:=j.frame;rw[Ks (D':=fun _=>True) (fun x hx=>⟨fun _=>trivial,fun _=>all x hx⟩)] at this;exact this
  induction aN with
  |zero=>
   intro listed β a w aT BI j;have ez:Region.ready .any ⟨ops⟩ listed=[]:=by
    cases hq:Region.ready .any ⟨ops⟩ listed with
    |nil=>rfl
    |cons i r=>
     obtain⟨o,ho,hn,_⟩:=C0 (ops:=ops) (i:=i) aT (by rw[hq];exact xn);have hi:=(xe.1 ho).1;have:=A8 hi aT (by simpa using hn);omega
   exact⟨ez,fin listed β a w aT j ez⟩
  |succ aN ih=>
   intro listed β a w aT BI j;refine⟨fun ez=>fin listed β a w aT j ez,fun i hi=> ?_⟩;obtain⟨o,ho,hn,hr⟩:=C0 aT hi;have bg:=(xe.1 ho).1;obtain⟨x,hx,fU⟩:=eT i o ho;obtain⟨e,he,s6⟩:=j.un x hx (by rw[fU];exact hn);have SI:e.i=i:=s6.trans fU;subst SI;have T8:e.o=o:=by have:=(jO e he).op;rw[ho] at this;cases this;rfl
   subst T8;refine VC ok ba hs kM hw j jO eA.2.1 eA.2.2 he (aQ e he) hn hr (fun ah a' w' j'=> ?_);rw[←KF (by rw[aT];exact bg)] at j';refine ih _ ah a' w' (by simp[aT]) ?_ j';have:=A8 bg aT (by simpa using hn);omega
 ·cases h'
include ok ba hs kM hc in
theorem VS{ρ:Type}{fin:List fh→Gt→AW→List Tr→Option ρ}{es:Nat}(Q:Exit→Act→World→Prop)(res:ρ)(eN:Nat→Prop)(Sx:∀k,eN k→k≠es∧bit (fN ops k) es=true)
 (H9:∀aS g A tr,fin aS g A tr=some res→nZ ops tr→g=gv (fun _=>True) tr g0→(∀e∈aS,PE E sq β0.d ops g0 tr e)→PN A aS→(∀k o,ops[k]? =some o→(∃x∈tr,x.i=k)∨eN k)→
  ∀(aN:Nat) (listed:Array Bool) (β:af) (a:Act) (w:World),listed.size=ops.length→tO ops.length listed≤aN→PJ w0 E n ops g0 β0 A0 ds (fun k=>listed.getD k false=true) β A aS tr a w→wpAnyIn (jY ro) 0 P .any ⟨ops⟩ Q aN listed a w):
 ∀(L:List Nat) (aS:List fh) (g:Gt) (A:AW) (tr:List Tr) (bJ:Nat) (uh:Option Nat),Bj E sq call ops fin L aS g A tr=some res→yk E ops L bJ uh=true→
 (∀k,bit bJ k=true↔∃x∈tr,x.i=k)→nZ ops tr→g=gv (fun _=>True) tr g0→(∀e∈aS,PE E sq β0.d ops g0 tr e)→PN A aS→(∀k o,ops[k]? =some o→(∃x∈tr,x.i=k)∨k∈L∨eN k)→((∃k,eN k)→L=[]∨L.getLast?=some es)→
 ∀(aN:Nat) (listed:Array Bool) (β:af) (a:Act) (w:World),listed.size=ops.length→tO ops.length listed≤aN→PJ w0 E n ops g0 β0 A0 ds (fun k=>listed.getD k false=true) β A aS tr a w→wpAnyIn (jY ro) 0 P .any ⟨ops⟩ Q aN listed a w:=by
 intro L
 induction L with
 |nil=>
  intro aS g A tr bJ uh h Ch Lp hw hg jO eA eT cz aN;exact H9 aS g A tr h hw hg jO eA (fun k o hk=>(eT k o hk).imp id (fun h=>h.resolve_left (by simp))) aN
 |cons i0 L IH=>
  intro aS g A tr bJ uh h Ch Lp hw hg jO eA eT cz aN;have h':GJ E sq call ops (Bj E sq call ops fin L) i0 aS g A tr=some res:=h;have iu:Ci E ops (yk E ops L) i0 bJ uh=true:=Ch;clear h Ch;unfold Ci at iu;unfold GJ at h';simp only [GL] at h';rw[eM] at iu h';cases ho:ops[i0]? with
  |none=>rw[ho] at h';cases h'
  |some o=>
   rw[ho] at iu h';simp only [xf,Bool.not_eq_true'] at iu h';obtain⟨⟨⟨jQ,cL9⟩,zT⟩,oN⟩:=iu;have nw:∀x∈tr,x.i≠i0:=fun x hx e=>by rw[(Lp i0).2 ⟨x,hx,e⟩] at jQ;cases jQ
   have EQ:∀e∈o.after.toList,Region.binds .any e=true→∃y∈tr,y.i=e.on:=fun e he hb=>by
    have:=nI _ _ cL9 e he;rw[hb,eg] at this;exact(Lp e.on).1 this
   have H':∀q,bit (Nat.lor bJ (Nat.pow 2 i0)) q=(bit bJ q||decide (i0=q)):=fun q=>by
    rw[u9,u9];show(bJ|||2^i0).testBit q=_;rw[Nat.testBit_or,Nat.testBit_two_pow]
   have Kl:∀v k,bit (Nat.lor bJ (Nat.pow 2 i0)) k=true↔∃x∈((⟨i0,o.dst,v⟩:Tr)::tr),x.i=k:=fun v k=>by
    rw[H',Bool.or_eq_true,Lp k];constructor
    ·rintro(⟨x,hx,fU⟩|h)
     ·exact⟨x,xo _ hx,fU⟩
     ·exact⟨_,xn,of_decide_eq_true h⟩
    ·rintro⟨x,hx,fU⟩;cases hx with
     |head=>exact .inr (decide_eq_true fU)
     |tail _ hx=>exact .inl ⟨x,hx,fU⟩
   have Iz:∀v,nZ ops ((⟨i0,o.dst,v⟩:Tr)::tr):=fun v=>⟨hw,nw,o,ho,rfl,EQ⟩
   have FG:∀v,gU g o.dst v=gv (fun _=>True) ((⟨i0,o.dst,v⟩:Tr)::tr) g0:=fun v=>by rw[NW,hg]
   have BL:∀v k o',ops[k]? =some o'→(∃x∈((⟨i0,o.dst,v⟩:Tr)::tr),x.i=k)∨k∈L∨eN k:=fun v k o' hk=>by
    rcases eT k o' hk with⟨x,hx,fU⟩|hk|hk
    ·exact .inl ⟨x,xo _ hx,fU⟩
    ·cases hk with
     |head=>exact .inl ⟨_,xn,rfl⟩
     |tail _ hk=>exact .inr (.inl hk)
    ·exact .inr (.inr hk)
   have sN:(∃k,eN k)→L=[]∨L.getLast?=some es:=fun hk=>by
    cases L with
    |nil=>exact .inl rfl
    |cons l0 L0=>
     have:=(cz hk).resolve_left (by simp);rw[List.getLast?_cons_cons] at this;exact .inr this
   have cP1:∀k,eN k→es∈i0::L:=fun k hk=>List.mem_of_getLast? ((cz ⟨k,hk⟩).resolve_left (by simp))
   split at h'
   ·cases h'
   rename_i wd zS;replace h':=au h';rcases h' with⟨Ei,h'⟩|⟨Ei,h'⟩
   ·
    have jP:2≤fj E o.op:=xh Ei;rw[Ei,eg] at oN;replace h':=au h';rcases h' with⟨Rh,h'⟩|⟨_,h'⟩;rotate_left
    ·cases h'
    rw[yX] at h';have aQ:=nI _ _ Rh;have Nk:∀e∈aS,e.i≠i0:=fun e he s6=>by
     obtain⟨x,hx,fU⟩:=O9 jO e he;exact nw x hx (fU.trans s6)
    have cM4:∀v,∀e∈hM (fun e=>not (bit (fN ops i0) e.i)) aS,PE E sq β0.d ops g0 ((⟨i0,o.dst,v⟩:Tr)::tr) e:=fun v e he=>by
     rw[tk,List.mem_filter] at he;exact(jO e he.1).cons _
    have cM2:∀A':AW,A.next≤A'.next→PN A' (hM (fun e=>not (bit (fN ops i0) e.i)) aS):=fun A' hA=>by
     refine⟨fun e he N b hb=> ?_,fun e he e' cS N b b' hb eW=> ?_,fun e he e' cS vV=> ?_⟩
     ·rw[tk,List.mem_filter] at he;exact xK (eA.1 e he.1 N b hb) hA
     ·rw[tk,List.mem_filter] at he cS;exact eA.2.1 e he.1 e' cS.1 N b b' hb eW
     ·rw[tk,List.mem_filter] at he cS;exact eA.2.2 e he.1 e' cS.1 vV
    have TN:(ma (hM (fun e=>bit (fN ops i0) e.i) aS) A).next=A.next:=Jf _ _;have eff:∀(aN:Nat) (listed:Array Bool) (β:af) (a:Act) (w:World),listed.size=ops.length→tO ops.length listed≤aN+1→PJ w0 E n ops g0 β0 A0 ds (fun k=>listed.getD k false=true) β A aS tr a w→
     ¬listed.getD i0 false=true→(∀e∈o.after.toList,Region.binds .any e=true→listed.getD e.on false=true)→wpOpIn (jY ro) 0 P ⟨ops⟩ Q i0 (wpAnyIn (jY ro) 0 P .any ⟨ops⟩ Q aN (listed.setIfInBounds i0 true)) a w:=fun aN listed β a w aT BI j hn hr=>by
     have bg:=(xe.1 ho).1;have eE:=A8 bg aT (by simpa using hn);have H0:(listed.setIfInBounds i0 true).size=ops.length:=by simp[aT]
     have jt:PJ w0 E n ops g0 β0 A0 ds (fun k=>listed.getD k false=true) β (ma (hM (fun e=>bit (fN ops i0) e.i) aS) A) aS tr a w:=
      ⟨j.qE,j.Mo,j.un,j.only,j.frame,VG j jO aQ (fun e he=>by
       rw[tk,List.mem_filter] at he;exact⟨he.1,(C4 j.qE ho hr he.2).resolve_right (Nk e he.1)⟩),fun e he bA N aj o7=>by rw[TN];exact j.fresh e he bA N aj o7,j.n4,j.grow,by rw[TN];exact j.dz,j.defers⟩
     have ag:∀t∈o.looksAt ⟨ops⟩,gv (fun k=>listed.getD k false=true) tr g0 t=g t:=fun t ht=>by
      have:=ac5 hs j.qE ho hr hn (tr:=(⟨i0,o.dst,undef⟩:Tr)::tr) (tl:=tr) (pre:=[]) (x0:=⟨i0,o.dst,undef⟩) rfl rfl (Iz undef) (Iz undef) g0 ht;rw[US (x:=⟨i0,o.dst,undef⟩) hn] at this;rw[hg];exact this
     have bp3:=Gf (a:=a) (by rw[UM ag];exact zS) j.frame;have EU:∀ah v v' A' w',ai ah v v'→Inv w0 E.G ah A' w'→β.grow ah (ma (hM (fun e=>bit (fN ops i0) e.i) aS) A).next→(ma (hM (fun e=>bit (fN ops i0) e.i) aS) A).next≤A'.next→Bj E sq call ops fin L (hM (fun e=>not (bit (fN ops i0) e.i)) aS) (gU g o.dst v) A' (⟨i0,o.dst,v⟩::tr)=some res→
      wpAnyIn (jY ro) 0 P .any ⟨ops⟩ Q aN (listed.setIfInBounds i0 true) (a.put o.dst v') w':=fun ah v v' A' w' hv bV kT gY vQ=>by
      have j':=be3 kM jt ho nw Nk hr hv bV kT gY;rw[←KF (by rw[aT];exact bg)] at j';exact IH _ _ _ _ _ _ vQ oN (Kl v) (Iz v) (FG v) (cM4 v) (cM2 A' (by rw[←TN];exact gY)) (BL v) sN aN _ ah _ w' H0 (by omega) j'
     unfold wpOpIn;have vv:(⟨ops⟩:Array Oper)[i0]? =some o:=by simpa using ho
     simp only [vv];rw[bp3];cases wd with
     |false=>
      rw[if_neg (by simp)];rw[gN] at h';exact⟨fun _ _=>trivial,EU β undef undef _ w ai.undef jt.inv (af.cq _ _) (xk _) h'⟩
     |true=>
      rw[if_pos rfl];rw[eg] at h';have oc:ju E sq (ma (hM (fun e=>bit (fN ops i0) e.i) aS) A) (gv (fun k=>listed.getD k false=true) tr g0) o.op=ju E sq (ma (hM (fun e=>bit (fN ops i0) e.i) aS) A) g o.op:=aP0 (Je ag);cases pK:ju E sq (ma (hM (fun e=>bit (fN ops i0) e.i) aS) A) g o.op with
      |fail=>rw[pK] at h';cases h'
      |nd q=>rw[pK] at h';cases h'
      |val v A'=>
       rw[pK] at h';simp only [F',yX] at h';exact Xf ok ba jt.inv jt.frame (oc.trans pK) (fun ah v' w' hv bV kT gY=>EU ah v v' A' w' hv bV kT gY h')
      |call f args=>
       rw[pK] at h';simp only at h';split at h'
       ·rename_i v A' mi;refine Wh ok jt.inv jt.frame hc (oc.trans pK) mi (fun p hp ah v' w' hv bV kT gY=> ?_);simp only [xy] at hp;subst hp;exact EU ah v v' A' w' hv bV kT gY h'
       ·cases h'
    have WY:∀(listed:Array Bool) (β:af) (a:Act) (w:World),listed.size=ops.length→PJ w0 E n ops g0 β0 A0 ds (fun k=>listed.getD k false=true) β A aS tr a w→Region.ready .any ⟨ops⟩ listed≠[]:=fun listed β a w aT j ez=>by
     have oh: ¬listed.getD i0 false=true:=fun h=>by obtain⟨x,hx,fU⟩:=j.only i0 h;exact nw x hx fU
     have all:∀x∈tr,listed.getD x.i false=true:=fun x hx=>Classical.byContradiction fun hn=>by
      obtain⟨y,hy,TX,o',jx,hr⟩:=N7 (D:=fun k=>listed.getD k false=true) hw ⟨x,hx,hn⟩;have:=Ju jx aT TX hr;rw[ez] at this;cases this
     have:=Ju ho aT oh (fun e he hb=>by obtain⟨y,hy,Fv⟩:=EQ e he hb;exact Fv▸all y hy);rw[ez] at this;cases this
    induction aN with
    |zero=>
     intro listed β a w aT BI j;exfalso;have bA:=WY listed β a w aT j;cases hq:Region.ready .any ⟨ops⟩ listed with
     |nil=>exact bA hq
     |cons i r=>
      obtain⟨o',jx,hn,_⟩:=C0 (ops:=ops) (i:=i) aT (by rw[hq];exact xn);have:=A8 (xe.1 jx).1 aT (by simpa using hn);omega
    |succ aN ih=>
     intro listed β a w aT BI j;refine⟨fun ez=>absurd ez (WY listed β a w aT j),fun i hi=> ?_⟩;obtain⟨o',jx,hn,hr⟩:=C0 aT hi;have bg:=(xe.1 jx).1;rcases eT i o' jx with⟨x,hx,fU⟩|vw|vw
     ·obtain⟨e,he,s6⟩:=j.un x hx (by rw[fU];exact hn);have SI:e.i=i:=s6.trans fU;subst SI;have T8:e.o=o':=by have:=(jO e he).op;rw[jx] at this;cases this;rfl
      subst T8;refine VC ok ba hs kM hw j jO eA.2.1 eA.2.2 he (aQ e he) hn hr (fun ah a' w' j'=> ?_);rw[←KF (by rw[aT];exact bg)] at j';refine ih _ ah a' w' (by simp[aT]) ?_ j';have:=A8 bg aT (by simpa using hn);omega
     ·cases vw with
      |head=>
       rw[ho] at jx;cases jx;exact eff aN listed β a w aT BI j hn hr
      |tail _ vw=>
       exfalso;obtain⟨e,bc,fW,he3⟩:=OS L _ i0 oN (by rw[H'];simp) i vw;have Ug:=(C4 j.qE jx hr he3).resolve_right fW;obtain⟨x,hx,Iy⟩:=j.only e Ug;rcases bc with rfl|bc
       ·exact nw x hx Iy
       ·have h1:=Ow L _ _ oN e bc;rw[(Kl undef e).2 ⟨x,xo _ hx,Iy⟩] at h1;cases h1
     ·exfalso;obtain⟨bA,hbt⟩:=Sx i vw;have Ug:=(C4 j.qE jx hr hbt).resolve_right bA.symm;obtain⟨x,hx,Iy⟩:=j.only es Ug;cases cP1 i vw with
      |head=>exact nw x hx Iy
      |tail _ bc=>
       have h1:=Ow L _ _ oN es bc;rw[(Kl undef es).2 ⟨x,xo _ hx,Iy⟩] at h1;cases h1
   ·
    have eP:fj E o.op≤1:=by
     have: ¬2≤fj E o.op:=fun e=>by rw[Nat.ble_eq_true_of_le e] at Ei;cases Ei
     omega
    rw[Ei,gN] at oN;intro listed β a w aT BI j;have Gu:∀(v:xM) (A':AW) (Am:Bool) (nb:Option (Nat×ao)) (sy:Option Node),Bj E sq call ops fin L (⟨i0,o,g,v,Am,nb,sy⟩::aS) (gU g o.dst v) A' (⟨i0,o.dst,v⟩::tr)=some res→(A'=A∨(∃aj,qj aj∧A'=A.add aj)∨(∃r,(∀nd∈r,nd∈A.tape)∧A'=A.pop r)∨∃r aj,(∀nd∈r,nd∈A.tape)∧qj aj∧A'=(A.pop r).add aj)→
     (∀N b,nb=some (N,b)→N=A.next∧A.next<A'.next)→qb ops g o=some Am→(Am=false→v=undef)→(Am=true→nb=none→sy=none→fj E o.op=0∧∃A1,aF E sq A1 g o.op= .val v A1)→
     (Am=true→sy=none→∀N aj,nb=some (N,aj)→fj E o.op=1∧∃A1 A2,A1.next=N∧A1.get N=none∧aF E sq A1 g o.op= .val v A2∧A2.get N=some aj)→(∀nd,sy=some nd→Am=true∧dt β0.d nd∧∀N aj,nb=some (N,aj)→sR E nd N g o.op=some (v,aj))→wpAnyIn (jY ro) 0 P .any ⟨ops⟩ Q aN listed a w:=fun v A' Am nb sy vQ hA o7 Fw cL3 hqt uN uF=>by
     have gY:A.next≤A'.next:=by
      rcases hA with rfl|⟨aj,_,rfl⟩|⟨r,_,rfl⟩|⟨r,aj,_,_,rfl⟩
      ·exact xk _
      ·exact Nat.le_succ _
      ·exact xk _
      ·exact Nat.le_succ _
     have j':=bh2 (e:=⟨i0,o,g,v,Am,nb,sy⟩) (v:=v) j eP ho nw rfl hA o7;refine IH _ _ _ _ _ _ vQ oN (Kl v) (Iz v) (FG v) (fun e he=> ?_) ⟨fun e he N b hb=> ?_,fun e he e' cS N b b' hb eW=> ?_,fun e he e' cS vV=> ?_⟩ (BL v) sN aN listed β a w aT BI j'
     ·cases he with
      |head=>exact⟨⟨[],⟨i0,o.dst,v⟩,tr,rfl,rfl,rfl,Iz v,hg⟩,ho,eP,Fw,cL3,hqt,uN,uF⟩
      |tail _ he=>exact(jO e he).cons _
     ·cases he with
      |head=>obtain⟨rfl,h2⟩:=o7 N b hb;exact h2
      |tail _ he=>exact xK (eA.1 e he N b hb) gY
     ·cases he with
      |head=>cases cS with
       |head=>rfl
       |tail _ cS=>
        have h1:=(o7 N b hb).1;have h2:=eA.1 e' cS N b' eW;omega
      |tail _ he=>cases cS with
       |head=>
        have h1:=(o7 N b' eW).1;have h2:=eA.1 e he N b hb;omega
       |tail _ cS=>exact eA.2.1 e he e' cS N b b' hb eW
     ·have Fz:=O9 jO;cases he with
      |head=>cases cS with
       |head=>rfl
       |tail _ cS=>obtain⟨x,hx,fU⟩:=Fz e' cS;exact absurd (fU.trans vV.symm) (nw x hx)
      |tail _ he=>cases cS with
       |head=>obtain⟨x,hx,fU⟩:=Fz e he;exact absurd (fU.trans vV) (nw x hx)
       |tail _ cS=>exact eA.2.2 e he e' cS vV
    cases wd with
    |false=>
     rw[gN] at h';exact Gu undef A false none none h' (.inl rfl) (fun N b hb=>by cases hb) zS (fun _=>rfl) (fun e=>by cases e) (fun e=>by cases e) (fun nd e=>by cases e)
    |true=>
     rw[eg] at h';cases pK:aF E sq A g o.op with
     |fail=>
      rw[pK] at h';simp only at h';split at h'
      ·cases h'
      ·rename_i nd r ht;split at h'
       ·rename_i v hv;have vw:∀x∈r,x∈A.tape:=fun x hx=>by rw[ht];exact xo _ hx
        refine Gu v (A.pop r) true none (some nd) h' (.inr (.inr (.inl ⟨r,vw,rfl⟩))) (fun N b hb=>by cases hb) zS (fun e=>by cases e) (fun _ _ e=>by cases e) (fun _ _ N b hb=>by cases hb) (fun nd' e=> ?_);cases e;exact⟨rfl,by rw[←j.grow.d];exact ok.q _ _ (j.inv.eO nd (by rw[ht];exact xn)),fun N b hb=>by cases hb⟩
       ·split at h'
        ·rename_i v aj hz;have vw:∀x∈r,x∈A.tape:=fun x hx=>by rw[ht];exact xo _ hx
         obtain⟨fV,_,hkz⟩:=aN4 hz;refine Gu v ((A.pop r).add aj) true (some (A.next,aj)) (some nd) h' (.inr (.inr (.inr ⟨r,aj,vw,fV,rfl⟩))) (fun N b hb=>by cases hb;exact⟨rfl,Nat.lt_succ_self _⟩) zS (fun e=>by cases e) (fun _ e=>by cases e) (fun _ e=>by cases e) (fun nd' e=> ?_);cases e;exact⟨rfl,by rw[←j.grow.d];exact ok.q _ _ (j.inv.eO nd (by rw[ht];exact xn)),fun N b hb=>by cases hb;exact hz⟩
        ·cases h'
     |nd q=>rw[pK] at h';cases h'
     |call f args=>rw[pK] at h';cases h'
     |val v A'=>
      rw[pK] at h';simp only [F',yX] at h';replace h':=au h';rcases h' with⟨jy,h'⟩|⟨jy,h'⟩
      ·have nX:=xb jy;split at h'
       ·rename_i b hb;obtain⟨aj,fV,kn⟩:=aQ1 nX pK;have iK:A.next<A'.next:=by rw[kn];exact Nat.lt_succ_self _
        refine Gu v A' true (some (A.next,b)) none h' (.inr (.inl ⟨aj,fV,kn⟩)) (fun N b' eW=>by cases eW;exact⟨rfl,iK⟩) zS (fun e=>by cases e) (fun _ e=>by cases e) (fun _ _ N b' eW=> ?_) (fun nd e=>by cases e);cases eW;exact⟨nX,A,A',rfl,j.inv.dz _ (xk _),pK,hb⟩
       ·cases h'
      ·have au9:fj E o.op=0:=by
        have: ¬fj E o.op=1:=fun e=>by rw[e] at jy;cases jy
        omega
       have Rj:=N3 au9 pK;subst Rj;exact Gu v A' true none none h' (.inl rfl) (fun N b hb=>by cases hb) zS (fun e=>by cases e) (fun _ _ _=>⟨au9,A',pK⟩) (fun _ _ N b hb=>by cases hb) (fun nd e=>by cases e)
end
end
end Go.Ex
