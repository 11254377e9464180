/- A verified evaluator of Go functions. -/
import Derived.Test.YthicpeihkkokmaaGreatDoorX8
import Derived.Test.YthicpeihkkokmaaGreatDoorX6
import Derived.Test.YthicpeihkkokmaaGreatDoorX4
set_option linter.unusedVariables false
set_option linter.unusedSimpArgs false
namespace Go.Ex
variable{P:Program}{E:au}{w0 w:World}{G n B B' k nob K:Nat}{b tb blk:aE}{cs:List Frame}{β β':af}{A A':AW}{m0:Machine}{v' tc tv:xM}{ρ:a0g}{aN:a0e}{d:D}{l:Loc}{o:Option Obj}{δ lM:a0j}{L:a0l}{tape r:List Node}{Q:(a0j)->Node->Prop}{LL:World->Prop}{f:FuncId}{td xT:List Item}{bo:List (List Item)}{fn:Func}
open Go.RowKit
noncomputable section
section
variable{γ:Type}(E:au)(sq:a0c)(call:eL->a0e->AW->bp xM)(n:Nat)
abbrev KU(γ:Type):=List Item->Fr->AW->Option (List γ)
def Zc(bO:a0o->Fr->AW->bp Fr)(fin:Fr->AW->Option (List γ))(head ih:KU γ)(eR:List Item)(fr:Fr)(A:AW):Option (List γ):=
 match eR with
 |[]=>fin fr A
 | .code .ret::_=>fin fr A
 | .code .skip::k=>ih k fr A
 | .code (.label _)::k=>ih k fr A
 | .code (.seq a b)::k=>ih (.code a:: .code b::k) fr A
 | .code (.cond c x y)::k=>match ev E (fr.get J) c with
  | .bool b=>ih (.code (bs b x y)::k) fr A
  |_=>none
 | .code (.block id c)::k=>ih (.code c:: .inBlock id::k) fr A
 | .code (.loop c)::k=>head (.code c:: .inLoop c::k) fr A
 | .code (.scope c)::k=>ih (.code c:: .inScope c::k) fr A
 | .code (.exit id)::k=>match exitTo id k with|some k'=>ih k' fr A|none=>none
 | .code (.goto l)::k=>match gotoIn l k with|some k'=>ih k' fr A|none=>none
 | .code (.region _ ⟨ops⟩ false)::k=>lG (tz E sq call n ops ops fr A) (fun p=>ih k p.1 p.2)
 | .code (.region _ ⟨ops⟩ true)::k=>lG (bO ops fr A) (fun p=>ih k p.1 p.2)
 | .inBlock _::k=>ih k fr A
 | .inScope _::k=>ih k fr A
 | .inLoop c::k=>head (.code c:: .inLoop c::k) fr A
 |_=>none
abbrev UT(γ:Type):=List Item->au->a0c->(eL->a0e->AW->bp xM)->Nat->(a0o->Fr->AW->bp Fr)->(Fr->AW->Option (List γ))->KU γ->KU γ->Fr->AW->Option (List γ)
def bA2(c:Code):UT γ:=
 Code.rec (motive:=fun _=>UT γ)
  (fun k _ _ _ _ _ _ _ ih fr A=>ih k fr A)
  (fun _ ops dr k E sq call n bO _ _ ih fr A=>bs dr (lG (bO ops.toList fr A) (fun p=>ih k p.1 p.2)) (lG (tz E sq call n ops.toList ops.toList fr A) (fun p=>ih k p.1 p.2)))
  (fun a b _ _ k _ _ _ _ _ _ _ ih fr A=>ih (.code a:: .code b::k) fr A)
  (fun c x y _ _ k E _ _ _ _ _ _ ih fr A=>match ev E (fr.get J) c with| .bool b=>ih (.code (bs b x y)::k) fr A|_=>none)
  (fun id c _ k _ _ _ _ _ _ _ ih fr A=>ih (.code c:: .inBlock id::k) fr A)
  (fun c _ k _ _ _ _ _ _ head _ fr A=>head (.code c:: .inLoop c::k) fr A)
  (fun _ _ _ _ _ _ _ _ _ _ _ _ _ _ _ _ _=>none)
  (fun id k _ _ _ _ _ _ _ ih fr A=>match exitTo id k with|some k'=>ih k' fr A|none=>none)
  (fun c _ k _ _ _ _ _ _ _ ih fr A=>ih (.code c:: .inScope c::k) fr A)
  (fun _ k _ _ _ _ _ _ _ ih fr A=>ih k fr A)
  (fun l k _ _ _ _ _ _ _ ih fr A=>match gotoIn l k with|some k'=>ih k' fr A|none=>none)
  (fun _ _ _ _ _ _ fin _ _ fr A=>fin fr A)
  (fun _ _ _ _ _ _ _ _ _ _ _ _=>none) c
def bu2(i:Item):UT γ:=
 Item.rec (motive:=fun _=>UT γ)
  (fun c=>bA2 c)
  (fun _ k _ _ _ _ _ _ _ ih fr A=>ih k fr A)
  (fun c k _ _ _ _ _ _ head _ fr A=>head (.code c:: .inLoop c::k) fr A)
  (fun _ k _ _ _ _ _ _ _ ih fr A=>ih k fr A)
  (fun _ _ _ _ _ _ _ _ _ _ _ _ _=>none)
  (fun _ _ _ _ _ _ _ _ _ _ _ _=>none)
  (fun _ _ _ _ _ _ _ _ _ _ _ _=>none)
  (fun _ _ _ _ _ _ _ _ _ _ _=>none)
  (fun _ _ _ _ _ _ _ _ _ _ _ _ _ _ _=>none)
  (fun _ _ _ _ _ _ _ _ _ _ _ _ _=>none) i
def Q8(bO:a0o->Fr->AW->bp Fr)(fin:Fr->AW->Option (List γ))(head ih:KU γ)(eR:List Item)(fr:Fr)(A:AW):Option (List γ):=
 List.rec (motive:=fun _=>au->a0c->(eL->a0e->AW->bp xM)->Nat->(a0o->Fr->AW->bp Fr)->(Fr->AW->Option (List γ))->KU γ->KU γ->Fr->AW->Option (List γ))
  (fun _ _ _ _ _ fin _ _ fr A=>fin fr A) (fun i k _=>bu2 i k) eR E sq call n bO fin head ih fr A
theorem aL0(bO:a0o->Fr->AW->bp Fr)(fin:Fr->AW->Option (List γ))(head ih:KU γ)(eR:List Item)(fr:Fr)(A:AW):Q8 E sq call n bO fin head ih eR fr A=Zc E sq call n bO fin head ih eR fr A:=by
 cases eR with
 |nil=>rfl
 |cons i k=>
  cases i with
  |code c=>
   cases c with
   |region id ops dr=>obtain⟨ops⟩:=ops;cases dr<;>rfl
   |_=>rfl
  |_=>rfl
def uP(bO:a0o->Fr->AW->bp Fr)(fin:Fr->AW->Option (List γ))(cut:KU γ)(aU:Nat):Nat->KU γ:=
 Nat.rec (motive:=fun _=>Nat->KU γ) (fun _ _ _ _=>none)
  (fun _ ih m=>Q8 E sq call n bO fin (Nat.rec (motive:=fun _=>KU γ) cut (fun m _=>ih m) m) (ih m)) aU
end
section
variable{sq:a0c}(ok:E.Ok P)(aR:E.Seq P sq){γ:Type}
structure Stood (P:Program) (w0:World) (G:GP) (n:Nat) (b:Frame) (cs:List Frame) (β:af) (A:AW) (m0:Machine) (fin:Fr->AW->Option (List γ)) (cut:KU γ) (bo:List γ):Prop where
 ex:∃(l:List γ) (td:List Item) (cR:Fr) (A':AW) (β':af) (a':Act) (w':World),(∀c∈l,c∈bo)/\bU β' n (cR.get J) a'.tmps/\Inv w0 G β' A' w'/\β.grow β' A.next/\A.next<=A'.next/\a'.defers=[]/\
  ((fin cR A'=some l/\Steps P m0 (lone {b.atR a' td with mode:= .returning} cs w'))\/(cut td cR A'=some l/\Steps P m0 (lone (b.atR a' td) cs w')))
theorem Stood.mono{G:GP}{b:Frame}{aH:af}{A1:AW}{m1:Machine}{fin:Fr->AW->Option (List γ)}{cut:KU γ}{bo Hr:List γ}(h:Stood P w0 G n b cs aH A1 m1 fin cut Hr)(hg:β.grow aH A.next)(hn:A.next<=A1.next)(SB:∀c∈Hr,c∈bo)(hs:Steps P m0 m1):
 Stood P w0 G n b cs β A m0 fin cut bo:=by
 obtain⟨l,td,cR,A',β',a',w',h1,h2,h3,h4,h5,h6,h7⟩:=h.ex;exact⟨l,td,cR,A',β',a',w',fun c hc=>SB c (h1 c hc),h2,h3,af.iP hg h4 hn,xH hn h5,h6,h7.imp (fun⟨x,y⟩=>⟨x,Steps.trans hs y⟩) (fun⟨x,y⟩=>⟨x,Steps.trans hs y⟩)⟩
include ok aR in
theorem Ka{call:eL->a0e->AW->bp xM}(hc:lE P E call){n:Nat}{bO:a0o->Fr->AW->bp Fr}(kr:uF P E n bO){b:Frame}{cs:List Frame}(hb:b.roundOf=none){fin:Fr->AW->Option (List γ)}{cut:KU γ}:
 ∀(aU m:Nat) (eR:List Item) (fr:Fr) (A:AW) (bo:List γ) (β:af) (a:Act) (w:World),uP E sq call n bO fin cut aU m eR fr A=some bo->bU β n (fr.get J) a.tmps->Inv w0 E.G β A w->a.defers=[]->
  Stood P w0 E.G n b cs β A (lone (b.atR a eR) cs w) fin cut bo
 |0,m,eR,fr,A,bo,β,a,w,h,hf,inv,hd=>by cases h
 |aU+1,m,eR,fr,A,bo,β,a,w,h,hf,inv,hd=>by
  have h':Q8 E sq call n bO fin (Nat.rec (motive:=fun _=>KU γ) cut (fun m _=>uP E sq call n bO fin cut aU m) m) (uP E sq call n bO fin cut aU m) eR fr A=some bo:=h;clear h;rw[aL0] at h';have go:∀m p7,uP E sq call n bO fin cut aU m p7 fr A=some bo->step P (lone (b.atR a eR) cs w)= .next (lone (b.atR a p7) cs w)->Stood P w0 E.G n b cs β A (lone (b.atR a eR) cs w) fin cut bo:=fun m p7 h1 h2=>
   (Ka hc kr hb aU m p7 fr A bo β a w h1 hf inv hd).mono (af.cb _ _) (xk _) (fun _ h=>h) (.one h2)
  have goH:∀p7,(Nat.rec (motive:=fun _=>KU γ) cut (fun m _=>uP E sq call n bO fin cut aU m) m:KU γ) p7 fr A=some bo->step P (lone (b.atR a eR) cs w)= .next (lone (b.atR a p7) cs w)->Stood P w0 E.G n b cs β A (lone (b.atR a eR) cs w) fin cut bo:=fun p7 h1 h2=>by
   cases m with
   |zero=>exact⟨bo,p7,fr,A,β,a,w,fun _ h=>h,hf,inv,af.cb _ _,xk _,hd,.inr ⟨h1,.one h2⟩⟩
   |succ m=>grind
  have cy7:∀td,fin fr A=some bo->step P (lone (b.atR a eR) cs w)= .next (lone {b.atR a td with mode:= .returning} cs w)->Stood P w0 E.G n b cs β A (lone (b.atR a eR) cs w) fin cut bo:=fun td h1 h2=>
   ⟨bo,td,fr,A,β,a,w,fun _ h=>h,hf,inv,af.cb _ _,xk _,hd,.inl ⟨h1,.one h2⟩⟩
  have region:∀id ops dr k fx,eR= .code (.region id ⟨ops⟩ dr)::k->(Code.region id ⟨ops⟩ dr).wpIn (kw b.roundOf) 0 P (fun e a' w'=>e= .normal/\pw w0 E.G n β A a.defers fx a' w') a w->(∀p∈fx,∃r,uP E sq call n bO fin cut aU m k p.1 p.2=some r/\∀c∈r,c∈bo)->
   Stood P w0 E.G n b cs β A (lone (b.atR a eR) cs w) fin cut bo:=fun id ops dr k fx ht IM fB=>by
   subst ht;obtain⟨e,a1,w1,⟨rfl,p,hp,aH,g1,g2,g3,g4,g5⟩,Ii⟩:=IM b k cs rfl trivial (Ri _ _);obtain⟨r,eB,bu⟩:=fB p hp;exact(Ka hc kr hb aU m k p.1 p.2 r aH a1 w1 eB g1 g2 (g5.trans hd)).mono g3 g4 bu (StepsIn.steps Ii)
  unfold Zc at h';split at h'
  ·grind [stepR_end]
  ·grind [stepR_ret]
  ·grind [stepR_skip]
  ·grind [stepR_label]
  ·grind [stepR_seq]
  ·rename_i c x y k;have hv:=j7 (a:=a) inv hf c;split at h'
   ·rename_i t ht;rw[ht] at hv;generalize yf:a.eval c=cv at hv;cases hv;refine go _ _ h' ?_;have:=stepR_cond (P:=P) (b:=b) (k:=k) (cs:=cs) (w:=w) (x:=x) (y:=y) yf;rw[this];cases t<;>rfl
   ·cases h'
  ·grind [stepR_block]
  ·exact goH _ h' stepR_loop
  ·grind [VU]
  ·grind [hk,stepR_exit]
  ·grind [hk,stepR_goto]
  ·rename_i id ops k;obtain⟨fx,h1,h2⟩:=vQ h';refine region id ops false k fx rfl ?_ h2;exact wpIn_region_list (A9 ok aR hc ops fr A fx β a w _ h1 hf inv rfl (fun a' w' hp=>⟨rfl,hp⟩))
  ·rename_i id ops k;obtain⟨fx,h1,h2⟩:=vQ h';exact region id ops true k fx rfl (kr _ w0 ops fr A fx β a w id h1 hf inv) h2
  ·grind [stepR_inBlock]
  ·grind [VA]
  ·exact goH _ h' stepR_inLoop
  ·cases h'
end
def heads:Code->List Item->List (List Item)
 | .seq a b,k=>heads a (.code b::k)++heads b k
 | .cond _ x y,k=>heads x k++heads y k
 | .block id c,k=>heads c (.inBlock id::k)
 | .loop c,k=>(.code c:: .inLoop c::k)::heads c (.inLoop c::k)
 | .scope c,k=>heads c (.inScope c::k)
 |_,_=>[]
structure kg where
 tm:List (Nat×xM)
 hp:List aE
def o8(K:Nat)(tm:List (Nat×xM)):Fr:=List.rec (motive:=fun _=>Fr) (T.full J K) (fun p _ ih=>T.set ih p.1 p.2) tm
theorem P1(K:Nat):∀(tm:List (Nat×xM)) (t:Nat),(o8 K tm).get J t=J\/∃tv,(t,tv)∈tm/\(o8 K tm).get J t=tv
 |[],t=> .inl (by rcases T.Da J J K t with e|e<;>exact e)
 |p::tm,t=>by
  by_cases ht:p.1=t
  ·grind [T.ul,J,o8,xn]
  ·have e:(o8 K (p::tm)).get J t=(o8 K tm).get J t:=T.um J (o8 K tm) p.1 t p.2 ht;rw[e];exact(P1 K tm t).imp id fun⟨tv,h1,h2⟩=>⟨tv,xo _ h1,h2⟩
def Bo(l:List aE):a0l:=eY some l
def kg.aw(T:kg)(k:Nat)(L:a0l)(tape:List Node):AW:=(wG k (iU L (Bo T.hp))).pop tape
def cK:Nat:=4294967290
def Kv(v:xM):Bool:=
 match v with
 | .int _ _=>true
 | .bool _=>true
 | .string _=>true
 | .pointer none=>true
 | .slice none 0 0=>true
 | .nilFunc=>true
 | .nilIface=>true
 | .map none=>true
 |_=>false
theorem N5{cG:af}{v:xM}(h:Kv v=true)(hv:aj β v v'):aj cG v v':=by
 unfold Kv at h;split at h
 ·cases hv;exact .int _ _
 ·cases hv;exact .bool _
 ·cases hv;exact .string _
 ·cases hv;exact .qf
 ·cases hv;exact .rP
 ·cases hv;exact .nilFunc
 ·cases hv;exact .nilIface
 ·cases hv;exact .B3
 ·cases h
def sC(A:AW)(v:xM):xM:=
 match v with
 | .iface B (.chan (some (c+1)))=>match A.get B with
  |some ⟨.own (.chan (some (c'+1))),_,_,_,_⟩=> .iface B (.chan (some (c'+1)))
  |_=> .iface B (.chan (some (c+1)))
 |v=>v
theorem Inv.Bg{G:GP}(inv:Inv w0 G β A w):∀v v',aj β v v'->aj β (sC A v) v':=fun v v' h=>by
 unfold sC;split
 ·rename_i B c;split
  ·rename_i c' es ex ro ty hg;have ho:=inv.own B _ hg;obtain⟨rows,h1,h2⟩:=ho;have oD:β.d c'=some (.sl rows):=by
    obtain⟨x,hx,h1⟩:=xr.1 (show(β.d c').bind (fun x=>if x.cell then some x else none)=_ from h1);split at h1<;>cases h1
    exact hx
   cases h with
   |own _ _ iy a cap ho ha hd=>
    rcases h2 with⟨e1,e2⟩|⟨l,ib,e1,e2,e3⟩
    ·rw[ho] at e2;injection e2 with e2;injection e2 with e4 e5 e6;subst e1 e4 e6;rw[e5] at ho⊢;exact .own B c' [] none 0 ho (.inl ⟨rfl,rfl⟩) oD
    ·rw[ho] at e2;injection e2 with e2;injection e2 with e4 e5 e6;subst e4 e6;rw[e5] at ho⊢;exact .own B c' rows _ cap ho (.inr ⟨l,e1,rfl⟩) oD
  ·exact h
 ·exact h
section
variable(G:Nat)(ρ:a0g)(aN:a0e)(A:AW)
def zH(B B':Nat):Bool:=bs (Nat.blt B G) (Nat.beq B B') (match dP ρ (Nat.sub B G) with|some x=>bs (Nat.beq x cK) false (Nat.beq x B')|none=>false)
def Sj(B:Nat):Bool:=bs (Nat.blt B G) false (match dP ρ (Nat.sub B G) with|some x=>Nat.beq x cK|none=>false)
def n6(tc v:xM):Bool:=match tc with| .chan (some (c+1))=>(match dP aN c with|some s=>qe s v|none=>false)|_=>false
def ZB(v:xM):Bool:=match v with| .slice none 0 0=>true|_=>false
def Hu(tv v:xM):Bool:=
 match tv with
 | .chan (some 0)=>true
 | .chan (some (c+1))=>match dP aN c with|some s=>qe s v|none=>false
 | .iface B (.chan (some (c+1)))=>(match v with| .iface B' cv=>Nat.ble G B&&zH G ρ B B'&&eX cv&&n6 aN (.chan (some (c+1))) cv|v=>Sj G ρ B&&ZB v&&n6 aN (.chan (some (c+1))) v)
 | .map (some B)=>(match v with| .map (some B')=>zH G ρ B B'|_=>false)
 | .pointer (some ⟨B,o,none⟩)=>(match v with| .pointer (some ⟨B',o',none⟩)=>zH G ρ B B'&&Nat.beq o o'|_=>false)
 | .slice (some ⟨B,o,none⟩) n c=>(match v with| .slice (some ⟨B',o',none⟩) n' c'=>zH G ρ B B'&&Nat.beq o o'&&Nat.beq n n'&&Nat.beq c c'&&Nat.ble n c&&bs (Nat.beq B tq) false true&&bs (Nat.beq B' tq) false true|_=>false)
 |tv=>Kv tv&&qe tv v
def G7(tv:a0e):a0e->Bool:=
 List.rec (motive:=fun _=>a0e->Bool) (fun b=>List.rec (motive:=fun _=>Bool) true (fun _ _ _=>false) b)
  (fun x _ ih b=>List.rec (motive:=fun _=>Bool) false (fun y t _=>bs (Hu G ρ aN x (sC A y)) (ih t) false) b) tv
def Bs(tv v:xM):Bool:=
 match tv with
 | .agg ⟨l⟩=>(match v with| .agg ⟨l'⟩=>G7 G ρ aN A l l'|_=>false)
 | .func (.func f) ⟨p⟩ ⟨q⟩=>(match v with| .func (.func f') ⟨p'⟩ ⟨q'⟩=>Nat.beq f f'&&G7 G ρ aN A p p'&&G7 G ρ aN A q q'|_=>false)
 |tv=>Hu G ρ aN tv (sC A v)
def G6(tv:a0e):a0e->Bool:=
 List.rec (motive:=fun _=>a0e->Bool) (fun b=>List.rec (motive:=fun _=>Bool) true (fun _ _ _=>false) b)
  (fun x _ ih b=>List.rec (motive:=fun _=>Bool) false (fun y t _=>bs (Bs G ρ aN A x y) (ih t) false) b) tv
def Sd(tv:a0e):a0e->Bool:=
 List.rec (motive:=fun _=>a0e->Bool) (fun b=>List.rec (motive:=fun _=>Bool) true (fun _ _ _=>false) b)
  (fun x _ ih b=>List.rec (motive:=fun _=>Bool) false (fun y t _=>bs (n6 aN x y) (ih t) false) b) tv
def MN(t c:a0e):Bool:=
 match t with
 |[]=>true
 |[.agg ⟨l⟩,x]=>(match c with|[.agg ⟨l'⟩,x']=>Sd aN l l'&&n6 aN x x'|_=>false)
 |_=>false
def uJ(tb b:aE):Bool:=
 match tb,b with
 |⟨.cells cs,es,ex,ro,ty⟩,⟨.cells bC,es',ew,ep,eN⟩=>Nat.beq es es'&&kE ex ew&&kE ro ep&&Nat.beq ty eN&&G6 G ρ aN A cs bC
 |⟨.own tc,es,ex,ro,ty⟩,⟨.own c,es',ew,ep,eN⟩=>Nat.beq es es'&&kE ex ew&&kE ro ep&&Nat.beq ty eN&&eX tc&&eX c&&n6 aN tc c
 |⟨.maps tc,es,ex,ro,ty⟩,⟨.maps c,es',ew,ep,eN⟩=>Nat.beq es es'&&kE ex ew&&kE ro ep&&Nat.beq ty eN&&n6 aN tc c
 |⟨.jV ks tc,es,ex,ro,ty⟩,⟨.jV gu c,es',ew,ep,eN⟩=>Nat.beq es es'&&kE ex ew&&kE ro ep&&Nat.beq ty eN&&mI ks gu&&n6 aN tc c
 |⟨.gM ks tc none,es,ex,ro,ty⟩,⟨.gM gu c none,es',ew,ep,eN⟩=>Nat.beq es es'&&kE ex ew&&kE ro ep&&Nat.beq ty eN&&mI ks gu&&n6 aN tc c
 |⟨.r9 ks tc,es,ex,ro,ty⟩,⟨.r9 gu c,es',ew,ep,eN⟩=>Nat.beq es es'&&kE ex ew&&kE ro ep&&Nat.beq ty eN&&mI ks gu&&n6 aN tc c
 |⟨.qa B tc tl ah4,es,ex,ro,ty⟩,⟨.qa B' c l aB,es',ew,ep,eN⟩=>Nat.beq es es'&&kE ex ew&&kE ro ep&&Nat.beq ty eN&&zH G ρ B B'&&n6 aN tc c&&n6 aN tl l&&MN aN ah4 aB
 |_,_=>false
def Ht(tb:aE):Bool:=
 match tb with
 |⟨.own tc,_,_,_,_⟩=>eX tc&&n6 aN tc (.slice none 0 0)
 |_=>false
def QE(hp:List aE):a0g->Bool:=
 List.rec (motive:=fun _=>a0g->Bool) (fun b=>List.rec (motive:=fun _=>Bool) true (fun _ _ _=>false) b)
  (fun x _ ih b=>List.rec (motive:=fun _=>Bool) false (fun y t _=>bs (bs (Nat.beq y cK) (Ht aN x) (Nat.ble G y&& (match A.get y with|some blk=>uJ G ρ aN A x blk|none=>false))) (ih t) false) b) hp
def bu4(fr:Fr)(tm:List (Nat×xM)):Bool:=fq (fun p=>Bs G ρ aN A p.2 (fr.get J p.1)) tm
def RD(L:a0l):Nat->Bool:=
 List.rec (motive:=fun _=>Nat->Bool) (fun _=>true) (fun x _ ih i=>bs (BV (A.get i) x) (ih (Nat.succ i)) false) L
def nodupB(l:a0g):Bool:=List.rec (motive:=fun _=>Bool) true (fun x t ih=>bs (bs (Nat.beq x cK) true (fq (fun y=>bs (Nat.beq x y) false true) t)) ih false) l
end
def Br(L:a0l)(T:kg)(ρ:a0g)(aN:a0e)(fr:Fr)(A:AW):Bool:=
 bu4 (bA L) ρ aN A fr T.tm&&QE (bA L) ρ aN A T.hp ρ&&RD A L 0&&nodupB ρ
section
variable{cM:af}
theorem Ds{v:xM}(h:eX v=true):∃c,v= .chan (some (c+1)):=by
 unfold eX at h
 grind
def SD(β:af)(s:xM)(d:D):Prop:=d.cell=true/\(∀v',aj β s v'->Rd β.z d v')/\∀d',aZ β.d s=some d'->d'=d
theorem bf7{s:xM}(h:aZ β.d s=some d):SD β s d:=by
 refine⟨?_,fun v' hv=>(GF h hv).1,fun d' h'=>xC (h'.symm.trans h)⟩;unfold aZ at h;split at h
 ·grind [xr]
 all_goals first|(cases h;rfl)|cases h
structure oe (G:Nat) (ρ:a0g) (aN:a0e) (β cM:af):Prop where
 g:∀B,B<G->cM B=β B
 l:∀B x,G<=B->ρ[B - G]? =some x->x≠cK->cM B=β x/\cM.o B=β.o x
 m:∀B,G<=B->ρ[B - G]? =some cK->cM B=none/\cM.o B=some (.slice none 0 0)
 n:∀B,G<=B->ρ[B - G]? =none->cM B=none
 og:∀B v,cM.o B=some v->G<=B/\B<G+ρ.length
 z:cM.z=β.z
 x:cM.x=β.x
 y:cM.y=β.y
 d:∀(c:Nat) (s:xM),aN[c]? =some s->∃d,cM.d c=some d/\SD β s d
theorem GU{x:Nat}(h:Nat.beq x cK=false):x≠cK:=fun e=>by simp_all
theorem QU{a b:Nat}(h:Nat.blt a b=false):b<=a:=Nat.le_of_not_lt fun bk=>by
 grind [Nat.blt,Nat.ble_eq_true_of_le]
theorem Zj(h:oe G ρ aN β cM)(hr:zH G ρ B B'=true):cM B=β B'/\(G<=B->cM.o B=β.o B'):=by
 unfold zH at hr;rcases ax hr with⟨h1,h2⟩|⟨h1,h2⟩
 ·have oD:B<G:=xh h1
  grind [xb,h.g]
 ·rw[fK] at h2;have oD:G<=B:=QU h1;split at h2
  ·rename_i x hx;rcases ax h2 with⟨_,h3⟩|⟨h3,h4⟩
   ·cases h3
   grind [GU,xb,h.l]
  ·cases h2
theorem aW4(h:oe G ρ aN β cM)(hr:Sj G ρ B=true):cM B=none/\cM.o B=some (.slice none 0 0):=by
 unfold Sj at hr;rcases ax hr with⟨h1,h2⟩|⟨h1,h2⟩
 ·cases h2
 ·rw[fK] at h2;split at h2
  ·rename_i x hx;exact h.m B (QU h1) (by simp_all)
  ·cases h2
theorem pb(h:oe G ρ aN β cM){v:xM}(hs:n6 aN tc v=true):∃c d,tc= .chan (some (c+1))/\cM.d c=some d/\SD β v d:=by
 unfold n6 at hs;split at hs
 ·rename_i c;rw[fK] at hs;split at hs
  ·rename_i s cL;obtain rfl:=uu hs;obtain⟨d,h1,h2⟩:=h.d c s cL
   grind
  ·cases hs
 ·cases hs
theorem Xe(h:oe G ρ aN β cM){v:xM}(hs:n6 aN tc v=true)(hd:eH β.d v=some d):eH cM.d tc=some d:=by
 obtain⟨c,d',rfl,h1,h2⟩:=pb h hs;have dY:aZ β.d v=some d:=by
  unfold eH at hd;split at hd
  ·cases hd
  ·exact hd
 have:=h2.2.2 d dY;subst this;show(cM.d c).bind _=_;rw[h1];show(if d.cell then some d else none)=some d;rw[h2.1];rfl
theorem Xd(h:oe G ρ aN β cM):∀{t v:a0e} {ds:a0d},Sd aN t v=true->aI (eH β.d) v=some ds->aI (eH cM.d) t=some ds
 |[],[],ds,_,hd=>hd
 |[],_::_,ds,hi,_=>by cases hi
 |_::_,[],ds,hi,_=>by cases hi
 |x::t,y::v,ds,hi,hd=>by
  have gx:bs (n6 aN x y) (Sd aN t v) false=true:=hi;rcases ax gx with⟨h1,h2⟩|⟨_,h2⟩
  ·obtain⟨d,r,rfl,h3,h4⟩:=iu hd;unfold aI;rw[Xe h h1 h3,Xd h h2 h4]
  ·cases h2
theorem aQ9(h:oe G ρ aN β cM){t v:a0e}{ds:a0d}(hc:MN aN t v=true)(hd:aI (iA β.d) v=some ds):t=[]\/aI (iA cM.d) t=some ds:=by
 unfold MN at hc;split at hc
 ·grind
 ·rename_i l x;split at hc
  ·rename_i l' x';rw[xf] at hc;obtain⟨d1,d2,rfl,h1,h2⟩:=je hd;obtain⟨r,h3,rfl⟩:=xp.1 (show(aI (eH β.d) l').map D.agg=_ from h1);have hx:eH β.d x'=some d2:=by
    obtain⟨c,d',_,_,hsd⟩:=pb h hc.2;unfold iA at h2;split at h2
    ·obtain⟨r2,_,e⟩:=xp.1 h2;subst e;exfalso;obtain⟨c0,_,_,_,h0⟩:=pb h hc.2;have hq:=hc.2;unfold n6 at hq;split at hq
     ·rw[fK] at hq;split at hq
      ·rename_i s _;have:=uu hq;subst this;unfold qe at hq;simp at hq
      ·cases hq
     ·cases hq
    ·exact h2
   refine .inr ?_;unfold aI;have e1:iA cM.d (.agg ⟨l⟩)=some (.agg r):=by
    show(aI (eH cM.d) l).map D.agg=_;rw[Xd h hc.1 h3];rfl
   have e3:=Xe h hc.2 hx;have e2:iA cM.d x=some d2:=by
    obtain⟨c,_,rfl,_,_⟩:=pb h hc.2;exact e3
   grind [aI]
  ·cases hc
 ·cases hc
theorem Kc(h:oe G ρ aN β cM)(hr:zH G ρ B B'=true)(hl:β B'=some l):cM B=some l:=(Zj h hr).1.trans hl
theorem WL(h:oe G ρ aN β cM){v:xM}(hi:Hu G ρ aN tv v=true)(hv:aj β v v'):aj cM tv v':=by
 unfold Hu at hi;split at hi
 ·exact .jW _
 ·rename_i c;rw[fK] at hi;split at hi
  ·rename_i s hs;obtain rfl:=uu hi;obtain⟨d,h1,h2⟩:=h.d c s hs;exact .sym c d v' h1 h2.1 (by rw[h.z];exact h2.2.1 v' hv)
  ·cases hi
 ·rename_i B c;split at hi
  ·rename_i B' cv;simp only [xf] at hi;obtain⟨⟨⟨h0,h1⟩,h2⟩,h3⟩:=hi;obtain⟨c2,d,e1,e2,e3⟩:=pb h h3;cases e1;obtain⟨cc,rfl⟩:=Ds h2;cases hv with
   |own _ _ rows a cap ho ha hd=>
    have dY:=e3.2.2 (.sl rows) (by show(β.d cc).bind _=_;rw[hd];rfl);rw[<-dY] at e2;obtain⟨q1,q2⟩:=Zj h h1;exact .own B c rows a cap ((q2 (xh h0)).trans ho) (ha.imp id fun⟨l,x,y⟩=>⟨l,q1.trans x,y⟩) e2
  ·simp only [xf] at hi;obtain⟨⟨h1,h2⟩,h3⟩:=hi;obtain⟨c2,d,e1,e2,e3⟩:=pb h h3;cases e1;unfold ZB at h2;split at h2
   ·cases hv;have dY:=e3.2.2 (.sl []) rfl;rw[<-dY] at e2;exact .own B c [] none 0 (aW4 h h1).2 (.inl ⟨rfl,rfl⟩) e2
   ·cases h2
 ·rename_i B;split at hi
  ·rename_i B';cases hv with
   |map _ l hl=>exact .map B l (Kc h hi hl)
  ·cases hi
 ·rename_i B o;split at hi
  ·rename_i B' o';rw[xf] at hi;obtain rfl:=xb hi.2;cases hv with
   |ptr _ _ l hl=>exact .ptr B o l (Kc h hi.1 hl)
  ·cases hi
 ·rename_i B o n c;split at hi
  ·rename_i B' o' n' c';simp only [xf] at hi;obtain⟨⟨⟨⟨⟨⟨h1,h2⟩,h3⟩,h4⟩,h5⟩,h6⟩,h7⟩:=hi;obtain rfl:=xb h2;obtain rfl:=xb h3;obtain rfl:=xb h4;cases hv with
   |slice _ _ _ _ c2 l hl hn hc he=>exact .slice B o n c c2 l (Kc h h1 hl) hn hc he
   |empty=>exact absurd h7 a0I
  ·cases hi
 ·rw[xf] at hi;obtain rfl:=uu hi.2;exact N5 hi.1 hv
theorem JB(h:oe G ρ aN β cM)(hA:∀v v',aj β v v'->aj β (sC A v) v'):∀{tv v v':a0e},G7 G ρ aN A tv v=true->aX β v v'->aX cM tv v'
 |[],[],v',_,hv=>by rw[hv.qD];exact aX.nil _
 |[],_::_,v',hi,_=>by cases hi
 |_::_,[],v',hi,_=>by cases hi
 |x::tv,y::v,v',hi,hv=>by
  have gx:bs (Hu G ρ aN x (sC A y)) (G7 G ρ aN A tv v) false=true:=hi;rcases ax gx with⟨h1,h2⟩|⟨_,h2⟩
  ·obtain⟨y',l',rfl,h3,h4⟩:=hv.pc;exact(JB h hA h2 h4).cons (WL h h1 (hA _ _ h3))
  ·cases h2
theorem Gi(h:oe G ρ aN β cM)(hA:∀v v',aj β v v'->aj β (sC A v) v'){v:xM}(hi:Bs G ρ aN A tv v=true)(hv:aj β v v'):aj cM tv v':=by
 unfold Bs at hi;split at hi
 ·split at hi
  ·cases hv with
   |agg _ p' hp h1=>exact aj.nu (JB h hA hi ⟨hp,h1⟩)
  ·cases hi
 ·split at hi
  ·simp only [xf] at hi;obtain rfl:=xb hi.1.1;cases hv with
   |func _ _ p' _ q' hp hq h1 h2=>
    have k1:=JB h hA hi.1.2 ⟨hp,h1⟩;have k2:=JB h hA hi.2 ⟨hq,h2⟩;exact .func _ _ p' _ q' k1.1 k2.1 k1.2 k2.2
  ·cases hi
 grind [WL]
theorem JA(h:oe G ρ aN β cM)(hA:∀v v',aj β v v'->aj β (sC A v) v'):∀{tv v:a0e},G6 G ρ aN A tv v=true->tv.length=v.length/\∀(i:Nat) (x y:xM),tv[i]? =some x->v[i]? =some y->Bs G ρ aN A x y=true
 |[],[],_=>⟨rfl,fun i x y h=>by simp at h⟩
 |[],_::_,hi=>by cases hi
 |_::_,[],hi=>by cases hi
 |x::tv,y::v,hi=>by
  have gx:bs (Bs G ρ aN A x y) (G6 G ρ aN A tv v) false=true:=hi;rcases ax gx with⟨h1,h2⟩|⟨_,h2⟩
  ·obtain⟨k1,k2⟩:=JA h hA h2;refine⟨by simp[k1],fun i a b ha hb=> ?_⟩;cases i with
   |zero=>simp at ha hb;subst ha;subst hb;exact h1
   |succ i=>simp at ha hb;exact k2 i a b ha hb
  ·cases h2
theorem jt(h:oe G ρ aN β cM){v:xM}(hs:n6 aN tc v=true){x:D}(g:aZ β.d v=some x):aZ cM.d tc=some x:=by
 obtain⟨c2,d,rfl,e2,e3⟩:=pb h hs;have hd:=e3.2.2 x g;subst hd;show(cM.d c2).bind _=_;rw[e2];exact if_pos e3.1
theorem aF8(h:oe G ρ aN β cM)(hA:∀v v',aj β v v'->aj β (sC A v) v')(hi:uJ G ρ aN A tb b=true)(hb:gb β l b o):gb cM l tb o:=by
 unfold uJ at hi;split at hi
 ·rename_i cs es ex ro ty bC es' ew ep eN;simp only [xf] at hi;obtain⟨⟨⟨⟨h1,h2⟩,h3⟩,h4⟩,h5⟩:=hi;obtain rfl:=xb h1;obtain rfl:=AY h2;obtain rfl:=AY h3;obtain rfl:=xb h4;obtain⟨k1,k2⟩:=JA h hA h5;obtain⟨aB,e,fz,g1,g2,g3,g4,g5,g6,g7,g8⟩:=hb;refine⟨aB,e,fz,g1,g2,a0D,fun i v hv=> ?_,g5,fun hx=>a0D,g7,g8⟩;have fW:i<bC.length:=by rw[<-k1];exact(xe.1 hv).1
  grind [xc,Gi]
 ·rename_i tc es ex ro ty c es' ew ep eN;simp only [xf] at hi;obtain⟨⟨⟨⟨⟨⟨h1,h2⟩,h3⟩,h4⟩,h5⟩,h6⟩,h7⟩:=hi;obtain rfl:=xb h1;obtain rfl:=xb h4;obtain⟨aB,rows,g1,g2,g3,g4,g5,g6,g7⟩:=hb;exact⟨aB,rows,g1,g2,jt h h7 g3,g4,g5,g6,fun i row j d a b=>by grind [h.z]⟩
 ·rename_i tc es ex ro ty c es' ew ep eN;simp only [xf] at hi;obtain⟨_,h7⟩:=hi;obtain⟨es',ck,rows,g1,g2,g3⟩:=hb;exact⟨es',ck,rows,g1,jt h h7 g2,by rw[h.z];exact g3⟩
 ·rename_i ks tc es ex ro ty gu c es' ew ep eN;simp only [xf] at hi;obtain⟨⟨_,h6⟩,h7⟩:=hi;obtain rfl:=rM _ _ h6;obtain⟨es',ck,rows,g1,g2,g3⟩:=hb;exact⟨es',ck,rows,g1,jt h h7 g2,by rw[h.z];exact g3⟩
 ·rename_i ks tc es ex ro ty gu c es' ew ep eN;simp only [xf] at hi;obtain⟨⟨⟨⟨⟨h1,_⟩,_⟩,h5⟩,h6⟩,h7⟩:=hi;obtain rfl:=xb h1;obtain rfl:=xb h5;obtain rfl:=rM _ _ h6;obtain⟨es2,ck,rows,td,g1,g2,g3,g4,g5⟩:=hb;cases td with
  |none=>exact⟨es2,ck,rows,none,g1,jt h h7 g2,trivial,g4.of_eq h.z h.y,g5⟩
  |some p=>exact g3.elim
 ·rename_i ks tc es ex ro ty gu c es' ew ep eN;simp only [xf] at hi;obtain⟨⟨_,h6⟩,h7⟩:=hi;obtain rfl:=rM _ _ h6;obtain⟨es',ck,rows,g1,g2,g3⟩:=hb;exact⟨es',ck,rows,g1,jt h h7 g2,by rw[h.z];exact g3⟩
 ·rename_i B tc tl ah4 es ex ro ty B' c lc aB es' ew ep eN;simp only [xf] at hi;obtain⟨⟨⟨⟨_,h6⟩,h7⟩,h8⟩,h9⟩:=hi;obtain⟨g0,lb,rows,left,seen,g1,g2,g3,g4,g5,g6⟩:=hb;obtain⟨c2,d,e1,e2,e3⟩:=pb h h7;obtain⟨c3,d',e4,e5,e6⟩:=pb h h8;subst e1;subst e4;have dY:=e3.2.2 (.sl rows) g3;rw[<-dY] at e2;have UK:=e6.2.2 (.sl left) g4;rw[<-UK] at e5;exact⟨g0,lb,rows,left,seen,g1,Kc h h6 g2,by show(cM.d c2).bind _=_;rw[e2];rfl,by show(cM.d c3).bind _=_;rw[e5];rfl,g5,by
   rcases g6 with g6|⟨Ho,i,row,p1,p2,p3⟩
   ·subst g6;unfold MN at h9
    grind
   grind [aQ9,id]⟩
 ·cases hi
theorem ay5(hi:uJ G ρ aN A tb b=true):tb.still=b.still:=by
 unfold uJ at hi;split at hi
 ·simp only [xf] at hi;exact AY hi.1.1.2
 ·simp only [xf] at hi;exact AY hi.1.1.1.1.2
 ·rfl
 ·rfl
 ·rfl
 ·rfl
 ·rfl
 ·cases hi
theorem aF9(h:oe G ρ aN β cM)(hA:∀v v',aj β v v'->aj β (sC A v) v')(hi:uJ G ρ aN A tb b=true)(hf:cM B=β B')(ho:cM.o B=β.o B')(kB:jI β B' b):jI cM B tb:=by
 unfold uJ at hi;split at hi
 ·trivial
 ·rename_i tc es ex ro ty c es' ew ep eN;simp only [xf] at hi;obtain⟨⟨⟨⟨⟨⟨h1,h2⟩,h3⟩,h4⟩,h5⟩,h6⟩,h7⟩:=hi;obtain rfl:=xb h1;obtain⟨rows,g1,g2⟩:=kB;exact⟨rows,jt h h7 g1,g2.imp (fun⟨x,y⟩=>⟨x,ho.trans y⟩) fun⟨l,cap,x,y,z⟩=>⟨l,cap,hf.trans x,ho.trans y,z⟩⟩
 ·trivial
 ·trivial
 ·trivial
 ·trivial
 ·trivial
 ·cases hi
theorem aF7(h:oe G ρ aN β cM)(hA:∀v v',aj β v v'->aj β (sC A v) v')(hi:Ht aN tb=true)(ho:cM.o B=some (.slice none 0 0)):jI cM B tb:=by
 unfold Ht at hi;split at hi
 ·rw[xf] at hi;obtain⟨c2,d,e1,e2,e3⟩:=pb h hi.2;subst e1;have dY:=e3.2.2 (.sl []) rfl;rw[<-dY] at e2;exact⟨[],by show(cM.d c2).bind _=_;rw[e2];rfl,.inl ⟨rfl,ho⟩⟩
 ·cases hi
end
section
theorem N1{A:AW}:∀{hp:List aE} {r:a0g},QE G ρ aN A hp r=true->hp.length=r.length/\∀(j:Nat) (tb:aE) (x:Nat),hp[j]? =some tb->r[j]? =some x->(x=cK/\Ht aN tb=true)\/(x≠cK/\G<=x/\∃blk,A.get x=some blk/\uJ G ρ aN A tb blk=true)
 |[],[],_=>⟨rfl,fun j tb x h=>by simp at h⟩
 |[],_::_,h=>by cases h
 |_::_,[],h=>by cases h
 |t::hp,y::r,h=>by
  have h':bs (bs (Nat.beq y cK) (Ht aN t) (Nat.ble G y&& (match A.get y with|some blk=>uJ G ρ aN A t blk|none=>false))) (QE G ρ aN A hp r) false=true:=h;rcases ax h' with⟨h1,h2⟩|⟨_,h2⟩
  ·obtain⟨k1,k2⟩:=N1 h2;refine⟨by simp[k1],fun j tb x ha hb=> ?_⟩;cases j with
   |zero=>
    simp at ha hb;subst ha;subst hb;rcases ax h1 with⟨e1,e2⟩|⟨e1,e2⟩
    ·simp_all
    ·rw[xf] at e2;refine .inr ⟨GU e1,xh e2.1,?_⟩
     grind
   |succ j=>grind
  ·cases h2
theorem Wk{A:AW}:∀{L:a0l} {i:Nat},RD A L i=true->∀(g:Nat) (x:Option aE),L[g]? =some x->A.get (i+g)=x
 |[],i,_,g,x,h=>by simp at h
 |y::L,i,hh,g,x,h=>by
  have h':bs (BV (A.get i) y) (RD A L (Nat.succ i)) false=true:=hh;rcases ax h' with⟨h1,h2⟩|⟨_,h2⟩
  ·cases g with
   |zero=>simp at h;subst h;exact Yo h1
   |succ g=>
    simp at h;have:=Wk h2 g x h;rw[show i+(g+1)=Nat.succ i+g by omega];exact this
  ·cases h2
theorem N0:∀{l:a0g},nodupB l=true->∀(i j x:Nat),l[i]? =some x->l[j]? =some x->x≠cK->i=j
 |[],_,i,j,x,h,_,_=>by simp at h
 |y::l,hh,i,j,x,h,k,hx=>by
  have h':bs (bs (Nat.beq y cK) true (fq (fun z=>bs (Nat.beq y z) false true) l)) (nodupB l) false=true:=hh;rcases ax h' with⟨h1,h2⟩|⟨_,h2⟩
  ·have bq:∀m,x=y->l[m]? =some x->False:=fun m hxy hm=>by
    rcases ax h1 with⟨e1,_⟩|⟨_,e2⟩
    ·simp_all
    ·have:=pn _ l e2 x (xu hm);rw[hxy] at this;have e:Nat.beq y y=true:=a0C
     rw[e] at this;cases this
   cases i with
   |zero=>
    cases j with
    |zero=>rfl
    |succ j=>simp at h k;exact(bq j h.symm k).elim
   |succ i=>
    cases j with
    |zero=>simp at h k;exact(bq i k.symm h).elim
    |succ j=>simp at h k;rw[N0 h2 i j x h k hx]
  ·cases h2
theorem ax8{cG:af}{cs:a0e}{es:Nat}{ex ro:Bool}{ty:xN}(hs:(cs.all zG)=true)(hb:gb β l ⟨.cells cs,es,ex,ro,ty⟩ o):gb cG l ⟨.cells cs,es,ex,ro,ty⟩ o:=by
 obtain⟨aB,e,fz,g1,g2,g3,g4,g5,g6,g7,g8⟩:=hb;refine⟨aB,e,fz,g1,g2,g3,fun i v hv=> ?_,g5,g6,g7,g8⟩;obtain⟨v',e1,e2⟩:=g4 i v hv;have:=List.all_eq_true.1 hs v (xu hv);refine⟨v',e1,N5 ?_ e2⟩;unfold zG at this;split at this<;>first|rfl|cases this
def pE(G:Nat)(ρ:a0g)(β:af)(δ:a0j):af where
 f:=fun B=>if B<G then β B else(match ρ[B - G]? with|some x=>if x=cK then none else β x|none=>none)
 z:=β.z
 d:=δ
 x:=β.x
 y:=β.y
 o:=fun B=>if B<G then none else(match ρ[B - G]? with|some x=>if x=cK then some (.slice none 0 0) else β.o x|none=>none)
theorem y5(G:Nat)(ρ:a0g)(β:af)(δ:a0j)(B:Nat):(pE G ρ β δ) B=if B<G then β B else(match ρ[B - G]? with|some x=>if x=cK then none else β x|none=>none):=rfl
theorem G5(G:Nat)(ρ:a0g)(β:af)(δ:a0j)(B:Nat):(pE G ρ β δ).o B=if B<G then none else(match ρ[B - G]? with|some x=>if x=cK then some (.slice none 0 0) else β.o x|none=>none):=rfl
theorem YD(hd:∀(c:Nat) (s:xM),aN[c]? =some s->∃d,δ c=some d/\SD β s d):oe G ρ aN β (pE G ρ β δ):=
 ⟨fun B h=>by rw[y5,if_pos h],fun B x h hx hn=>⟨by rw[y5,if_neg a0B,hx];grind,by rw[G5,if_neg a0B,hx];grind⟩,
  fun B h hx=>⟨by rw[y5,if_neg a0B,hx];grind,by rw[G5,if_neg a0B,hx];grind⟩,fun B h hx=>by rw[y5,if_neg a0B,hx],
  fun B v h=>by
   rw[G5] at h
   grind,rfl,rfl,rfl,hd⟩
end
def BN(L:a0l):Prop:=∀g,g<L.length->L[g]? =some none\/∃cs es,L[g]? =some (some ⟨.cells cs,es,false,true,jS⟩)/\(cs.all zG)=true
theorem yT(T:kg)(k:Nat)(L:a0l)(tape:List Node):(T.aw k L tape).next=L.length+T.hp.length:=by
 show bA (iU L (Bo T.hp))=_;unfold Bo;rw[du,mF,pj,xa,xm]
theorem y8{T:kg}(h:(T.aw k L tape).get B=some blk):(B<L.length/\L[B]? =some (some blk))\/(L.length<=B/\T.hp[B - L.length]? =some blk):=by
 have h1:=yM k _ B blk h;unfold Bo at h1;rw[mF,pj] at h1
 grind
theorem aP3(hL:BN L){T:kg}{fr:Fr}(hi:Br L T ρ aN fr A=true)
 (inv:Inv w0 ⟨L.length,Q,LL⟩ β A w) {δ:a0j} (hd:∀(c:Nat) (s:xM),aN[c]? =some s->∃d,δ c=some d/\SD β s d) {tape:List Node} (ht:∀nd∈tape,Q δ nd) (k:Nat):
 Inv w0 ⟨L.length,Q,LL⟩ (pE L.length ρ β δ) (T.aw k L tape) w/\∀(K n:Nat) (tmps:a0x),bU β n (fr.get J) tmps->bU (pE L.length ρ β δ) n ((o8 K T.tm).get J) tmps:=by
 unfold Br at hi;rw[du] at hi;simp only [xf] at hi;obtain⟨⟨⟨ua,fW⟩,o4⟩,rA⟩:=hi;have hI:=YD (G:=L.length) (ρ:=ρ) hd;obtain⟨aD,wS⟩:=N1 fW;have cc3:∀g,g<L.length->A.get g=(L[g]?).join:=fun g hg=>by
  have:=Wk o4 g _ (xc hg)
  grind
 have kU:∀B l,L.length<=B->(pE L.length ρ β δ) B=some l->∃x,ρ[B - L.length]? =some x/\x≠cK/\β x=some l:=fun B l hB h=>by
  cases hx:ρ[B - L.length]? with
  |none=>grind [hI.n]
  |some x=>
   by_cases hn:x=cK
   ·grind [hI.m]
   ·rw[(hI.l B x hB hx hn).1] at h;grind
 have ao:∀B x,L.length<=B->ρ[B - L.length]? =some x->x≠cK->∀tb,T.hp[B - L.length]? =some tb->L.length<=x/\∃blk,A.get x=some blk/\uJ L.length ρ aN A tb blk=true:=fun B x hB hx hn tb htb=>by
  grind
 have iL:∀B x,L.length<=B->ρ[B - L.length]? =some x->x≠cK->L.length<=x:=fun B x hB hx hn=>by
  have hj:B - L.length<T.hp.length:=by rw[aD];exact(xe.1 hx).1
  exact(ao B x hB hx hn _ (xc hj)).1
 refine⟨⟨inv.below,fun B l h=> ?_,fun B h=> ?_,fun B l h=> ?_,fun B B' l l' h h' hb h1 h2=> ?_,fun B blk l h h'=> ?_,fun g hg=> ?_,inv.cP,fun B l blk hG h hk hs=> ?_,ht,fun B blk h=> ?_,fun B v h=> ?_,inv.lay,inv.xg,inv.jP,inv.zo,fun b hh hy=> ?_⟩,fun K n tmps hf=>⟨hf.1,fun t=> ?_⟩⟩
 ·rw[yT]
  grind
 ·rw[yT] at h;cases hq:(T.aw k L tape).get B with
  |none=>rfl
  |some blk=>
   rcases y8 hq with⟨h1,_⟩|⟨_,h2⟩
   ·omega
   grind
 ·by_cases hB:B<L.length
  ·rw[hI.g B hB] at h;exact⟨(inv.loc B l h).1,.inl hB⟩
  ·obtain⟨x,hx,hn,h3⟩:=kU B l a0B h;have:=iL B x a0B hx hn;exact⟨(inv.loc x l h3).1,(inv.loc x l h3).2.elim (fun h=>absurd h a0D) .inr⟩
 ·obtain⟨b1,bY⟩:=Option.isSome_iff_exists.1 h1;obtain⟨b2,bM⟩:=Option.isSome_iff_exists.1 h2;rcases y8 bY with⟨q1,q2⟩|⟨q1,q2⟩<;>rcases y8 bM with⟨p1,p2⟩|⟨p1,p2⟩
  ·grind [hI.g,inv.inj]
  ·grind [hI.g,inv.inj]
  ·grind [hI.g,inv.inj]
  ·obtain⟨x,hx,hn,h3⟩:=kU B l q1 h;obtain⟨y,hy,gf,h4⟩:=kU B' l' p1 h';obtain⟨_,blk,qv,_⟩:=ao B x q1 hx hn _ q2;obtain⟨_,Cg,Ny,_⟩:=ao B' y p1 hy gf _ p2;have e:=inv.inj x y l l' h3 h4 hb (by rw[qv];rfl) (by rw[Ny];rfl);subst e;have:=N0 rA _ _ _ hx hy hn;omega
 ·rcases y8 h with⟨q1,q2⟩|⟨q1,q2⟩
  ·rw[hI.g B q1] at h';rcases hL B q1 with e1|⟨cs,es,e1,e2⟩<;>rw[q2] at e1
   ·cases e1
   cases e1;exact ax8 e2 (inv.cont B _ l a0D h')
  grind [aF8,inv.Bg,inv.cont]
 ·grind [inv.jk,hI.g]
 ·rcases y8 hk with⟨q1,q2⟩|⟨q1,q2⟩
  ·grind
  ·obtain⟨x,hx,hn,h3⟩:=kU B l q1 h;obtain⟨pL,Cg,qv,Ny⟩:=ao B x q1 hx hn _ q2;exact inv.sep x l Cg pL h3 qv (ay5 Ny▸hs)
 ·rcases y8 h with⟨q1,q2⟩|⟨q1,q2⟩
  ·rcases hL B q1 with e1|⟨cs,es,e1,e2⟩<;>rw[q2] at e1
   ·cases e1
   cases e1;trivial
  ·have hj:B - L.length<ρ.length:=by rw[<-aD];exact(xe.1 q2).1
   have hx:=xc hj;rcases wS _ _ _ q2 hx with⟨e,CI⟩|⟨hn,cx1,Cg,qv,Ny⟩
   ·rw[e] at hx;exact aF7 hI inv.Bg CI (hI.m B q1 hx).2
   ·obtain⟨f1,f2⟩:=hI.l B _ q1 hx hn
    grind [aF9,inv.Bg,inv.own]
 ·rw[yT,aD];exact(hI.og B v h).2
 ·obtain⟨y1,y2,y3,y4⟩:=inv.dR b hh hy;refine⟨y1,y2,y3,fun B l h ha=> ?_⟩;obtain⟨b1,bY⟩:=Option.isSome_iff_exists.1 ha;rcases y8 bY with⟨q1,q2⟩|⟨q1,q2⟩
  ·grind [hI.g]
  grind
 ·rcases P1 K T.tm t with e|⟨tv,h1,e⟩
  ·rw[e];exact .jW _
  ·rw[e];exact Gi hI inv.Bg (pn _ _ ua _ h1) (hf.2 t)
def E9(G:Nat)(A:AW):Option AW:=
 match A.tape with
 |sD::nd::r=>match sD.k,sD.args with
  | .own 4,[.map (some B)]=>(match A.get B,nd.k with
   |some ⟨.gM gu c (some (B2,kl)),es,ex,false,ty⟩,.DE ks=>(match A.get B2 with
    |some ⟨.own c2,es2,_,false,qj⟩=>bs (mI ks gu&&r8 nd.args [c,.agg ⟨kl⟩,c2]&&eX nd.res&&Nat.ble G B&&Nat.ble G B2&&Nat.beq es es2&&Nat.beq ty qj) (some (((A.pop r).put B2 none).put B (some ⟨.gM gu nd.res none,es,ex,false,ty⟩))) none
    |_=>none)
   |some ⟨.gM ks c none,es,ex,false,ty⟩,.DH=>bs (r8 nd.args [c]&&eX nd.res&&Nat.ble G B) (some ((A.pop r).put B (some ⟨.r9 ks nd.res,es,ex,false,ty⟩))) none
   |_,_=>none)
  |_,_=>none
 |_=>none
def E7(G n:Nat):AW->AW:=Nat.rec (motive:=fun _=>AW->AW) (fun A=>A) (fun _ ih A=>match E9 G A with|some A1=>ih A1|none=>A) n
theorem mb.drop{b es:Nat}{ty:xN}{ks:a0u}{td:Option (Nat×List D)}{rows:a0b}{kf:a0k}(h:mb β b es ty ks td rows kf):mb β b es ty ks none rows kf:=
 ⟨h.len,fun i row e a1 a2=>by
  grind [row,id,h.row],h.inj,h.key⟩
theorem WM(r:a0d):∀l,List.Perm (zK r l) (r::l)
 |[]=> .refl _
 |x::t=>by
  unfold zK;split
  ·exact .refl _
  ·exact((WM r t).cons x).trans (.swap r x t)
theorem WX:∀l,List.Perm (tK l) l
 |[]=> .refl _
 |r::l=>(WM r _).trans ((WX l).cons r)
def vH(β:af)(ob:Nat):af:={β with
 z:=fun b=>match β.y b with|some h=>if h.own=ob then some h.cs else β.z b|none=>β.z b
 y:=fun b=>match β.y b with|some h=>if h.own=ob then none else some h|none=>none}
section
variable{G:GP}
theorem ad3(h:Inv w0 G β A w)(ob:Nat):(∀b c,β.z b=some c->(vH β ob).z b=some c)/\(∀b c,(vH β ob).z b=some c->β.z b=some c\/∃hh,β.y b=some hh/\hh.own=ob/\c=hh.cs):=by
 refine⟨fun b c e=> ?_,fun b c e=> ?_⟩
 ·show(match β.y b with|some h=>if h.own=ob then some h.cs else β.z b|none=>β.z b)=_;cases hy:β.y b with
  |none=>exact e
  |some hh=>rw[(h.dR b hh hy).2.1] at e;cases e
 ·have e':(match β.y b with|some h=>if h.own=ob then some h.cs else β.z b|none=>β.z b)=some c:=e
  grind
theorem ad4(ob b:Nat)(hh:HY):(vH β ob).y b=some hh↔β.y b=some hh/\hh.own≠ob:=by
 show(match β.y b with|some h=>if h.own=ob then none else some h|none=>none)=some hh↔_
 grind
theorem Inv.bx0(h:Inv w0 G β A w){k blk':aE}(hg:A.get B=some k)(hB:β B=some l)(hG:G.n<=B)(hz0:β.z l.b=none)(hb:gb (vH β l.b) l blk' w.heap[l.b]?)(hp:r7 blk'):Inv w0 G (vH β l.b) (A.put B (some blk')) w/\∀n,β.grow (vH β l.b) n:=by
 obtain⟨z1,z2⟩:=ad3 h l.b;have aK:β.le (vH β l.b):=⟨fun _ _ e=>e,z1,fun _ _ e=>e,rfl,rfl⟩;have lZ:∀C,((A.put B (some blk')).get C).isSome=true->(A.get C).isSome=true:=fun C hs=>by
  grind [A.gk]
 refine⟨⟨h.below,h.fI,fun C hC=> ?_,h.loc,fun C C' lc qn e e' eE ha lz=>h.inj C C' lc qn e e' eE (lZ C ha) (lZ C' lz),fun C kc lc hk e=> ?_,h.jk,fun b c e=> ?_,fun C lc kc FO e hk hs=> ?_,h.dJ,fun C kc hk=> ?_,h.iB,h.lay,h.xg,h.jP,fun b c e=> ?_,fun b hh hy=> ?_⟩,fun n=>⟨fun _ _=>rfl,z1,fun _ _=>rfl,rfl,rfl⟩⟩
 ·have ND:A.next<=C:=hC
  grind [A.gk,h.fI,h.cW]
 ·rcases A.gk B (some blk') C with⟨e2,e3⟩|⟨e2,_⟩|⟨e2,bq⟩
  ·subst e3;rw[e2] at hk;cases hk;have e':β C=some lc:=e
   grind
  ·grind
  ·rw[e2] at hk;refine(h.cont C kc lc hk e).mono aK fun c' h' e1 e3=>(ad4 l.b c' h').2 ⟨e1,fun e4=> ?_⟩
   exact bq (h.inj C B lc l e hB (e3.symm.trans e4) (by rw[hk];rfl) (by rw[hg];rfl))
 ·rcases z2 b c e with e|⟨hh,e2,_,rfl⟩
  ·exact h.cP b c e
  ·exact⟨_,_,(h.dR b hh e2).1⟩
 ·cases hz:(vH β l.b).z lc.b with
  |none=>rfl
  |some cc=>
   exfalso;rcases z2 _ _ hz with e2|⟨hh,e2,_,_⟩
   ·rcases A.gk B (some blk') C with⟨e3,e4⟩|⟨e3,_⟩|⟨e3,_⟩
    ·have e':β C=some lc:=e
     grind
    ·grind
    ·rw[e3] at hk;rw[h.sep C lc kc FO e hk hs] at e2;cases e2
   ·exact(h.dR _ hh e2).2.2.2 C lc e (lZ C (by rw[hk];rfl)) rfl
 ·rcases A.gk B (some blk') C with⟨e2,e3⟩|⟨e2,_⟩|⟨e2,_⟩
  ·grind [hk,hp.ok]
  ·grind
  ·rw[e2] at hk;exact(h.own C kc hk).mono aK
 ·rcases z2 b c e with e|⟨hh,e,_,_⟩
  ·exact h.zo b c e
  ·exact .inr (h.dR b hh e).2.2.1
 ·obtain⟨e1,e2⟩:=(ad4 l.b b hh).1 hy;obtain⟨q1,q2,q3,q4⟩:=h.dR b hh e1;refine⟨q1,?_,q3,fun C lc e ha=>q4 C lc e (lZ C ha)⟩;cases hz:(vH β l.b).z b with
  |none=>rfl
  |some cc=>
   grind
end
section
variable(ok:E.Ok P)
include ok in
theorem be2(h:E9 E.G.n A=some A')(inv:Inv w0 E.G β A w):∃β',Inv w0 E.G β' A' w/\(∀n,β.grow β' n)/\A'.next=A.next:=by
 unfold E9 at h;split at h;rotate_left
 ·cases h
 rename_i sD nd rt ht;split at h;rotate_left
 ·cases h
 rename_i B lS US;have hq:bP β.d nd:=ok.q _ _ (inv.dJ nd a0D);have i2:=inv.pop (r:=rt) (fun x hx=>a0D);split at h
 ·rename_i gu c B2 kl es ex ty ks hg eJ;split at h;rotate_left
  ·cases h
  rename_i c2 es2 ym qj fA;replace h:=ax h;rcases h with⟨hb,h⟩|⟨_,h⟩;rotate_left
  ·cases h
  cases h;simp only [xf] at hb;obtain⟨⟨⟨⟨⟨⟨b1,b2⟩,b3⟩,b4⟩,b5⟩,b6⟩,b7⟩:=hb;obtain rfl:=rM _ _ b1;have dV:=(sM _ _ b2);obtain⟨cy,mP⟩:=qz b3;have hG:=xh b4;have UZ:=xh b5;obtain rfl:=xb b6;obtain rfl:=xb b7;have bq:B2≠B:=fun e=>a0D
  unfold bP at hq;rw[eJ] at hq;obtain⟨ds,dd,q1,q2,q3⟩:=hq;rw[dV] at q1;rw[mP] at q2⊢;obtain⟨q4,q5⟩:=jv q2;obtain⟨dm,dk,dv,rfl,e1,e2,e3⟩:=JE q1;obtain⟨kd,FC,hdk⟩:=xp.1 (show(aI (aZ β.d) kl).map D.agg=_ from e2);subst hdk;obtain⟨cb6,pL,oZ⟩:=inv.own B2 _ fA;obtain⟨v',Uk⟩:∃v',β.o B2=some v':=by
   grind
  cases kq:β B with
  |none=>
   refine⟨β,?_,fun n=>af.cb _ _,rfl⟩;exact(i2.kill B2).D9 (by rw[Od bq];exact hg) kq trivial
  |some l=>
  obtain⟨β',rs,i3,g6,dY,ER,Ng,hyn⟩:=i2.YJ l.b fA UZ Uk;rw[lD dY] at e3;cases e3;obtain⟨es',ck,rows,td,g1,g2,pM,g3,g4,g5⟩:=inv.cont B _ l hg kq;rw[lD g2] at e1;cases e1;have bD1:td=some (B2,kd):=by
   cases td with
   |none=>exact pM.elim
   |some p=>
    obtain⟨x,y⟩:=p;obtain⟨h1,h2⟩:=pM
    grind
  subst bD1;have aF:Oj ks (.sl rows) (.agg kd) (.sl rs)=some dd:=q3;unfold Oj at aF;simp only at aF;split at aF;rotate_left
  ·cases aF
  rename_i iW;obtain⟨us,bI⟩:=Option.isSome_iff_exists.1 iW;have dQ:β' B=some l:=((g6 A.next).f B (inv.fI B l kq)).trans kq;have sB:((A.pop rt).put B2 none).get B=some ⟨.gM ks c (some (B2,kl)),es,ex,false,ty⟩:=by rw[Od bq];exact hg
  have kp:∀{dZ:a0b},mb β' l.b es ty ks none dZ es'->dd= .sl dZ->∃β',Inv w0 E.G β' (((A.pop rt).put B2 none).put B (some ⟨.gM ks (.chan (some (cy+1))) none,es,ex,false,ty⟩)) w/\(∀n,β.grow β' n)/\(((A.pop rt).put B2 none).put B (some ⟨.gM ks (.chan (some (cy+1))) none,es,ex,false,ty⟩)).next=A.next:=fun{dZ} hm hd=>
   ⟨β',i3.write B l _ _ sB dQ hG ⟨rfl,rfl,rfl,xk _,fun _ _ _=>rfl⟩ rfl ⟨es',ck,dZ,none,g1,by rw[(g6 A.next).d];show(β.d cy).bind _=_;grind,trivial,hm,g4,g5⟩,g6,rfl⟩
  cases dX:cY kd rows with
  |none=>
   rw[dX] at aF;cases aF;exact kp (g3.drop.mono (g6 A.next).z (fun B v h=>(i2.gC (g6 _)).o B v h) (fun c h e1 _=>Ng c h e1)) rfl
  |some j0=>
   rw[dX] at aF;simp only at aF;split at aF;rotate_left
   ·cases aF
   rename_i k0 gR;cases aF;obtain⟨d0,zy⟩:=JY bI dX (fun i r hi=>by
    have aW:i<es'.length:=by rw[<-g3.len];exact(xe.1 hi).1
    obtain⟨ds,vs,d,x,hf,_⟩:=g3.row i r _ hi (xc aW)
    grind)
   rw[gR] at zy;cases zy;have j5:j0<rows.length:=(xe.1 gR).1;have fV:j0<es'.length:=by rw[<-g3.len];exact j5
   have bT:es'[j0]? =some es'[j0]:=xc fV;obtain⟨yn,vf,d0,bu,o6,qb,FG⟩:=g3.row j0 _ _ gR bT;cases bu;have hval:es'[j0].val=v':=by
    rcases FG with⟨_,h⟩|⟨_,h,_⟩
    ·grind
    ·cases h
   have kU:∀(i:Nat) (r:a0d),i≠j0->(rows.set j0 [.agg kd,.sl rs])[i]? =some r->rows[i]? =some r:=fun i r hi h1=>a0D
   exact kp (g3.drop.mi (β':=β') (j:=j0) (kd:=kd) (d:= .sl rs) (ej:=es'[j0]) (by simp[g3.len]) (fun i r e hi h1 h2=>⟨kU i r hi h1,e,h2,rfl,rfl⟩) (List.getElem?_set_self j5) bT o6 qb (.inr ⟨rs,rfl,a0D⟩) (fun B k e=>by cases e) (fun i r hi h1 he=>hi (g3.key i j0 r _ (kU i r hi h1) gR (by rw[he];rfl)))
    (fun i r Ct e hi h1 h2 h3 hq=>hq.mono (g6 A.next).z (fun c h e1 _=>Ng c h e1)) (fun _ i r e c hi h1 h2 h3 js bF=>by
     obtain⟨ds,vs,d,x1,_,_,x4⟩:=g3.row i r e h1 h3;rcases x4 with⟨p,_⟩|⟨Ct,_,q⟩
     ·grind
     ·rcases q with⟨_,o3⟩|⟨c',off,cap,hh,o3,hy1,_⟩
      ·rw[o3] at js;cases js
      ·rw[o3] at js;cases js
       grind)) rfl
 ·rename_i ks c es ex ty hg eJ;replace h:=ax h;rcases h with⟨hb,h⟩|⟨_,h⟩;rotate_left
  ·cases h
  cases h;simp only [xf] at hb;obtain⟨⟨b2,b3⟩,b4⟩:=hb;have dV:=(sM _ _ b2);obtain⟨cy,mP⟩:=qz b3;have hG:=xh b4;unfold bP at hq;rw[eJ] at hq;obtain⟨ds,dd,q1,q2,q3⟩:=hq;rw[dV] at q1;rw[mP] at q2⊢;obtain⟨q4,q5⟩:=jv q2;obtain⟨dm,rfl,e1⟩:=kP q1;cases kq:β B with
  |none=>exact⟨β,i2.D9 hg kq trivial,fun n=>af.cb _ _,rfl⟩
  |some l=>
  obtain⟨es',ck,rows,td,g1,g2,pM,g3,g4,g5⟩:=inv.cont B _ l hg kq;rw[lD g2] at e1;cases e1;have aF:On (.sl rows)=some dd:=q3;unfold On at aF;simp only at aF;split at aF;rotate_left
  ·cases aF
  rename_i fB;cases aF;rw[List.all_eq_true] at fB;obtain⟨z1,z2⟩:=ad3 inv l.b;obtain⟨i3,g6⟩:=i2.bx0 (blk':=⟨.r9 ks (.chan (some (cy+1))),es,ex,false,ty⟩) hg kq hG (inv.sep B l _ hG kq hg rfl) (by
   refine⟨es',ck,tK rows,g1,by show(β.d cy).bind _=_;rw[q4];rfl,rows,WX rows,⟨g3.len,fun i row e a1 a2=> ?_⟩,g3.key⟩;obtain⟨ds,vs,d,x1,x2,x3,x4⟩:=g3.row i row e a1 a2;have gd:=fB row (xu a1);rcases x4 with⟨p,_⟩|⟨rs,p,q⟩
   ·rw[x1,p] at gd;cases gd
   ·refine⟨ds,vs,d,x1,x2,x3,by rw[p];rfl,?_⟩;rw[p];rcases q with⟨rfl,hv⟩|⟨cc,off,cap,hh,hv,hy,ho,Nl,h1,h2,h3,h4⟩
    ·rw[hv];exact .rj
    ·rw[hv];by_cases CE:rs=[]
     ·subst CE;exact .nO _ _
     ·have hz:(vH β l.b).z cc=some hh.cs:=by
       show(match β.y cc with|some h=>if h.own=l.b then some h.cs else β.z cc|none=>β.z cc)=_;rw[hy];exact if_pos ho
      refine .sl rs es cc off cap hh.cs hz CE h3 h1 h2 fun i row j d v a b cx=> ?_
      obtain⟨v2,y1,y2⟩:=h4 i row j d a b
      grind [y2.mono]) (by intro c h;cases h)
  exact⟨_,i3,g6,rfl⟩
 ·cases h
include ok in
theorem Qa{w0 w:World}:∀(n:Nat) {A:AW} {β:af},Inv w0 E.G β A w->∃β',Inv w0 E.G β' (E7 E.G.n n A) w/\(∀m,β.grow β' m)/\(E7 E.G.n n A).next=A.next
 |0,A,β,inv=>⟨β,inv,fun _=>af.cb _ _,rfl⟩
 |n+1,A,β,inv=>by
  show∃β',Inv w0 E.G β' (match E9 E.G.n A with|some A1=>E7 E.G.n n A1|none=>A) w/\_/\(match E9 E.G.n A with|some A1=>E7 E.G.n n A1|none=>A).next=_;cases h:E9 E.G.n A with
  |none=>exact⟨β,inv,fun _=>af.cb _ _,rfl⟩
  |some A1=>
   obtain⟨aH,i1,g1,n1⟩:=be2 ok h inv;obtain⟨cG,i2,g2,n2⟩:=Qa n i1;exact⟨cG,i2,fun m=>af.iP (g1 m) (g2 m) (xk _),n2.trans n1⟩
end
structure io where
 args:a0e
 hp:List aE
 nob:Nat
 rv:xM
 hp':List aE
def nD(hp:List aE):kg:=⟨[],hp⟩
def G0(L:a0l)(LL:World->Prop):GP:=⟨L.length,fun _ _=>True,LL⟩
def at6(P:Program)(w0:World)(G:GP)(k:Nat)(L:a0l)(β:af)(b:Frame)(cs:List Frame)(m0:Machine)(sg:io)(out:a0d):Prop:=
 ∃(a':Act) (w':World) (xT:List Item) (v:xM) (β':af) (fn:Func),Steps P m0 (lone {b.atR a' xT with mode:= .returning} cs w')/\a'.defers=[]/\P.funcs[b.fn]? =some fn/\(results fn a'.tmps).run P w'= .ok v w'/\
  Inv w0 G β' ((nD sg.hp').aw k L []) w'/\aj β' sg.rv v/\(∀B,B<L.length+sg.nob->β' B=β B/\(L.length<=B->β'.o B=β.o B))/\(∀b c,β.z b=some c->β'.z b=some c)/\(∀(c:Nat) (d:D),out[c]? =some d->β'.d c=some d)/\β'.x=β.x
def u9(P:Program)(E:au)(f:FuncId)(n K k:Nat)(L:a0l)(sg:io)(td:List Item)(T:kg)(ds out:a0d):Prop:=
 ∀(w0 w:World) (β:af) (b:Frame) (cs:List Frame) (a:Act),b.fn=f->b.roundOf=none->a.defers=[]->Inv w0 E.G β (T.aw k L []) w->bU β n ((o8 K T.tm).get J) a.tmps->β.d=(fun c=>ds[c]?)->
  at6 P w0 E.G k L β b cs (lone (b.atR a td) cs w) sg out
structure af.xV (β β':af):Prop where
 f:∀B l,β B=some l->β' B=some l
 z:∀b c,β.z b=some c->β'.z b=some c
 o:∀B v,β.o B=some v->β'.o B=some v
 d:∀(c:Nat) (d:D),β.d c=some d->β'.d c=some d
theorem my(h:∀(c:Nat) (d:D),δ c=some d->lM c=some d){v:xM}(hv:aZ δ v=some d):aZ lM v=some d:=by
 unfold aZ at hv;split at hv
 ·obtain⟨x,hx,h2⟩:=xr.1 hv;show(lM _).bind _=_
  grind
 all_goals first|exact hv|cases hv
theorem aj.jT(hb:β.xV β'){v:xM}(h:aj β v v'):aj β' v v':=by
 induction h with
 |jW v=>exact .jW v
 |bool b=>exact .bool b
 |int k n=>exact .int k n
 |string s=>exact .string s
 |qf=>exact .qf
 |sym c d v h hc hr=>exact .sym c d v (hb.d _ _ h) hc (hr.mono hb.z)
 |own B c rows a cap h ha hd=>exact .own B c rows a cap (hb.o _ _ h) (ha.imp id fun⟨l,x,y⟩=>⟨l,hb.f _ _ x,y⟩) (hb.d _ _ hd)
 |qS B es off m l iv k h hi=>exact .qS B es off m l iv k (hb.f _ _ h) (my hb.d hi)
 |raw B n cap l h hn hs=>exact .raw B n cap l (hb.f _ _ h) hn (hb.o _ _ hs)
 |part B off n m l iv k h hi hm=>exact .part B off n m l iv k (hb.f _ _ h) (my hb.d hi) hm
 |ptr B o l h=>exact .ptr B o l (hb.f _ _ h)
 |rP=>exact .rP
 |slice B o n c c' l h hn hc he=>exact .slice B o n c c' l (hb.f _ _ h) hn hc he
 |empty o a' c'=>exact .empty o a' c'
 |B3=>exact .B3
 |map B l h=>exact .map B l (hb.f _ _ h)
 |nilFunc=>exact .nilFunc
 |nilIface=>exact .nilIface
 |func f p p' q q' hp hq _ _ i1 i2=>exact .func f p p' q q' hp hq i1 i2
 |yield B l h=>exact .yield B l (hb.f _ _ h)
 |agg p p' hp _ i1=>exact .agg p p' hp i1
 |tuple p p' hp _ i1=>exact .tuple p p' hp i1
theorem bU.jT(hb:β.xV β'){g:Gt}{t:a0x}(h:bU β n g t):bU β' n g t:=⟨h.1,fun i=>(h.2 i).jT hb⟩
theorem aX.jT(hb:β.xV β'){l l':a0e}(h:aX β l l'):aX β' l l':=⟨h.1,fun i v v' a b=>(h.2 i v v' a b).jT hb⟩
def QD(blk:aE):Prop:=∃ks c tk,blk.obj= .gM ks c tk
theorem Oh(h:∀(c:Nat) (d:D),δ c=some d->lM c=some d){v:xM}(hv:bR δ v=some d):bR lM v=some d:=by
 unfold bR at*
 grind [xp,sJ,my]
theorem N8(h:∀(c:Nat) (d:D),δ c=some d->lM c=some d){v:xM}(hv:eH δ v=some d):eH lM v=some d:=by
 unfold eH at*
 grind [my]
theorem Wb(h:∀(c:Nat) (d:D),δ c=some d->lM c=some d){v:xM}(hv:iA δ v=some d):iA lM v=some d:=by
 unfold iA at*;split at hv
 ·obtain⟨ds,h1,rfl⟩:=xp.1 hv
  grind [sJ,N8]
 ·exact N8 h hv
theorem gb.jT(hb:β.xV β')(h:gb β l blk o)(hy:QD blk->∀c h,β.y c=some h->h.own=l.b->β'.y c=some h:=by exact fun _ _ _ h _=>h):gb β' l blk o:=by
 unfold gb at*;cases hk:blk.obj with
 |cells cs=>
  simp only [hk] at h⊢;obtain⟨aB,e,fz,h1,h2,h3,h4,h5,h6,h7⟩:=h;exact⟨aB,e,fz,h1,h2,h3,fun i v hv=>(h4 i v hv).imp fun v' ⟨a,b⟩=>⟨a,b.jT hb⟩,h5,h6,h7⟩
 |loop bz fr n ps a b=>
  simp only [hk] at h⊢;obtain⟨r,h1,h2,h3,h4,h5,h6,h7,h8⟩:=h;exact⟨r,h1,h2,h3,h4,h5,h6,h7,fun t=>(h8 t).jT hb⟩
 |yo=>
  grind
 |own c=>
  simp only [hk] at h⊢;obtain⟨aB,rows,h1,h2,h3,h4,h5,h6,h7⟩:=h;exact⟨aB,rows,h1,h2,my hb.d h3,h4,h5,h6,fun i row j d a b=>(h7 i row j d a b).imp fun v ⟨x,y⟩=>⟨x,y.mono hb.z⟩⟩
 |maps c=>
  simp only [hk] at h⊢;obtain⟨es',ck,rows,h1,h2,h3⟩:=h
  grind [my,hb.d,h3.mono,hb.z]
 |jV ks c=>
  simp only [hk] at h⊢;obtain⟨es',ck,rows,h1,h2,h3,h4⟩:=h
  grind [my,hb.d,h3.mono,hb.z]
 |gM ks c tk=>
  simp only [hk] at h⊢;obtain⟨es',ck,rows,td,h1,h2,h3,h4,h5⟩:=h;exact⟨es',ck,rows,td,h1,my hb.d h2,h3.mono (fun v d=>my hb.d),h4.mono hb.z hb.o (hy ⟨ks,c,tk,hk⟩),h5⟩
 |r9 ks c=>
  simp only [hk] at h⊢;obtain⟨es',ck,rows,h1,h2,iy,h3,h4,h5⟩:=h;exact⟨es',ck,rows,h1,my hb.d h2,iy,h3,h4.mono hb.z,h5⟩
 |qa B c lc aB=>
  simp only [hk] at h⊢;obtain⟨h0,lb,rows,left,seen,h1,h2,h3,h4,h5,h6⟩:=h;exact⟨h0,lb,rows,left,seen,h1,hb.f _ _ h2,my hb.d h3,my hb.d h4,h5,h6.imp id fun⟨Ho,i,row,p,q,s⟩=>⟨Ho,i,row,p,q,sJ (fun v d=>Wb hb.d) s⟩⟩
 |Bq B c lc fin=>
  simp only [hk] at h⊢;obtain⟨h0,lb,rows,left,seen,h1,h2,h3,h4⟩:=h;exact⟨h0,lb,rows,left,seen,hb.f _ _ h1,my hb.d h2,my hb.d h3,h4⟩
theorem jI.jT(hb:β.xV β')(h:jI β B blk):jI β' B blk:=by
 grind [jI,my,hb.d,hb.o,hb.f]
theorem Inv.M6{G:GP}(h:Inv w0 G β A w)(hd:∀(c:Nat) (d:D),β.d c=some d->δ c=some d)(hr:∀nd∈r,Q δ nd):Inv w0 ⟨G.n,Q,G.L⟩ {β with d:=δ} (A.pop r) w/\β.xV {β with d:=δ}:=by
 have hb:β.xV {β with d:=δ}:=⟨fun _ _ h=>h,fun _ _ h=>h,fun _ _ h=>h,hd⟩;exact⟨⟨h.below,h.fI,h.cW,h.loc,h.inj,fun B blk l a b=>(h.cont B blk l a b).jT hb,h.jk,h.cP,h.sep,hr,fun B blk a=>(h.own B blk a).jT hb,h.iB,h.lay,h.xg,h.jP,h.zo,h.dR⟩,hb⟩
def MS(n:Nat)(β:af):XZ:=⟨fun b=>∃B l,n<=B/\β B=some l/\l.b=b,β.z⟩
theorem Inv.reX{G:GP}(h:Inv w0 G β A w)(hL:G.L w)(jA:∀B blk,A.get B=some blk-> ¬QD blk):Inv w G {β with x:=MS G.n β,y:=fun _=>none} A w/\β.xV {β with x:=MS G.n β,y:=fun _=>none}:=by
 have hb:β.xV {β with x:=MS G.n β,y:=fun _=>none}:=⟨fun _ _ h=>h,fun _ _ h=>h,fun _ _ h=>h,fun _ _ h=>h⟩;refine⟨⟨n4.refl _ _,h.fI,h.cW,fun B l e=>⟨(h.loc B l e).1,?_⟩,h.inj,fun B blk l a b=>(h.cont B blk l a b).jT hb (fun h=>absurd h (jA B blk a)),h.jk,h.cP,h.sep,h.dJ,fun B blk a=>(h.own B blk a).jT hb,h.iB,hL,fun b ⟨B,l,e1,e2,e3⟩=> ?_,xH h.jP h.below.size,fun b c e=> .inl e,fun b hh hy=>by cases hy⟩,hb⟩
 ·by_cases hB:B<G.n
  ·exact .inl hB
  ·exact .inr (.inr ⟨B,l,Nat.le_of_not_lt hB,e,rfl⟩)
 ·rcases(h.loc B l e2).2 with h1|h1|h1
  ·grind
  ·grind [xH,h.jP]
  ·rw[<-e3];exact h.xg _ h1
def LB(nob g:Nat)(ρ:a0g):Bool:=Nat.rec (motive:=fun _=>Bool) true (fun i ih=>bs (match dP ρ i with|some x=>bs (Nat.beq x cK) false (Nat.beq x (Nat.add g i))|none=>false) ih false) nob
theorem Ob{g:Nat}{ρ:a0g}:∀{nob:Nat},LB nob g ρ=true->∀i,i<nob->ρ[i]? =some (g+i)/\g+i≠cK
 |0,_,i,h=>a0B
 |n+1,h,i,hi=>by
  have h':bs (match dP ρ n with|some x=>bs (Nat.beq x cK) false (Nat.beq x (Nat.add g n))|none=>false) (LB n g ρ) false=true:=h;rcases ax h' with⟨h1,h2⟩|⟨_,h2⟩
  ·rcases Nat.lt_succ_iff_lt_or_eq.1 hi with h3|rfl
   ·exact Ob h2 i h3
   ·rw[fK] at h1;split at h1
    ·rename_i x hx;rcases ax h1 with⟨_,h1⟩|⟨h3,h1⟩
     ·cases h1
     grind [xb,GU]
    ·cases h1
  ·cases h2
theorem aP2{v:xM}(h:aZ δ v=some d):l7 v=true:=by
 unfold aZ at h;split at h<;>first|rfl|cases h
theorem ba8{v u:xM}(h:kW G n v A=some (u,A'))(hd:l7 v=true):u=v:=by
 cases n with
 |zero=>
  have h':bs (l7 v) (some (v,A)) none=some (u,A'):=h;rw[hd] at h';cases h';rfl
 |succ n=>
  have h':bs (l7 v) (some (v,A)) (EY G (kW G n) v A)=some (u,A'):=h;rw[hd] at h';cases h';rfl
theorem YM{G n:Nat}:∀{l us:a0e} {A A':AW},nJ (kW G n) l A=some (us,A')->∀(c:Nat) (s u:xM),l[c]? =some s->us[c]? =some u->l7 s=true->u=s
 |[],us,A,A',h,c,s,u,hs,_,_=>by simp at hs
 |v::l,us,A,A',h,c,s,u,hs,hu,hd=>by
  have h':(match kW G n v A with|some (u,A1)=>(match nJ (kW G n) l A1 with|some (us,A2)=>some (u::us,A2)|none=>none)|none=>none)=some (us,A'):=h;split at h'
  ·rename_i u1 A1 h1;split at h'
   ·rename_i gO A2 h2;cases h';cases c with
    |zero=>simp at hs hu;subst hs;subst hu;exact ba8 h1 hd
    |succ c=>simp at hs hu;exact YM h2 c s u hs hu hd
   ·cases h'
  ·cases h'
theorem PZ{w0 w:World}{ih:xM->AW->a0q}{G:GP}(eC:∀v A u A' β,ih v A=some (u,A')->Inv w0 G β A w->Vu w0 w G β A v u A'):∀(l:a0e) (A:AW) (us:a0e) (A':AW) (β:af),nJ ih l A=some (us,A')->Inv w0 G β A w->
 ∃β',Inv w0 G β' A' w/\β.grow β' A.next/\A'.next=A.next/\us.length=l.length/\∀eG,β'.grow eG A.next->∀(i:Nat) (v u v':xM),l[i]? =some v->us[i]? =some u->aj eG v v'->aj eG u v'
 |[],A,us,A',β,h,inv=>by
  cases h;exact⟨β,inv,af.cb _ _,rfl,rfl,fun _ _ i v u v' h=>by simp at h⟩
 |v::l,A,us,A',β,h,inv=>by
  have h':(match ih v A with|some (u,A1)=>(match nJ ih l A1 with|some (us,A2)=>some (u::us,A2)|none=>none)|none=>none)=some (us,A'):=h;split at h'
  ·rename_i u A1 h1;split at h'
   ·rename_i gO A2 h2;cases h';obtain⟨aH,i1,g1,n1,f1⟩:=eC v A u A1 β h1 inv;obtain⟨cG,i2,g2,n2,e2,f2⟩:=PZ eC l A1 gO A' aH h2 i1;rw[n1] at g2 f2;refine⟨cG,i2,af.iP g1 g2 (xk _),n2.trans n1,by simp[e2],fun eG hg i a b v' ha hb hv=> ?_⟩;cases i with
    |zero=>simp at ha hb;subst ha;subst hb;exact f1 eG (af.iP g2 hg (xk _)) v' hv
    |succ i=>grind
   ·cases h'
  ·cases h'
def FZ:Nat:=8
def wT(L:a0l)(T:kg)(nob:Nat)(ρ:a0g)(aN us:a0e):KU (List Item):=fun td fr A=>
 match nJ (kW (bA L) FZ) aN (E7 (bA L) FZ A) with
 |some (iX,A')=>bs (kS us iX&&Br L T ρ aN fr A'&&LB nob (bA L) ρ) (some [td]) none
 |none=>none
def Rw(G:Nat)(ρ:a0g)(aN:a0e)(A:AW)(tv v:xM):Bool:=
 match tv with
 | .tuple ⟨l⟩=>(match v with| .tuple ⟨l'⟩=>G6 G ρ aN A l l'|_=>false)
 |tv=>Bs G ρ aN A tv v
def S5(E:au)(rs:List ResultVar)(L:a0l)(sg:io)(ρ:a0g)(aN us:a0e):Fr->AW->a0A:=fun fr A=>
 match HV E fr A rs with
 |some v=>(match nJ (kW (bA L) FZ) aN (E7 (bA L) FZ A) with
  |some (iX,A')=>bs (kS us iX&&Br L (nD sg.hp') ρ aN fr A'&&LB sg.nob (bA L) ρ&&Rw (bA L) ρ aN A' sg.rv v) (some [[]]) none
  |none=>none)
 |none=>none
def aa6:Fr->AW->a0A:=fun _ _=>none
def aa7:KU (List Item):=fun _ _ _=>none
section
variable{sq:a0c}(ok:E.Ok P)(aR:E.Seq P sq)(hG:E.G=⟨L.length,Q,LL⟩)(hL:BN L)
def af.den(β:af)(δ:a0j):af:={β with d:=δ}
include ok hG hL in
theorem P7{us:a0e}{ds1:a0d}(hz:nJ (kW (bA L) FZ) aN A=some (us,A'))(inv:Inv w0 E.G β A w)(ig:aI (aZ β.d) us=some ds1){T:kg}{fr:Fr}(hi:Br L T ρ aN fr A'=true)(k:Nat):
 ∃aH,Inv w0 E.G (pE L.length ρ aH (fun c=>ds1[c]?)) (T.aw k L []) w/\β.grow aH A.next/\Inv w0 E.G aH A' w/\oe L.length ρ aN aH (pE L.length ρ aH (fun c=>ds1[c]?))/\A'.next=A.next/\
  ∀(K n:Nat) (tmps:a0x),bU aH n (fr.get J) tmps->bU (pE L.length ρ aH (fun c=>ds1[c]?)) n ((o8 K T.tm).get J) tmps:=by
 have hn:E.G.n=bA L:=by rw[hG,du]
 rw[<-hn] at hz;obtain⟨aH,i1,g1,n1,e1,f1⟩:=PZ (w0:=w0) (w:=w) (G:=E.G) (fun v A u A' β h i=>we ok FZ v A u A' β h i) aN A us A' β hz inv;have hsd:∀(c:Nat) (s:xM),aN[c]? =some s->∃d,(fun c=>ds1[c]?) c=some d/\SD aH s d:=fun c s hs=>by
  have hc:c<aN.length:=(xe.1 hs).1;have js:c<us.length:=a0B
  have bF:c<ds1.length:=by rw[pd ig];exact js
  have hu:=xc js;have hd:=ng ig (xc bF) hu;rw[<-g1.d] at hd;have vo:=bf7 (β:=aH) hd;refine⟨ds1[c],xc bF,vo.1,fun v' hv=> ?_,fun d' kK=> ?_⟩
  ·grind [GF,af.cb]
  grind [YM,aP2,xC]
 have hI:=YD (G:=L.length) (ρ:=ρ) hsd
 grind [aP3]
theorem WK{β0 aH:af}{n1 n2:Nat}(hk:∀i,i<nob->ρ[i]? =some (L.length+i)/\L.length+i≠cK)(hB:B<L.length+nob)(hn:L.length+nob<=n1)(h4:β0.grow β' n1)(h5:n1<=n2)(g1:β'.grow aH n2):(pE L.length ρ aH δ) B=β0 B/\(L.length<=B->(pE L.length ρ aH δ).o B=β0.o B):=by
 rw[y5,G5];by_cases h:B<L.length
 ·rw[if_pos h,g1.f _ a0B,h4.f _ a0B]
  grind
 ·rw[if_neg h,if_neg h];obtain⟨e1,e2⟩:=hk (B - L.length) a0B;rw[e1,show L.length+(B - L.length)=B by omega];rw[show L.length+(B - L.length)=B by omega] at e2;show(if B=cK then none else aH B)=_/\(_->(if B=cK then some (Value.slice none 0 0) else aH.o B)=_);rw[if_neg e2,if_neg e2,g1.f _ a0B,h4.f _ a0B,g1.o _ a0B,h4.o _ a0B]
  grind
theorem ZY{T:kg}:(T.aw k L []).pop r=T.aw k L r:=rfl
include ok hG hL in
theorem Pj{sg:io}{w':World}{b:Frame}{a':Act}{l:List (List Item)}{T:kg}{us:a0e}{cR:Fr}{N:Nat}{cF out:a0d}
 (h7:wT L T sg.nob ρ aN us td cR A'=some l) (FM:b.fn=f) (hb:b.roundOf=none) (h6:a'.defers=[]) (h3:Inv w0 E.G β' A' w') (h2:bU β' n (cR.get J) a'.tmps) (hs:Steps P m0 (lone (b.atR a' td) cs w'))
 (h4:({β with d:=δ}:af).grow β' N) (hN:L.length+sg.nob<=N) (h5:N<=A'.next) (ig:aI (aZ β'.d) us=some cF) (pM:td=xT) (Bw:u9 P E f n K k L sg xT T cF out):at6 P w0 E.G k L β b cs m0 sg out:=by
 subst pM;unfold wT at h7;split at h7
 ·rename_i gO A2 hz;rcases ax h7 with⟨hi,h7⟩|⟨_,h7⟩
  ·cases h7;simp only [xf] at hi;obtain⟨⟨e1,e2⟩,e3⟩:=hi;have o9:=mB _ _ e1;subst o9;rw[du] at e3;have hk:=Ob e3;have hn:E.G.n=bA L:=by rw[hG,du]
   rw[<-hn] at hz;obtain⟨β0,yi,ga,na⟩:=Qa ok FZ h3;rw[hn] at hz yi na;obtain⟨aH,i1,g0,i2,hI,n1,bE⟩:=P7 ok hG hL hz yi (ds1:=cF) (by rw[(ga 0).d];exact ig) e2 k;rw[na] at g0;have g1:=af.iP (ga _) g0 (xk _);have qW:=h3.gC g1;have uY:=Bw w0 w' _ b cs a' FM hb h6 i1 (bE K n _ (h2.mono qW)) rfl;obtain⟨a3,w3,td3,v,iF,fn,q1,q2,q3,q4,q5,q6,q7,q8,q9,q10⟩:=uY;have hx4:β'.x=β.x:=h4.x;refine⟨a3,w3,td3,v,iF,fn,Steps.trans hs q1,q2,q3,q4,q5,q6,fun B hB=> ?_,fun bb c h=> ?_,q9,q10.trans (g1.x.trans hx4)⟩
   ·obtain⟨u1,u2⟩:=q7 B hB;obtain⟨k1,k2⟩:=WK (β0:={β with d:=δ}) hk hB hN h4 h5 g1;exact⟨u1.trans k1,fun h=>(u2 h).trans (k2 h)⟩
   ·exact q8 bb c (g1.z bb c (h4.z bb c h))
  ·cases h7
 ·cases h7
include ok aR hG hL in
theorem aE7{call:eL->a0e->AW->bp xM}(hc:lE P E call){bO:a0o->Fr->AW->bp Fr}(kr:uF P E n bO){aU m2:Nat}{sg:io}{T T':kg}{TY:a0g}{Se iX:a0e}
 (aM:uP E sq call n bO aa6 (wT L T' sg.nob TY Se iX) aU m2 td (o8 K T.tm) (T.aw k L tape)=some bo) (cc0:∀o∈bo,o=xT) (Mr:sg.nob<=T.hp.length)
 {ds cF:a0d} {δ:a0j} (Fv:∀(c:Nat) (d:D),ds[c]? =some d->δ c=some d) (hn:∀nd∈tape,Q δ nd) (ak2:aI (aZ δ) iX=some cF) {out:a0d} (Bw:u9 P E f n K k L sg xT T' cF out):u9 P E f n K k L sg td T ds out:=by
 intro w0 w β b cs a FM hb FN inv hf hd;obtain⟨mO,CC⟩:=inv.M6 (δ:=δ) (fun c d h=>Fv c d a0D) (Q:=Q) (r:=tape) hn;rw[ZY,show(⟨E.G.n,Q,E.G.L⟩:GP)=E.G by rw[hG]] at mO;have CL:=bU.jT CC hf;have bg:=Ka ok aR hc kr (b:=b) (cs:=cs) hb aU m2 td _ _ bo _ a w aM CL mO FN;obtain⟨l,td2,cR,A',β',a',w',h1,h2,h3,h4,h5,h6,h7⟩:=bg.ex;rcases h7 with⟨h7,_⟩|⟨h7,h8⟩
 ·cases h7
 ·have CW:=h7;unfold wT at CW;split at CW
  ·rcases ax CW with⟨_,CW⟩|⟨_,CW⟩<;>cases CW
   grind [Pj,yT,xn,h4.d]
  ·cases CW
theorem aG0{cM:af}(h:oe G ρ aN β cM)(hA:∀v v',aj β v v'->aj β (sC A v) v'){v:xM}(hi:Rw G ρ aN A tv v=true)(hv:aj β v v'):aj cM tv v':=by
 unfold Rw at hi;split at hi
 ·split at hi
  ·cases hv with
   |tuple _ p' hp h1=>
    obtain⟨k1,k2⟩:=JA h hA hi;refine .tuple _ p' (k1.trans hp) fun i a b ha hb=> ?_
    grind [xe,Gi,xc]
  ·cases hi
 grind [Gi]
include ok aR hG hL in
theorem aM0{call:eL->a0e->AW->bp xM}(hc:lE P E call){bO:a0o->Fr->AW->bp Fr}(kr:uF P E n bO)(pT:P.funcs[f]? =some fn){rs:List ResultVar}(CE:fn.results=⟨rs⟩){aU m2:Nat}{sg:io}{T:kg}{TY:a0g}{Se iX:a0e}
 (aM:uP E sq call n bO (S5 E rs L sg TY Se iX) aa7 aU m2 td (o8 K T.tm) (T.aw k L tape)=some bo) (Mr:sg.nob<=T.hp.length)
 {ds cF:a0d} {δ:a0j} (Fv:∀(c:Nat) (d:D),ds[c]? =some d->δ c=some d) (hn:∀nd∈tape,Q δ nd) (ak2:aI (aZ δ) iX=some cF):u9 P E f n K k L sg td T ds cF:=by
 intro w0 w β b cs a FM hb FN inv hf hd;obtain⟨mO,CC⟩:=inv.M6 (δ:=δ) (fun c d h=>Fv c d a0D) (Q:=Q) (r:=tape) hn;rw[ZY,show(⟨E.G.n,Q,E.G.L⟩:GP)=E.G by rw[hG]] at mO;have CL:=bU.jT CC hf;have bg:=Ka ok aR hc kr (b:=b) (cs:=cs) hb aU m2 td _ _ bo _ a w aM CL mO FN;obtain⟨l,td2,cR,A',β',a',w',h1,h2,h3,h4,h5,h6,h7⟩:=bg.ex;rcases h7 with⟨h7,h8⟩|⟨h7,_⟩
 ·unfold S5 at h7;split at h7
  ·rename_i v hv;split at h7
   ·rename_i gO A2 hz;rcases ax h7 with⟨hi,h7⟩|⟨_,h7⟩
    ·cases h7;simp only [xf] at hi;obtain⟨⟨⟨e1,e2⟩,e3⟩,e4⟩:=hi;have o9:=mB _ _ e1;subst o9;rw[du] at e3 e4;have hk:=Ob e3;obtain⟨v',r1,r2⟩:=Zl ok h3 h2 CE hv;have hn:E.G.n=bA L:=by rw[hG,du]
     rw[<-hn] at hz;obtain⟨β0,yi,ga,na⟩:=Qa ok FZ h3;rw[hn] at hz yi na;obtain⟨aH,i1,g0,i2,hI,n1,bE⟩:=P7 ok hG hL hz yi (ds1:=cF) (by rw[(ga 0).d,h4.d];exact ak2) e2 k;rw[na] at g0;have g1:=af.iP (ga _) g0 (xk _);have qW:=h3.gC g1;refine⟨a',w',td2,v',_,fn,h8,h6,a0D,r1,i1,aG0 hI i2.Bg e4 (r2.mono qW),fun B hB=>WK (β0:={β with d:=δ}) hk hB (by rw[yT];omega) h4 h5 g1,fun bb c h=>g1.z bb c (h4.z bb c h),fun c d h=>h,g1.x.trans h4.x⟩
    ·cases h7
   ·cases h7
  ·cases h7
 ·cases h7
end
def Az(P:Program)(LL:World->Prop)(k:Nat)(L:a0l)(f:FuncId)(sg:io)(ds cF:a0d):Prop:=
 ∀(w:World) (β:af) (args':a0e),Inv w (G0 L LL) β ((nD sg.hp).aw k L []) w->β.d=(fun c=>ds[c]?)->aX β sg.args args'->
  Calls P f ⟨args'⟩ w fun e w'=>∃v β',e= .returned v/\Inv w (G0 L LL) β' ((nD sg.hp').aw k L []) w'/\aj β' sg.rv v/\(∀B,B<L.length+sg.nob->β' B=β B/\(L.length<=B->β'.o B=β.o B))/\(∀b c,β.z b=some c->β'.z b=some c)/\(∀(c:Nat) (d:D),cF[c]? =some d->β'.d c=some d)/\β'.x=β.x
def wX(args:a0e):List (Nat×xM):=args.zipIdx.map fun p=>(p.2,p.1)
theorem aS9{args:a0e}{t:Nat}{v:xM}(h:(t,v)∈wX args):args[t]? =some v:=by
 unfold wX at h;obtain⟨p,hp,e⟩:=xJ.1 h;have:=List.mem_zipIdx_iff_getElem?.1 hp;cases e;exact this
theorem Inv.T5{Q':(a0j)->Node->Prop}(h:Inv w0 ⟨n,Q,LL⟩ β A w)(hA:A.tape=[]):Inv w0 ⟨n,Q',LL⟩ β A w:=
 ⟨h.below,h.fI,h.cW,h.loc,h.inj,h.cont,h.jk,h.cP,h.sep,(fun nd dj=>absurd dj (by rw[hA];exact List.not_mem_nil)),h.own,h.iB,h.lay,h.xg,h.jP,h.zo,h.dR⟩
section
variable(hG:E.G=⟨L.length,Q,LL⟩)
include hG in
theorem aB8{c:Code}(pT:P.funcs[f]? =some fn)(Em:fn.body=some c){sg:io}(aD:sg.args.length<=fn.ntmps){ds cF:a0d}
 (bD4:u9 P E f fn.ntmps K k L sg [.code c] ⟨wX sg.args,sg.hp⟩ ds cF):Az P LL k L f sg ds cF:=by
 intro w β args' inv hd gp cs;have mO:Inv w E.G β ((kg.mk (wX sg.args) sg.hp).aw k L []) w:=by
  rw[hG];exact inv.T5 rfl
 let b:Frame:={(default:Frame) with fn:=f,kind:= .normal,roundOf:=none}
 have aQ:sg.args.length=args'.length:=gp.1;have vm:((⟨args'⟩:a0x)++Array.replicate (fn.ntmps - args'.length) undef).size=fn.ntmps:=by simp;omega
 have QG:Frame.enter P f ⟨args'⟩ .normal=b.atR {tmps:=(⟨args'⟩:a0x)++Array.replicate (fn.ntmps - args'.length) undef,defers:=[]} [.code c]:=by
  simp[Frame.enter,Frame.atR,pT,Em,b]
 have hf:bU β fn.ntmps ((o8 K (wX sg.args)).get J) ((⟨args'⟩:a0x)++Array.replicate (fn.ntmps - args'.length) undef):=by
  refine⟨vm,fun t=> ?_⟩;rcases P1 K (wX sg.args) t with e|⟨tv,h1,e⟩
  ·rw[e];exact .jW _
  ·rw[e];have ha:=aS9 h1;have ht:t<sg.args.length:=(xe.1 ha).1;have Nl:t<args'.length:=a0B
   have hg:((⟨args'⟩:a0x)++Array.replicate (fn.ntmps - args'.length) undef).getD t undef=args'[t]:=by
    rw[Array.getD_eq_getD_getElem?,Array.getElem?_append_left (by simpa using Nl)];simp[Nl]
   rw[hg];exact gp.2 t _ _ ha (xc Nl)
 obtain⟨a',w',xT,v,β',fn',e1,e2,e3,e4,e5,e6,e7,e8,e9,e10⟩:=bD4 w w β b cs {tmps:=(⟨args'⟩:a0x)++Array.replicate (fn.ntmps - args'.length) undef,defers:=[]} rfl rfl rfl mO hf hd;have Nv:fn'=fn:=by
  have:P.funcs[f]? =some fn':=e3;rw[pT] at this;cases this;rfl
 subst Nv;rw[hG] at e5;refine⟨.returned v,w',{b.atR a' xT with mode:= .returning},⟨v,β',rfl,e5.T5 rfl,e6,e7,e8,e9,e10⟩,?_,rfl,rfl,e2,rfl,_,pT,e4⟩;rw[QG];exact e1
end
section
variable(G nob:Nat)(qs:a0g)(res:a0e)
def HR(B:Nat):a0r:=bs (Nat.blt B G) (some B) (dP qs (Nat.sub B G))
def BQ(v:xM):a0t:=
 match v with
 | .chan (some 0)=>some J
 | .chan (some (c+1))=>dP res c
 | .iface B (.chan (some (c+1)))=>match dP qs (Nat.sub B G),dP res c with
  |some x,some r=>bs (Nat.ble (Nat.sub (Nat.add G nob) nob) B&&eX r) (some (.iface x r)) none
  |_,_=>none
 | .pointer (some ⟨B,o,none⟩)=>(match HR G qs B with|some x=>some (.pointer (some ⟨x,o,none⟩))|none=>none)
 | .map (some B)=>(match HR G qs B with|some x=>some (.map (some x))|none=>none)
 |v=>bs (Kv v) (some v) none
def zI(f:xM->a0t)(l:a0e):Option (List xM):=
 List.rec (motive:=fun _=>Option (List xM)) (some []) (fun v _ ih=>match f v with|some u=>(match ih with|some us=>some (u::us)|none=>none)|none=>none) l
def BP(v:xM):a0t:=
 match v with
 | .agg ⟨l⟩=>(match zI (BQ G nob qs res) l with|some r=>some (.agg ⟨r⟩)|none=>none)
 |v=>BQ G nob qs res v
def R'(v:xM):a0t:=
 match v with
 | .tuple ⟨l⟩=>(match zI (BP G nob qs res) l with|some r=>some (.tuple ⟨r⟩)|none=>none)
 |v=>BP G nob qs res v
def wB(tb:aE):Option aE:=
 match tb with
 |⟨.cells cs,es,ex,ro,ty⟩=>(match zI (BP G nob qs res) cs with|some r=>some ⟨.cells r,es,ex,ro,ty⟩|none=>none)
 |⟨.own (.chan (some (c+1))),es,ex,ro,ty⟩=>(match dP res c with|some r=>bs (eX r) (some ⟨.own r,es,ex,ro,ty⟩) none|none=>none)
 |⟨.jV ks (.chan (some (c+1))),es,ex,ro,ty⟩=>(match dP res c with|some r=>bs (eX r) (some ⟨.jV ks r,es,ex,ro,ty⟩) none|none=>none)
 |⟨.r9 ks (.chan (some (c+1))),es,ex,ro,ty⟩=>(match dP res c with|some r=>bs (eX r) (some ⟨.r9 ks r,es,ex,ro,ty⟩) none|none=>none)
 |_=>none
end
structure zU (G nob:Nat) (qs:a0g) (res:a0e) (jX β:af):Prop where
 g:∀B l,B<G->jX B=some l->β B=some l
 q:∀(j x:Nat),qs[j]? =some x->β x=jX (G+j)
 o:∀(j x:Nat),qs[j]? =some x->β.o x=jX.o (G+j)
 z:β.z=jX.z
 d:∀(c:Nat) (r:xM),res[c]? =some r->∃d,jX.d c=some d/\eH β.d r=some d
section
variable{qs:a0g}{res:a0e}{jX:af}
theorem OB{f:xM->a0t}:∀{l r:a0e},zI f l=some r->l.length=r.length/\∀(i:Nat) (v u:xM),l[i]? =some v->r[i]? =some u->f v=some u
 |[],r,h=>by cases h;grind
 |x::l,r,h=>by
  have h':(match f x with|some u=>(match zI f l with|some us=>some (u::us)|none=>none)|none=>none)=some r:=h;split at h'
  ·rename_i u hu;split at h'
   ·rename_i us ig;cases h';obtain⟨k1,k2⟩:=OB ig;refine⟨by simp[k1],fun i a b ha hb=> ?_⟩;cases i with
    |zero=>simp at ha hb;subst ha;subst hb;exact hu
    |succ i=>simp at ha hb;exact k2 i a b ha hb
   ·cases h'
  ·cases h'
theorem OU(h:zU G nob qs res jX β){x:Nat}(hs:HR G qs B=some x)(hl:jX B=some l):β x=some l:=by
 unfold HR at hs;rcases ax hs with⟨h1,h2⟩|⟨h1,h2⟩
 ·cases h2;exact h.g _ _ (xh h1) hl
 ·rw[fK] at h2;have:=QU h1;rw[h.q _ x h2]
  grind
theorem Gm{c:Nat}(h:eH δ (.chan (some (c+1)))=some d):δ c=some d/\d.cell=true:=by
 unfold eH at h;split at h
 ·grind
 ·have h':(δ c).bind (fun x=>if x.cell then some x else none)=some d:=h
  grind [xr]
theorem aK7(h:zU G nob qs res jX β){v u:xM}(hs:BQ G nob qs res v=some u)(hv:aj jX v v'):aj β u v':=by
 unfold BQ at hs;split at hs
 ·cases hs;exact .jW _
 ·rename_i c;rw[fK] at hs;obtain⟨d,h1,h2⟩:=h.d c u hs;cases hv with
  |sym _ d2 _ h3 hc hr=>
   grind [rL,h.z]
 ·rename_i B c;split at hs
  ·rename_i x r hx hr;rcases ax hs with⟨h1,h2⟩|⟨_,h2⟩<;>cases h2
   rw[xf] at h1;obtain⟨c',rfl⟩:=Ds h1.2;have hB:G+nob - nob<=B:=xh h1.1;rw[fK] at hx hr;obtain⟨d,e1,e2⟩:=h.d c _ hr;cases hv with
   |own _ _ rows a cap ho ha hd=>
    rw[e1] at hd;cases hd;have hx':qs[B - G]? =some x:=hx;have hq:=h.q _ x hx';have gT:=h.o _ x hx';rw[show G+(B - G)=B by omega] at hq gT;exact .own x c' rows a cap (gT.trans ho) (ha.imp id fun⟨l,p1,p2⟩=>⟨l,hq.trans p1,p2⟩) (Gm e2).1
  ·cases hs
 ·split at hs
  ·rename_i x hx;cases hs;cases hv with
   |ptr _ _ l hl=>exact .ptr _ _ l (OU h hx hl)
  ·cases hs
 ·split at hs
  ·rename_i x hx;cases hs;cases hv with
   |map _ l hl=>exact .map _ l (OU h hx hl)
  ·cases hs
 ·rcases ax hs with⟨h1,h2⟩|⟨_,h2⟩<;>cases h2
  exact N5 h1 hv
theorem JT{f:xM->a0t}(hf:∀v u v',f v=some u->aj jX v v'->aj β u v'){l r l':a0e}(h:zI f l=some r)(hl:aX jX l l'):aX β r l':=by
 obtain⟨k1,k2⟩:=OB h;refine⟨k1.symm.trans hl.1,fun i u v' hu hv=> ?_⟩;have hi:i<l.length:=by rw[k1];exact(xe.1 hu).1
 exact hf _ u v' (k2 i _ u (xc hi) hu) (hl.2 i _ v' (xc hi) hv)
theorem OV(h:zU G nob qs res jX β){v u:xM}(hs:BP G nob qs res v=some u)(hv:aj jX v v'):aj β u v':=by
 have h1:∀v u v',BQ G nob qs res v=some u->aj jX v v'->aj β u v':=fun v u v' a b=>aK7 h a b
 unfold BP at hs;split at hs
 ·split at hs
  ·rename_i r hr;cases hs;cases hv with
   |agg _ p' hp h2=>exact aj.nu (JT h1 hr ⟨hp,h2⟩)
  ·cases hs
 grind
theorem aK6(h:zU G nob qs res jX β){v u:xM}(hs:R' G nob qs res v=some u)(hv:aj jX v v'):aj β u v':=by
 unfold R' at hs;split at hs
 ·split at hs
  ·rename_i r hr;cases hs;cases hv with
   |tuple _ p' hp h2=>
    have:=JT (fun v u v' a b=>OV h a b) hr ⟨hp,h2⟩;exact .tuple _ p' this.1 this.2
  ·cases hs
 grind [OV]
theorem km(h:zU G nob qs res jX β){c:Nat}{r:xM}{x:D}(hr:dP res c=some r)(hs:eX r=true)(g:aZ jX.d (.chan (some (c+1)))=some x):aZ β.d r=some x:=by
 obtain⟨c',rfl⟩:=Ds hs;rw[fK] at hr;obtain⟨d,e1,e2⟩:=h.d c _ hr;have g':(jX.d c).bind (fun x=>if x.cell then some x else none)=some x:=g;rw[e1] at g';obtain⟨e3,e4⟩:=Gm e2;have g2:(if d.cell then some d else none)=some x:=g';rw[e4] at g2;cases g2;show(β.d c').bind _=_;rw[e3];exact g'
theorem aK4(h:zU G nob qs res jX β)(hs:wB G nob qs res tb=some b)(hb:gb jX l tb o):gb β l b o:=by
 unfold wB at hs;split at hs
 ·split at hs
  ·rename_i r hr;cases hs;obtain⟨aB,e,fz,g1,g2,g3,g4,g5,g6,g7,g8⟩:=hb;obtain⟨k1,k2⟩:=OB hr;refine⟨aB,e,fz,g1,g2,a0D,fun i u hu=> ?_,g5,fun hx=>a0D,g7,g8⟩;have hi:=(xe.1 hu).1;rw[<-k1] at hi;obtain⟨v',e1,e2⟩:=g4 i _ (xc hi);exact⟨v',e1,OV h (k2 i _ u (xc hi) hu) e2⟩
  ·cases hs
 ·split at hs
  ·rename_i r hr;rcases ax hs with⟨h1,h2⟩|⟨_,h2⟩<;>cases h2
   obtain⟨aB,rows,g1,g2,g3,g4,g5,g6,g7⟩:=hb;exact⟨aB,rows,g1,g2,km h hr h1 g3,g4,g5,g6,fun i row j d a b=>by rw[h.z];simp_all⟩
  ·cases hs
 ·split at hs
  ·rename_i r hr;rcases ax hs with⟨h1,h2⟩|⟨_,h2⟩<;>cases h2
   obtain⟨es',ck,rows,g1,g2,g3⟩:=hb;exact⟨es',ck,rows,g1,km h hr h1 g2,by rw[h.z];exact g3⟩
  ·cases hs
 ·split at hs
  ·rename_i r hr;rcases ax hs with⟨h1,h2⟩|⟨_,h2⟩<;>cases h2
   obtain⟨es',ck,rows,g1,g2,g3⟩:=hb;exact⟨es',ck,rows,g1,km h hr h1 g2,by rw[h.z];exact g3⟩
  ·cases hs
 ·cases hs
theorem aA1(hs:wB G nob qs res tb=some b):b.still=tb.still:=by
 unfold wB at hs;split at hs
 ·split at hs<;>cases hs;rfl
 ·split at hs
  ·rcases ax hs with⟨_,h2⟩|⟨_,h2⟩<;>cases h2;rfl
  ·cases hs
 ·split at hs
  ·rcases ax hs with⟨_,h2⟩|⟨_,h2⟩<;>cases h2;rfl
  ·cases hs
 ·split at hs
  ·rcases ax hs with⟨_,h2⟩|⟨_,h2⟩<;>cases h2;rfl
  ·cases hs
 ·cases hs
theorem aK5(h:zU G nob qs res jX β)(hs:wB G nob qs res tb=some b){j x:Nat}(hx:qs[j]? =some x)(ho:jI jX (G+j) tb):jI β x b:=by
 unfold wB at hs;split at hs
 ·split at hs<;>cases hs;trivial
 ·rename_i c es ex ro ty;split at hs
  ·rename_i r hr;rcases ax hs with⟨h1,h2⟩|⟨_,h2⟩<;>cases h2
   obtain⟨rows,g3,g4⟩:=ho;have q1:=h.q j x hx;have q2:=h.o j x hx;exact⟨rows,km h hr h1 g3,g4.imp (fun⟨a,b⟩=>⟨a,q2.trans b⟩) fun⟨l,cap,a,b,c⟩=>⟨l,cap,q1.trans a,q2.trans b,c⟩⟩
  ·cases hs
 ·split at hs
  ·rcases ax hs with⟨_,h2⟩|⟨_,h2⟩<;>cases h2;trivial
  ·cases hs
 ·split at hs
  ·rcases ax hs with⟨_,h2⟩|⟨_,h2⟩<;>cases h2;trivial
  ·cases hs
 ·cases hs
end
end
end Go.Ex
