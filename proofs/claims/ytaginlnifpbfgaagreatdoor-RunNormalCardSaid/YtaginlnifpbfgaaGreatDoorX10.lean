/- A verified evaluator of Go functions. -/
import Derived.Test.YtaginlnifpbfgaaGreatDoorX9
import Derived.Test.YtaginlnifpbfgaaGreatDoorX5
set_option linter.unusedVariables false
set_option linter.unusedSimpArgs false
namespace Go.Ex
open Go.RowKit
noncomputable section
section
variable{γ:Type}(E:aq)(sq:List (Nat×List xO))(call:cT→List xM→AW→aZ xM)(n:Nat)
abbrev KU(γ:Type):=List Item→Fr→AW→Option (List γ)
def Xi(bL:List Oper→Fr→AW→aZ Fr)(fin:Fr→AW→Option (List γ))(head ih:KU γ)(ep:List Item)(fr:Fr)(A:AW):Option (List γ):=
 match ep with
 |[]=>fin fr A
 | .code .ret::_=>fin fr A
 | .code .skip::k=>ih k fr A
 | .code (.label _)::k=>ih k fr A
 | .code (.seq a b)::k=>ih (.code a:: .code b::k) fr A
 | .code (.cond c x y)::k=>match ev E (fr.get J) c with
  | .bool b=>ih (.code (bs b x y)::k) fr A
  |_=>none
 | .code (.block id c)::k=>ih (.code c:: .inBlock id::k) fr A
 | .code (.loop c)::k=>head (.code c:: .inLoop c::k) fr A
 | .code (.scope c)::k=>ih (.code c:: .inScope c::k) fr A
 | .code (.exit id)::k=>match exitTo id k with|some k'=>ih k' fr A|none=>none
 | .code (.goto l)::k=>match gotoIn l k with|some k'=>ih k' fr A|none=>none
 | .code (.region _ ⟨ops⟩ false)::k=>kI (vq E sq call n ops ops fr A) (fun p=>ih k p.1 p.2)
 | .code (.region _ ⟨ops⟩ true)::k=>kI (bL ops fr A) (fun p=>ih k p.1 p.2)
 | .inBlock _::k=>ih k fr A
 | .inScope _::k=>ih k fr A
 | .inLoop c::k=>head (.code c:: .inLoop c::k) fr A
 |_=>none
abbrev UT(γ:Type):=List Item→aq→List (Nat×List xO)→(cT→List xM→AW→aZ xM)→Nat→(List Oper→Fr→AW→aZ Fr)→(Fr→AW→Option (List γ))→KU γ→KU γ→Fr→AW→Option (List γ)
def cp2(c:Code):UT γ:=
 Code.rec (motive:=fun _=>UT γ)
  (fun k _ _ _ _ _ _ _ ih fr A=>ih k fr A)
  (fun _ ops dr k E sq call n bL _ _ ih fr A=>bs dr (kI (bL ops.toList fr A) (fun p=>ih k p.1 p.2)) (kI (vq E sq call n ops.toList ops.toList fr A) (fun p=>ih k p.1 p.2)))
  (fun a b _ _ k _ _ _ _ _ _ _ ih fr A=>ih (.code a:: .code b::k) fr A)
  (fun c x y _ _ k E _ _ _ _ _ _ ih fr A=>match ev E (fr.get J) c with| .bool b=>ih (.code (bs b x y)::k) fr A|_=>none)
  (fun id c _ k _ _ _ _ _ _ _ ih fr A=>ih (.code c:: .inBlock id::k) fr A)
  (fun c _ k _ _ _ _ _ _ head _ fr A=>head (.code c:: .inLoop c::k) fr A)
  (fun _ _ _ _ _ _ _ _ _ _ _ _ _ _ _ _ _=>none)
  (fun id k _ _ _ _ _ _ _ ih fr A=>match exitTo id k with|some k'=>ih k' fr A|none=>none)
  (fun c _ k _ _ _ _ _ _ _ ih fr A=>ih (.code c:: .inScope c::k) fr A)
  (fun _ k _ _ _ _ _ _ _ ih fr A=>ih k fr A)
  (fun l k _ _ _ _ _ _ _ ih fr A=>match gotoIn l k with|some k'=>ih k' fr A|none=>none)
  (fun _ _ _ _ _ _ fin _ _ fr A=>fin fr A)
  (fun _ _ _ _ _ _ _ _ _ _ _ _=>none) c
def bR2(i:Item):UT γ:=
 Item.rec (motive:=fun _=>UT γ)
  (fun c=>cp2 c)
  (fun _ k _ _ _ _ _ _ _ ih fr A=>ih k fr A)
  (fun c k _ _ _ _ _ _ head _ fr A=>head (.code c:: .inLoop c::k) fr A)
  (fun _ k _ _ _ _ _ _ _ ih fr A=>ih k fr A)
  (fun _ _ _ _ _ _ _ _ _ _ _ _ _=>none)
  (fun _ _ _ _ _ _ _ _ _ _ _ _=>none)
  (fun _ _ _ _ _ _ _ _ _ _ _ _=>none)
  (fun _ _ _ _ _ _ _ _ _ _ _=>none)
  (fun _ _ _ _ _ _ _ _ _ _ _ _ _ _ _=>none)
  (fun _ _ _ _ _ _ _ _ _ _ _ _ _=>none) i
def Qr(bL:List Oper→Fr→AW→aZ Fr)(fin:Fr→AW→Option (List γ))(head ih:KU γ)(ep:List Item)(fr:Fr)(A:AW):Option (List γ):=
 List.rec (motive:=fun _=>aq→List (Nat×List xO)→(cT→List xM→AW→aZ xM)→Nat→(List Oper→Fr→AW→aZ Fr)→(Fr→AW→Option (List γ))→KU γ→KU γ→Fr→AW→Option (List γ))
  (fun _ _ _ _ _ fin _ _ fr A=>fin fr A) (fun i k _=>bR2 i k) ep E sq call n bL fin head ih fr A
theorem aU1(bL:List Oper→Fr→AW→aZ Fr)(fin:Fr→AW→Option (List γ))(head ih:KU γ)(ep:List Item)(fr:Fr)(A:AW):Qr E sq call n bL fin head ih ep fr A=Xi E sq call n bL fin head ih ep fr A:=by
 cases ep with
 |nil=>rfl
 |cons i k=>
  cases i with
  |code c=>
   cases c with
   |region id ops dr=>obtain⟨ops⟩:=ops;cases dr<;>rfl
   |_=>rfl
  |_=>rfl
def vo(bL:List Oper→Fr→AW→aZ Fr)(fin:Fr→AW→Option (List γ))(cut:KU γ)(aN:Nat):Nat→KU γ:=
 Nat.rec (motive:=fun _=>Nat→KU γ) (fun _ _ _ _=>none)
  (fun _ ih m=>Qr E sq call n bL fin (Nat.rec (motive:=fun _=>KU γ) cut (fun m _=>ih m) m) (ih m)) aN
end
section
variable{P:Program}{E:aq}{sq:List (Nat×List xO)}(ok:E.Ok P)(ba:E.Seq P sq){w0:World}{γ:Type}
structure Stood (P:Program) (w0:World) (G:GP) (n:Nat) (b:Frame) (cs:List Frame) (β:af) (A:AW) (m0:Machine) (fin:Fr→AW→Option (List γ)) (cut:KU γ) (bj:List γ):Prop where
 ex:∃(l:List γ) (td:List Item) (cY:Fr) (A':AW) (ah:af) (a':Act) (w':World),(∀c∈l,c∈bj)∧cf ah n (cY.get J) a'.tmps∧Inv w0 G ah A' w'∧β.grow ah A.next∧A.next≤A'.next∧a'.defers=[]∧
  ((fin cY A'=some l∧Steps P m0 (lone {b.atR a' td with mode:= .returning} cs w'))∨(cut td cY A'=some l∧Steps P m0 (lone (b.atR a' td) cs w')))
theorem Stood.mono{G:GP}{n:Nat}{b:Frame}{cs:List Frame}{β aI:af}{A A1:AW}{m0 m1:Machine}{fin:Fr→AW→Option (List γ)}{cut:KU γ}{bj G':List γ}(h:Stood P w0 G n b cs aI A1 m1 fin cut G')(hg:β.grow aI A.next)(hn:A.next≤A1.next)(Ss:∀c∈G',c∈bj)(hs:Steps P m0 m1):
 Stood P w0 G n b cs β A m0 fin cut bj:=by
 obtain⟨l,td,cY,A',ah,a',w',h1,h2,h3,h4,h5,h6,h7⟩:=h.ex;exact⟨l,td,cY,A',ah,a',w',fun c hc=>Ss c (h1 c hc),h2,h3,af.iZ hg h4 hn,xH hn h5,h6,h7.imp (fun⟨x,y⟩=>⟨x,Steps.trans hs y⟩) (fun⟨x,y⟩=>⟨x,Steps.trans hs y⟩)⟩
include ok ba in
theorem JR{call:cT→List xM→AW→aZ xM}(hc:fG P E call){n:Nat}{bL:List Oper→Fr→AW→aZ Fr}(kw:vc P E n bL){b:Frame}{cs:List Frame}(hb:b.roundOf=none){fin:Fr→AW→Option (List γ)}{cut:KU γ}:
 ∀(aN m:Nat) (ep:List Item) (fr:Fr) (A:AW) (bj:List γ) (β:af) (a:Act) (w:World),vo E sq call n bL fin cut aN m ep fr A=some bj→cf β n (fr.get J) a.tmps→Inv w0 E.G β A w→a.defers=[]→
  Stood P w0 E.G n b cs β A (lone (b.atR a ep) cs w) fin cut bj
 |0,m,ep,fr,A,bj,β,a,w,h,hf,inv,hd=>by cases h
 |aN+1,m,ep,fr,A,bj,β,a,w,h,hf,inv,hd=>by
  have h':Qr E sq call n bL fin (Nat.rec (motive:=fun _=>KU γ) cut (fun m _=>vo E sq call n bL fin cut aN m) m) (vo E sq call n bL fin cut aN m) ep fr A=some bj:=h;clear h;rw[aU1] at h';have go:∀m pw,vo E sq call n bL fin cut aN m pw fr A=some bj→step P (lone (b.atR a ep) cs w)= .next (lone (b.atR a pw) cs w)→Stood P w0 E.G n b cs β A (lone (b.atR a ep) cs w) fin cut bj:=fun m pw h1 h2=>
   (JR hc kw hb aN m pw fr A bj β a w h1 hf inv hd).mono (af.cq _ _) (xk _) (fun _ h=>h) (.one h2)
  have goH:∀pw,(Nat.rec (motive:=fun _=>KU γ) cut (fun m _=>vo E sq call n bL fin cut aN m) m:KU γ) pw fr A=some bj→step P (lone (b.atR a ep) cs w)= .next (lone (b.atR a pw) cs w)→Stood P w0 E.G n b cs β A (lone (b.atR a ep) cs w) fin cut bj:=fun pw h1 h2=>by
   cases m with
   |zero=>exact⟨bj,pw,fr,A,β,a,w,fun _ h=>h,hf,inv,af.cq _ _,xk _,hd,.inr ⟨h1,.one h2⟩⟩
   |succ m=>exact go m pw h1 h2
  have av8:∀td,fin fr A=some bj→step P (lone (b.atR a ep) cs w)= .next (lone {b.atR a td with mode:= .returning} cs w)→Stood P w0 E.G n b cs β A (lone (b.atR a ep) cs w) fin cut bj:=fun td h1 h2=>
   ⟨bj,td,fr,A,β,a,w,fun _ h=>h,hf,inv,af.cq _ _,xk _,hd,.inl ⟨h1,.one h2⟩⟩
  have region:∀id ops dr k fe,ep= .code (.region id ⟨ops⟩ dr)::k→(Code.region id ⟨ops⟩ dr).wpIn (jY b.roundOf) 0 P (fun e a' w'=>e= .normal∧qk w0 E.G n β A a.defers fe a' w') a w→(∀p∈fe,∃r,vo E sq call n bL fin cut aN m k p.1 p.2=some r∧∀c∈r,c∈bj)→
   Stood P w0 E.G n b cs β A (lone (b.atR a ep) cs w) fin cut bj:=fun id ops dr k fe ht TG eT=>by
   subst ht;obtain⟨e,a1,w1,⟨rfl,p,hp,aI,g1,g2,g3,g4,g5⟩,SP⟩:=TG b k cs rfl trivial (Yu _ _);obtain⟨r,eC,bK⟩:=eT p hp;exact(JR hc kw hb aN m k p.1 p.2 r aI a1 w1 eC g1 g2 (g5.trans hd)).mono g3 g4 bK (StepsIn.steps SP)
  unfold Xi at h';split at h'
  ·exact av8 _ h' (stepR_end hb)
  ·exact av8 _ h' (stepR_ret hb)
  ·exact go _ _ h' stepR_skip
  ·exact go _ _ h' stepR_label
  ·exact go _ _ h' stepR_seq
  ·rename_i c x y k;have hv:=jX (a:=a) inv hf c;split at h'
   ·rename_i t ht;rw[ht] at hv;generalize yH:a.eval c=cv at hv;cases hv;refine go _ _ h' ?_;have:=stepR_cond (P:=P) (b:=b) (k:=k) (cs:=cs) (w:=w) (x:=x) (y:=y) yH;rw[this];cases t<;>rfl
   ·cases h'
  ·exact go _ _ h' stepR_block
  ·exact goH _ h' stepR_loop
  ·exact go _ _ h' UP
  ·split at h'
   ·rename_i hk;exact go _ _ h' (stepR_exit hk)
   ·cases h'
  ·split at h'
   ·rename_i hk;exact go _ _ h' (stepR_goto hk)
   ·cases h'
  ·rename_i id ops k;obtain⟨fe,h1,h2⟩:=we h';refine region id ops false k fe rfl ?_ h2;exact wpIn_region_list (Dw ok ba hc ops fr A fe β a w _ h1 hf inv rfl (fun a' w' hp=>⟨rfl,hp⟩))
  ·rename_i id ops k;obtain⟨fe,h1,h2⟩:=we h';exact region id ops true k fe rfl (kw _ w0 ops fr A fe β a w id h1 hf inv) h2
  ·exact go _ _ h' stepR_inBlock
  ·exact go _ _ h' UA
  ·exact goH _ h' stepR_inLoop
  ·cases h'
end
def heads:Code→List Item→List (List Item)
 | .seq a b,k=>heads a (.code b::k)++heads b k
 | .cond _ x y,k=>heads x k++heads y k
 | .block id c,k=>heads c (.inBlock id::k)
 | .loop c,k=>(.code c:: .inLoop c::k)::heads c (.inLoop c::k)
 | .scope c,k=>heads c (.inScope c::k)
 |_,_=>[]
structure aG where
 tm:List (Nat×xM)
 hp:List ao
def qD(K:Nat)(tm:List (Nat×xM)):Fr:=List.rec (motive:=fun _=>Fr) (T.full J K) (fun p _ ih=>T.set ih p.1 p.2) tm
theorem Pr(K:Nat):∀(tm:List (Nat×xM)) (t:Nat),(qD K tm).get J t=J∨∃tv,(t,tv)∈tm∧(qD K tm).get J t=tv
 |[],t=> .inl (by rcases T.CY J J K t with e|e<;>exact e)
 |p::tm,t=>by
  by_cases ht:p.1=t
  ·subst ht;rcases T.yU J (qD K tm) p.1 p.2 with e|⟨e,_⟩
   ·exact .inr ⟨p.2,xn,e⟩
   ·exact .inl e
  ·have e:(qD K (p::tm)).get J t=(qD K tm).get J t:=T.wc J (qD K tm) p.1 t p.2 ht;rw[e];exact(Pr K tm t).imp id fun⟨tv,h1,h2⟩=>⟨tv,xo _ h1,h2⟩
def Bw(l:List ao):List (Option ao):=ew some l
def aG.aw(T:aG)(k:Nat)(L:List (Option ao))(tape:List Node):AW:=(fA k (aa L (Bw T.hp))).pop tape
def cJ:Nat:=4294967290
def J5(v:xM):Bool:=
 match v with
 | .int _ _=>true
 | .bool _=>true
 | .string _=>true
 | .pointer none=>true
 | .slice none 0 0=>true
 | .nilFunc=>true
 | .nilIface=>true
 | .map none=>true
 |_=>false
theorem NY{β cK:af}{v v':xM}(h:J5 v=true)(hv:ai β v v'):ai cK v v':=by
 unfold J5 at h;split at h
 ·cases hv;exact .int _ _
 ·cases hv;exact .bool _
 ·cases hv;exact .string _
 ·cases hv;exact .qm
 ·cases hv;exact .uZ
 ·cases hv;exact .nilFunc
 ·cases hv;exact .nilIface
 ·cases hv;exact .B5
 ·cases h
def tf(A:AW)(v:xM):xM:=
 match v with
 | .iface B (.chan (some (c+1)))=>match A.get B with
  |some ⟨.own (.chan (some (c'+1))),_,_,_,_⟩=> .iface B (.chan (some (c'+1)))
  |_=> .iface B (.chan (some (c+1)))
 |v=>v
theorem Inv.Bm{w0 w:World}{G:GP}{β:af}{A:AW}(inv:Inv w0 G β A w):∀v v',ai β v v'→ai β (tf A v) v':=fun v v' h=>by
 unfold tf;split
 ·rename_i B c;split
  ·rename_i c' es ex ro ty hg;have ho:=inv.own B _ hg;obtain⟨rows,h1,h2⟩:=ho;have mU:β.d c'=some (.sl rows):=by
    obtain⟨x,hx,h1⟩:=xr.1 (show(β.d c').bind (fun x=>if x.cell then some x else none)=_ from h1);split at h1<;>cases h1
    exact hx
   cases h with
   |own _ _ KJ a cap ho ha hd=>
    rcases h2 with⟨e1,e2⟩|⟨l,cap',e1,e2,e3⟩
    ·rw[ho] at e2;injection e2 with e2;injection e2 with e4 e5 e6;subst e1 e4 e6;rw[e5] at ho⊢;exact .own B c' [] none 0 ho (.inl ⟨rfl,rfl⟩) mU
    ·rw[ho] at e2;injection e2 with e2;injection e2 with e4 e5 e6;subst e4 e6;rw[e5] at ho⊢;exact .own B c' rows _ cap ho (.inr ⟨l,e1,rfl⟩) mU
  ·exact h
 ·exact h
section
variable(G:Nat)(ρ:List Nat)(aO:List xM)(A:AW)
def B0(B B':Nat):Bool:=bs (Nat.blt B G) (Nat.beq B B') (match dB ρ (Nat.sub B G) with|some x=>bs (Nat.beq x cJ) false (Nat.beq x B')|none=>false)
def RJ(B:Nat):Bool:=bs (Nat.blt B G) false (match dB ρ (Nat.sub B G) with|some x=>Nat.beq x cJ|none=>false)
def BZ(tc v:xM):Bool:=match tc with| .chan (some (c+1))=>(match dB aO c with|some s=>qT s v|none=>false)|_=>false
def Xy(v:xM):Bool:=match v with| .slice none 0 0=>true|_=>false
def Hv(tv v:xM):Bool:=
 match tv with
 | .chan (some 0)=>true
 | .chan (some (c+1))=>match dB aO c with|some s=>qT s v|none=>false
 | .iface B (.chan (some (c+1)))=>(match v with| .iface B' cv=>Nat.ble G B&&B0 G ρ B B'&&gF cv&&BZ aO (.chan (some (c+1))) cv|v=>RJ G ρ B&&Xy v&&BZ aO (.chan (some (c+1))) v)
 | .map (some B)=>(match v with| .map (some B')=>B0 G ρ B B'|_=>false)
 | .pointer (some ⟨B,o,none⟩)=>(match v with| .pointer (some ⟨B',o',none⟩)=>B0 G ρ B B'&&Nat.beq o o'|_=>false)
 | .slice (some ⟨B,o,none⟩) n c=>(match v with| .slice (some ⟨B',o',none⟩) n' c'=>B0 G ρ B B'&&Nat.beq o o'&&Nat.beq n n'&&Nat.beq c c'&&Nat.ble n c&&bs (Nat.beq B ud) false true&&bs (Nat.beq B' ud) false true|_=>false)
 |tv=>J5 tv&&qT tv v
def GS(tv:List xM):List xM→Bool:=
 List.rec (motive:=fun _=>List xM→Bool) (fun b=>List.rec (motive:=fun _=>Bool) true (fun _ _ _=>false) b)
  (fun x _ ih b=>List.rec (motive:=fun _=>Bool) false (fun y t _=>bs (Hv G ρ aO x (tf A y)) (ih t) false) b) tv
def BF(tv v:xM):Bool:=
 match tv with
 | .agg ⟨l⟩=>(match v with| .agg ⟨l'⟩=>GS G ρ aO A l l'|_=>false)
 | .func (.func f) ⟨p⟩ ⟨q⟩=>(match v with| .func (.func f') ⟨p'⟩ ⟨q'⟩=>Nat.beq f f'&&GS G ρ aO A p p'&&GS G ρ aO A q q'|_=>false)
 |tv=>Hv G ρ aO tv (tf A v)
def GR(tv:List xM):List xM→Bool:=
 List.rec (motive:=fun _=>List xM→Bool) (fun b=>List.rec (motive:=fun _=>Bool) true (fun _ _ _=>false) b)
  (fun x _ ih b=>List.rec (motive:=fun _=>Bool) false (fun y t _=>bs (BF G ρ aO A x y) (ih t) false) b) tv
def vl(tb b:ao):Bool:=
 match tb,b with
 |⟨.cells cs,es,ex,ro,ty⟩,⟨.cells bC,ax,gM,gK,gJ⟩=>Nat.beq es ax&&pP ex gM&&pP ro gK&&Nat.beq ty gJ&&GR G ρ aO A cs bC
 |⟨.own tc,es,ex,ro,ty⟩,⟨.own c,ax,gM,gK,gJ⟩=>Nat.beq es ax&&pP ex gM&&pP ro gK&&Nat.beq ty gJ&&gF tc&&gF c&&BZ aO tc c
 |⟨.maps tc,es,ex,ro,ty⟩,⟨.maps c,ax,gM,gK,gJ⟩=>Nat.beq es ax&&pP ex gM&&pP ro gK&&Nat.beq ty gJ&&BZ aO tc c
 |⟨.map [] ck,es,ex,ro,ty⟩,⟨.map [] ck',ax,gM,gK,gJ⟩=>Nat.beq es ax&&pP ex gM&&pP ro gK&&Nat.beq ty gJ&&Nat.beq ck ck'
 |_,_=>false
def Hu(tb:ao):Bool:=
 match tb with
 |⟨.own tc,_,_,_,_⟩=>gF tc&&BZ aO tc (.slice none 0 0)
 |_=>false
def P2(hp:List ao):List Nat→Bool:=
 List.rec (motive:=fun _=>List Nat→Bool) (fun b=>List.rec (motive:=fun _=>Bool) true (fun _ _ _=>false) b)
  (fun x _ ih b=>List.rec (motive:=fun _=>Bool) false (fun y t _=>bs (bs (Nat.beq y cJ) (Hu aO x) (Nat.ble G y&& (match A.get y with|some aj=>vl G ρ aO A x aj|none=>false))) (ih t) false) b) hp
def bR4(fr:Fr)(tm:List (Nat×xM)):Bool:=ey (fun p=>BF G ρ aO A p.2 (fr.get J p.1)) tm
def Rl(L:List (Option ao)):Nat→Bool:=
 List.rec (motive:=fun _=>Nat→Bool) (fun _=>true) (fun x _ ih i=>bs (B3 (A.get i) x) (ih (Nat.succ i)) false) L
def nodupB(l:List Nat):Bool:=List.rec (motive:=fun _=>Bool) true (fun x t ih=>bs (bs (Nat.beq x cJ) true (ey (fun y=>bs (Nat.beq x y) false true) t)) ih false) l
end
def BE(L:List (Option ao))(T:aG)(ρ:List Nat)(aO:List xM)(fr:Fr)(A:AW):Bool:=
 bR4 (bI L) ρ aO A fr T.tm&&P2 (bI L) ρ aO A T.hp ρ&&Rl A L 0&&nodupB ρ
section
variable{G:Nat}{ρ:List Nat}{aO:List xM}{β ei:af}{A:AW}
theorem JE{v:xM}(h:gF v=true):∃c,v= .chan (some (c+1)):=by
 unfold gF at h;split at h
 ·exact⟨_,rfl⟩
 ·cases h
def SD(β:af)(s:xM)(d:D):Prop:=d.cell=true∧(∀v',ai β s v'→Rd β.z d v')∧∀d',bP β.d s=some d'→d'=d
theorem bm3{s:xM}{d:D}(h:bP β.d s=some d):SD β s d:=by
 refine⟨?_,fun v' hv=>(Gq h hv).1,fun d' h'=>xC (h'.symm.trans h)⟩;unfold bP at h;split at h
 ·obtain⟨x,hx,h⟩:=xr.1 h;split at h<;>cases h
  assumption
 all_goals first|(cases h;rfl)|cases h
structure qo (G:Nat) (ρ:List Nat) (aO:List xM) (β ei:af):Prop where
 g:∀B,B<G→ei B=β B
 l:∀B x,G≤B→ρ[B - G]? =some x→x≠cJ→ei B=β x∧ei.o B=β.o x
 m:∀B,G≤B→ρ[B - G]? =some cJ→ei B=none∧ei.o B=some (.slice none 0 0)
 n:∀B,G≤B→ρ[B - G]? =none→ei B=none
 og:∀B v,ei.o B=some v→G≤B∧B<G+ρ.length
 z:ei.z=β.z
 x:ei.x=β.x
 d:∀(c:Nat) (s:xM),aO[c]? =some s→∃d,ei.d c=some d∧SD β s d
theorem Gx{x:Nat}(h:Nat.beq x cJ=false):x≠cJ:=fun e=>by rw[e] at h;exact absurd h (by decide)
theorem Qj{a b:Nat}(h:Nat.blt a b=false):b≤a:=Nat.le_of_not_lt fun bg=>by
 have:Nat.blt a b=true:=Nat.ble_eq_true_of_le bg;rw[h] at this;cases this
theorem Xp(h:qo G ρ aO β ei){B B':Nat}(hr:B0 G ρ B B'=true):ei B=β B'∧(G≤B→ei.o B=β.o B'):=by
 unfold B0 at hr;rcases au hr with⟨h1,h2⟩|⟨h1,h2⟩
 ·have mU:B<G:=xh h1;exact⟨by rw[h.g B mU,xb h2],fun e=>by omega⟩
 ·rw[eM] at h2;have mU:G≤B:=Qj h1;split at h2
  ·rename_i x hx;rcases au h2 with⟨_,h3⟩|⟨h3,h4⟩
   ·cases h3
   ·obtain⟨e1,e2⟩:=h.l B x mU hx (Gx h3);rw[xb h4] at e1 e2;exact⟨e1,fun _=>e2⟩
  ·cases h2
theorem bd0(h:qo G ρ aO β ei){B:Nat}(hr:RJ G ρ B=true):ei B=none∧ei.o B=some (.slice none 0 0):=by
 unfold RJ at hr;rcases au hr with⟨h1,h2⟩|⟨h1,h2⟩
 ·cases h2
 ·rw[eM] at h2;split at h2
  ·rename_i x hx;exact h.m B (Qj h1) (by rw[show B - G=Nat.sub B G from rfl,hx,xb h2])
  ·cases h2
theorem CZ(h:qo G ρ aO β ei){tc v:xM}(hs:BZ aO tc v=true):∃c d,tc= .chan (some (c+1))∧ei.d c=some d∧SD β v d:=by
 unfold BZ at hs;split at hs
 ·rename_i c;rw[eM] at hs;split at hs
  ·rename_i s eK;obtain rfl:=wm hs;obtain⟨d,h1,h2⟩:=h.d c s eK;exact⟨c,d,rfl,h1,h2⟩
  ·cases hs
 ·cases hs
theorem O4(h:qo G ρ aO β ei){B B':Nat}(hr:B0 G ρ B B'=true){l:Loc}(hl:β B'=some l):ei B=some l:=(Xp h hr).1.trans hl
theorem Vz(h:qo G ρ aO β ei){tv v v':xM}(hi:Hv G ρ aO tv v=true)(hv:ai β v v'):ai ei tv v':=by
 unfold Hv at hi;split at hi
 ·exact .kL _
 ·rename_i c;rw[eM] at hi;split at hi
  ·rename_i s hs;obtain rfl:=wm hi;obtain⟨d,h1,h2⟩:=h.d c s hs;exact .sym c d v' h1 h2.1 (by rw[h.z];exact h2.2.1 v' hv)
  ·cases hi
 ·rename_i B c;split at hi
  ·rename_i B' cv;simp only [xf] at hi;obtain⟨⟨⟨h0,h1⟩,h2⟩,h3⟩:=hi;obtain⟨c2,d,e1,e2,e3⟩:=CZ h h3;cases e1;obtain⟨cc,rfl⟩:=JE h2;cases hv with
   |own _ _ rows a cap ho ha hd=>
    have io:=e3.2.2 (.sl rows) (by show(β.d cc).bind _=_;rw[hd];rfl);rw[←io] at e2;obtain⟨q1,q2⟩:=Xp h h1;exact .own B c rows a cap ((q2 (xh h0)).trans ho) (ha.imp id fun⟨l,x,y⟩=>⟨l,q1.trans x,y⟩) e2
  ·simp only [xf] at hi;obtain⟨⟨h1,h2⟩,h3⟩:=hi;obtain⟨c2,d,e1,e2,e3⟩:=CZ h h3;cases e1;unfold Xy at h2;split at h2
   ·cases hv;have io:=e3.2.2 (.sl []) rfl;rw[←io] at e2;exact .own B c [] none 0 (bd0 h h1).2 (.inl ⟨rfl,rfl⟩) e2
   ·cases h2
 ·rename_i B;split at hi
  ·rename_i B';cases hv with
   |map _ l hl=>exact .map B l (O4 h hi hl)
  ·cases hi
 ·rename_i B o;split at hi
  ·rename_i B' o';rw[xf] at hi;obtain rfl:=xb hi.2;cases hv with
   |ptr _ _ l hl=>exact .ptr B o l (O4 h hi.1 hl)
  ·cases hi
 ·rename_i B o n c;split at hi
  ·rename_i B' o' n' c';simp only [xf] at hi;obtain⟨⟨⟨⟨⟨⟨h1,h2⟩,h3⟩,h4⟩,h5⟩,h6⟩,h7⟩:=hi;obtain rfl:=xb h2;obtain rfl:=xb h3;obtain rfl:=xb h4;cases hv with
   |slice _ _ _ _ c2 l hl hn hc he=>exact .slice B o n c c2 l (O4 h h1 hl) hn hc he
   |empty=>exact absurd h7 (by decide)
  ·cases hi
 ·rw[xf] at hi;obtain rfl:=wm hi.2;exact NY hi.1 hv
theorem Jj(h:qo G ρ aO β ei)(hA:∀v v',ai β v v'→ai β (tf A v) v'):∀{tv v v':List xM},GS G ρ aO A tv v=true→aP β v v'→aP ei tv v'
 |[],[],v',_,hv=>by rw[hv.oo];exact aP.nil _
 |[],_::_,v',hi,_=>by cases hi
 |_::_,[],v',hi,_=>by cases hi
 |x::tv,y::v,v',hi,hv=>by
  have hi':bs (Hv G ρ aO x (tf A y)) (GS G ρ aO A tv v) false=true:=hi;rcases au hi' with⟨h1,h2⟩|⟨_,h2⟩
  ·obtain⟨y',l',rfl,h3,h4⟩:=hv.l5;exact(Jj h hA h2 h4).cons (Vz h h1 (hA _ _ h3))
  ·cases h2
theorem F9(h:qo G ρ aO β ei)(hA:∀v v',ai β v v'→ai β (tf A v) v'){tv v v':xM}(hi:BF G ρ aO A tv v=true)(hv:ai β v v'):ai ei tv v':=by
 unfold BF at hi;split at hi
 ·split at hi
  ·cases hv with
   |agg _ p' hp h1=>exact ai.tL (Jj h hA hi ⟨hp,h1⟩)
  ·cases hi
 ·split at hi
  ·simp only [xf] at hi;obtain rfl:=xb hi.1.1;cases hv with
   |func _ _ p' _ q' hp hq h1 h2=>
    have k1:=Jj h hA hi.1.2 ⟨hp,h1⟩;have k2:=Jj h hA hi.2 ⟨hq,h2⟩;exact .func _ _ p' _ q' k1.1 k2.1 k1.2 k2.2
  ·cases hi
 ·exact Vz h hi (hA _ _ hv)
theorem Ji(h:qo G ρ aO β ei)(hA:∀v v',ai β v v'→ai β (tf A v) v'):∀{tv v:List xM},GR G ρ aO A tv v=true→tv.length=v.length∧∀(i:Nat) (x y:xM),tv[i]? =some x→v[i]? =some y→BF G ρ aO A x y=true
 |[],[],_=>⟨rfl,fun i x y h=>by simp at h⟩
 |[],_::_,hi=>by cases hi
 |_::_,[],hi=>by cases hi
 |x::tv,y::v,hi=>by
  have hi':bs (BF G ρ aO A x y) (GR G ρ aO A tv v) false=true:=hi;rcases au hi' with⟨h1,h2⟩|⟨_,h2⟩
  ·obtain⟨k1,k2⟩:=Ji h hA h2;refine⟨by simp[k1],fun i a b ha hb=> ?_⟩;cases i with
   |zero=>simp at ha hb;subst ha;subst hb;exact h1
   |succ i=>simp at ha hb;exact k2 i a b ha hb
  ·cases h2
theorem aP6(h:qo G ρ aO β ei)(hA:∀v v',ai β v v'→ai β (tf A v) v'){tb b:ao}(hi:vl G ρ aO A tb b=true){l:Loc}{o:Option Obj}(hb:gH β l b o):gH ei l tb o:=by
 unfold vl at hi;split at hi
 ·rename_i cs es ex ro ty bC ax gM gK gJ;simp only [xf] at hi;obtain⟨⟨⟨⟨h1,h2⟩,h3⟩,h4⟩,h5⟩:=hi;obtain rfl:=xb h1;obtain rfl:=uY h2;obtain rfl:=uY h3;obtain rfl:=xb h4;obtain⟨k1,k2⟩:=Ji h hA h5;obtain⟨av,e,fz,g1,g2,g3,g4,g5,g6,g7,g8⟩:=hb;refine⟨av,e,fz,g1,g2,by rw[k1];exact g3,fun i v hv=> ?_,g5,fun hx=>by rw[k1];exact g6 hx,g7,g8⟩;have eI:i<bC.length:=by rw[←k1];exact(xe.1 hv).1
  obtain⟨v',e1,e2⟩:=g4 i _ (xc eI);exact⟨v',e1,F9 h hA (k2 i _ _ hv (xc eI)) e2⟩
 ·rename_i tc es ex ro ty c ax gM gK gJ;simp only [xf] at hi;obtain⟨⟨⟨⟨⟨⟨h1,h2⟩,h3⟩,h4⟩,h5⟩,h6⟩,h7⟩:=hi;obtain rfl:=xb h1;obtain rfl:=xb h4;obtain⟨av,rows,g1,g2,g3,g4,g5,g6,g7⟩:=hb;obtain⟨c2,d,e1,e2,e3⟩:=CZ h h7;subst e1;have io:=e3.2.2 (.sl rows) g3;rw[←io] at e2;exact⟨av,rows,g1,g2,by show(ei.d c2).bind _=_;rw[e2];rfl,g4,g5,g6,fun i row j d a b=>by rw[h.z];exact g7 i row j d a b⟩
 ·rename_i tc es ex ro ty c ax gM gK gJ;simp only [xf] at hi;obtain⟨_,h7⟩:=hi;obtain⟨ax,ck,rows,g1,g2,g3⟩:=hb;obtain⟨c2,d,e1,e2,e3⟩:=CZ h h7;subst e1;have io:=e3.2.2 (.sl rows) g2;rw[←io] at e2;exact⟨ax,ck,rows,g1,by show(ei.d c2).bind _=_;rw[e2];rfl,by rw[h.z];exact g3⟩
 ·rename_i ck es ex ro ty ck' ax gM gK gJ;simp only [xf] at hi;obtain rfl:=xb hi.2;obtain⟨ax,g1,g2,g3⟩:=hb;exact⟨ax,g1,g2,fun i e e' a _=>by simp at a⟩
 ·cases hi
theorem aI6{tb b:ao}(hi:vl G ρ aO A tb b=true):tb.still=b.still:=by
 unfold vl at hi;split at hi
 ·simp only [xf] at hi;exact uY hi.1.1.2
 ·simp only [xf] at hi;exact uY hi.1.1.1.1.2
 ·rfl
 ·rfl
 ·cases hi
theorem aP7(h:qo G ρ aO β ei)(hA:∀v v',ai β v v'→ai β (tf A v) v'){tb b:ao}(hi:vl G ρ aO A tb b=true){B B':Nat}(hf:ei B=β B')(ho:ei.o B=β.o B')(jJ:je β B' b):je ei B tb:=by
 unfold vl at hi;split at hi
 ·trivial
 ·rename_i tc es ex ro ty c ax gM gK gJ;simp only [xf] at hi;obtain⟨⟨⟨⟨⟨⟨h1,h2⟩,h3⟩,h4⟩,h5⟩,h6⟩,h7⟩:=hi;obtain rfl:=xb h1;obtain⟨c2,d,e1,e2,e3⟩:=CZ h h7;subst e1;obtain⟨rows,g1,g2⟩:=jJ;have io:=e3.2.2 (.sl rows) g1;rw[←io] at e2;exact⟨rows,by show(ei.d c2).bind _=_;rw[e2];rfl,g2.imp (fun⟨x,y⟩=>⟨x,ho.trans y⟩) fun⟨l,cap,x,y,z⟩=>⟨l,cap,hf.trans x,ho.trans y,z⟩⟩
 ·trivial
 ·trivial
 ·cases hi
theorem aP5(h:qo G ρ aO β ei)(hA:∀v v',ai β v v'→ai β (tf A v) v'){tb:ao}(hi:Hu aO tb=true){B:Nat}(ho:ei.o B=some (.slice none 0 0)):je ei B tb:=by
 unfold Hu at hi;split at hi
 ·rw[xf] at hi;obtain⟨c2,d,e1,e2,e3⟩:=CZ h hi.2;subst e1;have io:=e3.2.2 (.sl []) rfl;rw[←io] at e2;exact⟨[],by show(ei.d c2).bind _=_;rw[e2];rfl,.inl ⟨rfl,ho⟩⟩
 ·cases hi
end
section
variable{G:Nat}{ρ:List Nat}{aO:List xM}
theorem NV{A:AW}:∀{hp:List ao} {r:List Nat},P2 G ρ aO A hp r=true→hp.length=r.length∧∀(j:Nat) (tb:ao) (x:Nat),hp[j]? =some tb→r[j]? =some x→(x=cJ∧Hu aO tb=true)∨(x≠cJ∧G≤x∧∃aj,A.get x=some aj∧vl G ρ aO A tb aj=true)
 |[],[],_=>⟨rfl,fun j tb x h=>by simp at h⟩
 |[],_::_,h=>by cases h
 |_::_,[],h=>by cases h
 |t::hp,y::r,h=>by
  have h':bs (bs (Nat.beq y cJ) (Hu aO t) (Nat.ble G y&& (match A.get y with|some aj=>vl G ρ aO A t aj|none=>false))) (P2 G ρ aO A hp r) false=true:=h;rcases au h' with⟨h1,h2⟩|⟨_,h2⟩
  ·obtain⟨k1,k2⟩:=NV h2;refine⟨by simp[k1],fun j tb x ha hb=> ?_⟩;cases j with
   |zero=>
    simp at ha hb;subst ha;subst hb;rcases au h1 with⟨e1,e2⟩|⟨e1,e2⟩
    ·exact .inl ⟨xb e1,e2⟩
    ·rw[xf] at e2;refine .inr ⟨Gx e1,xh e2.1,?_⟩;have h3:=e2.2;split at h3
     ·rename_i aj sO;exact⟨aj,sO,h3⟩
     ·cases h3
   |succ j=>simp at ha hb;exact k2 j tb x ha hb
  ·cases h2
theorem U'{A:AW}:∀{L:List (Option ao)} {i:Nat},Rl A L i=true→∀(g:Nat) (x:Option ao),L[g]? =some x→A.get (i+g)=x
 |[],i,_,g,x,h=>by simp at h
 |y::L,i,hh,g,x,h=>by
  have h':bs (B3 (A.get i) y) (Rl A L (Nat.succ i)) false=true:=hh;rcases au h' with⟨h1,h2⟩|⟨_,h2⟩
  ·cases g with
   |zero=>simp at h;subst h;exact WK h1
   |succ g=>
    simp at h;have:=U' h2 g x h;rw[show i+(g+1)=Nat.succ i+g by omega];exact this
  ·cases h2
theorem NU:∀{l:List Nat},nodupB l=true→∀(i j x:Nat),l[i]? =some x→l[j]? =some x→x≠cJ→i=j
 |[],_,i,j,x,h,_,_=>by simp at h
 |y::l,hh,i,j,x,h,k,hx=>by
  have h':bs (bs (Nat.beq y cJ) true (ey (fun z=>bs (Nat.beq y z) false true) l)) (nodupB l) false=true:=hh;rcases au h' with⟨h1,h2⟩|⟨_,h2⟩
  ·have bA:∀m,x=y→l[m]? =some x→False:=fun m hxy hm=>by
    rcases au h1 with⟨e1,_⟩|⟨_,e2⟩
    ·exact hx (hxy.trans (xb e1))
    ·have:=nI _ l e2 x (xu hm);rw[hxy] at this;have e:Nat.beq y y=true:=by simp
     rw[e] at this;cases this
   cases i with
   |zero=>
    cases j with
    |zero=>rfl
    |succ j=>simp at h k;exact(bA j h.symm k).elim
   |succ i=>
    cases j with
    |zero=>simp at h k;exact(bA i k.symm h).elim
    |succ j=>simp at h k;rw[NU h2 i j x h k hx]
  ·cases h2
theorem aI1{β cK:af}{l:Loc}{cs:List xM}{es:Nat}{ex ro:Bool}{ty:xN}{o:Option Obj}(hs:(cs.all z5)=true)(hb:gH β l ⟨.cells cs,es,ex,ro,ty⟩ o):gH cK l ⟨.cells cs,es,ex,ro,ty⟩ o:=by
 obtain⟨av,e,fz,g1,g2,g3,g4,g5,g6,g7,g8⟩:=hb;refine⟨av,e,fz,g1,g2,g3,fun i v hv=> ?_,g5,g6,g7,g8⟩;obtain⟨v',e1,e2⟩:=g4 i v hv;have:=List.all_eq_true.1 hs v (xu hv);refine⟨v',e1,NY ?_ e2⟩;unfold z5 at this;split at this<;>first|rfl|cases this
def qY(G:Nat)(ρ:List Nat)(β:af)(δ:Nat→Option D):af where
 f:=fun B=>if B<G then β B else(match ρ[B - G]? with|some x=>if x=cJ then none else β x|none=>none)
 z:=β.z
 d:=δ
 x:=β.x
 o:=fun B=>if B<G then none else(match ρ[B - G]? with|some x=>if x=cJ then some (.slice none 0 0) else β.o x|none=>none)
theorem zf(G:Nat)(ρ:List Nat)(β:af)(δ:Nat→Option D)(B:Nat):(qY G ρ β δ) B=if B<G then β B else(match ρ[B - G]? with|some x=>if x=cJ then none else β x|none=>none):=rfl
theorem P1(G:Nat)(ρ:List Nat)(β:af)(δ:Nat→Option D)(B:Nat):(qY G ρ β δ).o B=if B<G then none else(match ρ[B - G]? with|some x=>if x=cJ then some (.slice none 0 0) else β.o x|none=>none):=rfl
theorem WV{β:af}{δ:Nat→Option D}(hd:∀(c:Nat) (s:xM),aO[c]? =some s→∃d,δ c=some d∧SD β s d):qo G ρ aO β (qY G ρ β δ):=
 ⟨fun B h=>by rw[zf,if_pos h],fun B x h hx hn=>⟨by rw[zf,if_neg (by omega),hx];exact if_neg hn,by rw[P1,if_neg (by omega),hx];exact if_neg hn⟩,
  fun B h hx=>⟨by rw[zf,if_neg (by omega),hx];exact if_pos rfl,by rw[P1,if_neg (by omega),hx];exact if_pos rfl⟩,fun B h hx=>by rw[zf,if_neg (by omega),hx],
  fun B v h=>by
   rw[P1] at h;by_cases hB:B<G
   ·rw[if_pos hB] at h;cases h
   ·rw[if_neg hB] at h;cases hx:ρ[B - G]? with
    |none=>rw[hx] at h;cases h
    |some x=>have:=(xe.1 hx).1;omega,rfl,rfl,hd⟩
end
def HI(L:List (Option ao)):Prop:=∀g,g<L.length→L[g]? =some none∨∃cs es,L[g]? =some (some ⟨.cells cs,es,false,true,iY⟩)∧(cs.all z5)=true
theorem Bg(T:aG)(k:Nat)(L:List (Option ao))(tape:List Node):(T.aw k L tape).next=L.length+T.hp.length:=by
 show bI (aa L (Bw T.hp))=_;unfold Bw;rw[dA,jm,l8,xa,xm]
theorem DM{T:aG}{k:Nat}{L:List (Option ao)}{tape:List Node}{B:Nat}{aj:ao}(h:(T.aw k L tape).get B=some aj):(B<L.length∧L[B]? =some (some aj))∨(L.length≤B∧T.hp[B - L.length]? =some aj):=by
 have h1:=y2 k _ B aj h;unfold Bw at h1;rw[jm,l8] at h1;by_cases hB:B<L.length
 ·rw[xw hB] at h1;exact .inl ⟨hB,h1⟩
 ·rw[xq (by omega),xx] at h1;obtain⟨x,hx,e⟩:=xp.1 h1;cases e;exact .inr ⟨by omega,hx⟩
theorem aX4{w0 w:World}{L:List (Option ao)}{Q:(Nat→Option D)→Node→Prop}{LL:World→Prop}(hL:HI L){β:af}{A:AW}{T:aG}{ρ:List Nat}{aO:List xM}{fr:Fr}(hi:BE L T ρ aO fr A=true)
 (inv:Inv w0 ⟨L.length,Q,LL⟩ β A w) {δ:Nat→Option D} (hd:∀(c:Nat) (s:xM),aO[c]? =some s→∃d,δ c=some d∧SD β s d) {tape:List Node} (ht:∀nd∈tape,Q δ nd) (k:Nat):
 Inv w0 ⟨L.length,Q,LL⟩ (qY L.length ρ β δ) (T.aw k L tape) w∧∀(K n:Nat) (tmps:Array xM),cf β n (fr.get J) tmps→cf (qY L.length ρ β δ) n ((qD K T.tm).get J) tmps:=by
 unfold BE at hi;rw[dA] at hi;simp only [xf] at hi;obtain⟨⟨⟨uK,eI⟩,o9⟩,yD⟩:=hi;have hI:=WV (G:=L.length) (ρ:=ρ) hd;obtain⟨aC,sO⟩:=NV eI;have HA:∀g,g<L.length→A.get g=(L[g]?).join:=fun g hg=>by
  have:=U' o9 g _ (xc hg);rw[Nat.zero_add] at this;rw[this,xc hg];rfl
 have pM:∀B l,L.length≤B→(qY L.length ρ β δ) B=some l→∃x,ρ[B - L.length]? =some x∧x≠cJ∧β x=some l:=fun B l hB h=>by
  cases hx:ρ[B - L.length]? with
  |none=>rw[hI.n B hB hx] at h;cases h
  |some x=>
   by_cases hn:x=cJ
   ·rw[hn] at hx;rw[(hI.m B hB hx).1] at h;cases h
   ·rw[(hI.l B x hB hx hn).1] at h;exact⟨x,rfl,hn,h⟩
 have ap:∀B x,L.length≤B→ρ[B - L.length]? =some x→x≠cJ→∀tb,T.hp[B - L.length]? =some tb→L.length≤x∧∃aj,A.get x=some aj∧vl L.length ρ aO A tb aj=true:=fun B x hB hx hn tb TP=>by
  rcases sO _ tb x TP hx with⟨e,_⟩|⟨_,e1,e2⟩
  ·exact absurd e hn
  ·exact⟨e1,e2⟩
 have ek:∀B x,L.length≤B→ρ[B - L.length]? =some x→x≠cJ→L.length≤x:=fun B x hB hx hn=>by
  have hj:B - L.length<T.hp.length:=by rw[aC];exact(xe.1 hx).1
  exact(ap B x hB hx hn _ (xc hj)).1
 refine⟨⟨inv.below,fun B l h=> ?_,fun B h=> ?_,fun B l h=> ?_,fun B B' l l' h h' hb h1 h2=> ?_,fun B aj l h h'=> ?_,fun g hg=> ?_,inv.bB,fun B l aj hG h hk hs=> ?_,ht,fun B aj h=> ?_,fun B v h=> ?_,inv.lay,inv.xg,inv.jA,inv.zo⟩,fun K n tmps hf=>⟨hf.1,fun t=> ?_⟩⟩
 ·rw[Bg];by_cases hB:B<L.length
  ·omega
  ·obtain⟨x,hx,_⟩:=pM B l (by omega) h;have:=(xe.1 hx).1;omega
 ·rw[Bg] at h;cases hq:(T.aw k L tape).get B with
  |none=>rfl
  |some aj=>
   rcases DM hq with⟨h1,_⟩|⟨_,h2⟩
   ·omega
   ·have:=(xe.1 h2).1;omega
 ·by_cases hB:B<L.length
  ·rw[hI.g B hB] at h;exact⟨(inv.loc B l h).1,.inl hB⟩
  ·obtain⟨x,hx,hn,h3⟩:=pM B l (by omega) h;have:=ek B x (by omega) hx hn;exact⟨(inv.loc x l h3).1,(inv.loc x l h3).2.elim (fun h=>absurd h (by show ¬x<L.length;omega)) .inr⟩
 ·obtain⟨b1,cN⟩:=Option.isSome_iff_exists.1 h1;obtain⟨b2,cx⟩:=Option.isSome_iff_exists.1 h2;rcases DM cN with⟨q1,q2⟩|⟨q1,q2⟩<;>rcases DM cx with⟨p1,p2⟩|⟨p1,p2⟩
  ·rw[hI.g B q1] at h;rw[hI.g B' p1] at h';exact inv.inj B B' l l' h h' hb (by rw[HA B q1,q2];rfl) (by rw[HA B' p1,p2];rfl)
  ·rw[hI.g B q1] at h;obtain⟨x,hx,hn,h3⟩:=pM B' l' p1 h';obtain⟨oa,aj,lY,_⟩:=ap B' x p1 hx hn _ p2;have:=inv.inj B x l l' h h3 hb (by rw[HA B q1,q2];rfl) (by rw[lY];rfl);omega
  ·rw[hI.g B' p1] at h';obtain⟨x,hx,hn,h3⟩:=pM B l q1 h;obtain⟨oa,aj,lY,_⟩:=ap B x q1 hx hn _ q2;have:=inv.inj x B' l l' h3 h' hb (by rw[lY];rfl) (by rw[HA B' p1,p2];rfl);omega
  ·obtain⟨x,hx,hn,h3⟩:=pM B l q1 h;obtain⟨y,hy,jk,h4⟩:=pM B' l' p1 h';obtain⟨_,aj,lY,_⟩:=ap B x q1 hx hn _ q2;obtain⟨_,uq,CD,_⟩:=ap B' y p1 hy jk _ p2;have e:=inv.inj x y l l' h3 h4 hb (by rw[lY];rfl) (by rw[CD];rfl);subst e;have:=NU yD _ _ _ hx hy hn;omega
 ·rcases DM h with⟨q1,q2⟩|⟨q1,q2⟩
  ·rw[hI.g B q1] at h';rcases hL B q1 with e1|⟨cs,es,e1,e2⟩<;>rw[q2] at e1
   ·cases e1
   cases e1;exact aI1 e2 (inv.cont B _ l (by rw[HA B q1,q2];rfl) h')
  ·obtain⟨x,hx,hn,h3⟩:=pM B l q1 h';obtain⟨_,uq,lY,CD⟩:=ap B x q1 hx hn _ q2;exact aP6 hI inv.Bm CD (inv.cont x uq l lY h3)
 ·obtain⟨l,h1,h2,h3⟩:=inv.jg g hg;exact⟨l,by rw[hI.g g hg];exact h1,h2,h3⟩
 ·rcases DM hk with⟨q1,q2⟩|⟨q1,q2⟩
  ·have pg:L.length≤B:=hG;omega
  ·obtain⟨x,hx,hn,h3⟩:=pM B l q1 h;obtain⟨nv,uq,lY,CD⟩:=ap B x q1 hx hn _ q2;exact inv.sep x l uq nv h3 lY (aI6 CD▸hs)
 ·rcases DM h with⟨q1,q2⟩|⟨q1,q2⟩
  ·rcases hL B q1 with e1|⟨cs,es,e1,e2⟩<;>rw[q2] at e1
   ·cases e1
   cases e1;trivial
  ·have hj:B - L.length<ρ.length:=by rw[←aC];exact(xe.1 q2).1
   have hx:=xc hj;rcases sO _ _ _ q2 hx with⟨e,vT⟩|⟨hn,dj9,uq,lY,CD⟩
   ·rw[e] at hx;exact aP5 hI inv.Bm vT (hI.m B q1 hx).2
   ·obtain⟨f1,f2⟩:=hI.l B _ q1 hx hn;exact aP7 hI inv.Bm CD f1 f2 (inv.own _ uq lY)
 ·rw[Bg,aC];exact(hI.og B v h).2
 ·rcases Pr K T.tm t with e|⟨tv,h1,e⟩
  ·rw[e];exact .kL _
  ·rw[e];exact F9 hI inv.Bm (nI _ _ uK _ h1) (hf.2 t)
structure aD where
 args:List xM
 hp:List ao
 nob:Nat
 rv:xM
 hp':List ao
def nR(hp:List ao):aG:=⟨[],hp⟩
def G0(L:List (Option ao))(LL:World→Prop):GP:=⟨L.length,fun _ _=>True,LL⟩
def cU0(P:Program)(w0:World)(G:GP)(k:Nat)(L:List (Option ao))(β:af)(b:Frame)(cs:List Frame)(m0:Machine)(sg:aD)(eN:List D):Prop:=
 ∃(a':Act) (w':World) (Fh:List Item) (v:xM) (ah:af) (fn:Func),Steps P m0 (lone {b.atR a' Fh with mode:= .returning} cs w')∧a'.defers=[]∧P.funcs[b.fn]? =some fn∧(results fn a'.tmps).run P w'= .ok v w'∧
  Inv w0 G ah ((nR sg.hp').aw k L []) w'∧ai ah sg.rv v∧(∀B,B<L.length+sg.nob→ah B=β B)∧(∀b c,β.z b=some c→ah.z b=some c)∧(∀(c:Nat) (d:D),eN[c]? =some d→ah.d c=some d)∧ah.x=β.x
def E9(P:Program)(E:aq)(f:FuncId)(n K k:Nat)(L:List (Option ao))(sg:aD)(td:List Item)(T:aG)(ds eN:List D):Prop:=
 ∀(w0 w:World) (β:af) (b:Frame) (cs:List Frame) (a:Act),b.fn=f→b.roundOf=none→a.defers=[]→Inv w0 E.G β (T.aw k L []) w→cf β n ((qD K T.tm).get J) a.tmps→β.d=(fun c=>ds[c]?)→
  cU0 P w0 E.G k L β b cs (lone (b.atR a td) cs w) sg eN
structure af.vN (β ah:af):Prop where
 f:∀B l,β B=some l→ah B=some l
 z:∀b c,β.z b=some c→ah.z b=some c
 o:∀B v,β.o B=some v→ah.o B=some v
 d:∀(c:Nat) (d:D),β.d c=some d→ah.d c=some d
theorem tq{δ ni:Nat→Option D}(h:∀(c:Nat) (d:D),δ c=some d→ni c=some d){v:xM}{d:D}(hv:bP δ v=some d):bP ni v=some d:=by
 unfold bP at hv;split at hv
 ·obtain⟨x,hx,h2⟩:=xr.1 hv;show(ni _).bind _=_;rw[h _ x hx];exact h2
 all_goals first|exact hv|cases hv
theorem ai.jc{β ah:af}(hb:β.vN ah){v v':xM}(h:ai β v v'):ai ah v v':=by
 induction h with
 |kL v=>exact .kL v
 |bool b=>exact .bool b
 |int k n=>exact .int k n
 |string s=>exact .string s
 |qm=>exact .qm
 |sym c d v h hc hr=>exact .sym c d v (hb.d _ _ h) hc (hr.mono hb.z)
 |own B c rows a cap h ha hd=>exact .own B c rows a cap (hb.o _ _ h) (ha.imp id fun⟨l,x,y⟩=>⟨l,hb.f _ _ x,y⟩) (hb.d _ _ hd)
 |qW B es off m l iv k h hi=>exact .qW B es off m l iv k (hb.f _ _ h) (tq hb.d hi)
 |raw B n cap l h hn hs=>exact .raw B n cap l (hb.f _ _ h) hn (hb.o _ _ hs)
 |part B off n m l iv k h hi hm=>exact .part B off n m l iv k (hb.f _ _ h) (tq hb.d hi) hm
 |ptr B o l h=>exact .ptr B o l (hb.f _ _ h)
 |uZ=>exact .uZ
 |slice B o n c c' l h hn hc he=>exact .slice B o n c c' l (hb.f _ _ h) hn hc he
 |empty o a' c'=>exact .empty o a' c'
 |B5=>exact .B5
 |map B l h=>exact .map B l (hb.f _ _ h)
 |nilFunc=>exact .nilFunc
 |nilIface=>exact .nilIface
 |func f p p' q q' hp hq _ _ i1 i2=>exact .func f p p' q q' hp hq i1 i2
 |yield B l h=>exact .yield B l (hb.f _ _ h)
 |agg p p' hp _ i1=>exact .agg p p' hp i1
 |tuple p p' hp _ i1=>exact .tuple p p' hp i1
theorem cf.jc{β ah:af}(hb:β.vN ah){n:Nat}{g:Gt}{t:Array xM}(h:cf β n g t):cf ah n g t:=⟨h.1,fun i=>(h.2 i).jc hb⟩
theorem aP.jc{β ah:af}(hb:β.vN ah){l l':List xM}(h:aP β l l'):aP ah l l':=⟨h.1,fun i v v' a b=>(h.2 i v v' a b).jc hb⟩
theorem gH.jc{β ah:af}(hb:β.vN ah){l:Loc}{aj:ao}{o:Option Obj}(h:gH β l aj o):gH ah l aj o:=by
 unfold gH at*;cases hk:aj.obj with
 |cells cs=>
  simp only [hk] at h⊢;obtain⟨av,e,fz,h1,h2,h3,h4,h5,h6,h7⟩:=h;exact⟨av,e,fz,h1,h2,h3,fun i v hv=>(h4 i v hv).imp fun v' ⟨a,b⟩=>⟨a,b.jc hb⟩,h5,h6,h7⟩
 |map es ck=>
  simp only [hk] at h⊢;obtain⟨ax,h1,h2,h3⟩:=h;exact⟨ax,h1,h2,fun i e e' a b=>⟨(h3 i e e' a b).1,(h3 i e e' a b).2.1.jc hb,(h3 i e e' a b).2.2.jc hb⟩⟩
 |iter m since seen st=>
  simp only [hk] at h⊢;obtain⟨h0,m',h1,h2⟩:=h;exact⟨h0,m',h1,h2.imp id fun⟨B,lb,a,b,c⟩=>⟨B,lb,a,hb.f _ _ b,c⟩⟩
 |loop bz fr n ps a b=>
  simp only [hk] at h⊢;obtain⟨r,h1,h2,h3,h4,h5,h6,h7,h8⟩:=h;exact⟨r,h1,h2,h3,h4,h5,h6,h7,fun t=>(h8 t).jc hb⟩
 |yL=>
  simp only [hk] at h⊢;exact h
 |own c=>
  simp only [hk] at h⊢;obtain⟨av,rows,h1,h2,h3,h4,h5,h6,h7⟩:=h;exact⟨av,rows,h1,h2,tq hb.d h3,h4,h5,h6,fun i row j d a b=>(h7 i row j d a b).imp fun v ⟨x,y⟩=>⟨x,y.mono hb.z⟩⟩
 |maps c=>
  simp only [hk] at h⊢;obtain⟨ax,ck,rows,h1,h2,h3⟩:=h;exact⟨ax,ck,rows,h1,tq hb.d h2,h3.mono hb.z⟩
 |n4 c=>
  simp only [hk] at h⊢;obtain⟨av,rows,h1,h2,h3,h4,h5,h6,h7⟩:=h;exact⟨av,rows,h1,h2,tq hb.d h3,h4,h5,h6,fun i row j d a b=>(h7 i row j d a b).imp fun v ⟨x,y⟩=>⟨x,y.mono hb.z⟩⟩
theorem je.jc{β ah:af}(hb:β.vN ah){B:Nat}{aj:ao}(h:je β B aj):je ah B aj:=by
 unfold je at*;split at h
 ·obtain⟨rows,h1,h2⟩:=h;refine⟨rows,tq hb.d h1,h2.imp (fun⟨a,b⟩=>⟨a,hb.o _ _ b⟩) fun⟨l,cap,a,b,c,d,e⟩=>⟨l,cap,hb.f _ _ a,hb.o _ _ b,c,d,e⟩⟩
 ·trivial
theorem Inv.reD{w0 w:World}{G:GP}{β:af}{A:AW}(h:Inv w0 G β A w){δ:Nat→Option D}(hd:∀(c:Nat) (d:D),β.d c=some d→δ c=some d){Q:(Nat→Option D)→Node→Prop}{r:List Node}(hr:∀nd∈r,Q δ nd):Inv w0 ⟨G.n,Q,G.L⟩ {β with d:=δ} (A.pop r) w∧β.vN {β with d:=δ}:=by
 have hb:β.vN {β with d:=δ}:=⟨fun _ _ h=>h,fun _ _ h=>h,fun _ _ h=>h,hd⟩;exact⟨⟨h.below,h.g9,h.dz,h.loc,h.inj,fun B aj l a b=>(h.cont B aj l a b).jc hb,h.jg,h.bB,h.sep,hr,fun B aj a=>(h.own B aj a).jc hb,h.jf,h.lay,h.xg,h.jA,h.zo⟩,hb⟩
def Mw(n:Nat)(β:af):XZ:=⟨fun b=>∃B l,n≤B∧β B=some l∧l.b=b,β.z⟩
theorem Inv.reX{w0 w:World}{G:GP}{β:af}{A:AW}(h:Inv w0 G β A w)(hL:G.L w):Inv w G {β with x:=Mw G.n β} A w∧β.vN {β with x:=Mw G.n β}:=by
 have hb:β.vN {β with x:=Mw G.n β}:=⟨fun _ _ h=>h,fun _ _ h=>h,fun _ _ h=>h,fun _ _ h=>h⟩;refine⟨⟨nK.refl _ _,h.g9,h.dz,fun B l e=>⟨(h.loc B l e).1,?_⟩,h.inj,fun B aj l a b=>(h.cont B aj l a b).jc hb,h.jg,h.bB,h.sep,h.eO,fun B aj a=>(h.own B aj a).jc hb,h.jf,hL,fun b ⟨B,l,e1,e2,e3⟩=> ?_,xH h.jA h.below.size,fun b c e=> .inl e⟩,hb⟩
 ·by_cases hB:B<G.n
  ·exact .inl hB
  ·exact .inr (.inr ⟨B,l,Nat.le_of_not_lt hB,e,rfl⟩)
 ·rcases(h.loc B l e2).2 with h1|h1|h1
  ·exact absurd h1 (Nat.not_lt_of_le e1)
  ·rw[←e3];exact xH h.jA h1
  ·rw[←e3];exact h.xg _ h1
def KZ(nob g:Nat)(ρ:List Nat):Bool:=Nat.rec (motive:=fun _=>Bool) true (fun i ih=>bs (match dB ρ i with|some x=>bs (Nat.beq x cJ) false (Nat.beq x (Nat.add g i))|none=>false) ih false) nob
theorem N5{g:Nat}{ρ:List Nat}:∀{nob:Nat},KZ nob g ρ=true→∀i,i<nob→ρ[i]? =some (g+i)∧g+i≠cJ
 |0,_,i,h=>by omega
 |n+1,h,i,hi=>by
  have h':bs (match dB ρ n with|some x=>bs (Nat.beq x cJ) false (Nat.beq x (Nat.add g n))|none=>false) (KZ n g ρ) false=true:=h;rcases au h' with⟨h1,h2⟩|⟨_,h2⟩
  ·rcases Nat.lt_succ_iff_lt_or_eq.1 hi with h3|rfl
   ·exact N5 h2 i h3
   ·rw[eM] at h1;split at h1
    ·rename_i x hx;rcases au h1 with⟨_,h1⟩|⟨h3,h1⟩
     ·cases h1
     ·have:=xb h1;subst this;exact⟨hx,Gx h3⟩
    ·cases h1
  ·cases h2
theorem aX3{δ:Nat→Option D}{v:xM}{d:D}(h:bP δ v=some d):yc v=true:=by
 unfold bP at h;split at h<;>first|rfl|cases h
theorem bg1{G n:Nat}{v u:xM}{A A':AW}(h:ng G n v A=some (u,A'))(hd:yc v=true):u=v:=by
 cases n with
 |zero=>
  have h':bs (yc v) (some (v,A)) none=some (u,A'):=h;rw[hd] at h';cases h';rfl
 |succ n=>
  have h':bs (yc v) (some (v,A)) (Ml G (ng G n) v A)=some (u,A'):=h;rw[hd] at h';cases h';rfl
theorem W0{G n:Nat}:∀{l us:List xM} {A A':AW},oU (ng G n) l A=some (us,A')→∀(c:Nat) (s u:xM),l[c]? =some s→us[c]? =some u→yc s=true→u=s
 |[],us,A,A',h,c,s,u,hs,_,_=>by simp at hs
 |v::l,us,A,A',h,c,s,u,hs,hu,hd=>by
  have h':(match ng G n v A with|some (u,A1)=>(match oU (ng G n) l A1 with|some (us,A2)=>some (u::us,A2)|none=>none)|none=>none)=some (us,A'):=h;split at h'
  ·rename_i u1 A1 h1;split at h'
   ·rename_i Ff A2 h2;cases h';cases c with
    |zero=>simp at hs hu;subst hs;subst hu;exact bg1 h1 hd
    |succ c=>simp at hs hu;exact W0 h2 c s u hs hu hd
   ·cases h'
  ·cases h'
theorem Pp{w0 w:World}{ih:xM→AW→Option (xM×AW)}{G:GP}(uI:∀v A u A' β,ih v A=some (u,A')→Inv w0 G β A w→Ux w0 w G β A v u A'):∀(l:List xM) (A:AW) (us:List xM) (A':AW) (β:af),oU ih l A=some (us,A')→Inv w0 G β A w→
 ∃ah,Inv w0 G ah A' w∧β.grow ah A.next∧A'.next=A.next∧us.length=l.length∧∀dS,ah.grow dS A.next→∀(i:Nat) (v u v':xM),l[i]? =some v→us[i]? =some u→ai dS v v'→ai dS u v'
 |[],A,us,A',β,h,inv=>by
  cases h;exact⟨β,inv,af.cq _ _,rfl,rfl,fun _ _ i v u v' h=>by simp at h⟩
 |v::l,A,us,A',β,h,inv=>by
  have h':(match ih v A with|some (u,A1)=>(match oU ih l A1 with|some (us,A2)=>some (u::us,A2)|none=>none)|none=>none)=some (us,A'):=h;split at h'
  ·rename_i u A1 h1;split at h'
   ·rename_i Ff A2 h2;cases h';obtain⟨aI,i1,g1,n1,f1⟩:=uI v A u A1 β h1 inv;obtain⟨cK,i2,g2,n2,e2,f2⟩:=Pp uI l A1 Ff A' aI h2 i1;rw[n1] at g2 f2;refine⟨cK,i2,af.iZ g1 g2 (xk _),n2.trans n1,by simp[e2],fun dS hg i a b v' ha hb hv=> ?_⟩;cases i with
    |zero=>simp at ha hb;subst ha;subst hb;exact f1 dS (af.iZ g2 hg (xk _)) v' hv
    |succ i=>simp at ha hb;exact f2 dS hg i a b v' ha hb hv
   ·cases h'
  ·cases h'
def FZ:Nat:=8
def S0(L:List (Option ao))(T:aG)(nob:Nat)(ρ:List Nat)(aO us:List xM):KU (List Item):=fun td fr A=>
 match oU (ng (bI L) FZ) aO A with
 |some (uv,A')=>bs (kK us uv&&BE L T ρ aO fr A'&&KZ nob (bI L) ρ) (some [td]) none
 |none=>none
def Rf(G:Nat)(ρ:List Nat)(aO:List xM)(A:AW)(tv v:xM):Bool:=
 match tv with
 | .tuple ⟨l⟩=>(match v with| .tuple ⟨l'⟩=>GR G ρ aO A l l'|_=>false)
 |tv=>BF G ρ aO A tv v
def SW(E:aq)(rs:List ResultVar)(L:List (Option ao))(sg:aD)(ρ:List Nat)(aO us:List xM):Fr→AW→Option (List (List Item)):=fun fr A=>
 match HM E fr A rs with
 |some v=>(match oU (ng (bI L) FZ) aO A with
  |some (uv,A')=>bs (kK us uv&&BE L (nR sg.hp') ρ aO fr A'&&KZ sg.nob (bI L) ρ&&Rf (bI L) ρ aO A' sg.rv v) (some [[]]) none
  |none=>none)
 |none=>none
def YF:Fr→AW→Option (List (List Item)):=fun _ _=>none
def YG:KU (List Item):=fun _ _ _=>none
section
variable{P:Program}{E:aq}{sq:List (Nat×List xO)}(ok:E.Ok P)(ba:E.Seq P sq){L:List (Option ao)}{Q:(Nat→Option D)→Node→Prop}{LL:World→Prop}(hG:E.G=⟨L.length,Q,LL⟩)(hL:HI L)
include ok hG hL in
theorem Pz{w0 w:World}{β:af}{A A':AW}{aO us:List xM}{ds1:List D}(hz:oU (ng (bI L) FZ) aO A=some (us,A'))(inv:Inv w0 E.G β A w)(od:aX (bP β.d) us=some ds1){T:aG}{ρ:List Nat}{fr:Fr}(hi:BE L T ρ aO fr A'=true)(k:Nat):
 ∃aI,Inv w0 E.G (qY L.length ρ aI (fun c=>ds1[c]?)) (T.aw k L []) w∧β.grow aI A.next∧Inv w0 E.G aI A' w∧qo L.length ρ aO aI (qY L.length ρ aI (fun c=>ds1[c]?))∧A'.next=A.next∧
  ∀(K n:Nat) (tmps:Array xM),cf aI n (fr.get J) tmps→cf (qY L.length ρ aI (fun c=>ds1[c]?)) n ((qD K T.tm).get J) tmps:=by
 have hn:E.G.n=bI L:=by rw[hG,dA]
 rw[←hn] at hz;obtain⟨aI,i1,g1,n1,e1,f1⟩:=Pp (w0:=w0) (w:=w) (G:=E.G) (fun v A u A' β h i=>wH ok FZ v A u A' β h i) aO A us A' β hz inv;have hsd:∀(c:Nat) (s:xM),aO[c]? =some s→∃d,(fun c=>ds1[c]?) c=some d∧SD aI s d:=fun c s hs=>by
  have hc:c<aO.length:=(xe.1 hs).1;have s7:c<us.length:=by omega
  have bQ:c<ds1.length:=by rw[l6 od];exact s7
  have hu:=xc s7;have hd:=jU od (xc bQ) hu;rw[←g1.d] at hd;have Fx:=bm3 (β:=aI) hd;refine⟨ds1[c],xc bQ,Fx.1,fun v' hv=> ?_,fun d' kx=> ?_⟩
  ·exact(Gq hd (f1 aI (af.cq _ _) c s _ v' hs hu hv)).1
  ·have:=W0 hz c s _ hs hu (aX3 kx);rw[←this] at kx;rw[hd] at kx;exact(xC kx).symm
 have hI:=WV (G:=L.length) (ρ:=ρ) hsd;have TC:=i1;rw[hG] at TC⊢;obtain⟨j1,j2⟩:=aX4 hL hi TC hsd (tape:=[]) (fun nd h=>by cases h) k;exact⟨aI,j1,g1,TC,hI,n1,fun K n tmps hf=>j2 K n tmps hf⟩
theorem Vy{L:List (Option ao)}{nob:Nat}{ρ:List Nat}{β0 ah aI:af}{δ:Nat→Option D}{n1 n2:Nat}(hk:∀i,i<nob→ρ[i]? =some (L.length+i)∧L.length+i≠cJ){B:Nat}(hB:B<L.length+nob)(hn:L.length+nob≤n1)(h4:β0.grow ah n1)(h5:n1≤n2)(g1:ah.grow aI n2):(qY L.length ρ aI δ) B=β0 B:=by
 rw[zf];by_cases h:B<L.length
 ·rw[if_pos h,g1.f _ (by omega),h4.f _ (by omega)]
 ·rw[if_neg h];obtain⟨e1,e2⟩:=hk (B - L.length) (by omega);rw[e1,show L.length+(B - L.length)=B by omega];rw[show L.length+(B - L.length)=B by omega] at e2;show(if B=cJ then none else aI B)=_;rw[if_neg e2,g1.f _ (by omega),h4.f _ (by omega)]
theorem XS{T:aG}{k:Nat}{L:List (Option ao)}{r:List Node}:(T.aw k L []).pop r=T.aw k L r:=rfl
include ok ba hG hL in
theorem aO7{call:cT→List xM→AW→aZ xM}(hc:fG P E call){bL:List Oper→Fr→AW→aZ Fr}{n:Nat}(kw:vc P E n bL){f:FuncId}{K k aN m2:Nat}{sg:aD}{td Fh:List Item}{T T':aG}{Ta:List Nat}{RE uv:List xM}{tape:List Node}{bj:List (List Item)}
 (aJ:vo E sq call n bL YF (S0 L T' sg.nob Ta RE uv) aN m2 td (qD K T.tm) (T.aw k L tape)=some bj) (bS3:∀o∈bj,o=Fh) (Sy:sg.nob≤T.hp.length)
 {ds cA:List D} {δ:Nat→Option D} (TD:∀(c:Nat) (d:D),ds[c]? =some d→δ c=some d) (hn:∀nd∈tape,Q δ nd) (Sv:aX (bP δ) uv=some cA) {eN:List D} (xV:E9 P E f n K k L sg Fh T' cA eN):E9 P E f n K k L sg td T ds eN:=by
 intro w0 w β b cs a Ub hb Ud inv hf hd;obtain⟨qZ,TH⟩:=inv.reD (δ:=δ) (fun c d h=>TD c d (by rw[hd] at h;exact h)) (Q:=Q) (r:=tape) hn;rw[XS,show(⟨E.G.n,Q,E.G.L⟩:GP)=E.G by rw[hG]] at qZ;have AL:=cf.jc TH hf;have aQ:=JR ok ba hc kw (b:=b) (cs:=cs) hb aN m2 td _ _ bj _ a w aJ AL qZ Ud;obtain⟨l,Tc,cY,A',ah,a',w',h1,h2,h3,h4,h5,h6,h7⟩:=aQ.ex;rcases h7 with⟨h7,_⟩|⟨h7,h8⟩
 ·cases h7
 ·unfold S0 at h7;split at h7
  ·rename_i Ff A2 hz;rcases au h7 with⟨hi,h7⟩|⟨_,h7⟩
   ·cases h7;obtain rfl:=bS3 Tc (h1 _ xn);simp only [xf] at hi;obtain⟨⟨e1,e2⟩,e3⟩:=hi;have nz:=kV _ _ e1;subst nz;rw[dA] at e3;have hk:=N5 e3;obtain⟨aI,i1,g1,i2,hI,n1,bE⟩:=Pz ok hG hL hz h3 (ds1:=cA) (by rw[h4.d];exact Sv) e2 k;have rb:=h3.fX g1;have Ad:=xV w0 w' _ b cs a' Ub hb h6 i1 (bE K n _ (h2.mono rb)) rfl;obtain⟨a3,w3,td3,v,gI,fn,q1,q2,q3,q4,q5,q6,q7,q8,q9,MZ⟩:=Ad;have hx4:ah.x=β.x:=h4.x;refine⟨a3,w3,td3,v,gI,fn,Steps.trans h8 q1,q2,q3,q4,q5,q6,fun B hB=> ?_,fun bb c h=> ?_,q9,MZ.trans (g1.x.trans hx4)⟩
    ·rw[q7 B hB];exact Vy (β0:={β with d:=δ}) hk hB (by rw[Bg];omega) h4 h5 g1
    ·exact q8 bb c (g1.z bb c (h4.z bb c h))
   ·cases h7
  ·cases h7
theorem aP8{G:Nat}{ρ:List Nat}{aO:List xM}{β ei:af}{A:AW}(h:qo G ρ aO β ei)(hA:∀v v',ai β v v'→ai β (tf A v) v'){tv v v':xM}(hi:Rf G ρ aO A tv v=true)(hv:ai β v v'):ai ei tv v':=by
 unfold Rf at hi;split at hi
 ·split at hi
  ·cases hv with
   |tuple _ p' hp h1=>
    obtain⟨k1,k2⟩:=Ji h hA hi;refine .tuple _ p' (k1.trans hp) fun i a b ha hb=> ?_
    rename_i l';have eI:i<l'.length:=by rw[hp];exact(xe.1 hb).1
    exact F9 h hA (k2 i _ _ ha (xc eI)) (h1 i _ _ (xc eI) hb)
  ·cases hi
 ·exact F9 h hA hi hv
include ok ba hG hL in
theorem aV0{call:cT→List xM→AW→aZ xM}(hc:fG P E call){bL:List Oper→Fr→AW→aZ Fr}{n:Nat}(kw:vc P E n bL){f:FuncId}{fn:Func}(pb:P.funcs[f]? =some fn){rs:List ResultVar}(Nj:fn.results=⟨rs⟩){K k aN m2:Nat}{sg:aD}{td:List Item}{T:aG}{Ta:List Nat}{RE uv:List xM}{tape:List Node}{bj:List (List Item)}
 (aJ:vo E sq call n bL (SW E rs L sg Ta RE uv) YG aN m2 td (qD K T.tm) (T.aw k L tape)=some bj) (Sy:sg.nob≤T.hp.length)
 {ds cA:List D} {δ:Nat→Option D} (TD:∀(c:Nat) (d:D),ds[c]? =some d→δ c=some d) (hn:∀nd∈tape,Q δ nd) (Sv:aX (bP δ) uv=some cA):E9 P E f n K k L sg td T ds cA:=by
 intro w0 w β b cs a Ub hb Ud inv hf hd;obtain⟨qZ,TH⟩:=inv.reD (δ:=δ) (fun c d h=>TD c d (by rw[hd] at h;exact h)) (Q:=Q) (r:=tape) hn;rw[XS,show(⟨E.G.n,Q,E.G.L⟩:GP)=E.G by rw[hG]] at qZ;have AL:=cf.jc TH hf;have aQ:=JR ok ba hc kw (b:=b) (cs:=cs) hb aN m2 td _ _ bj _ a w aJ AL qZ Ud;obtain⟨l,Tc,cY,A',ah,a',w',h1,h2,h3,h4,h5,h6,h7⟩:=aQ.ex;rcases h7 with⟨h7,h8⟩|⟨h7,_⟩
 ·unfold SW at h7;split at h7
  ·rename_i v hv;split at h7
   ·rename_i Ff A2 hz;rcases au h7 with⟨hi,h7⟩|⟨_,h7⟩
    ·cases h7;simp only [xf] at hi;obtain⟨⟨⟨e1,e2⟩,e3⟩,e4⟩:=hi;have nz:=kV _ _ e1;subst nz;rw[dA] at e3 e4;have hk:=N5 e3;obtain⟨v',r1,r2⟩:=Xq ok h3 h2 Nj hv;obtain⟨aI,i1,g1,i2,hI,n1,bE⟩:=Pz ok hG hL hz h3 (ds1:=cA) (by rw[h4.d];exact Sv) e2 k;have rb:=h3.fX g1;refine⟨a',w',Tc,v',_,fn,h8,h6,by rw[Ub];exact pb,r1,i1,aP8 hI i2.Bm e4 (r2.mono rb),fun B hB=>Vy (β0:={β with d:=δ}) hk hB (by rw[Bg];omega) h4 h5 g1,fun bb c h=>g1.z bb c (h4.z bb c h),fun c d h=>h,g1.x.trans h4.x⟩
    ·cases h7
   ·cases h7
  ·cases h7
 ·cases h7
end
def v9(P:Program)(LL:World→Prop)(k:Nat)(L:List (Option ao))(f:FuncId)(sg:aD)(ds cA:List D):Prop:=
 ∀(w:World) (β:af) (args':List xM),Inv w (G0 L LL) β ((nR sg.hp).aw k L []) w→β.d=(fun c=>ds[c]?)→aP β sg.args args'→
  Calls P f ⟨args'⟩ w fun e w'=>∃v ah,e= .returned v∧Inv w (G0 L LL) ah ((nR sg.hp').aw k L []) w'∧ai ah sg.rv v∧(∀B,B<L.length+sg.nob→ah B=β B)∧(∀b c,β.z b=some c→ah.z b=some c)∧(∀(c:Nat) (d:D),cA[c]? =some d→ah.d c=some d)∧ah.x=β.x
def yl(args:List xM):List (Nat×xM):=args.zipIdx.map fun p=>(p.2,p.1)
theorem ba7{args:List xM}{t:Nat}{v:xM}(h:(t,v)∈yl args):args[t]? =some v:=by
 unfold yl at h;obtain⟨p,hp,e⟩:=xJ.1 h;have:=List.mem_zipIdx_iff_getElem?.1 hp;cases e;exact this
theorem Inv.Tf{w0 w:World}{n:Nat}{Q Q':(Nat→Option D)→Node→Prop}{LL:World→Prop}{β:af}{A:AW}(h:Inv w0 ⟨n,Q,LL⟩ β A w)(hA:A.tape=[]):Inv w0 ⟨n,Q',LL⟩ β A w:=
 ⟨h.below,h.g9,h.dz,h.loc,h.inj,h.cont,h.jg,h.bB,h.sep,(fun nd c6=>absurd c6 (by rw[hA];exact List.not_mem_nil)),h.own,h.jf,h.lay,h.xg,h.jA,h.zo⟩
section
variable{P:Program}{E:aq}{L:List (Option ao)}{Q:(Nat→Option D)→Node→Prop}{LL:World→Prop}(hG:E.G=⟨L.length,Q,LL⟩)
include hG in
theorem aL7{f:FuncId}{fn:Func}{c:Code}(pb:P.funcs[f]? =some fn)(El:fn.body=some c){sg:aD}(aC:sg.args.length≤fn.ntmps){K k:Nat}{ds cA:List D}
 (L8:E9 P E f fn.ntmps K k L sg [.code c] ⟨yl sg.args,sg.hp⟩ ds cA):v9 P LL k L f sg ds cA:=by
 intro w β args' inv hd fB cs;have qZ:Inv w E.G β ((aG.mk (yl sg.args) sg.hp).aw k L []) w:=by
  rw[hG];exact inv.Tf rfl
 let b:Frame:={(default:Frame) with fn:=f,kind:= .normal,roundOf:=none}
 have bt:sg.args.length=args'.length:=fB.1;have sX:((⟨args'⟩:Array xM)++Array.replicate (fn.ntmps - args'.length) undef).size=fn.ntmps:=by simp;omega
 have P5:Frame.enter P f ⟨args'⟩ .normal=b.atR {tmps:=(⟨args'⟩:Array xM)++Array.replicate (fn.ntmps - args'.length) undef,defers:=[]} [.code c]:=by
  simp[Frame.enter,Frame.atR,pb,El,b]
 have hf:cf β fn.ntmps ((qD K (yl sg.args)).get J) ((⟨args'⟩:Array xM)++Array.replicate (fn.ntmps - args'.length) undef):=by
  refine⟨sX,fun t=> ?_⟩;rcases Pr K (yl sg.args) t with e|⟨tv,h1,e⟩
  ·rw[e];exact .kL _
  ·rw[e];have ha:=ba7 h1;have ht:t<sg.args.length:=(xe.1 ha).1;have TQ:t<args'.length:=by omega
   have hg:((⟨args'⟩:Array xM)++Array.replicate (fn.ntmps - args'.length) undef).getD t undef=args'[t]:=by
    rw[Array.getD_eq_getD_getElem?,Array.getElem?_append_left (by simpa using TQ)];simp[TQ]
   rw[hg];exact fB.2 t _ _ ha (xc TQ)
 obtain⟨a',w',Fh,v,ah,fn',e1,e2,e3,e4,e5,e6,e7,e8,e9,e10⟩:=L8 w w β b cs {tmps:=(⟨args'⟩:Array xM)++Array.replicate (fn.ntmps - args'.length) undef,defers:=[]} rfl rfl rfl qZ hf hd;have hff:fn'=fn:=by
  have:P.funcs[f]? =some fn':=e3;rw[pb] at this;cases this;rfl
 subst hff;rw[hG] at e5;refine⟨.returned v,w',{b.atR a' Fh with mode:= .returning},⟨v,ah,rfl,e5.Tf rfl,e6,e7,e8,e9,e10⟩,?_,rfl,rfl,e2,rfl,_,pb,e4⟩;rw[P5];exact e1
end
section
variable(G nob:Nat)(qs:List Nat)(res:List xM)
def HL(B:Nat):Option Nat:=bs (Nat.blt B G) (some B) (dB qs (Nat.sub B G))
def BY(v:xM):Option xM:=
 match v with
 | .chan (some 0)=>some J
 | .chan (some (c+1))=>dB res c
 | .iface B (.chan (some (c+1)))=>match dB qs (Nat.sub B G),dB res c with
  |some x,some r=>bs (Nat.ble (Nat.add G nob) B&&gF r) (some (.iface x r)) none
  |_,_=>none
 | .pointer (some ⟨B,o,none⟩)=>(match HL G qs B with|some x=>some (.pointer (some ⟨x,o,none⟩))|none=>none)
 | .slice (some ⟨B,o,none⟩) n c=>(match HL G qs B with|some x=>bs (Nat.ble n c&&bs (Nat.beq B ud) false true) (some (.slice (some ⟨x,o,none⟩) n c)) none|none=>none)
 | .map (some B)=>(match HL G qs B with|some x=>some (.map (some x))|none=>none)
 |v=>bs (J5 v) (some v) none
def z7(f:xM→Option xM)(l:List xM):Option (List xM):=
 List.rec (motive:=fun _=>Option (List xM)) (some []) (fun v _ ih=>match f v with|some u=>(match ih with|some us=>some (u::us)|none=>none)|none=>none) l
def BX(v:xM):Option xM:=
 match v with
 | .agg ⟨l⟩=>(match z7 (BY G nob qs res) l with|some r=>some (.agg ⟨r⟩)|none=>none)
 | .func (.func f) ⟨p⟩ ⟨q⟩=>(match z7 (BY G nob qs res) p,z7 (BY G nob qs res) q with|some p',some q'=>some (.func (.func f) ⟨p'⟩ ⟨q'⟩)|_,_=>none)
 |v=>BY G nob qs res v
def RC(v:xM):Option xM:=
 match v with
 | .tuple ⟨l⟩=>(match z7 (BX G nob qs res) l with|some r=>some (.tuple ⟨r⟩)|none=>none)
 |v=>BX G nob qs res v
def x3(tb:ao):Option ao:=
 match tb with
 |⟨.cells cs,es,ex,ro,ty⟩=>(match z7 (BX G nob qs res) cs with|some r=>some ⟨.cells r,es,ex,ro,ty⟩|none=>none)
 |⟨.own (.chan (some (c+1))),es,ex,ro,ty⟩=>(match dB res c with|some r=>bs (gF r) (some ⟨.own r,es,ex,ro,ty⟩) none|none=>none)
 |⟨.map [] ck,es,ex,ro,ty⟩=>some ⟨.map [] ck,es,ex,ro,ty⟩
 |_=>none
end
structure Ai (G nob:Nat) (qs:List Nat) (res:List xM) (jK β:af):Prop where
 g:∀B l,B<G→jK B=some l→β B=some l
 q:∀(j x:Nat),qs[j]? =some x→β x=jK (G+j)
 o:∀(j x:Nat),nob≤j→qs[j]? =some x→β.o x=jK.o (G+j)
 z:β.z=jK.z
 d:∀(c:Nat) (r:xM),res[c]? =some r→∃d,jK.d c=some d∧gi β.d r=some d
section
variable{G nob:Nat}{qs:List Nat}{res:List xM}{jK β:af}
theorem On{f:xM→Option xM}:∀{l r:List xM},z7 f l=some r→l.length=r.length∧∀(i:Nat) (v u:xM),l[i]? =some v→r[i]? =some u→f v=some u
 |[],r,h=>by cases h;exact⟨rfl,fun i v u hv=>by simp at hv⟩
 |x::l,r,h=>by
  have h':(match f x with|some u=>(match z7 f l with|some us=>some (u::us)|none=>none)|none=>none)=some r:=h;split at h'
  ·rename_i u hu;split at h'
   ·rename_i us od;cases h';obtain⟨k1,k2⟩:=On od;refine⟨by simp[k1],fun i a b ha hb=> ?_⟩;cases i with
    |zero=>simp at ha hb;subst ha;subst hb;exact hu
    |succ i=>simp at ha hb;exact k2 i a b ha hb
   ·cases h'
  ·cases h'
theorem OB(h:Ai G nob qs res jK β){B x:Nat}(hs:HL G qs B=some x){l:Loc}(hl:jK B=some l):β x=some l:=by
 unfold HL at hs;rcases au hs with⟨h1,h2⟩|⟨h1,h2⟩
 ·cases h2;exact h.g _ _ (xh h1) hl
 ·rw[eM] at h2;have:=Qj h1;rw[h.q _ x h2];rw[show G+Nat.sub B G=B by show G+(B - G)=B;omega];exact hl
theorem OH{δ:Nat→Option D}{c:Nat}{d:D}(h:gi δ (.chan (some (c+1)))=some d):δ c=some d∧d.cell=true:=by
 unfold gi at h;split at h
 ·rename_i e;cases e
 ·have h':(δ c).bind (fun x=>if x.cell then some x else none)=some d:=h;obtain⟨x,hx,h2⟩:=xr.1 h';split at h2<;>cases h2
  exact⟨hx,by assumption⟩
theorem VK(h:Ai G nob qs res jK β){v u v':xM}(hs:BY G nob qs res v=some u)(hv:ai jK v v'):ai β u v':=by
 unfold BY at hs;split at hs
 ·cases hs;exact .kL _
 ·rename_i c;rw[eM] at hs;obtain⟨d,h1,h2⟩:=h.d c u hs;cases hv with
  |sym _ d2 _ h3 hc hr=>
   rw[h1] at h3;cases h3;exact C7 h2 (by rw[h.z];exact hr)
 ·rename_i B c;split at hs
  ·rename_i x r hx hr;rcases au hs with⟨h1,h2⟩|⟨_,h2⟩<;>cases h2
   rw[xf] at h1;obtain⟨c',rfl⟩:=JE h1.2;have hB:G+nob≤B:=xh h1.1;rw[eM] at hx hr;obtain⟨d,e1,e2⟩:=h.d c _ hr;cases hv with
   |own _ _ rows a cap ho ha hd=>
    rw[e1] at hd;cases hd;have Cw:qs[B - G]? =some x:=hx;have hq:=h.q _ x Cw;have fE:=h.o _ x (by omega) Cw;rw[show G+(B - G)=B by omega] at hq fE;exact .own x c' rows a cap (fE.trans ho) (ha.imp id fun⟨l,p1,p2⟩=>⟨l,hq.trans p1,p2⟩) (OH e2).1
  ·cases hs
 ·split at hs
  ·rename_i x hx;cases hs;cases hv with
   |ptr _ _ l hl=>exact .ptr _ _ l (OB h hx hl)
  ·cases hs
 ·split at hs
  ·rename_i x hx;rcases au hs with⟨h1,h2⟩|⟨_,h2⟩<;>cases h2
   cases hv with
   |slice _ _ _ _ c2 l hl hn hc he=>exact .slice _ _ _ _ c2 l (OB h hx hl) hn hc he
   |empty=>exact absurd h1 (by decide)
  ·cases hs
 ·split at hs
  ·rename_i x hx;cases hs;cases hv with
   |map _ l hl=>exact .map _ l (OB h hx hl)
  ·cases hs
 ·rcases au hs with⟨h1,h2⟩|⟨_,h2⟩<;>cases h2
  exact NY h1 hv
theorem Jw{f:xM→Option xM}(hf:∀v u v',f v=some u→ai jK v v'→ai β u v'){l r l':List xM}(h:z7 f l=some r)(hl:aP jK l l'):aP β r l':=by
 obtain⟨k1,k2⟩:=On h;refine⟨k1.symm.trans hl.1,fun i u v' hu hv=> ?_⟩;have hi:i<l.length:=by rw[k1];exact(xe.1 hu).1
 exact hf _ u v' (k2 i _ u (xc hi) hu) (hl.2 i _ v' (xc hi) hv)
theorem OC(h:Ai G nob qs res jK β){v u v':xM}(hs:BX G nob qs res v=some u)(hv:ai jK v v'):ai β u v':=by
 have h1:∀v u v',BY G nob qs res v=some u→ai jK v v'→ai β u v':=fun v u v' a b=>VK h a b
 unfold BX at hs;split at hs
 ·split at hs
  ·rename_i r hr;cases hs;cases hv with
   |agg _ p' hp h2=>exact ai.tL (Jw h1 hr ⟨hp,h2⟩)
  ·cases hs
 ·split at hs
  ·rename_i p' q' hp' Fy;cases hs;cases hv with
   |func _ _ p2 _ q2 hp hq h2 h3=>
    have k1:=Jw h1 hp' ⟨hp,h2⟩;have k2:=Jw h1 Fy ⟨hq,h3⟩;exact .func _ _ p2 _ q2 k1.1 k2.1 k1.2 k2.2
  ·cases hs
 ·exact VK h hs hv
theorem aT8(h:Ai G nob qs res jK β){v u v':xM}(hs:RC G nob qs res v=some u)(hv:ai jK v v'):ai β u v':=by
 unfold RC at hs;split at hs
 ·split at hs
  ·rename_i r hr;cases hs;cases hv with
   |tuple _ p' hp h2=>
    have:=Jw (fun v u v' a b=>OC h a b) hr ⟨hp,h2⟩;exact .tuple _ p' this.1 this.2
  ·cases hs
 ·exact OC h hs hv
theorem aT6(h:Ai G nob qs res jK β){tb b:ao}(hs:x3 G nob qs res tb=some b){l:Loc}{o:Option Obj}(hb:gH jK l tb o):gH β l b o:=by
 unfold x3 at hs;split at hs
 ·split at hs
  ·rename_i r hr;cases hs;obtain⟨av,e,fz,g1,g2,g3,g4,g5,g6,g7,g8⟩:=hb;obtain⟨k1,k2⟩:=On hr;refine⟨av,e,fz,g1,g2,by rw[←k1];exact g3,fun i u hu=> ?_,g5,fun hx=>by rw[←k1];exact g6 hx,g7,g8⟩;have hi:=(xe.1 hu).1;rw[←k1] at hi;obtain⟨v',e1,e2⟩:=g4 i _ (xc hi);exact⟨v',e1,OC h (k2 i _ u (xc hi) hu) e2⟩
  ·cases hs
 ·rename_i c es ex ro ty;split at hs
  ·rename_i r hr;rcases au hs with⟨h1,h2⟩|⟨_,h2⟩<;>cases h2
   obtain⟨c',rfl⟩:=JE h1;rw[eM] at hr;obtain⟨d,e1,e2⟩:=h.d c _ hr;obtain⟨av,rows,g1,g2,g3,g4,g5,g6,g7⟩:=hb;have I1:(jK.d c).bind (fun x=>if x.cell then some x else none)=some (.sl rows):=g3;rw[e1] at I1;obtain⟨e3,e4⟩:=OH e2;have SV:d= .sl rows:=by
    have:(if d.cell then some d else none)=some (.sl rows):=I1;rw[e4] at this;exact xC this
   subst SV;exact⟨av,rows,g1,g2,by show(β.d c').bind _=_;rw[e3];rfl,g4,g5,g6,fun i row j d a b=>by rw[h.z];exact g7 i row j d a b⟩
  ·cases hs
 ·cases hs;obtain⟨ax,g1,g2,g3⟩:=hb;exact⟨ax,g1,g2,fun i e e' a _=>by simp at a⟩
 ·cases hs
theorem aK4{tb b:ao}(hs:x3 G nob qs res tb=some b):b.still=tb.still:=by
 unfold x3 at hs;split at hs
 ·split at hs<;>cases hs;rfl
 ·split at hs
  ·rcases au hs with⟨_,h2⟩|⟨_,h2⟩<;>cases h2;rfl
  ·cases hs
 ·cases hs;rfl
 ·cases hs
theorem aT7(h:Ai G nob qs res jK β){tb b:ao}(hs:x3 G nob qs res tb=some b){j x:Nat}(hx:qs[j]? =some x)(hj:nob≤j∨qj tb)(ho:je jK (G+j) tb):je β x b:=by
 unfold x3 at hs;split at hs
 ·split at hs<;>cases hs;trivial
 ·rename_i c es ex ro ty;split at hs
  ·rename_i r hr;rcases au hs with⟨h1,h2⟩|⟨_,h2⟩<;>cases h2
   have sZ:nob≤j:=hj.resolve_right (fun hp=>hp _ rfl);obtain⟨c',rfl⟩:=JE h1;rw[eM] at hr;obtain⟨d,e1,e2⟩:=h.d c _ hr;obtain⟨rows,g3,g4⟩:=ho;have I1:(jK.d c).bind (fun x=>if x.cell then some x else none)=some (.sl rows):=g3;rw[e1] at I1;obtain⟨e3,e4⟩:=OH e2;have SV:d= .sl rows:=by
    have:(if d.cell then some d else none)=some (.sl rows):=I1;rw[e4] at this;exact xC this
   subst SV;have q1:=h.q j x hx;have q2:=h.o j x sZ hx;exact⟨rows,by show(β.d c').bind _=_;rw[e3];rfl,g4.imp (fun⟨a,b⟩=>⟨a,q2.trans b⟩) fun⟨l,cap,a,b,c⟩=>⟨l,cap,q1.trans a,q2.trans b,c⟩⟩
  ·cases hs
 ·cases hs;trivial
 ·cases hs
end
theorem OO:∀(k:Nat) (l:List (Option ao)) (i:Nat) (x:ao),l[i]? =some (some x)→i+1<2^k→(fill k l).get none i=some x
 |0,l,i,x,_,h=>by omega
 |k+1,[],i,x,h,_=>by simp at h
 |k+1,a::r,i,x,h,hi=>by
  rw[Nat.pow_succ] at hi;show(T.node (fill k (alt r true)) a (fill k (alt r false))).get none i=some x;rw[T.jT];split
  ·rename_i h0;subst h0;simpa using h
  ·split
   ·refine OO k _ _ _ ?_ (by omega);rw[Dm];rw[show i=2*(i/2)+1 by omega,List.getElem?_cons_succ] at h;simpa using h
   ·refine OO k _ _ _ ?_ (by omega);rw[Dm];rw[show i=(2*(i/2 - 1)+1)+1 by omega,List.getElem?_cons_succ] at h;simpa using h
theorem G3{T:aG}{k:Nat}{L:List (Option ao)}{tape:List Node}{j:Nat}{tb:ao}(h:T.hp[j]? =some tb)(hk:L.length+T.hp.length<2^k):(T.aw k L tape).get (L.length+j)=some tb:=by
 refine OO k _ _ _ ?_ (by have:=(xe.1 h).1;omega);unfold Bw;rw[jm,l8,xq (by omega),show L.length+j - L.length=j by omega,xx,h];rfl
def ED(nob n:Nat)(ρ:List Nat)(j:Nat):Nat:=if j<nob then ρ.getD j 0 else n+(j - nob)
section
variable{w0 w w':World}{L:List (Option ao)}{Q:(Nat→Option D)→Node→Prop}{LL:World→Prop}{aI ah:af}{A1 A2:AW}{ρ:List Nat}{nob k:Nat}{hp':List ao}{δ:Nat→Option D}
def uA(L:List (Option ao))(nob n:Nat)(aI ah:af):af where
 f:=fun B=>if B<n then aI B else ah (L.length+(nob+(B - n)))
 z:=ah.z
 d:=aI.d
 x:=aI.x
 o:=fun B=>if B<n then aI.o B else ah.o (L.length+(nob+(B - n)))
theorem rS(n:Nat)(B:Nat):(uA L nob n aI ah) B=if B<n then aI B else ah (L.length+(nob+(B - n))):=rfl
theorem QC(n:Nat)(B:Nat):(uA L nob n aI ah).o B=if B<n then aI.o B else ah.o (L.length+(nob+(B - n))):=rfl
theorem Inv.gn{G:GP}{β:af}{A:AW}(h:Inv w0 G β A w):G.n≤A.next:=by
 cases hn:G.n with
 |zero=>omega
 |succ m=>
  obtain⟨l,h1,_⟩:=h.jg m (by omega);exact h.g9 m l h1
theorem Inv.merge(inv:Inv w0 ⟨L.length,Q,LL⟩ aI A1 w)(Nc:∀(i x:Nat),ρ[i]? =some x→x=cJ∨(L.length≤x∧∃aj,A1.get x=some aj))(c6:∀(i j x:Nat),ρ[i]? =some x→ρ[j]? =some x→x≠cJ→i=j)
 (Sy:∀i,i<nob→∃x,ρ[i]? =some x∧x≠cJ) (nc:Inv w (G0 L LL) ah ((nR hp').aw k L []) w') (hx:ah.x=Mw L.length (qY L.length ρ aI δ)) (Lr:∀B,B<L.length+nob→ah B=(qY L.length ρ aI δ) B) (hz:∀b c,aI.z b=some c→ah.z b=some c)
 {res:List xM} (sK:∀(c:Nat) (r:xM),res[c]? =some r→∃d,ah.d c=some d∧gi aI.d r=some d) {qs:List Nat} (Cy:qs.length=hp'.length∧∀(j x:Nat),qs[j]? =some x→x=ED nob A1.next ρ j) (fV:∀(j:Nat) (tb:ao),j<nob→hp'[j]? =some tb→qj tb) (aK:nob≤hp'.length)
 (rc:∀B aj,A2.get B=some aj→(∃(j:Nat) (tb:ao),qs[j]? =some B∧hp'[j]? =some tb∧x3 L.length nob qs res tb=some aj)∨(B<A1.next∧(∀(i:Nat),ρ[i]?≠some B)∧A1.get B=some aj)) (xV:A2.next=A1.next+(hp'.length - nob)) (bR7:∀nd∈A2.tape,nd∈A1.tape) (Cf:L.length+hp'.length<2^k):
 Inv w0 ⟨L.length,Q,LL⟩ (uA L nob A1.next aI ah) A2 w'∧aI.grow (uA L nob A1.next aI ah) A1.next∧Ai L.length nob qs res ah (uA L nob A1.next aI ah):=by
 have hgn:L.length≤A1.next:=inv.gn;have cL0:∀(i x:Nat),ρ[i]? =some x→x≠cJ→x<A1.next:=fun i x h hn=>by
  rcases Nc i x h with e|⟨_,aj,e⟩
  ·exact absurd e hn
  ·exact Nat.lt_of_not_le fun ek=>by rw[inv.dz x ek] at e;cases e
 have hX:∀b,ah.x b→∃i x l,ρ[i]? =some x∧x≠cJ∧L.length≤x∧aI x=some l∧l.b=b:=fun b hb=>by
  rw[hx] at hb;obtain⟨B,l,e1,e2,e3⟩:=hb;have e1:L.length≤B:=e1;rw[zf,if_neg (by omega)] at e2;cases oa:ρ[B - L.length]? with
  |none=>rw[oa] at e2;cases e2
  |some x=>
   rw[oa] at e2;have e2:(if x=cJ then none else aI x)=some l:=e2;by_cases hn:x=cJ
   ·rw[if_pos hn] at e2;cases e2
   ·rw[if_neg hn] at e2;rcases Nc _ x oa with e|⟨e,_⟩
    ·exact absurd e hn
    ·exact⟨_,x,l,oa,hn,e,e2,e3⟩
 have ZR:∀b c,ah.z b=some c→aI.z b=some c∨w.heap.size≤b∨ah.x b:=fun b c h=>by
  have:=nc.zo b c h;rw[show ah.x.z0=aI.z by rw[hx];rfl] at this;exact this
 have Rk:∀b,ah.x b→w0.heap.size≤b∨aI.x b:=fun b hb=>by
  obtain⟨i,x,l,e1,e2,e3,e4,e5⟩:=hX b hb;rcases(inv.loc x l e4).2 with h|h
  ·have h:x<L.length:=h;omega
  ·rw[←e5];exact h
 have Sq:∀B l aj,(∀(i:Nat),ρ[i]?≠some B)→A1.get B=some aj→aI B=some l→ ¬ah.x l.b:=fun B l aj hB hg hl hb=>by
  obtain⟨i,x,l2,e1,e2,e3,e4,e5⟩:=hX _ hb;rcases Nc i x e1 with e|⟨_,uq,e⟩
  ·exact e2 e
  ·have:=inv.inj x B l2 l e4 hl e5 (by rw[e];rfl) (by rw[hg];rfl);subst this;exact hB i e1
 have ap:∀(j B:Nat),qs[j]? =some B→(uA L nob A1.next aI ah) B=ah (L.length+j)∧(nob≤j→(uA L nob A1.next aI ah).o B=ah.o (L.length+j))∧(j<nob→ρ[j]? =some B∧B≠cJ∧B<A1.next)∧(nob≤j→B=A1.next+(j - nob)):=fun j B hj=>by
  have e:=Cy.2 j B hj;unfold ED at e;by_cases hn:j<nob
  ·rw[if_pos hn] at e;obtain⟨x,e1,e2⟩:=Sy j hn;have ex:B=x:=by rw[e,List.getD_eq_getElem?_getD,e1];rfl
   subst ex;have bg:=cL0 j B e1 e2;refine⟨?_,fun h=>by omega,fun _=>⟨e1,e2,bg⟩,fun h=>by omega⟩;rw[rS,if_pos bg,Lr (L.length+j) (by omega),zf,if_neg (by omega),show L.length+j - L.length=j by omega,e1];exact(if_neg e2).symm
  ·rw[if_neg hn] at e;have h2: ¬B<A1.next:=by omega
   have h3:nob+(B - A1.next)=j:=by omega
   exact⟨by rw[rS,if_neg h2,h3],fun _=>by rw[QC,if_neg h2,h3],fun h=>absurd h hn,fun _=>e⟩
 have Ls:aI.grow (uA L nob A1.next aI ah) A1.next:=⟨fun B hB=>by rw[rS,if_pos hB],hz,fun B hB=>by rw[QC,if_pos hB],rfl,rfl⟩;have rb:=inv.fX Ls;have hS:Ai L.length nob qs res ah (uA L nob A1.next aI ah):=by
  refine⟨fun B l hB h=> ?_,fun j x h=>(ap j x h).1,fun j x hj h=>(ap j x h).2.1 hj,rfl,sK⟩;rw[rS,if_pos (xK hB hgn)];rw[Lr B (by omega),zf,if_pos hB] at h;exact h
 refine⟨⟨?_,fun B l h=> ?_,fun B hB=> ?_,fun B l h=> ?_,fun B B' l l' h h' hb h1 h2=> ?_,fun B aj l hg h=> ?_,fun g hg=> ?_,nc.bB,fun B l aj hG h hg hs=> ?_,fun nd c6=>inv.eO nd (bR7 nd c6),fun B aj hg=> ?_,fun B v h=> ?_,inv.lay,inv.xg,inv.jA,fun b c h=> ?_⟩,Ls,hS⟩
 ·refine⟨nc.below.os.trans inv.below.os,nc.below.tape.trans inv.below.tape,nc.below.output.trans inv.below.output,xH inv.below.size nc.below.size,fun b hb TF=> ?_⟩;have h1: ¬ah.x b:=fun h=>(Rk b h).elim (fun h=>by omega) TF
  exact(nc.below.block b (xK hb inv.below.size) h1).trans (inv.below.block b hb TF)
 ·rw[xV];rw[rS] at h;by_cases hB:B<A1.next
  ·omega
  ·rw[if_neg hB] at h;have:=nc.g9 _ l h;rw[Bg] at this;have e:(nR hp').hp.length=hp'.length:=rfl;omega
 ·cases hq:A2.get B with
  |none=>rfl
  |some aj=>
   rcases rc B aj hq with⟨j,tb,e1,e2,_⟩|⟨e1,_⟩
   ·have:=(xe.1 e2).1;by_cases hn:j<nob
    ·have:=((ap j B e1).2.2.1 hn).2.2;omega
    ·have:=(ap j B e1).2.2.2 (by omega);omega
   ·omega
 ·rw[rS] at h;by_cases hB:B<A1.next
  ·rw[if_pos hB] at h;exact⟨xK (inv.loc B l h).1 nc.below.size,(inv.loc B l h).2⟩
  ·rw[if_neg hB] at h;refine⟨(nc.loc _ l h).1,.inr ?_⟩;rcases(nc.loc _ l h).2 with e|e|e
   ·have e:L.length+(nob+(B - A1.next))<L.length:=e;omega
   ·exact .inl (xH inv.below.size e)
   ·exact Rk _ e
 ·obtain⟨b1,cN⟩:=Option.isSome_iff_exists.1 h1;obtain⟨b2,cx⟩:=Option.isSome_iff_exists.1 h2;have ab9:∀(B B':Nat) (l l':Loc) (b2:ao),(∃(j:Nat) (tb:ao) (b1:ao),qs[j]? =some B∧hp'[j]? =some tb∧x3 L.length nob qs res tb=some b1)→(uA L nob A1.next aI ah) B=some l→(uA L nob A1.next aI ah) B'=some l'→l.b=l'.b→B'<A1.next→(∀(i:Nat),ρ[i]?≠some B')→A1.get B'=some b2→False:=fun B B' l l' b2 hj hl ee eo te L9 hg=>by
   obtain⟨j,tb,_,p1,p2,p3⟩:=hj;rw[(ap j B p1).1] at hl;rw[rS,if_pos te] at ee;have h3:=(inv.loc B' l' ee).1;rcases(nc.loc _ l hl).2 with e|e|e
   ·have e:L.length+j<L.length:=e;omega
   ·omega
   ·exact Sq B' l' b2 L9 hg ee (eo▸e)
  rcases rc B b1 cN with hj|⟨e1,e2,e3⟩<;>rcases rc B' b2 cx with sZ|⟨nz,v5,FU⟩
  ·obtain⟨j,tb,p1,p2,p3⟩:=hj;obtain⟨j',tb',Tv,p2',p3'⟩:=sZ;rw[(ap j B p1).1] at h;rw[(ap j' B' Tv).1] at h';have:=nc.inj _ _ l l' h h' hb (by rw[G3 (T:=nR hp') p2 Cf];rfl) (by rw[G3 (T:=nR hp') p2' Cf];rfl);have hjj:j=j':=by omega
   subst hjj;rw[p1] at Tv;cases Tv;rfl
  ·exact(ab9 B B' l l' b2 (hj.elim fun j hj=>hj.elim fun tb hj=>⟨j,tb,b1,hj⟩) h h' hb nz v5 FU).elim
  ·exact(ab9 B' B l' l b1 (sZ.elim fun j hj=>hj.elim fun tb hj=>⟨j,tb,b2,hj⟩) h' h hb.symm e1 e2 e3).elim
  ·rw[rS,if_pos e1] at h;rw[rS,if_pos nz] at h';exact inv.inj B B' l l' h h' hb (by rw[e3];rfl) (by rw[FU];rfl)
 ·rcases rc B aj hg with⟨j,tb,p1,p2,p3⟩|⟨e1,e2,e3⟩
  ·rw[(ap j B p1).1] at h;exact aT6 hS p3 (nc.cont _ tb l (G3 (T:=nR hp') p2 Cf) h)
  ·rw[rS,if_pos e1] at h;rw[nc.below.block l.b (inv.loc B l h).1 (Sq B l aj e2 e3 h)];exact(inv.cont B aj l e3 h).mono rb
 ·obtain⟨l,a1,a2,a3⟩:=inv.jg g hg;have hg:g<L.length:=hg;exact⟨l,by rw[rS,if_pos (by omega)];exact a1,a2,a3⟩
 ·rcases rc B aj hg with⟨j,tb,p1,p2,p3⟩|⟨e1,e2,e3⟩
  ·rw[(ap j B p1).1] at h;exact nc.sep _ l tb (by show L.length≤_;omega) h (G3 (T:=nR hp') p2 Cf) (by rw[←aK4 p3];exact hs)
  ·rw[rS,if_pos e1] at h;have gw:=inv.sep B l aj hG h e3 hs;cases hq:ah.z l.b with
   |none=>exact hq
   |some c=>
    exfalso;rcases ZR _ _ hq with h1|h1|h1
    ·rw[gw] at h1;cases h1
    ·have:=(inv.loc B l h).1;omega
    ·exact Sq B l aj e2 e3 h h1
 ·rcases rc B aj hg with⟨j,tb,p1,p2,p3⟩|⟨e1,e2,e3⟩
  ·refine aT7 hS p3 p1 ?_ (nc.own _ tb (G3 (T:=nR hp') p2 Cf));by_cases hn:j<nob
   ·exact .inr (fV j tb hn p2)
   ·exact .inl (by omega)
  ·exact(inv.own B aj e3).mono rb
 ·rw[xV];rw[QC] at h;by_cases hB:B<A1.next
  ·omega
  ·rw[if_neg hB] at h;have:=nc.jf _ v h;rw[Bg] at this;have e:(nR hp').hp.length=hp'.length:=rfl;omega
 ·rcases ZR b c h with h1|h1|h1
  ·exact inv.zo b c h1
  ·exact .inr (.inl (xH inv.below.size h1))
  ·exact .inr (Rk b h1)
end
end
end Go.Ex
