/- A verified evaluator of Go functions. -/
import Derived.Test.YtaginlnifpbfgaaGreatDoorX3
import Derived.Laws.IdiomStrings
set_option linter.unusedVariables false
set_option linter.unusedSimpArgs false
namespace Go.Ex
open Go.RowKit
noncomputable section
def qT(a b:xM):Bool:=
 match a,b with
 | .bool x,.bool y=>bs x y (not y)
 | .int k x,.int j y=>dE k j&&mQ x y
 | .string ⟨⟨x⟩⟩,.string ⟨⟨y⟩⟩=>vE x y
 | .pointer none,.pointer none=>true
 | .pointer (some ⟨B,o,none⟩),.pointer (some ⟨B',o',none⟩)=>Nat.beq B B'&&Nat.beq o o'
 | .slice none n c,.slice none n' c'=>Nat.beq n n'&&Nat.beq c c'
 | .slice (some ⟨B,o,none⟩) n c,.slice (some ⟨B',o',none⟩) n' c'=>Nat.beq B B'&&Nat.beq o o'&&Nat.beq n n'&&Nat.beq c c'
 | .map none,.map none=>true
 | .map (some x),.map (some y)=>Nat.beq x y
 | .nilFunc,.nilFunc=>true
 | .nilIface,.nilIface=>true
 | .func (.func f) ⟨[]⟩ ⟨[]⟩,.func (.func f') ⟨[]⟩ ⟨[]⟩=>Nat.beq f f'
 | .chan (some x),.chan (some y)=>Nat.beq x y
 | .iface x (.chan (some c)),.iface y (.chan (some c'))=>Nat.beq x y&&Nat.beq c c'
 |_,_=>false
def kK(a:List xM):List xM→Bool:=
 List.rec (motive:=fun _=>List xM→Bool) (fun b=>List.rec (motive:=fun _=>Bool) true (fun _ _ _=>false) b)
  (fun x _ ih b=>List.rec (motive:=fun _=>Bool) false (fun y t _=>bs (qT x y) (ih t) false) b) a
def uu(a b:xM):Bool:=
 match a,b with
 | .agg ⟨x⟩,.agg ⟨y⟩=>kK x y
 | .tuple ⟨x⟩,.tuple ⟨y⟩=>kK x y
 | .func (.func f) ⟨p⟩ ⟨q⟩,.func (.func f') ⟨p'⟩ ⟨q'⟩=>Nat.beq f f'&&kK p p'&&kK q q'
 | .iface x (.agg ⟨p⟩),.iface y (.agg ⟨q⟩)=>Nat.beq x y&&kK p q
 |a,b=>qT a b
def Ez(a:List xM):List xM→Bool:=
 List.rec (motive:=fun _=>List xM→Bool) (fun b=>List.rec (motive:=fun _=>Bool) true (fun _ _ _=>false) b)
  (fun x _ ih b=>List.rec (motive:=fun _=>Bool) false (fun y t _=>bs (uu x y) (ih t) false) b) a
theorem wm{a b:xM}(h:qT a b=true):a=b:=by
 unfold qT at h;split at h<;>(try simp only [xf] at h)
 ·rename_i x y;cases x<;>cases y<;>first|rfl|cases h
 ·obtain⟨h1,h2⟩:=h;rw[pu] at h2;rw[qH h1,of_decide_eq_true h2]
 ·rw[zb] at h;rw[of_decide_eq_true h]
 ·rfl
 ·rw[xb h.1,xb h.2]
 ·rw[xb h.1,xb h.2]
 ·rw[xb h.1.1.1,xb h.1.1.2,xb h.1.2,xb h.2]
 ·rfl
 ·rw[xb h]
 ·rfl
 ·rfl
 ·rw[xb h]
 ·rw[xb h]
 ·rw[xb h.1,xb h.2]
 ·cases h
theorem kV:∀(a b:List xM),kK a b=true→a=b
 |[],[],_=>rfl
 |[],_::_,h=>by cases h
 |_::_,[],h=>by cases h
 |x::a,y::b,h=>by
  have h':bs (qT x y) (kK a b) false=true:=h;cases hb:qT x y with
  |false=>rw[hb] at h';cases h'
  |true=>
   rw[hb,eg] at h';rw[wm hb,kV a b h']
theorem Dp{a b:xM}(h:uu a b=true):a=b:=by
 unfold uu at h;split at h
 ·rw[kV _ _ h]
 ·rw[kV _ _ h]
 ·simp only [xf] at h;rw[xb h.1.1,kV _ _ h.1.2,kV _ _ h.2]
 ·rw[xf] at h;rw[xb h.1,kV _ _ h.2]
 ·exact wm h
theorem JL:∀(a b:List xM),Ez a b=true→a=b
 |[],[],_=>rfl
 |[],_::_,h=>by cases h
 |_::_,[],h=>by cases h
 |x::a,y::b,h=>by
  have h':bs (uu x y) (Ez a b) false=true:=h;cases hb:uu x y with
  |false=>rw[hb] at h';cases h'
  |true=>
   rw[hb,eg] at h';rw[Dp hb,JL a b h']
def Ly:BinOp→Nat| .add=>0| .sub=>1| .mul=>2| .quo=>3| .rem=>4| .and=>5| .or=>6| .xor=>7| .shl=>8| .shr=>9| .andNot=>10| .eql=>11| .neq=>12| .lss=>13| .leq=>14| .gtr=>15| .geq=>16
theorem ba2{a b:BinOp}(h:Ly a=Ly b):a=b:=by cases a<;>cases b<;>first|rfl|(exact absurd h (by decide))
def KB:UnOp→Nat| .neg=>0| .xor=>1| .not=>2| .plus=>3
theorem aT2{a b:UnOp}(h:KB a=KB b):a=b:=by cases a<;>cases b<;>first|rfl|(exact absurd h (by decide))
def QG(a:List xO):List xO→Bool:=
 List.rec (motive:=fun _=>List xO→Bool) (fun b=>List.rec (motive:=fun _=>Bool) true (fun _ _ _=>false) b)
  (fun x _ ih b=>List.rec (motive:=fun _=>Bool) false (fun y t _=>bs (dE x y) (ih t) false) b) a
theorem VZ:∀(a b:List xO),QG a b=true→a=b
 |[],[],_=>rfl
 |[],_::_,h=>by cases h
 |_::_,[],h=>by cases h
 |x::a,y::b,h=>by
  have h':bs (dE x y) (QG a b) false=true:=h;cases hb:dE x y with
  |false=>rw[hb] at h';cases h'
  |true=>
   rw[hb,eg] at h';rw[qH hb,VZ a b h']
theorem XO{r r':Bool}(h:bs r r' (not r')=true):r=r':=by cases r<;>cases r'<;>first|rfl|cases h
def uf(a b:NK):Bool:=
 match a,b with
 | .bin o c,.bin o' c'=>Nat.beq (Ly o) (Ly o')&&Nat.beq c c'
 | .FR k n,.FR k' n'=>QG k k'&&bs n n' (not n')
 | .un o,.un o'=>Nat.beq (KB o) (KB o')
 | .nD k,.nD k'=>dE k k'
 | .FV,.FV=>true
 | .ml,.ml=>true
 | .nT,.nT=>true
 | .B9,.B9=>true
 | .x4,.x4=>true
 | .iF a,.iF b=>Nat.beq a b
 | .nV a,.nV b=>Nat.beq a b
 | .L5 n a,.L5 m b=>Nat.beq n m&&Nat.beq a b
 | .Ib a,.Ib b=>Nat.beq a b
 | .ld,.ld=>true
 | .jN a,.jN b=>Nat.beq a b
 | .Ha,.Ha=>true
 | .own a,.own b=>Nat.beq a b
 | .call a,.call b=>Nat.beq a b
 | .lI a,.lI b=>Nat.beq a b
 | .bB a b,.bB c d=>Nat.beq a c&&Nat.beq b d
 | .vA a,.vA b=>Nat.beq a b
 | .Mj a b,.Mj c d=>Nat.beq a c&&Nat.beq b d
 | .app a b,.app a' b'=>Nat.beq a a'&&Nat.beq b b'
 | .kW,.kW=>true
 | .wN a b r,.wN a' b' r'=>Nat.beq a a'&&Nat.beq b b'&&bs r r' (not r')
 | .fT e a b r,.fT e' a' b' r'=>Nat.beq e e'&&Nat.beq a a'&&Nat.beq b b'&&bs r r' (not r')
 | .fk a,.fk b=>Nat.beq a b
 | .gR a b,.gR a' b'=>Nat.beq a a'&&Nat.beq b b'
 | .strOf,.strOf=>true
 | .mx,.mx=>true
 | .Bs,.Bs=>true
 | .DR,.DR=>true
 | .mn,.mn=>true
 | .FX a,.FX b=>Nat.beq a b
 | .qn a,.qn b=>Nat.beq a b
 | .uc a b,.uc a' b'=>Nat.beq a a'&&Nat.beq b b'
 | .Ev a,.Ev b=>Nat.beq a b
 |_,_=>false
theorem y8{a b:NK}(h:uf a b=true):a=b:=by
 unfold uf at h;split at h<;>(try simp only [xf] at h)
 ·rw[ba2 (xb h.1),xb h.2]
 ·rename_i k n k' n';rw[VZ _ _ h.1];have:n=n':=by have:=h.2;cases n<;>cases n'<;>first|rfl|cases this
  rw[this]
 ·rw[aT2 (xb h)]
 ·rw[qH h]
 ·rfl
 ·rfl
 ·rfl
 ·rfl
 ·rfl
 ·rw[xb h]
 ·rw[xb h]
 ·rw[xb h.1,xb h.2]
 ·rw[xb h]
 ·rfl
 ·rw[xb h]
 ·rfl
 ·rw[xb h]
 ·rw[xb h]
 ·rw[xb h]
 ·rw[xb h.1,xb h.2]
 ·rw[xb h]
 ·rw[xb h.1,xb h.2]
 ·rw[xb h.1,xb h.2]
 ·rfl
 ·rw[xb h.1.1,xb h.1.2,XO h.2]
 ·rw[xb h.1.1.1,xb h.1.1.2,xb h.1.2,XO h.2]
 ·rw[xb h]
 ·rw[xb h.1,xb h.2]
 ·rfl
 ·rfl
 ·rfl
 ·rfl
 ·rfl
 ·rw[xb h]
 ·rw[xb h]
 ·rw[xb h.1,xb h.2]
 ·rw[xb h]
 ·cases h
def CR(E:aq)(t:xN):Nat:=
 match E.ti.get none t with
 |some ⟨.bool,_,_,_,_⟩=>1
 |some ⟨.pointer _,_,_,_,_⟩=>2
 |some ⟨.string,_,_,_,_⟩=>3
 |_=>0
def jn(E:aq)(t:xN):Option Nat:=match E.ti.get none t with|some r=>some r.size|none=>none
def sV(E:aq)(g:Gt)(x:Option Operand):xM:=match x with|some x=>ev E g x|none=> .int .i64 (.ofNat 0)
def uJ(E:aq)(g:Gt)(x:Option Operand):List xM:=match x with|some x=>[ev E g x]|none=>[]
def keyOf(E:aq)(sq:List (Nat×List xO))(g:Gt)(op:Op):Option (NK×List xM):=
 match op with
 | .binOp CU t x y _=>match rP sq t with
  |some ks=>match CU with
   | .eql=>some (.FR ks false,[ev E g x,ev E g y])
   | .neq=>some (.FR ks true,[ev E g x,ev E g y])
   |_=>none
  |none=>some (.bin CU (CR E t),[ev E g x,ev E g y])
 | .unOp MC _ x=>some (.un MC,[ev E g x])
 | .convert s d x=>match E.ti.get none s,E.ti.get none d with
  |some _,some ⟨.int k,_,_,_,_⟩=>some (.nD k,[ev E g x])
  |some _,some ⟨.string,_,_,_,_⟩=>some (.FV,[ev E g x])
  |_,_=>none
 | .call ⟨.builtin .len,⟨[x]⟩,⟨[t]⟩⟩=>match E.ti.get none t with
  |some ⟨.string,_,_,_,_⟩=>some (.ml,[ev E g x])
  |some ⟨.slice _,_,_,_,_⟩=>some (.nT,[ev E g x])
  |_=>none
 | .call ⟨.builtin .max,⟨l⟩,_⟩=>some (.mx,ew (ev E g) l)
 | .call ⟨.builtin .min,⟨l⟩,_⟩=>some (.mn,ew (ev E g) l)
 | .index t x i=>match E.ti.get none t with
  |some ⟨.string,_,_,_,_⟩=>some (.B9,[ev E g x,ev E g i])
  |_=>none
 | .slice t x lo hi none=>match E.ti.get none t with
  |some ⟨.string,_,_,_,_⟩=>some (.x4,ev E g x::sV E g lo::uJ E g hi)
  |some ⟨.slice e,_,_,_,_⟩=>match jn E e with|some n=>some (.iF n,ev E g x::sV E g lo::uJ E g hi)|none=>none
  |_=>none
 | .indexAddr t x i=>match E.ti.get none t with
  |some ⟨.slice e,_,_,_,_⟩=>match jn E e with|some n=>some (.nV n,[ev E g x,ev E g i])|none=>none
  |some ⟨.array len e,_,_,_,_⟩=>match jn E e with|some n=>some (.L5 len n,[ev E g x,ev E g i])|none=>none
  |_=>none
 | .fieldAddr t x f=>match E.ti.get none t with
  |some ⟨.struct ⟨fs⟩,_,_,_,_⟩=>match dB fs f with
   |some fd=>match E.ti.get none fd.type with
    |some r=>bs (Nat.beq r.size 0) none (some (.Ib fd.offset,[ev E g x]))
    |none=>none
   |none=>none
  |_=>none
 | .load t x=>match E.ti.get none t with
  |some r=>bs (m5 r.desc) (some (.jN r.size,[ev E g x])) (some (.ld,[ev E g x]))
  |none=>none
 | .nilCheck x=>some (.Ha,[ev E g x])
 |_=>none
def zl(E:aq)(sq:List (Nat×List xO))(g:Gt)(op:Op)(nd:Node):Option xM:=
 match keyOf E sq g op with
 |some (k,args)=>bs (uf k nd.k) (bs (Ez args nd.args) (some nd.res) none) none
 |none=>none
theorem aK2{E:aq}{sq:List (Nat×List xO)}{g:Gt}{op:Op}{nd:Node}{v:xM}(h:zl E sq g op nd=some v):v=nd.res∧keyOf E sq g op=some (nd.k,nd.args):=by
 unfold zl at h;split at h
 ·rename_i k args hk;rcases au h with⟨h1,h⟩|⟨_,h⟩
  ·rcases au h with⟨h2,h⟩|⟨_,h⟩
   ·cases h;rw[←y8 h1,←JL _ _ h2];exact⟨rfl,hk⟩
   ·cases h
  ·cases h
 ·cases h
def kj(z:Nat→Option (Array xM))(b o:Nat):af:=⟨fun _=>some ⟨b,o,0,0⟩,z,fun _=>none,⟨fun _=>False,z⟩,fun _=>none⟩
theorem aW0{β:af}{z:Nat→Option (Array xM)}{x:Option xM}{d:D}{v v':xM}(h:ofInt x=some d)(hx:x=some v)(hv:ai β v v'):Rd z d v':=by
 subst hx;unfold ofInt at h;split at h
 ·rename_i e;cases e;cases h;cases hv;exact .int _ _
 ·rename_i e;cases e;cases h;cases hv;exact .bool _
 ·cases h
section
variable{P:Program}{E:aq}(ok:E.Ok P){sq:List (Nat×List xO)}(ba:E.Seq P sq){z:Nat→Option (Array xM)}
include ok ba in
theorem bB7{op:BinOp}{t:xN}{x y d:D}{x' y':xM}(h:Kv op (CR E t) x y=some d)(hx:Rd z x x')(hy:Rd z y y')(p q:Operand)(w:World):
 ∃v',(do eqGuard op t p q x' y';binOp op t x' y':Sem xM).run P w= .ok v' w∧Rd z d v':=by
 have bT9:CR E t=1→∃a b c e,E.ti.get none t=some ⟨.bool,a,b,c,e⟩:=fun h=>by
  unfold CR at h;split at h
  ·rename_i h2;exact⟨_,_,_,_,h2⟩
  ·cases h
  ·cases h
  ·cases h
 have ZW:CR E t=2→∃u a b c e,E.ti.get none t=some ⟨.pointer u,a,b,c,e⟩:=fun h=>by
  unfold CR at h;split at h
  ·cases h
  ·rename_i h2;exact⟨_,_,_,_,_,h2⟩
  ·cases h
  ·cases h
 unfold Kv at h;split at h
 ·rename_i k a k' b;cases hx;cases hy;cases hi:Ca op k a k' b with
  |none=>rw[hi] at h;cases h
  |some v=>
   have hb:fm E sq op t (.int k a) (.int k' b)=some v:=hi;obtain⟨v',h1,h2⟩:=rM ok ba (β:=kj z 0 0) hb (.int k a) (.int k' b) p q w;exact⟨v',h1,aW0 h hi h2⟩
 ·split at h
  ·rename_i a b hc;cases hx;cases hy;obtain⟨_,_,_,_,hr⟩:=bT9 hc;unfold Ag at h;split at h<;>cases h
   ·have hb:fm E sq .eql t (.bool a) (.bool b)=some (.bool (bs a b (not b))):=by simp only [fm,tg,hr];rfl
    obtain⟨v',h1,h2⟩:=rM ok ba (β:=kj z 0 0) hb (.bool a) (.bool b) p q w;cases h2;exact⟨_,h1,by cases a<;>cases b<;>exact .bool _⟩
   ·have hb:fm E sq .neq t (.bool a) (.bool b)=some (.bool (not (bs a b (not b)))):=by simp only [fm,tg,hr];rfl
    obtain⟨v',h1,h2⟩:=rM ok ba (β:=kj z 0 0) hb (.bool a) (.bool b) p q w;cases h2;exact⟨_,h1,by cases a<;>cases b<;>exact .bool _⟩
  ·cases h
 ·rename_i a b;cases hx;cases hy;split at h
  ·split at h<;>cases h
   rename_i aK;have hb:fm E sq .add t (.string ⟨⟨a⟩⟩) (.string ⟨⟨b⟩⟩)=some (.string ⟨⟨aa a b⟩⟩):=by
    simp only [fm];rw[dA,dA,show Nat.ble (Nat.add a.length b.length) 9223372036854775807=true from Nat.ble_eq_true_of_le aK,eg]
   obtain⟨v',h1,h2⟩:=rM ok ba (β:=kj z 0 0) hb (.string _) (.string _) p q w;rw[jm] at h2;cases h2;exact⟨_,h1,.str _⟩
  ·unfold Ag at h;split at h<;>cases h
   ·have hb:fm E sq .eql t (.string ⟨⟨a⟩⟩) (.string ⟨⟨b⟩⟩)=some (.bool (vE a b)):=rfl;obtain⟨v',h1,h2⟩:=rM ok ba (β:=kj z 0 0) hb (.string _) (.string _) p q w;rw[zb] at h2;cases h2;exact⟨_,h1,.bool _⟩
   ·have hb:fm E sq .neq t (.string ⟨⟨a⟩⟩) (.string ⟨⟨b⟩⟩)=some (.bool (not (vE a b))):=rfl;obtain⟨v',h1,h2⟩:=rM ok ba (β:=kj z 0 0) hb (.string _) (.string _) p q w;rw[zb] at h2;cases h2;exact⟨_,h1,.bool _⟩
 ·split at h
  ·rename_i row o hc;cases hy;obtain⟨_,_,_,_,_,hr⟩:=ZW hc;cases hx with
   |ptr _ _ b o0 cells hz hs hh=>
    have hv:ai (kj z b (o0+o)) (.pointer (some ⟨0,0,none⟩)) (.pointer (some ⟨b,o0+o,none⟩)):= .ptr (β:=kj z b (o0+o)) 0 0 ⟨b,o0+o,0,0⟩ rfl;unfold Ag at h;split at h<;>cases h
    ·have hb:fm E sq .eql t (.pointer (some ⟨0,0,none⟩)) (.pointer none)=some (.bool false):=by simp only [fm,tg,hr];rfl
     obtain⟨v',h1,h2⟩:=rM ok ba hb hv .qm p q w;cases h2;exact⟨_,h1,.bool _⟩
    ·have hb:fm E sq .neq t (.pointer (some ⟨0,0,none⟩)) (.pointer none)=some (.bool true):=by simp only [fm,tg,hr];rfl
     obtain⟨v',h1,h2⟩:=rM ok ba hb hv .qm p q w;cases h2;exact⟨_,h1,.bool _⟩
  ·cases h
 ·split at h
  ·rename_i hc;cases hx;cases hy;obtain⟨_,_,_,_,_,hr⟩:=ZW hc;unfold Ag at h;split at h<;>cases h
   ·have hb:fm E sq .eql t (.pointer none) (.pointer none)=some (.bool true):=by simp only [fm,tg,hr];rfl
    obtain⟨v',h1,h2⟩:=rM ok ba (β:=kj z 0 0) hb .qm .qm p q w;cases h2;exact⟨_,h1,.bool _⟩
   ·have hb:fm E sq .neq t (.pointer none) (.pointer none)=some (.bool false):=by simp only [fm,tg,hr];rfl
    obtain⟨v',h1,h2⟩:=rM ok ba (β:=kj z 0 0) hb .qm .qm p q w;cases h2;exact⟨_,h1,.bool _⟩
  ·cases h
 ·cases h
include ok ba in
theorem XI{t:xN}{ks:List xO}{neg:Bool}{a b:List D}{r:Bool}{x' y':xM}(hk:rP sq t=some ks)(h:GX ks a b=some r)(hx:Rd z (.agg a) x')(hy:Rd z (.agg b) y')(p q:Operand)(w:World):
 (do eqGuard (if neg then .neq else .eql) t p q x' y';binOp (if neg then .neq else .eql) t x' y':Sem xM).run P w= .ok (.bool (r !=neg)) w:=by
 have key:∀(ks:List xO) (a b:List D) (r:Bool),GX ks a b=some r→∀(va vb:List xM),a.length=va.length→b.length=vb.length→(∀(i:Nat) (d:D) (v:xM),a[i]? =some d→va[i]? =some v→Rd z d v)→(∀(i:Nat) (d:D) (v:xM),b[i]? =some d→vb[i]? =some v→Rd z d v)→
  gW ks va vb=some r∧aP (kj z 0 0) va va∧aP (kj z 0 0) vb vb:=by
  intro ks
  induction ks with
  |nil=>
   intro a b r h va vb h1 h2 _ _
   match a,b,h with
   |[],[],h=>
    obtain rfl:va=[]:=xA h1.symm;obtain rfl:vb=[]:=xA h2.symm;cases h;exact⟨rfl,aP.nil _,aP.nil _⟩
  |cons k ks ih=>
   intro a b r h va vb h1 h2 h3 h4
   match a,b,h with
   | .int k1 m::a,.int k2 n::b,h=>
    have h':(if k1=k∧k2=k then(GX ks a b).map fun r=>decide (m=n)&&r else none)=some r:=h;split at h'
    ·rename_i jy;obtain⟨r0,iJ,rfl⟩:=xp.1 h'
     match va,vb,h1,h2,h3,h4 with
     |x::va,y::vb,h1,h2,h3,h4=>
      have hx:=h3 0 _ _ rfl rfl;have hy:=h4 0 _ _ rfl rfl;cases hx;cases hy;obtain⟨i1,i2,i3⟩:=ih a b r0 iJ va vb (by simpa using h1) (by simpa using h2) (fun i d v e1 e2=>h3 (i+1) d v (by simpa using e1) (by simpa using e2)) (fun i d v e1 e2=>h4 (i+1) d v (by simpa using e1) (by simpa using e2));refine⟨?_,i2.cons (.int _ _),i3.cons (.int _ _)⟩;show nS k (gW ks) (Value.int k1 m::va) (Value.int k2 n::vb)=_;unfold nS;have e1:dE k1 k=true:=by rw[jy.1];cases k<;>rfl
      have e2:dE k2 k=true:=by rw[jy.2];cases k<;>rfl
      simp only [e1,e2,Bool.and_self,eg,i1];rw[pu];cases decide (m=n)<;>rfl
    ·cases h'
 cases hx with
 |agg _ va II h1=>
  cases hy with
  |agg _ vb il h2=>
   obtain⟨e1,e2,e3⟩:=key ks a b r h va vb II il h1 h2;have hb:fm E sq (if neg then .neq else .eql) t (.agg ⟨va⟩) (.agg ⟨vb⟩)=some (.bool (r !=neg)):=by
    cases neg
    ·simp only [fm,tg,hk,e1,Option.map_some];cases r<;>rfl
    ·simp only [fm,tg,hk,e1,Option.map_some];cases r<;>rfl
   obtain⟨v',h3,h4⟩:=rM ok ba (β:=kj z 0 0) hb (ai.tL e2) (ai.tL e3) p q w;cases h4;exact h3
theorem bC7{op:UnOp}{x d:D}{x':xM}(h:Lv op x=some d)(hx:Rd z x x')(w:World):∃v',(Op.unary op x').run P w= .ok v' w∧Rd z d v':=by
 unfold Lv at h;split at h
 ·rename_i k n;cases h;cases hx;obtain⟨v',h1,h2⟩:=KC (β:=kj z 0 0) (show Co .neg (.int k n)=some _ from rfl) (.int _ _) P w;cases h2;refine⟨_,h1,?_⟩;rw[mX];exact .int _ _
 ·rename_i k n;split at h
  ·cases h
  ·rename_i hs;have hs:k.signed=false:=by simpa using hs
   obtain⟨r,hr,rfl⟩:=xp.1 h;cases hx;obtain⟨v',h1,h2⟩:=KC (β:=kj z 0 0) (show Co .xor (.int k n)=some (.int k r) by show bs k.signed none (Option.map (Value.int k) (nW BinOp.xor k (Int.ofNat ((mk k).sub 1)) n))=_;rw[hs,hr];rfl) (.int _ _) P w;cases h2;exact⟨_,h1,.int _ _⟩
 ·cases h;cases hx;obtain⟨v',h1,h2⟩:=KC (β:=kj z 0 0) (show Co .not (.bool _)=some _ from rfl) (.bool _) P w;cases h2;exact⟨_,h1,.bool _⟩
 ·cases h
include ok in
theorem bf4{t:xN}{a1 a2 a3 a4}{x i d:D}{x' i':xM}(hr:E.ti.get none t=some ⟨.string,a1,a2,a3,a4⟩)(h:J2 x i=some d)(hx:Rd z x x')(hi:Rd z i i')(w:World):∃v',(Instr.index t x' i').run P w= .ok v' w∧Rd z d v':=by
 unfold J2 at h;split at h
 ·rename_i l k m;obtain⟨b,hb,rfl⟩:=xp.1 h;cases hx;cases hi;have hv:DF E t (.string ⟨⟨l⟩⟩) (.int k (.ofNat m))=some (.int .u8 (.ofNat b.toNat)):=by simp only [DF,hr,eM,hb]
  obtain⟨v',h1,h2⟩:=Dd (β:=kj z 0 0) ok hv (.string _) (.int _ _) w;cases h2;exact⟨_,h1,.int _ _⟩
 ·cases h
def wK(z:Nat→Option (Array xM))(w:World):Prop:=∀b cs,z b=some cs→∃e fz,w.heap[b]? =some (.cells cs e fz)
include ok in
theorem bQ8{t:xN}{r:Row}{x d:D}{x':xM}{w:World}(aQ:wK z w)(hr:E.ti.get none t=some r)(hd:m5 r.desc=false)(h:Lw x=some d)(hx:Rd z x x'):∃v',(Instr.loadAt t x').run P w= .ok v' w∧Rd z d v':=by
 unfold Lw at h;split at h
 ·rename_i row o;obtain⟨d2,h1,h⟩:=xr.1 h;split at h<;>cases h
  cases hx with
  |ptr _ _ b o0 cells hz hs hh=>
   obtain⟨e,fz,hb⟩:=aQ b cells hz;have bg:=(xe.1 h1).1;have SB:o0+o<cells.size:=by omega
   refine⟨cells[o0+o],?_,hh o _ _ h1 (by simp[SB])⟩;have gh:w.cell? ⟨b,o0+o,none⟩=some cells[o0+o]:=by rw[cell_of_row w b _ cells e fz hb];simp[SB]
   simp[Instr.loadAt,Instr.sureAddr,loadVar,F7 ok hr,hd,load,Sem.run,gh]
 ·cases h
include ok in
theorem bo7{t:xN}{r:Row}{x d:D}{x':xM}{w:World}(aQ:wK z w)(hr:E.ti.get none t=some r)(hd:m5 r.desc=true)(h:Ku r.size x=some d)(hx:Rd z x x'):∃v',(Instr.loadAt t x').run P w= .ok v' w∧Rd z d v':=by
 unfold Ku at h;split at h
 ·rename_i row o;split at h<;>cases h
  rename_i aK;cases hx with
  |ptr _ _ b o0 cells hz hs hh=>
   obtain⟨e,fz,hb⟩:=aQ b cells hz;have rc:∀j,j<r.size→((cells.toList.drop (o0+o)).take r.size)[j]? =cells[o0+o+j]? :=fun j hj=>by
    rw[List.getElem?_take,if_pos hj,List.getElem?_drop];simp
   have aC:((cells.toList.drop (o0+o)).take r.size).length=r.size:=by simp;omega
   refine⟨.agg ⟨(cells.toList.drop (o0+o)).take r.size⟩,?_,?_⟩
   ·have bG:(loadCells ⟨b,o0+o,none⟩ r.size).run P w= .ok ((cells.toList.drop (o0+o)).take r.size).toArray w:=by
     have:=run_loadCells_list (P:=P) w ⟨b,o0+o,none⟩ ((cells.toList.drop (o0+o)).take r.size) (fun j u hu=>by
      rw[Addr.add_mid];have hj:j<r.size:=by have:=(xe.1 hu).1;omega
      rw[rc j hj] at hu;rw[cell_of_row w b _ cells e fz hb];exact hu)
     rw[aC] at this;exact this
    simp[Instr.loadAt,Instr.sureAddr,loadVar,F7 ok hr,hd,dC ok hr,bG]
   ·refine .agg _ _ (by rw[aC];simp;omega) fun i d v h1 h2=> ?_
    rw[List.getElem?_take,List.getElem?_drop] at h1;split at h1
    ·rename_i hi;rw[rc i hi] at h2;rw[Nat.add_assoc] at h2;exact hh _ _ _ h1 h2
    ·cases h1
 ·cases h
include ok in
theorem bg2{t:xN}{fs:List Field}{a1 a2 a3 a4}{f:Nat}{fd:Field}{r:Row}{row:List D}{o:Nat}{x':xM}(hr:E.ti.get none t=some ⟨.struct ⟨fs⟩,a1,a2,a3,a4⟩)(hf:fs[f]? =some fd)(bK:E.ti.get none fd.type=some r)(hz:Nat.beq r.size 0=false)
 (hx:Rd z (.ptr row o) x') (w:World):∃v',(Instr.fieldAt t x' f).run P w= .ok v' w∧Rd z (.ptr row (o+fd.offset)) v':=by
 rw[na] at hz;have Cu: ¬r.size=0:=by simpa using hz
 cases hx with
 |ptr _ _ b o0 cells yz hs hh=>
  refine⟨.pointer (some ⟨b,o0+(o+fd.offset),none⟩),?_,.ptr row (o+fd.offset) b o0 cells yz hs hh⟩;have hu:=(ok.ti t _ hr).1;simp[Instr.fieldAt,run_underlying hu,hf,Instr.sureAddr,fieldPlace,dC ok bK,Cu,Addr.add_lit,Nat.add_assoc]
include ok in
theorem bf6{t e:xN}{a1 a2 a3 a4}{n:Nat}{x i d:D}{x' i':xM}(hr:E.ti.get none t=some ⟨.slice e,a1,a2,a3,a4⟩)(hs:jn E e=some n)(h:J4 n x i=some d)(hx:Rd z x x')(hi:Rd z i i')(w:World):∃v',(Instr.indexAt t x' i').run P w= .ok v' w∧Rd z d v':=by
 unfold jn at hs;split at hs<;>cases hs
 rename_i r bK;unfold J4 at h;split at h
 ·rename_i rows k m;obtain⟨row,h1,h⟩:=xr.1 h;split at h<;>cases h
  rename_i ru;have bg:=(xe.1 h1).1;cases hi;cases hx with
  |sT=>simp at bg
  |n8=>simp at bg
  |sl _ es b o c cells hz bA cz hc hs hh=>
   have cP2:es=r.size:=by rw[←cz row (xu h1),ru]
   subst cP2;have hu:=(ok.ti t _ hr).1;refine⟨.pointer (some ⟨b,o+m*r.size+0,none⟩),?_,.ptr row 0 b (o+m*r.size) cells hz ?_ fun j d v e1 e2=>hh m row j d v h1 e1 (by rw[←Nat.add_assoc];exact e2)⟩
   ·simp[Instr.indexAt,asIntOf,run_underlying hu,dC ok bK,Addr.add_lit,Nat.add_assoc,bg]
   ·rw[ru];have:(m+1)*r.size≤c*r.size:=xD _ (by omega);rw[Nat.add_mul] at this;omega
 ·cases h
include ok in
theorem bf5{t e:xN}{a1 a2 a3 a4}{len n:Nat}{x i d:D}{x' i':xM}(hr:E.ti.get none t=some ⟨.array len e,a1,a2,a3,a4⟩)(hs:jn E e=some n)(h:J3 len n x i=some d)(hx:Rd z x x')(hi:Rd z i i')(w:World):∃v',(Instr.indexAt t x' i').run P w= .ok v' w∧Rd z d v':=by
 unfold jn at hs;split at hs<;>cases hs
 rename_i r bK;unfold J3 at h;split at h
 ·rename_i row o k m;split at h<;>cases h
  rename_i bg;cases hi;cases hx with
  |ptr _ _ b o0 cells hz hs hh=>
   have hu:=(ok.ti t _ hr).1;refine⟨.pointer (some ⟨b,o0+(o+m*r.size),none⟩),?_,.ptr row (o+m*r.size) b o0 cells hz hs hh⟩;have h0:(0:Int)≤(m:Int)∧(m:Int)<(len:Int):=⟨by omega,by omega⟩;simp[Instr.indexAt,asIntOf,run_underlying hu,Instr.sureAddr,dC ok bK,Addr.add_lit,Nat.add_assoc,bg]
 ·cases h
include ok in
theorem bz9{s d:xN}{r:Row}{k j:xO}{n:Int}{a1 a2 a3 a4}(hs:E.ti.get none s=some r)(hd:E.ti.get none d=some ⟨.int k,a1,a2,a3,a4⟩)(w:World):(convert s d (.int j n)).run P w= .ok (.int k (k.wrap n)) w:=by
 have hv:BQ E s d (.int j n)=some (.int k (iM k n)):=by simp only [BQ,hs,hd]
 obtain⟨v',h1,h2⟩:=PB (β:=kj (fun _=>none) 0 0) ok hv (.int _ _) w;cases h2;rw[←mX];exact h1
include ok in
theorem bz8{s d:xN}{r:Row}{l:List UInt8}{a1 a2 a3 a4}(hs:E.ti.get none s=some r)(hd:E.ti.get none d=some ⟨.string,a1,a2,a3,a4⟩)(w:World):(convert s d (.string ⟨⟨l⟩⟩)).run P w= .ok (.string ⟨⟨l⟩⟩) w:=by
 have hv:BQ E s d (.string ⟨⟨l⟩⟩)=some (.string ⟨⟨l⟩⟩):=by simp only [BQ,hs,hd]
 obtain⟨v',h1,h2⟩:=PB (β:=kj (fun _=>none) 0 0) ok hv (.string _) w;cases h2;exact h1
include ok in
theorem be6{t ty:xN}{l:List UInt8}{a1 a2 a3 a4}(hr:E.ti.get none t=some ⟨.string,a1,a2,a3,a4⟩)(w:World):(Builtin.len_ #[t] ty #[.string ⟨⟨l⟩⟩]).run P w= .ok (.int .i64 l.length) w:=by
 have hu:=(ok.ti t _ hr).1;simp[Builtin.len_,run_underlying hu,goInt];rfl
include ok in
theorem be7{t ty e:xN}{rows:List (List D)}{x':xM}{a1 a2 a3 a4}(hr:E.ti.get none t=some ⟨.slice e,a1,a2,a3,a4⟩)(hx:Rd z (.sl rows) x')(w:World):(Builtin.len_ #[t] ty #[x']).run P w= .ok (.int .i64 rows.length) w:=by
 have hu:=(ok.ti t _ hr).1;cases hx<;>simp[Builtin.len_,run_underlying hu,goInt]
theorem Ip{len cap a b:Nat}{k:xO}{lo' hi':Option xM}{hb:Option Nat}(IU:a≤b)(FJ:b≤len)(cR:len≤cap)(eW:hb.getD len=b)(ij:lo'=some (.int k (.ofNat a))∨(lo'=none∧a=0))(im:(hb=none∧hi'=none)∨∃k',hb=some b∧hi'=some (.int k' (.ofNat b)))(s:Bool)(w:World):
 ∃m',(Instr.sliceBounds s len cap lo' hi' none).run P w= .ok (a,b,m') w∧len≤m'∧m'≤cap:=by
 have hB:u7 len len lo' hi' none=some (a,b,len):=by
  unfold u7;have e1:uT hi' len len=some b:=by
   rcases im with⟨h1,rfl⟩|⟨k',h1,rfl⟩
   ·rw[h1] at eW;exact congrArg some eW
   ·show bs (Nat.ble b len) (some b) none=some b;rw[Nat.ble_eq_true_of_le FJ];rfl
  have e2:uT lo' 0 b=some a:=by
   rcases ij with rfl|⟨rfl,rfl⟩
   ·show bs (Nat.ble a b) (some a) none=some a;rw[Nat.ble_eq_true_of_le IU];rfl
   ·rfl
  show(match uT hi' len len with|none=>none|some h=>match uT lo' 0 h with|none=>none|some l=>some (l,h,len))=_;rw[e1];show(match uT lo' 0 b with|none=>none|some l=>some (l,b,len))=_;rw[e2]
 have rl:nh (kj (fun _=>none) 0 0) lo' lo':=by rcases ij with rfl|⟨rfl,_⟩;exact .int _ _;trivial
 have rh:nh (kj (fun _=>none) 0 0) hi' hi':=by rcases im with⟨_,rfl⟩|⟨_,_,rfl⟩;trivial;exact .int _ _
 obtain⟨⟨m',h1,h2,h3,_⟩,_⟩:=tw (P:=P) hB rl rh (show nh (kj (fun _=>none) 0 0) none none from trivial) (xk _) cR (fun h=>by cases h) s w;exact⟨m',h1,h2,h3⟩
include ok in
theorem Xk{t e:xN}{a1 a2 a3 a4}{n:Nat}{x d:D}{x':xM}{a b:Nat}{hb:Option Nat}{k:xO}{lo' hi':Option xM}(hr:E.ti.get none t=some ⟨.slice e,a1,a2,a3,a4⟩)(hs:jn E e=some n)(h:Bn n x (some a) hb=some d)(hx:Rd z x x')
 (ij:lo'=some (.int k (.ofNat a))∨(lo'=none∧a=0)) (im:(hb=none∧hi'=none)∨∃k',hb=some b∧hi'=some (.int k' (.ofNat b))) (w:World):∃v',(Instr.sliceAt t x' lo' hi' none).run P w= .ok v' w∧Rd z d v':=by
 unfold jn at hs;split at hs<;>cases hs
 rename_i r bK;have hu:=(ok.ti t _ hr).1;unfold Bn at h;split at h
 ·rename_i rows a0 e0;cases e0;split at h<;>cases h
  rename_i aK;have Cc:(hb=none∧hi'=none)∨∃k',hb=some (hb.getD rows.length)∧hi'=some (.int k' (.ofNat (hb.getD rows.length))):=by
   rcases im with h|⟨k',rfl,h⟩
   ·exact .inl h
   ·exact .inr ⟨k',rfl,h⟩
  generalize IM:hb.getD rows.length=b2 at*;cases hx with
  |sT=>
   obtain rfl:b2=0:=by simpa using aK.2.1
   obtain rfl:a=0:=by omega
   obtain⟨m',aJ,_,hm⟩:=Ip (P:=P) (len:=0) (cap:=0) (a:=0) (b:=0) (xk _) (xk _) (xk _) IM ij Cc true w;obtain rfl:m'=0:=by omega
   exact⟨.slice none 0 0,by simp[Instr.sliceAt,run_underlying hu,Instr.slice,aJ,dC ok bK],.sT⟩
  |n8 ad c=>
   obtain rfl:b2=0:=by simpa using aK.2.1
   obtain rfl:a=0:=by omega
   obtain⟨m',aJ,_,hm⟩:=Ip (P:=P) (len:=0) (cap:=c) (a:=0) (b:=0) (xk _) (xk _) (xL _) IM ij Cc true w;exact⟨.slice (some ad) 0 m',by simp[Instr.sliceAt,run_underlying hu,Instr.slice,aJ,dC ok bK,Addr.add],.n8 _ _⟩
  |sl _ es bb o c cells hz bA cz hc aT hh=>
   obtain⟨m',aJ,rB,eV⟩:=Ip (P:=P) (len:=rows.length) (cap:=c) (a:=a) (b:=b2) aK.1 aK.2.1 hc IM ij Cc true w;have aC:((rows.drop a).take (b2 - a)).length=b2 - a:=by rw[xz,List.length_drop];omega
   have ez:∀cap',b2 - a≤cap'→o+a*es+cap'*es≤cells.size→Rd z (.sl ((rows.drop a).take (b2 - a))) (.slice (some ⟨bb,o+a*es,none⟩) (b2 - a) cap'):=fun cap' h1 h2=>by
    by_cases he:(rows.drop a).take (b2 - a)=[]
    ·rw[he] at aC⊢;rw[←aC];exact .n8 _ _
    ·have:=Rd.sl (z:=z) ((rows.drop a).take (b2 - a)) es bb (o+a*es) cap' cells hz he (fun row fI=>cz row (List.mem_of_mem_drop (List.mem_of_mem_take fI))) (by rw[aC];exact h1) h2 (fun i row j d v e1 e2 e3=>by
      rw[List.getElem?_take] at e1;split at e1
      ·rw[List.getElem?_drop] at e1;refine hh (a+i) row j d v e1 e2 ?_;rw[←e3,Nat.add_mul]
       congr 1
       omega
      ·cases e1)
     rw[aC] at this;exact this
   have rf:∀m,m≤c→a≤m→o+a*es+(m - a)*es≤cells.size:=fun m h1 h2=>by
    have h3:a*es+(m - a)*es=m*es:=by rw[←Nat.add_mul];congr 1;omega
    have h4:m*es≤c*es:=xD _ h1;omega
   by_cases ha0:a=0
   ·subst ha0;have:=ez m' (by omega) (by have:=rf m' eV (xL _);simpa using this);simp only [Nat.zero_mul,Nat.add_zero,Nat.sub_zero] at this;exact⟨.slice (some ⟨bb,o,none⟩) b2 m',by simp[Instr.sliceAt,run_underlying hu,Instr.slice,aJ,dC ok bK,Addr.add],this⟩
   ·by_cases ham:m'=a
    ·have hba:b2=a:=by omega
     subst hba;subst ham;have he:(rows.drop m').take (m' - m')=[]:=by simp
     refine⟨.slice (some ⟨bb,o,none⟩) 0 0,by simp[Instr.sliceAt,run_underlying hu,Instr.slice,aJ,dC ok bK],?_⟩;rw[he];exact .n8 _ _
    ·have sK:es=r.size:=by
      have hf:=aK.2.2.resolve_left ha0;unfold Ge at hf;split at hf
      ·exact absurd rfl bA
      ·rw[←cz _ xn];exact of_decide_eq_true hf
     subst sK;exact⟨.slice (some ⟨bb,o+a*r.size,none⟩) (b2 - a) (m' - a),by simp[Instr.sliceAt,run_underlying hu,Instr.slice,aJ,dC ok bK,Addr.add_lit,ham],ez _ (by omega) (rf m' eV (by omega))⟩
 ·cases h
include ok in
theorem bc6{t:xN}{a1 a2 a3 a4}{x d:D}{x':xM}{a b:Nat}{hb:Option Nat}{k:xO}{lo' hi':Option xM}(hr:E.ti.get none t=some ⟨.string,a1,a2,a3,a4⟩)(h:Gr x (some a) hb=some d)(hx:Rd z x x')
 (ij:lo'=some (.int k (.ofNat a))∨(lo'=none∧a=0)) (im:(hb=none∧hi'=none)∨∃k',hb=some b∧hi'=some (.int k' (.ofNat b))) (w:World):∃v',(Instr.sliceAt t x' lo' hi' none).run P w= .ok v' w∧Rd z d v':=by
 have hu:=(ok.ti t _ hr).1;unfold Gr at h;split at h
 ·rename_i l a0 e0;cases e0;split at h<;>cases h
  rename_i aK;have Cc:(hb=none∧hi'=none)∨∃k',hb=some (hb.getD l.length)∧hi'=some (.int k' (.ofNat (hb.getD l.length))):=by
   rcases im with h|⟨k',rfl,h⟩
   ·exact .inl h
   ·exact .inr ⟨k',rfl,h⟩
  generalize IM:hb.getD l.length=b2 at*;cases hx;obtain⟨m',aJ,_⟩:=Ip (P:=P) (len:=l.length) (cap:=l.length) (a:=a) (b:=b2) aK.1 aK.2 (xk _) IM ij Cc false w;refine⟨_,?_,.str _⟩;have aT:(⟨⟨l⟩⟩:ByteArray).size=l.length:=rfl;simp[Instr.sliceAt,run_underlying hu,Instr.slice,aT,aJ,UK]
 ·cases h
end
theorem jB{g:xM→Option D}{x:xM}{l:List xM}{ds:List D}(h:aX g (x::l)=some ds):∃d r,ds=d::r∧g x=some d∧aX g l=some r:=by
 unfold aX at h;split at h
 ·rename_i d r h1 h2;cases h;exact⟨d,r,rfl,h1,h2⟩
 ·cases h
theorem V6{g:xM→Option D}{ds:List D}(h:aX g []=some ds):ds=[]:=by cases h;rfl
theorem nF{g:xM→Option D}{x:xM}{ds:List D}(h:aX g [x]=some ds):∃d,ds=[d]∧g x=some d:=by
 obtain⟨d,r,rfl,h1,h2⟩:=jB h;rw[V6 h2];exact⟨d,rfl,h1⟩
theorem om{g:xM→Option D}{x y:xM}{ds:List D}(h:aX g [x,y]=some ds):∃d e,ds=[d,e]∧g x=some d∧g y=some e:=by
 obtain⟨d,r,rfl,h1,h2⟩:=jB h;obtain⟨e,rfl,h3⟩:=nF h2;exact⟨d,e,rfl,h1,h3⟩
theorem Vs{d:D}{a:Nat}(h:ug d=some a):∃k,d= .int k (.ofNat a):=by
 unfold ug at h;split at h
 ·cases h;exact⟨_,rfl⟩
 ·cases h
theorem PD{E:aq}{β:af}{yM:Act}{g:Gt}(E1:∀x d,cb β.d (ev E g x)=some d→Rd β.z d (yM.eval x)){u:xM}{lo hi:Option Operand}{f:D→Option Nat→Option Nat→Option D}(hf:∀x b,f x none b=none){ds:List D}{d:D}
 (h1:aX (cb β.d) (u::sV E g lo::uJ E g hi)=some ds) (h2:Fj f ds=some d):
 ∃dx al hb k b,cb β.d u=some dx∧f dx (some al) hb=some d∧(lo.map yM.eval=some (.int k (.ofNat al))∨(lo.map yM.eval=none∧al=0))∧((hb=none∧hi.map yM.eval=none)∨∃k',hb=some b∧hi.map yM.eval=some (.int k' (.ofNat b))):=by
 obtain⟨dx,r1,rfl,e1,h1⟩:=jB h1;obtain⟨dl,r2,rfl,e2,h1⟩:=jB h1;have ij:∀al,ug dl=some al→∃k,lo.map yM.eval=some (.int k (.ofNat al))∨(lo.map yM.eval=none∧al=0):=fun al bt=>by
  obtain⟨k,rfl⟩:=Vs bt;cases lo with
  |none=>
   have e2:some (D.int .i64 (.ofNat 0))=some (D.int k (.ofNat al)):=e2;cases e2;exact⟨.i64,.inr ⟨rfl,rfl⟩⟩
  |some y=>
   have:=E1 y _ e2;generalize hg:yM.eval y=yv at this;cases this;exact⟨k,.inl (congrArg some hg)⟩
 cases hi with
 |none=>
  have:r2=[]:=V6 h1;subst this;have h2:f dx (ug dl) none=some d:=h2;cases bt:ug dl with
  |none=>rw[bt,hf] at h2;cases h2
  |some al=>
   rw[bt] at h2;obtain⟨k,hk⟩:=ij al bt;exact⟨dx,al,none,k,0,e1,h2,hk,.inl ⟨rfl,rfl⟩⟩
 |some y=>
  obtain⟨db,rfl,e3⟩:=nF h1;have h2:((ug db).bind fun b=>f dx (ug dl) (some b))=some d:=h2;obtain⟨b,hb,h4⟩:=xr.1 h2;clear h2;obtain⟨k',rfl⟩:=Vs hb;cases bt:ug dl with
  |none=>rw[bt,hf] at h4;cases h4
  |some al=>
   rw[bt] at h4;obtain⟨k,hk⟩:=ij al bt;have:=E1 y _ e3;generalize hg:yM.eval y=yv at this;cases this;exact⟨dx,al,some b,k,b,e1,h4,hk,.inr ⟨k',rfl,congrArg some hg⟩⟩
section
variable{P:Program}{E:aq}(ok:E.Ok P){sq:List (Nat×List xO)}(ba:E.Seq P sq){w0 w:World}{β:af}{A:AW}(inv:Inv w0 E.G β A w)
include ok ba inv
omit ok ba inv in
theorem WO{k:xO}{z:Nat→Option (Array xM)}{d:D}:∀{l:List D} {l':List xM} {x:Int},KT k l x=some d→l.length=l'.length→(∀(i:Nat) (d:D) (v:xM),l[i]? =some d→l'[i]? =some v→Rd z d v)→∃n,d= .int k n∧(l'.foldlM Builtin.max2 (.int k x)).run P w= .ok (.int k n) w
 |[],l',x,h,hl,hr=>by
  have:l'=[]:=xA hl.symm;subst this;cases h;exact⟨x,rfl,rfl⟩
 |y::r,[],x,h,hl,hr=>by cases hl
 |y::r,y'::r',x,h,hl,hr=>by
  have yg:∃k2 n,y= .int k2 n∧KT k r (if x<n then n else x)=some d:=by
   cases y<;>first|(cases h;done)|exact⟨_,_,rfl,h⟩
  obtain⟨k2,n,rfl,h2⟩:=yg;have hy:=hr 0 _ y' rfl rfl;cases hy;obtain⟨m,e1,e2⟩:=WO h2 (by simpa using hl) (fun i d v a b=>hr (i+1) d v (by simpa using a) (by simpa using b));refine⟨m,e1,?_⟩;rw[List.foldlM_cons];have h1:Builtin.max2 (.int k x) (.int k2 n)=(pure (.int k (if x<n then n else x)):Sem xM):=by
   unfold Builtin.max2;by_cases bg:x<n<;>simp[bg]
  rw[h1];simpa using e2
omit ok ba inv in
theorem WN{k:xO}{z:Nat→Option (Array xM)}{d:D}:∀{l:List D} {l':List xM} {x:Int},KS k l x=some d→l.length=l'.length→(∀(i:Nat) (d:D) (v:xM),l[i]? =some d→l'[i]? =some v→Rd z d v)→∃n,d= .int k n∧(l'.foldlM Builtin.min2 (.int k x)).run P w= .ok (.int k n) w
 |[],l',x,h,hl,hr=>by
  have:l'=[]:=xA hl.symm;subst this;cases h;exact⟨x,rfl,rfl⟩
 |y::r,[],x,h,hl,hr=>by cases hl
 |y::r,y'::r',x,h,hl,hr=>by
  have yg:∃k2 n,y= .int k2 n∧KS k r (if n<x then n else x)=some d:=by
   cases y<;>first|(cases h;done)|exact⟨_,_,rfl,h⟩
  obtain⟨k2,n,rfl,h2⟩:=yg;have hy:=hr 0 _ y' rfl rfl;cases hy;obtain⟨m,e1,e2⟩:=WN h2 (by simpa using hl) (fun i d v a b=>hr (i+1) d v (by simpa using a) (by simpa using b));refine⟨m,e1,?_⟩;rw[List.foldlM_cons];have h1:Builtin.min2 (.int k x) (.int k2 n)=(pure (.int k (if n<x then n else x)):Sem xM):=by
   unfold Builtin.min2;by_cases bg:n<x<;>simp[bg]
  rw[h1];simpa using e2
theorem bc1{n:Nat}{g:Gt}{a:Act}(hf:cf β n g a.tmps){o:Oper}{nd:Node}{v:xM}(h:zl E sq g o.op nd=some v)(hq:dt β.d nd):∃v',(execOp a.eval o).run P w= .ok (.value v') w∧ai β v v':=by
 obtain⟨rfl,hk⟩:=aK2 h;have aQ:wK β.z w:=inv.bB;have E1:=fun(x:Operand) (d:D) (hd:cb β.d (ev E g x)=some d)=>fY hd (jX (a:=a) inv hf x)
 obtain⟨dst,op,type,uz,after,guard⟩:=o;obtain⟨nk,KR,B4⟩:=nd;have fin:∀{s:Sem xM} {d:D} {v':xM},s.run P w= .ok v' w→jq β.d B4=some d→Rd β.z d v'→(∃Ik,(do pure (Next.value (←s)):Sem Next).run P w= .ok (.value Ik) w∧ai β B4 Ik):=fun{s d v'} h1 h2 h3=>⟨v',by simp[h1],yZ h2 h3⟩
 unfold keyOf at hk;simp only at hk hq⊢;split at hk
 ·
  rename_i CU t x y ty;split at hk
  ·rename_i ks gZ;split at hk<;>cases hk
   ·obtain⟨ds,d,h1,h2,h3⟩:=hq;obtain⟨da,db,rfl,e1,e2⟩:=om h1;have h3:GZ ks false da db=some d:=h3;unfold GZ at h3;split at h3
    ·obtain⟨r,hr,rfl⟩:=xp.1 h3;exact fin (XI ok ba (neg:=false) gZ hr (E1 x _ e1) (E1 y _ e2) x y w) h2 (.bool _)
    ·cases h3
   ·obtain⟨ds,d,h1,h2,h3⟩:=hq;obtain⟨da,db,rfl,e1,e2⟩:=om h1;have h3:GZ ks true da db=some d:=h3;unfold GZ at h3;split at h3
    ·obtain⟨r,hr,rfl⟩:=xp.1 h3;exact fin (XI ok ba (neg:=true) gZ hr (E1 x _ e1) (E1 y _ e2) x y w) h2 (.bool _)
    ·cases h3
  ·cases hk;obtain⟨ds,d,h1,h2,h3⟩:=hq;obtain⟨da,db,rfl,e1,e2⟩:=om h1;obtain⟨v',r1,r2⟩:=bB7 ok ba (show Kv CU (CR E t) da db=some d from h3) (E1 x _ e1) (E1 y _ e2) x y w;exact fin r1 h2 r2
 ·
  rename_i MC t x;cases hk;obtain⟨ds,d,h1,h2,h3⟩:=hq;obtain⟨da,rfl,e1⟩:=nF h1;obtain⟨v',r1,r2⟩:=bC7 (P:=P) (show Lv MC da=some d from h3) (E1 x _ e1) w;exact fin r1 h2 r2
 ·
  rename_i s d0 x;split at hk<;>cases hk
  ·rename_i hs hd;obtain⟨ds,d,h1,h2,h3⟩:=hq;obtain⟨da,rfl,e1⟩:=nF h1;have h3:Qc _ da=some d:=h3;have hx:=E1 x _ e1;unfold Qc at h3;split at h3<;>cases h3
   generalize hg:a.eval x=xv at hx;cases hx;exact fin (by rw[hg];exact bz9 ok hs hd w) h2 (.int _ _)
  ·rename_i hs hd;obtain⟨ds,d,h1,h2,h3⟩:=hq;obtain⟨da,rfl,e1⟩:=nF h1;have h3:G1 da=some d:=h3;have hx:=E1 x _ e1;unfold G1 at h3;split at h3<;>cases h3
   generalize hg:a.eval x=xv at hx;cases hx;exact fin (by rw[hg];exact bz8 ok hs hd w) h2 (.str _)
 ·
  rename_i x t;split at hk<;>cases hk
  ·rename_i hr;obtain⟨ds,d,h1,h2,h3⟩:=hq;obtain⟨da,rfl,e1⟩:=nF h1;have h3:Px da=some d:=h3;have hx:=E1 x _ e1;unfold Px at h3;split at h3<;>cases h3
   generalize hg:a.eval x=xv at hx;cases hx;have:=fin (be6 (P:=P) (ty:=type) ok hr w) h2 (.int _ _);simpa[execOp,resolve,invoke,builtin,hg] using this
  ·rename_i hr;obtain⟨ds,d,h1,h2,h3⟩:=hq;obtain⟨da,rfl,e1⟩:=nF h1;have h3:Gs da=some d:=h3;have hx:=E1 x _ e1;unfold Gs at h3;split at h3<;>cases h3
   have:=fin (be7 (P:=P) (ty:=type) ok hr hx w) h2 (.int _ _);simpa[execOp,resolve,invoke,builtin] using this
 ·
  rename_i l _;cases hk;obtain⟨ds,d,h1,h2,h3⟩:=hq;have h3:Rp ds=some d:=h3;rw[l8] at h1;have ez:∀(i:Nat) (d:D) (v:xM),ds[i]? =some d→(l.map a.eval)[i]? =some v→Rd β.z d v:=fun i d v e1 e2=>by
   rw[xx] at e2;obtain⟨x,hx,rfl⟩:=xp.1 e2;exact E1 x d (jU h1 e1 (by rw[xx,hx];rfl))
  have aC:ds.length=(l.map a.eval).length:=by rw[l6 h1,xm,xm]
  unfold Rp at h3;split at h3
  ·rename_i k x r _;generalize ee:l.map a.eval=l' at ez aC
   match l',aC with
   |[],aC=>cases aC
   |y'::r',aC=>
    have hy:=ez 0 _ y' rfl rfl;cases hy;obtain⟨m,e1,e2⟩:=WO (P:=P) (w:=w) h3 (by simpa using aC) (fun i d v a b=>ez (i+1) d v (by simpa using a) (by simpa using b));subst e1;have:=fun ts:Array xN=>fin (s:=Builtin.max_ ts type ⟨.int k x::r'⟩) (by show(r'.foldlM Builtin.max2 (.int k x)).run P w=_;exact e2) h2 (.int _ _)
    simpa[execOp,resolve,invoke,builtin,ee] using this _
  ·cases h3
 ·
  rename_i l _;cases hk;obtain⟨ds,d,h1,h2,h3⟩:=hq;have h3:Rq ds=some d:=h3;rw[l8] at h1;have ez:∀(i:Nat) (d:D) (v:xM),ds[i]? =some d→(l.map a.eval)[i]? =some v→Rd β.z d v:=fun i d v e1 e2=>by
   rw[xx] at e2;obtain⟨x,hx,rfl⟩:=xp.1 e2;exact E1 x d (jU h1 e1 (by rw[xx,hx];rfl))
  have aC:ds.length=(l.map a.eval).length:=by rw[l6 h1,xm,xm]
  unfold Rq at h3;split at h3
  ·rename_i k x r _;generalize ee:l.map a.eval=l' at ez aC
   match l',aC with
   |[],aC=>cases aC
   |y'::r',aC=>
    have hy:=ez 0 _ y' rfl rfl;cases hy;obtain⟨m,e1,e2⟩:=WN (P:=P) (w:=w) h3 (by simpa using aC) (fun i d v a b=>ez (i+1) d v (by simpa using a) (by simpa using b));subst e1;have:=fun ts:Array xN=>fin (s:=Builtin.min_ ts type ⟨.int k x::r'⟩) (by show(r'.foldlM Builtin.min2 (.int k x)).run P w=_;exact e2) h2 (.int _ _)
    simpa[execOp,resolve,invoke,builtin,ee] using this _
  ·cases h3
 ·
  rename_i t x i;split at hk<;>cases hk
  rename_i hr;obtain⟨ds,d,h1,h2,h3⟩:=hq;obtain⟨da,db,rfl,e1,e2⟩:=om h1;obtain⟨v',r1,r2⟩:=bf4 ok hr (show J2 da db=some d from h3) (E1 x _ e1) (E1 i _ e2) w;exact fin r1 h2 r2
 ·
  rename_i t x lo hi;split at hk
  ·rename_i hr;cases hk;obtain⟨ds,d,h1,h2,h3⟩:=hq;have h3:Fj Gr ds=some d:=h3;obtain⟨dx,al,hb,k,b,e1,e2,e3,e4⟩:=PD E1 (fun x b=>by unfold Gr;split<;>first|rfl|(rename_i e;cases e)) h1 h3;obtain⟨v',r1,r2⟩:=bc6 ok hr e2 (E1 x _ e1) e3 e4 w;exact fin r1 h2 r2
  ·rename_i hr;split at hk<;>cases hk
   rename_i hs;obtain⟨ds,d,h1,h2,h3⟩:=hq;have h3:Fj (Bn _) ds=some d:=h3;obtain⟨dx,al,hb,k,b,e1,e2,e3,e4⟩:=PD E1 (fun x b=>by unfold Bn;split<;>first|rfl|(rename_i e;cases e)) h1 h3;obtain⟨v',r1,r2⟩:=Xk ok hr hs e2 (E1 x _ e1) e3 e4 w;exact fin r1 h2 r2
  ·cases hk
 ·
  rename_i t x i;split at hk
  ·rename_i hr;split at hk<;>cases hk
   rename_i hs;obtain⟨ds,d,h1,h2,h3⟩:=hq;obtain⟨da,db,rfl,e1,e2⟩:=om h1;obtain⟨v',r1,r2⟩:=bf6 ok hr hs (show J4 _ da db=some d from h3) (E1 x _ e1) (E1 i _ e2) w;exact fin r1 h2 r2
  ·rename_i hr;split at hk<;>cases hk
   rename_i hs;obtain⟨ds,d,h1,h2,h3⟩:=hq;obtain⟨da,db,rfl,e1,e2⟩:=om h1;obtain⟨v',r1,r2⟩:=bf5 ok hr hs (show J3 _ _ da db=some d from h3) (E1 x _ e1) (E1 i _ e2) w;exact fin r1 h2 r2
  ·cases hk
 ·
  rename_i t x f;split at hk
  ·rename_i hr;split at hk
   ·rename_i fd mT;rw[eM] at mT;split at hk
    ·rename_i r bK;replace hk:=au hk;rcases hk with⟨_,hk⟩|⟨hz,hk⟩<;>cases hk
     obtain⟨ds,d,h1,h2,h3⟩:=hq;obtain⟨da,rfl,e1⟩:=nF h1;have h3:Qb _ da=some d:=h3;have hx:=E1 x _ e1;unfold Qb at h3;split at h3<;>cases h3
     obtain⟨v',r1,r2⟩:=bg2 (P:=P) ok hr mT bK hz hx w;exact fin r1 h2 r2
    ·cases hk
   ·cases hk
  ·cases hk
 ·
  rename_i t x;split at hk
  ·rename_i r hr;replace hk:=au hk;rcases hk with⟨hd,hk⟩|⟨hd,hk⟩<;>cases hk
   ·obtain⟨ds,d,h1,h2,h3⟩:=hq;obtain⟨da,rfl,e1⟩:=nF h1;obtain⟨v',r1,r2⟩:=bo7 (P:=P) ok aQ hr hd (show Ku r.size da=some d from h3) (E1 x _ e1);exact fin r1 h2 r2
   ·obtain⟨ds,d,h1,h2,h3⟩:=hq;obtain⟨da,rfl,e1⟩:=nF h1;obtain⟨v',r1,r2⟩:=bQ8 (P:=P) ok aQ hr hd (show Lw da=some d from h3) (E1 x _ e1);exact fin r1 h2 r2
  ·cases hk
 ·
  rename_i x;cases hk;obtain⟨ds,d,h1,h2,h3⟩:=hq;obtain⟨da,rfl,e1⟩:=nF h1;have h3:Qa da=some d:=h3;have hx:=E1 x _ e1;unfold Qa at h3;split at h3<;>cases h3
  ·generalize hg:a.eval x=xv at hx;refine⟨xv,?_,yZ h2 hx⟩;cases hx;simp[execOp,hg]
  ·generalize hg:a.eval x=xv at hx;refine⟨xv,?_,yZ h2 hx⟩;cases hx;simp[execOp,hg]
 ·cases hk
end
def gF(v:xM):Bool:=match v with| .chan (some (_+1))=>true|_=>false
def RR(B:Nat)(iv:xM)(es off:Nat):xM:= .iface B (.agg ⟨[iv,.int .i64 (.ofNat es),.int .i64 (.ofNat off)]⟩)
def z8(E:aq)(A:AW)(g:Gt)(op:Op):Option (NK×List xM×Option xM):=
 match op with
 | .call ⟨.builtin .len,⟨[x]⟩,⟨[t]⟩⟩=>match ev E g x,E.ti.get none t with
  | .iface _ (.chan (some (c+1))),some ⟨.slice _,_,_,_,_⟩=>some (.nT,[.chan (some (c+1))],none)
  | .map (some B),some ⟨.map _ _,_,_,_,_⟩=>match A.get B with
   |some ⟨.maps c,_,_,_,_⟩=>some (.nT,[c],none)
   |_=>none
  |_,_=>none
 | .indexAddr t x i=>match E.ti.get none t with
  |some ⟨.slice e,_,_,_,_⟩=>match jn E e,ev E g x with
   |some es,.iface B (.chan (some (c+1)))=>some (.kW,[.chan (some (c+1)),ev E g i],some (RR B (ev E g i) es 0))
   |some es,.slice (some ⟨B,o,none⟩) n _=>bs (gF (ev E g i)) (some (.kW,[.int .i64 (.ofNat n),ev E g i],some (RR B (ev E g i) es o))) none
   |_,_=>none
  |some ⟨.array len e,_,_,_,_⟩=>match jn E e,ev E g x with
   |some es,.pointer (some ⟨B,o,none⟩)=>bs (gF (ev E g i)) (some (.kW,[.int .i64 (.ofNat len),ev E g i],some (RR B (ev E g i) es o))) none
   |_,_=>none
  |_=>none
 | .load t x=>match ev E g x,E.ti.get none t with
  | .iface B (.agg ⟨[iv,.int .i64 (.ofNat es),.int .i64 (.ofNat off)]⟩),some r=>match A.get B with
   |some ⟨.own c,ax,_,_,_⟩=>bs (Nat.beq es ax) (some (.wN off r.size (m5 r.desc),[c,iv],none)) none
   |some ⟨.cells cs,_,_,_,_⟩=>some (.fT es off r.size (m5 r.desc),iv::cs,none)
   |_=>none
  |_,_=>none
 | .convert s d x=>match E.ti.get none s,E.ti.get none d,ev E g x with
  |some ⟨.slice e,_,_,_,_⟩,some ⟨.string,_,_,_,_⟩,.slice (some ⟨B,o,none⟩) n _=>match E.ti.get none e,iw A B with
   |some ⟨.int .u8,_,_,_,_⟩,some cs=>match ow n (qd o cs) with
    |some l=>bs (Nat.beq B ud) none (some (.strOf,l,none))
    |none=>none
   |_,_=>none
  |_,_,_=>none
 |_=>none
def pF(E:aq)(sq:List (Nat×List xO))(A:AW)(g:Gt)(op:Op)(nd:Node):Option xM:=
 match z8 E A g op with
 |some (k,args,u)=>bs (uf k nd.k) (bs (Ez args nd.args) (match u with|none=>some nd.res|some u=>bs (qT nd.res (.bool true)) (some u) none) none) none
 |none=>zl E sq g op nd
theorem aO1{E:aq}{sq:List (Nat×List xO)}{A:AW}{g:Gt}{op:Op}{nd:Node}{v:xM}(h:pF E sq A g op nd=some v):
 (zl E sq g op nd=some v)∨(z8 E A g op=some (nd.k,nd.args,none)∧v=nd.res)∨(z8 E A g op=some (nd.k,nd.args,some v)∧nd.res= .bool true):=by
 unfold pF at h;split at h
 ·rename_i k args u hk;rcases au h with⟨h1,h⟩|⟨_,h⟩
  ·rcases au h with⟨h2,h⟩|⟨_,h⟩
   ·rw[←y8 h1,←JL _ _ h2];cases u with
    |none=>cases h;exact .inr (.inl ⟨hk,rfl⟩)
    |some u=>
     rcases au h with⟨h3,h⟩|⟨_,h⟩<;>cases h
     exact .inr (.inr ⟨hk,wm h3⟩)
   ·cases h
  ·cases h
 ·exact .inl h
section
variable{P:Program}{E:aq}(ok:E.Ok P){sq:List (Nat×List xO)}(ba:E.Seq P sq){w0 w:World}{β:af}{A:AW}(inv:Inv w0 E.G β A w)
include ok in
theorem U7{t:xN}{r:Row}(hr:E.ti.get none t=some r){z:Nat→Option (Array xM)}{lb d0:Nat}{av:Array xM}{e:xN}{fz:Nat×Nat}(hh:w.heap[lb]? =some (.cells av e fz)){row:List D}(Eh:∀(j:Nat) (d:D),row[j]? =some d→∃v,av[d0+j]? =some v∧Rd z d v)
 {off:Nat} {d:D} (h:Du row off r.size (m5 r.desc)=some d):∃v',(Instr.loadAt t (.pointer (some ⟨lb,d0+off,none⟩))).run P w= .ok v' w∧Rd z d v':=by
 have AP:=F7 (P:=P) ok hr;unfold Du at h;split at h
 ·rename_i aK;split at h
  ·rename_i hd;cases h;have key:∀j,j<r.size→∃v,av[d0+off+j]? =some v∧∃d,row[off+j]? =some d∧Rd z d v:=fun j hj=>by
    have fL:off+j<row.length:=by omega
    obtain⟨v,h1,h2⟩:=Eh (off+j) _ (xc fL);exact⟨v,by rw[Nat.add_assoc];exact h1,_,xc fL,h2⟩
   let vs:=(List.range r.size).map fun j=>av.getD (d0+off+j) undef
   have ji:∀j,j<r.size→vs[j]? =some (av.getD (d0+off+j) undef):=fun j hj=>by
    show((List.range r.size).map _)[j]? =_;rw[xx,List.getElem?_range hj];rfl
   have hl:(loadCells ⟨lb,d0+off,none⟩ r.size).run P w= .ok vs.toArray w:=by
    have aC:vs.length=r.size:=by simp[vs]
    rw[←aC];refine run_loadCells_list (P:=P) w ⟨lb,d0+off,none⟩ vs fun j v hv=> ?_
    have hj:j<r.size:=by rw[←aC];exact(xe.1 hv).1
    rw[ji j hj] at hv;cases hv;obtain⟨v,h1,_⟩:=key j hj;rw[Addr.add_mid,cell_of_row w lb _ av e fz hh,h1];have:av.getD (d0+off+j) undef=v:=by rw[Array.getD_eq_getD_getElem?,h1];rfl
    rw[this]
   refine⟨.agg vs.toArray,by simp[Instr.loadAt,Instr.sureAddr,loadVar,AP,hd,dC ok hr,hl],?_⟩;refine .agg _ vs (by simp[vs];omega) fun j d v e1 e2=> ?_
   have hj:j<r.size:=by have:=(xe.1 e2).1;simpa[vs] using this
   rw[ji j hj] at e2;cases e2;obtain⟨v,h1,d2,h2,h3⟩:=key j hj;rw[List.getElem?_take,if_pos hj,List.getElem?_drop,h2] at e1;cases e1;have:av.getD (d0+off+j) undef=v:=by rw[Array.getD_eq_getD_getElem?,h1];rfl
   rw[this];exact h3
  ·rename_i hd;obtain⟨d2,h1,h⟩:=xr.1 h;split at h<;>cases h
   obtain⟨v,h2,h3⟩:=Eh off _ h1;refine⟨v,?_,h3⟩;have gh:w.cell? ⟨lb,d0+off,none⟩=some v:=by rw[cell_of_row w lb _ av e fz hh];exact h2
   simp[Instr.loadAt,Instr.sureAddr,loadVar,AP,hd,load,Sem.run,gh]
 ·cases h
include ok in
theorem UR{t e:xN}{a1 a2 a3 a4}{es:Nat}(hr:E.ti.get none t=some ⟨.slice e,a1,a2,a3,a4⟩)(hs:jn E e=some es){lb ld n cap m:Nat}(hm:m<n)(k:xO)(w:World):
 (Instr.indexAt t (.slice (some ⟨lb,ld,none⟩) n cap) (.int k (m:Nat))).run P w= .ok (.pointer (some ⟨lb,ld+m*es,none⟩)) w:=by
 unfold jn at hs;split at hs<;>cases hs
 rename_i r bK;have hu:=(ok.ti t _ hr).1;simp[Instr.indexAt,asIntOf,run_underlying hu,dC ok bK,Addr.add_lit,Nat.add_assoc,hm]
include ok in
theorem aI7{t e:xN}{a1 a2 a3 a4}{len es:Nat}(hr:E.ti.get none t=some ⟨.array len e,a1,a2,a3,a4⟩)(hs:jn E e=some es){lb ld m:Nat}(hm:m<len)(k:xO)(w:World):
 (Instr.indexAt t (.pointer (some ⟨lb,ld,none⟩)) (.int k (m:Nat))).run P w= .ok (.pointer (some ⟨lb,ld+m*es,none⟩)) w:=by
 unfold jn at hs;split at hs<;>cases hs
 rename_i r bK;have hu:=(ok.ti t _ hr).1;have h0:(0:Int)≤(m:Int)∧(m:Int)<(len:Int):=⟨by omega,by omega⟩;simp[Instr.indexAt,asIntOf,run_underlying hu,Instr.sureAddr,dC ok bK,Addr.add_lit,Nat.add_assoc,hm]
theorem aY8{rows:List (List D)}{di:D}(h:HD (.sl rows) di=some (.bool true)):∃(k:xO) (m:Nat),di= .int k (.ofNat m)∧m<rows.length:=by
 unfold HD at h;split at h
 ·rename_i e;cases e
 ·rename_i Bu k m e;cases e;exact⟨k,m,rfl,by simpa using h⟩
 ·cases h
theorem Ov{k0:xO}{n:Nat}{di:D}(h:HD (.int k0 (.ofNat n)) di=some (.bool true)):∃(k:xO) (m:Nat),di= .int k (.ofNat m)∧m<n:=by
 unfold HD at h;split at h
 ·rename_i k2 n2 k m e;cases e;exact⟨k,m,rfl,by simpa using h⟩
 ·rename_i e;cases e
 ·cases h
theorem Ob:∀{ds:List D} {l:List UInt8},wJ ds=some l→ds.length=l.length∧∀(j:Nat) (b:UInt8),l[j]? =some b→ds[j]? =some (.int .u8 (b.toNat:Nat))
 |[],l,h=>by cases h;exact⟨rfl,fun j b h=>by simp at h⟩
 |d::ds,l,h=>by
  unfold wJ at h;split at h
  ·rename_i e;cases e
  ·rename_i n l2 e;cases e;split at h
   ·rename_i hn;obtain⟨r,hr,rfl⟩:=xp.1 h;obtain⟨h1,h2⟩:=Ob hr;refine⟨by simp[h1],fun j b hb=> ?_⟩;cases j with
    |zero=>simp at hb;subst hb;simp[Nat.mod_eq_of_lt hn]
    |succ j=>simp at hb;simpa using h2 j b hb
   ·cases h
  ·cases h
include ok ba inv
theorem Xh{n:Nat}{g:Gt}{a:Act}(hf:cf β n g a.tmps){o:Oper}{nd:Node}{v:xM}(h:pF E sq A g o.op nd=some v)(hq:dt β.d nd):∃v',(execOp a.eval o).run P w= .ok (.value v') w∧ai β v v':=by
 rcases aO1 h with h|⟨hk,rfl⟩|⟨hk,sK⟩
 ·exact bc1 ok ba inv hf h hq
 ·have E0:=jX (a:=a) inv hf;have E1:=fun(x:Operand) (d:D) (hd:cb β.d (ev E g x)=some d)=>fY hd (jX (a:=a) inv hf x)
  obtain⟨dst,op,type,uz,after,guard⟩:=o;obtain⟨nk,KR,B4⟩:=nd;have fin:∀{s:Sem xM} {d:D} {v':xM},s.run P w= .ok v' w→jq β.d B4=some d→Rd β.z d v'→(∃Ik,(do pure (Next.value (←s)):Sem Next).run P w= .ok (.value Ik) w∧ai β B4 Ik):=fun{s d v'} h1 h2 h3=>⟨v',by simp[h1],yZ h2 h3⟩
  unfold z8 at hk;simp only at hk hq⊢;split at hk
  ·
   rename_i x t;split at hk;rotate_left
   ·rename_i B kt et a1 a2 a3 a4 hx hr;split at hk<;>cases hk
    rename_i c es ex ro ty hg;obtain⟨ds,d,h1,h2,h3⟩:=hq;obtain⟨da,rfl,e1⟩:=nF h1;have h3:Gs da=some d:=h3;have hv:=E0 x;rw[hx] at hv;generalize gA:a.eval x=xv at hv;cases hv with
    |map _ l hl=>
     obtain⟨ax,ck,rows,g1,g2,g3⟩:=inv.cont B _ l hg hl;have I2:cb β.d c=some (.sl rows):=by
      unfold cb;split
      ·cases g2
      ·exact g2
     rw[I2] at e1;cases e1;cases h3;have hu:=(ok.ti t _ hr).1;have aJ:(Builtin.len_ #[t] type #[.map (some l.b)]).run P w= .ok (.int .i64 rows.length) w:=by simp[Builtin.len_,run_underlying hu,goInt,getObj,Sem.run,g1,g3.1]
     have:=fin aJ h2 (.int _ _);simpa[execOp,resolve,invoke,builtin,gA] using this
   ·cases hk
   cases hk;rename_i B c e a1 a2 a3 a4 hx hr;obtain⟨ds,d,h1,h2,h3⟩:=hq;obtain⟨da,rfl,e1⟩:=nF h1;have h3:Gs da=some d:=h3;have hv:=E0 x;rw[hx] at hv;generalize gA:a.eval x=xv at hv;cases hv with
   |own _ _ rows a0 cap ho ha hd=>
    have nz:(β.d c).bind (fun x=>if x.cell then some x else none)=some da:=e1;rw[hd] at nz;cases nz;cases h3;have hu:=(ok.ti t _ hr).1;have aJ:(Builtin.len_ #[t] type #[.slice a0 rows.length cap]).run P w= .ok (.int .i64 rows.length) w:=by simp[Builtin.len_,run_underlying hu,goInt]
    have:=fin aJ h2 (.int _ _);simpa[execOp,resolve,invoke,builtin,gA] using this
  ·
   split at hk
   ·split at hk
    ·cases hk
    ·rcases au hk with⟨_,hk⟩|⟨_,hk⟩<;>cases hk
    ·cases hk
   ·split at hk
    ·rcases au hk with⟨_,hk⟩|⟨_,hk⟩<;>cases hk
    ·cases hk
   ·cases hk
  ·
   rename_i t x;split at hk
   ·rename_i B iv es off r hx hr;have hv:=E0 x;rw[hx] at hv;generalize gA:a.eval x=xv at hv;cases hv with
    |qW _ _ _ m l _ k hl hi=>
     split at hk
     ·rename_i c ax ex ro ty hg;rcases au hk with⟨cz,hk⟩|⟨_,hk⟩<;>cases hk
      have sN:=xb cz;subst sN;obtain⟨ds,d,h1,h2,h3⟩:=hq;obtain⟨dx,di,rfl,e1,e2⟩:=om h1;obtain⟨av,rows,k1,k2,k3,k4,k5,k6,k7⟩:=inv.cont B _ l hg hl;have bA:∀v d,bP β.d v=some d→cb β.d v=some d:=fun v d h=>by
       unfold cb;split
       ·cases h
       ·exact h
      rw[bA _ _ k3] at e1;rw[bA _ _ hi] at e2;cases e1;cases e2;have h3:V8 off r.size (m5 r.desc) (.sl rows) (.int k (m:Nat))=some d:=h3;obtain⟨row,fI,h4⟩:=xr.1 (show(rows[m]?).bind _=some d from h3);have iU:l.es=es:=k4;obtain⟨v',r1,r2⟩:=U7 ok hr k1 (z:=β.z) (row:=row) (d0:=l.d+m*es) (fun j d hj=>by
       obtain⟨v,q1,q2⟩:=k7 m row j d fI hj;exact⟨v,by rw[iU] at q1;rw[Nat.add_assoc];exact q1,q2⟩) h4
      refine fin ?_ h2 r2;rw[gA,show l.d+(m*es+off)=l.d+m*es+off by omega];exact r1
     ·rename_i cs ax ex ro ty hg;cases hk;obtain⟨ds,d,h1,h2,h3⟩:=hq;obtain⟨di,nC,rfl,e2,e3⟩:=jB h1;have bA:cb β.d iv=some (.int k (m:Nat)):=by
       unfold cb;split
       ·cases hi
       ·exact hi
      rw[bA] at e2;cases e2;obtain⟨av,e,fz,k1,k2,k3,k4,_⟩:=inv.cont B _ l hg hl;have h3:Du nC (m*es+off) r.size (m5 r.desc)=some d:=h3;obtain⟨v',r1,r2⟩:=U7 ok hr k1 (z:=β.z) (row:=nC) (d0:=l.d) (fun j d hj=>by
       have fL:j<cs.length:=by rw[←l6 e3];exact(xe.1 hj).1
       obtain⟨v,q1,q2⟩:=k4 j _ (xc fL);exact⟨v,q1,fY (jU e3 hj (xc fL)) q2⟩) h3
      refine fin ?_ h2 r2;rw[gA];exact r1
     ·cases hk
   ·cases hk
  ·
   rename_i s d0 x;split at hk
   ·rename_i e a1 a2 a3 a4 b1 b2 b3 b4 B o n cp hs hd hx;split at hk
    ·rename_i c1 c2 c3 c4 cs he cw;split at hk
     ·rename_i l hl;rcases au hk with⟨_,hk⟩|⟨hT,hk⟩<;>cases hk
      obtain⟨ds,d,h1,h2,h3⟩:=hq;obtain⟨eQ,hb,rfl⟩:=xp.1 (show(wJ ds).map .str=some d from h3);obtain⟨cN,cx⟩:=Ob hb;have hv:=E0 x;rw[hx] at hv;generalize gA:a.eval x=xv at hv;cases hv with
      |slice _ _ _ _ c' lc cR hn hc Nv=>
       obtain⟨l',q1,q2,q3⟩:=yW inv cw cR o n KR hl;have aC:eQ.length=n:=by rw[←cN,l6 h1,q2]
       have aJ:=run_convert_bytes_back (P:=P) w s d0 e ⟨lc.b,lc.d+o,none⟩ c' eQ (ok.ti s _ hs).1 (ok.ti e _ he).1 (ok.ti d0 _ hd).1 (fun j hj=>by
        have fL:j<KR.length:=by rw[q2];omega
        have io:=cx j _ (xc hj);have gj:=jU h1 io (xc fL);obtain⟨v',ob,cM⟩:=q1.get (xc fL);have ez:=fY gj cM;cases ez;rw[Addr.add_mid];exact q3 j _ ob)
       rw[aC] at aJ;refine fin ?_ h2 (.str eQ);rw[gA];exact aJ
      |empty=>exact absurd hT (by decide)
     ·cases hk
    ·cases hk
   ·cases hk
  ·cases hk
 ·have E0:=jX (a:=a) inv hf;obtain⟨dst,op,type,uz,after,guard⟩:=o;obtain⟨nk,KR,B4⟩:=nd;have bS1:B4= .bool true:=sK;subst bS1;unfold z8 at hk;simp only at hk hq⊢;split at hk
  ·split at hk
   ·cases hk
   ·split at hk<;>cases hk
   ·cases hk
  ·
   rename_i t x i;have E1:=fun(x:Operand) (d:D) (hd:cb β.d (ev E g x)=some d)=>fY hd (jX (a:=a) inv hf x)
   have ix:∀(di:D) (k:xO) (m:Nat),cb β.d (ev E g i)=some (.int k (m:Nat))→bP β.d (ev E g i)=some (.int k (m:Nat))∧a.eval i= .int k (m:Nat):=fun di k m h=>by
    have hr:=E1 i _ h;constructor
    ·unfold cb at h;split at h
     ·obtain⟨_,_,h⟩:=xp.1 h;cases h
     ·exact h
    ·generalize a.eval i=iv at hr;cases hr;rfl
   split at hk
   ·rename_i e a1 a2 a3 a4 hr;split at hk
    ·rename_i es B c hs hx;cases hk;obtain⟨ds,d,h1,h2,h3⟩:=hq;obtain⟨dx,di,rfl,e1,e2⟩:=om h1;cases h2;have hv:=E0 x;rw[hx] at hv;generalize gA:a.eval x=xv at hv;cases hv with
     |own _ _ rows a0 cap ho ha hd=>
      have nz:(β.d c).bind (fun x=>if x.cell then some x else none)=some dx:=e1;rw[hd] at nz;cases nz;obtain⟨k,m,rfl,hm⟩:=aY8 h3;obtain⟨i1,i2⟩:=ix (.bool true) k m e2;rcases ha with⟨_,iJ⟩|⟨l,hl,rfl⟩
      ·rw[iJ] at hm;simp at hm
      ·refine⟨_,?_,.qW B es 0 m l _ k hl i1⟩;simp[execOp,gA,i2,UR (P:=P) ok hr hs hm k w]
    ·rename_i es B o n cp hs hx;rcases au hk with⟨_,hk⟩|⟨_,hk⟩<;>cases hk
     obtain⟨ds,d,h1,h2,h3⟩:=hq;obtain⟨dx,di,rfl,e1,e2⟩:=om h1;cases h2;cases e1;obtain⟨k,m,rfl,hm⟩:=Ov h3;obtain⟨i1,i2⟩:=ix (.bool true) k m e2;have hv:=E0 x;rw[hx] at hv;generalize gA:a.eval x=xv at hv;cases hv with
     |slice _ _ _ _ c' lc cR hn hc Nv=>
      refine⟨_,?_,.qW B es o m lc _ k cR i1⟩;rw[show lc.d+(m*es+o)=lc.d+o+m*es by omega];simp[execOp,gA,i2,UR (P:=P) ok hr hs hm k w]
     |empty=>omega
    ·cases hk
   ·rename_i len e a1 a2 a3 a4 hr;split at hk
    ·rename_i es B o hs hx;rcases au hk with⟨_,hk⟩|⟨_,hk⟩<;>cases hk
     obtain⟨ds,d,h1,h2,h3⟩:=hq;obtain⟨dx,di,rfl,e1,e2⟩:=om h1;cases h2;cases e1;obtain⟨k,m,rfl,hm⟩:=Ov h3;obtain⟨i1,i2⟩:=ix (.bool true) k m e2;have hv:=E0 x;rw[hx] at hv;generalize gA:a.eval x=xv at hv;cases hv with
     |ptr _ _ lc cR=>
      refine⟨_,?_,.qW B es o m lc _ k cR i1⟩;rw[show lc.d+(m*es+o)=lc.d+o+m*es by omega];simp[execOp,gA,i2,aI7 (P:=P) ok hr hs hm k w]
    ·cases hk
   ·cases hk
  ·split at hk
   ·split at hk
    ·rcases au hk with⟨_,hk⟩|⟨_,hk⟩<;>cases hk
    ·cases hk
    ·cases hk
   ·cases hk
  ·split at hk
   ·split at hk
    ·split at hk
     ·rcases au hk with⟨_,hk⟩|⟨_,hk⟩<;>cases hk
     ·cases hk
    ·cases hk
   ·cases hk
  ·cases hk
end
def yc(v:xM):Bool:=
 match v with
 | .chan (some (_+1))=>true
 | .int _ _=>true
 | .bool _=>true
 | .string _=>true
 | .nilFunc=>true
 | .nilIface=>true
 | .pointer none=>true
 | .slice none 0 0=>true
 | .map none=>true
 | .func (.func _) ⟨[]⟩ ⟨[]⟩=>true
 |_=>false
def oU(ih:xM→AW→Option (xM×AW))(l:List xM):AW→Option (List xM×AW):=
 List.rec (motive:=fun _=>AW→Option (List xM×AW)) (fun A=>some ([],A))
  (fun v _ r A=>match ih v A with|some (u,A1)=>(match r A1 with|some (us,A2)=>some (u::us,A2)|none=>none)|none=>none) l
def AW.pop(A:AW)(r:List Node):AW:=⟨A.heap,A.next,r⟩
def oQ(A:AW)(k:NK)(us:List xM):Option (xM×AW):=
 match A.tape with
 |[]=>none
 |nd::r=>bs (uf k nd.k) (bs (kK us nd.args) (bs (gF nd.res) (some (nd.res,A.pop r)) none) none) none
def Kb(A:AW)(B:Nat):Option AW:=
 match A.get B with
 |some ⟨.cells cs,es,ex,_,ty⟩=>some (A.put B (some ⟨.cells cs,es,ex,true,ty⟩))
 |_=>none
def Ml(G:Nat)(ih:xM→AW→Option (xM×AW))(v:xM)(A:AW):Option (xM×AW):=
 match v with
 | .iface B (.chan (some (_+1)))=>match A.get B with
  |some ⟨.own c,es,ex,_,ty⟩=>bs (Nat.ble G B) (bs (gF c) (some (c,A.put B (some ⟨.own c,es,ex,true,ty⟩))) none) none
  |_=>none
 | .slice (some ⟨B,o,none⟩) k _=>match A.get B with
  |some ⟨.cells cs,es,_,_,_⟩=>match ow (Nat.mul k es) (qd o cs) with
   |some l=>match oU ih l A with
    |some (us,A1)=>match oQ A1 (.bB es k) us with
     |some (u,A2)=>match Kb A2 B with
      |some A3=>bs (Nat.ble G B) (some (u,A3)) none
      |none=>none
     |none=>none
    |none=>none
   |none=>none
  |_=>none
 | .pointer (some ⟨B,o,none⟩)=>match A.get B with
  |some ⟨.cells cs,_,_,_,_⟩=>match oU ih cs A with
   |some (us,A1)=>match oQ A1 (.vA o) us with
    |some (u,A2)=>match Kb A2 B with
     |some A3=>bs (Nat.ble G B) (some (u,A3)) none
     |none=>none
    |none=>none
   |none=>none
  |_=>none
 | .func (.func f) ⟨p⟩ ⟨q⟩=>match oU ih (aa p q) A with
  |some (us,A1)=>oQ A1 (.Mj f (bI p)) us
  |none=>none
 | .agg ⟨l⟩=>match oU ih l A with
  |some (us,A1)=>some (.agg ⟨us⟩,A1)
  |none=>none
 | .tuple ⟨l⟩=>match oU ih l A with
  |some (us,A1)=>some (.tuple ⟨us⟩,A1)
  |none=>none
 |_=>none
def ng(G n:Nat):xM→AW→Option (xM×AW):=
 Nat.rec (motive:=fun _=>xM→AW→Option (xM×AW)) (fun v A=>bs (yc v) (some (v,A)) none) (fun _ ih v A=>bs (yc v) (some (v,A)) (Ml G ih v A)) n
theorem Inv.pop{w0 w:World}{G:GP}{β:af}{A:AW}(h:Inv w0 G β A w){r:List Node}(hr:∀nd∈r,nd∈A.tape):Inv w0 G β (A.pop r) w:=
 ⟨h.below,h.g9,h.dz,h.loc,h.inj,h.cont,h.jg,h.bB,h.sep,fun nd c6=>h.eO nd (hr nd c6),h.own,h.jf,h.lay,h.xg,h.jA,h.zo⟩
theorem p8{A A':AW}{k:NK}{us:List xM}{u:xM}(h:oQ A k us=some (u,A')):∃nd r c,A.tape=nd::r∧nd.k=k∧nd.args=us∧nd.res=u∧u= .chan (some (c+1))∧A'=A.pop r:=by
 unfold oQ at h;split at h
 ·cases h
 ·rename_i nd r ht;rcases au h with⟨h1,h⟩|⟨_,h⟩
  ·rcases au h with⟨h2,h⟩|⟨_,h⟩
   ·rcases au h with⟨h3,h⟩|⟨_,h⟩<;>cases h
    unfold gF at h3;split at h3
    ·rename_i c hc;exact⟨nd,r,c,ht,(y8 h1).symm,(kV _ _ h2).symm,rfl,hc,rfl⟩
    ·cases h3
   ·cases h
  ·cases h
def af.rk(β:af)(b:Nat)(av:Array xM):af:={β with z:=fun x=>if x=b then some av else β.z x}
theorem af.zm(β:af)(b:Nat)(av:Array xM)(x:Nat):(β.rk b av).z x=if x=b then some av else β.z x:=rfl
theorem Inv.still{w0 w:World}{G:GP}{β:af}{A:AW}(h:Inv w0 G β A w){B:Nat}{aj:ao}{l:Loc}{av:Array xM}{e:xN}{fz:Nat×Nat}(hk:A.get B=some aj)(hp:(∃cs,aj.obj= .cells cs)∨∃c,aj.obj= .own c)(hB:G.n≤B)(hl:β B=some l)(hh:w.heap[l.b]? =some (.cells av e fz)):
 Inv w0 G (β.rk l.b av) (A.put B (some {aj with ro:=true})) w∧∀N,β.grow (β.rk l.b av) N:=by
 have Nf:∀b c,β.z b=some c→(β.rk l.b av).z b=some c:=fun b c hz=>by
  rw[af.zm];by_cases hb:b=l.b
  ·rw[if_pos hb];obtain⟨e2,NF,h2⟩:=h.bB b c hz;rw[hb,hh] at h2;cases h2;rfl
  ·rw[if_neg hb];exact hz
 have aK:β.le (β.rk l.b av):=⟨fun _ _ e=>e,Nf,fun _ _ e=>e,rfl,rfl⟩;have rK:∀D,((A.put B (some {aj with ro:=true})).get D).isSome=true→(A.get D).isSome=true:=fun D h=>by
  rcases A.ja B (some {aj with ro:=true}) D with⟨_,e⟩|⟨e,_⟩|⟨e,_⟩
  ·rw[e,hk];rfl
  ·rw[e] at h;cases h
  ·rw[e] at h;exact h
 have ph:=h.g9 B l hl;have fB:∀{l2:Loc} {o:Option Obj},gH (β.rk l.b av) l2 aj o→gH (β.rk l.b av) l2 {aj with ro:=true} o:=fun{l2 o} hb=>by
  unfold gH at hb⊢;rcases hp with⟨cs,hc⟩|⟨c,hc⟩
  ·simp only [hc] at hb⊢;obtain⟨vB,e2,NF,q1,q2,q3,q4,q5,q6,q7⟩:=hb;exact⟨vB,e2,NF,q1,q2,q3,q4,(fun h=>by cases h),q6,q7⟩
  ·simp only [hc] at hb⊢;exact hb
 have bS2:∀{ah:af} {C:Nat},je ah C aj→je ah C {aj with ro:=true}:=fun{ah C} ho=>by
  unfold je at ho⊢;exact ho
 refine⟨⟨h.below,h.g9,fun C hC=> ?_,h.loc,fun C C' lc sW e e' eo ha iW=>h.inj C C' lc sW e e' eo (rK C ha) (rK C' iW),fun C k lc bW e=> ?_,h.jg,fun b c hz=> ?_,fun C lc k hG e bW hs=> ?_,h.eO,fun C k bW=> ?_,h.jf,h.lay,h.xg,h.jA,fun b c hz=> ?_⟩,fun N=>⟨fun _ _=>rfl,Nf,fun _ _=>rfl,rfl,rfl⟩⟩
 ·have CI:A.next≤C:=hC;rcases A.ja B (some {aj with ro:=true}) C with⟨_,e⟩|⟨e,_⟩|⟨e,_⟩
  ·omega
  ·exact e
  ·rw[e];exact h.dz C CI
 ·rcases A.ja B (some {aj with ro:=true}) C with⟨e2,e3⟩|⟨e2,_⟩|⟨e2,_⟩
  ·subst e3;rw[e2] at bW;cases bW;exact fB ((h.cont C aj lc hk e).mono aK)
  ·rw[e2] at bW;cases bW
  ·rw[e2] at bW;exact(h.cont C k lc bW e).mono aK
 ·rw[af.zm] at hz;by_cases hb:b=l.b
  ·rw[if_pos hb] at hz;cases hz;rw[hb];exact⟨e,fz,hh⟩
  ·rw[if_neg hb] at hz;exact h.bB b c hz
 ·rcases A.ja B (some {aj with ro:=true}) C with⟨e2,e3⟩|⟨e2,_⟩|⟨e2,bA⟩
  ·rw[e2] at bW;cases bW;exfalso;unfold ao.still at hs;rcases hp with⟨cs,hc⟩|⟨c,hc⟩<;>simp[hc] at hs
  ·rw[e2] at bW;cases bW
  ·rw[e2] at bW;rw[af.zm,if_neg (fun eo=>bA (h.inj C B lc l e hl eo (by rw[bW];rfl) (by rw[hk];rfl)))];exact h.sep C lc k hG e bW hs
 ·rcases A.ja B (some {aj with ro:=true}) C with⟨e2,e3⟩|⟨e2,_⟩|⟨e2,_⟩
  ·subst e3;rw[e2] at bW;cases bW;exact bS2 ((h.own C aj hk).mono aK)
  ·rw[e2] at bW;cases bW
  ·rw[e2] at bW;exact(h.own C k bW).mono aK
 ·rw[af.zm] at hz;by_cases hb:b=l.b
  ·rw[hb];rcases(h.loc B l hl).2 with h1|h1|h1
   ·omega
   ·exact .inr (.inl h1)
   ·exact .inr (.inr h1)
  ·rw[if_neg hb] at hz;exact h.zo b c hz
theorem Inv.KD{w0 w:World}{G:GP}{β:af}{A:AW}(h:Inv w0 G β A w){B:Nat}{aj blk':ao}(hk:A.get B=some aj)(hl:β B=none)(ho:je β B blk'):Inv w0 G β (A.put B (some blk')) w:=by
 have rK:∀D,D≠B→∀k,(A.put B (some blk')).get D=some k→A.get D=some k:=fun D hD k h=>by
  rcases A.ja B (some blk') D with⟨_,e⟩|⟨e,_⟩|⟨e,_⟩
  ·exact absurd e hD
  ·rw[e] at h;cases h
  ·rw[e] at h;exact h
 have ne:∀C lc,β C=some lc→C≠B:=fun C lc e hC=>by rw[hC,hl] at e;cases e
 have iso:∀C lc,β C=some lc→((A.put B (some blk')).get C).isSome=true→(A.get C).isSome=true:=fun C lc e h=>by
  obtain⟨k,hk⟩:=Option.isSome_iff_exists.1 h;rw[rK C (ne C lc e) k hk];rfl
 refine⟨h.below,h.g9,fun C hC=> ?_,h.loc,fun C C' lc sW e e' eo ha iW=>h.inj C C' lc sW e e' eo (iso C lc e ha) (iso C' sW e' iW),fun C k lc bW e=>h.cont C k lc (rK C (ne C lc e) k bW) e,h.jg,h.bB,fun C lc k hG e bW hs=>h.sep C lc k hG e (rK C (ne C lc e) k bW) hs,h.eO,fun C k bW=> ?_,h.jf,h.lay,h.xg,h.jA,h.zo⟩
 ·have CI:A.next≤C:=hC;rcases A.ja B (some blk') C with⟨_,e⟩|⟨e,_⟩|⟨e,_⟩
  ·exfalso;subst e;rw[h.dz C CI] at hk;cases hk
  ·exact e
  ·rw[e];exact h.dz C CI
 ·rcases A.ja B (some blk') C with⟨e2,e3⟩|⟨e2,_⟩|⟨e2,_⟩
  ·subst e3;rw[e2] at bW;cases bW;exact ho
  ·rw[e2] at bW;cases bW
  ·rw[e2] at bW;exact h.own C k bW
section
variable{P:Program}{E:aq}(ok:E.Ok P){w0 w:World}
def Ux(w0 w:World)(G:GP)(β:af)(A:AW)(v u:xM)(A':AW):Prop:=
 ∃ah,Inv w0 G ah A' w∧β.grow ah A.next∧A'.next=A.next∧∀dS,ah.grow dS A.next→∀v',ai dS v v'→ai dS u v'
def cT9(w0 w:World)(G:GP)(β:af)(A:AW)(vs us:List xM)(A':AW):Prop:=
 ∃ah,Inv w0 G ah A' w∧β.grow ah A.next∧A'.next=A.next∧us.length=vs.length∧∀dS,ah.grow dS A.next→∀l',aP dS vs l'→aP dS us l'
theorem Po{ih:xM→AW→Option (xM×AW)}{G:GP}(uI:∀v A u A' β,ih v A=some (u,A')→Inv w0 G β A w→Ux w0 w G β A v u A'):∀(l:List xM) (A:AW) (us:List xM) (A':AW) (β:af),oU ih l A=some (us,A')→Inv w0 G β A w→cT9 w0 w G β A l us A'
 |[],A,us,A',β,h,inv=>by
  cases h;exact⟨β,inv,af.cq _ _,rfl,rfl,fun _ _ _ h=>h⟩
 |v::l,A,us,A',β,h,inv=>by
  have h':(match ih v A with|some (u,A1)=>(match oU ih l A1 with|some (us,A2)=>some (u::us,A2)|none=>none)|none=>none)=some (us,A'):=h;split at h'
  ·rename_i u A1 h1;split at h'
   ·rename_i Ff A2 h2;cases h';obtain⟨aI,i1,g1,n1,f1⟩:=uI v A u A1 β h1 inv;obtain⟨cK,i2,g2,n2,e2,f2⟩:=Po uI l A1 Ff A' aI h2 i1;rw[n1] at g2 f2;refine⟨cK,i2,af.iZ g1 g2 (xk _),n2.trans n1,by simp[e2],fun dS hg l' hl=> ?_⟩;obtain⟨v',r',rfl,hv,hr⟩:=hl.l5;exact(f2 dS hg r' hr).cons (f1 dS (af.iZ g2 hg (xk _)) v' hv)
   ·cases h'
  ·cases h'
theorem oq{δ:Nat→Option D}{c:Nat}{d:D}(h:jq δ (.chan (some (c+1)))=some d):δ c=some d∧d.cell=true:=by
 have h':(δ c).bind (fun x=>if x.cell then some x else none)=some d:=h;obtain⟨x,hx,h2⟩:=xr.1 h';split at h2<;>cases h2
 exact⟨hx,by assumption⟩
theorem UO{A A':AW}{B:Nat}(h:Kb A B=some A'):∃cs es ex ro ty,A.get B=some ⟨.cells cs,es,ex,ro,ty⟩∧A'=A.put B (some ⟨.cells cs,es,ex,true,ty⟩):=by
 unfold Kb at h;split at h
 ·rename_i cs es ex ro ty hg;cases h;exact⟨cs,es,ex,ro,ty,hg,rfl⟩
 ·cases h
include ok in
theorem wH:∀(n:Nat) (v:xM) (A:AW) (u:xM) (A':AW) (β:af),ng E.G.n n v A=some (u,A')→Inv w0 E.G β A w→Ux w0 w E.G β A v u A'
 |0,v,A,u,A',β,h,inv=>by
  have h':bs (yc v) (some (v,A)) none=some (u,A'):=h;replace h':=au h';rcases h' with⟨_,h'⟩|⟨_,h'⟩<;>cases h'
  exact⟨β,inv,af.cq _ _,rfl,fun _ _ _ h=>h⟩
 |n+1,v,A,u,A',β,h,inv=>by
  have h':bs (yc v) (some (v,A)) (Ml E.G.n (ng E.G.n n) v A)=some (u,A'):=h;clear h;replace h':=au h';rcases h' with⟨_,h'⟩|⟨c6,h'⟩
  ·cases h';exact⟨β,inv,af.cq _ _,rfl,fun _ _ _ h=>h⟩
  clear c6;have IH:=Po (w0:=w0) (w:=w) (G:=E.G) (fun v A u A' β h i=>wH n v A u A' β h i);unfold Ml at h';split at h'
  ·rename_i B c0;split at h'
   ·rename_i c es ex ro ty hg;replace h':=au h';rcases h' with⟨hG,h'⟩|⟨_,h'⟩
    ·replace h':=au h';rcases h' with⟨hs,h'⟩|⟨_,h'⟩<;>cases h'
     have vY:=xh hG;have ph:B<A.next:=Nat.lt_of_not_le fun ek=>by rw[inv.dz B ek] at hg;cases hg
     unfold gF at hs;split at hs
     ·rename_i c1;have ho:=inv.own B _ hg;obtain⟨rows,hd,ho⟩:=ho;have rE:=oq (δ:=β.d) (d:= .sl rows) (by exact hd);rcases ho with⟨iJ,ho⟩|⟨l,cap,hl,ho,h1,h2,h3⟩
      ·cases hl:β B with
       |none=>
        refine⟨β,inv.KD hg hl (by have:=inv.own B _ hg;unfold je at this⊢;exact this),af.cq _ _,rfl,fun dS gB v' hv=> ?_⟩;cases hv with
        |own _ _ Bu a cap fE ha io=>
         rw[gB.o B ph,ho] at fE;have rA:=xC fE;injection rA with q1 q2 q3;have:Bu=[]:=xE.1 q2.symm;subst q1;subst q3;subst this;refine .sym c1 (.sl rows) _ (by rw[gB.d];exact rE.1) rfl ?_;rw[iJ];exact .sT
       |some l=>
        obtain⟨av,Yt,k1,k2,k3,k4,k5,k6,k7⟩:=inv.cont B _ l hg hl;obtain⟨i1,g1⟩:=inv.still hg (.inr ⟨_,rfl⟩) vY hl k1;refine⟨β.rk l.b av,i1,g1 _,rfl,fun dS gB v' hv=> ?_⟩;cases hv with
        |own _ _ Bu a cap fE ha io=>
         have e1:=gB.o B ph;have e2:(β.rk l.b av).o B=some (.slice none 0 0):=ho;rw[e1,e2] at fE;have rA:=xC fE;injection rA with q1 q2 q3;have:Bu=[]:=xE.1 q2.symm;subst q1;subst q3;subst this;refine .sym c1 (.sl rows) _ (by rw[gB.d];exact rE.1) rfl ?_;rw[iJ];exact .sT
      ·obtain⟨av,Yt,k1,k2,k3,k4,k5,k6,k7⟩:=inv.cont B _ l hg hl;have yx:(D.sl rows)= .sl Yt:=xC (hd.symm.trans k3);cases yx;obtain⟨i1,g1⟩:=inv.still hg (.inr ⟨_,rfl⟩) vY hl k1;refine⟨β.rk l.b av,i1,g1 _,rfl,fun dS gB v' hv=> ?_⟩;cases hv with
       |own _ _ Bu a vC fE ha io=>
        have e1:=gB.o B ph;have e2:(β.rk l.b av).o B=some (.slice (some ⟨l.b,l.d,none⟩) rows.length cap):=ho;rw[e1,e2] at fE;have rA:=xC fE;injection rA with q1 q2 q3;subst q1;subst q3;rw[←q2];refine .sym c1 (.sl rows) _ (by rw[gB.d];exact rE.1) rfl ?_;have hz:dS.z l.b=some av:=gB.z _ _ (by rw[af.zm,if_pos rfl]);by_cases bA:rows=[]
        ·rw[bA];exact .n8 _ _
        ·refine .sl rows l.es l.b l.d _ av hz bA k5 h1 (by rw[k2];exact h2) fun i row j d v hi hj cM=> ?_
         obtain⟨v2,w1,w2⟩:=k7 i row j d hi hj;rw[cM] at w1;cases w1;exact(w2.mono (g1 0).z).mono gB.z
     ·cases hs
    ·cases h'
   ·cases h'
  ·rename_i B o k cp;split at h'
   ·rename_i cs es ex ro ty hg;split at h'
    ·rename_i l hl;split at h'
     ·rename_i us A1 hf;split at h'
      ·rename_i u2 A2 eA;split at h'
       ·rename_i A3 aQ;replace h':=au h';rcases h' with⟨hG,h'⟩|⟨_,h'⟩<;>cases h'
        have vY:=xh hG;obtain⟨nd,r,c,ht,jj,ga,ig,rfl,rfl⟩:=p8 eA;obtain⟨FW,pj,NH,ro2,Im,gB,rfl⟩:=UO aQ;obtain⟨aI,i1,g1,n1,e1,f1⟩:=IH l A us A1 β hf inv;have i2:=i1.pop (r:=r) (fun x hx=>by rw[ht];exact xo _ hx);have ph:B<A.next:=Nat.lt_of_not_le fun ek=>by rw[inv.dz B ek] at hg;cases hg
        have hq:dt aI.d nd:=ok.q _ _ (i1.eO nd (by rw[ht];exact xn));unfold dt at hq;rw[jj] at hq;obtain⟨ds,d,q1,q2,q3⟩:=hq;rw[ga] at q1;rw[ig] at q2;obtain⟨q4,q5⟩:=oq q2;have bN:(if ds.length=k*es then(u3 es k ds).map D.sl else none)=some d:=q3;split at bN
        ·rename_i jR;obtain⟨rows,xU,rfl⟩:=xp.1 bN;obtain⟨r1,r2,r3,r4⟩:=NT xU;cases o8:aI B with
         |none=>
          have B7:=i2.KD (blk':=⟨.cells FW,pj,NH,true,Im⟩) gB o8 trivial;refine⟨aI,B7,g1,n1,fun dS ol v' hv=> ?_⟩;cases hv with
          |slice _ _ _ _ c' lc cR hn hc he=>
           rw[ol.f B ph,o8] at cR;cases cR
          |empty o2 a' c'=>
           have jQ:rows=[]:=xE.1 r1;refine .sym c (.sl rows) _ (by rw[ol.d];exact q4) rfl ?_;rw[jQ];exact .n8 _ _
         |some lB=>
          obtain⟨av,e0,fz,k1,k2,k3,k4,k5,k6,k7⟩:=i2.cont B _ lB gB o8;obtain⟨i3,g3⟩:=i2.still gB (.inl ⟨_,rfl⟩) vY o8 k1;have Mc:β B=some lB:=by rw[←g1.f B ph];exact o8
          obtain⟨cT2,e00,fz0,Iv,k02,k03,k04,k05,k06,k07⟩:=inv.cont B _ lB hg Mc;rw[k1] at Iv;cases Iv;obtain⟨l',w1,w2,w3⟩:=yW inv (show iw A B=some cs by unfold iw;rw[hg]) Mc o _ l hl;refine⟨aI.rk lB.b av,i3,af.iZ g1 (g3 _) (xk _),n1,fun dS ol v' hv=> ?_⟩;have hz:dS.z lB.b=some av:=ol.z _ _ (by rw[af.zm,if_pos rfl]);have yh:aI.grow dS A.next:=af.iZ (g3 _) ol (xk _);have aK:β.le dS:=inv.fX (af.iZ g1 yh (xk _));have od:=f1 dS yh l' (w1.mono aK);have rE:dS.d=aI.d:=yh.d;cases hv with
          |slice _ _ _ _ c' lc cR hn hc he=>
           have uk:aI B=some lc:=by rw[←yh.f B ph];exact cR
           rw[o8] at uk;cases uk;refine .sym c (.sl rows) _ (by rw[rE];exact q4) rfl ?_;by_cases bA:rows=[]
           ·have:k=0:=by rw[←r1,bA];rfl
            subst this;rw[bA];exact .n8 _ _
           ·have Fs:lB.es=es:=k07.1;have hRd:Rd dS.z (.sl rows) (.slice (some ⟨lB.b,lB.d+o,none⟩) rows.length c'):=by
             refine .sl rows es lB.b (lB.d+o) c' av hz bA r2 (by omega) (by rw[←Fs,k2];exact he) fun i row j d v hi hj cM=> ?_
             have hd:=r4 i row j d hi hj;have eI:i*es+j<us.length:=by rw[←l6 q1];exact(xe.1 hd).1
             have o9:i*es+j<l'.length:=by rw[←od.1];exact eI
             have gh:=w3 (i*es+j) _ (xc o9);rw[cell_of_row w lB.b _ av e0 fz k1,cM] at gh;cases gh;exact fY (β:=dS) (by rw[rE];exact jU q1 hd (xc eI)) (od.2 _ _ _ (xc eI) (xc o9))
            rw[r1] at hRd;exact hRd
          |empty o2 a' c'=>
           have jQ:rows=[]:=xE.1 r1;refine .sym c (.sl rows) _ (by rw[rE];exact q4) rfl ?_;rw[jQ];exact .n8 _ _
        ·cases bN
       ·cases h'
      ·cases h'
     ·cases h'
    ·cases h'
   ·cases h'
  ·rename_i B o;split at h'
   ·rename_i cs es ex ro ty hg;split at h'
    ·rename_i us A1 hf;split at h'
     ·rename_i u2 A2 eA;split at h'
      ·rename_i A3 aQ;replace h':=au h';rcases h' with⟨hG,h'⟩|⟨_,h'⟩<;>cases h'
       have vY:=xh hG;obtain⟨nd,r,c,ht,jj,ga,ig,rfl,rfl⟩:=p8 eA;obtain⟨FW,pj,NH,ro2,Im,gB,rfl⟩:=UO aQ;obtain⟨aI,i1,g1,n1,e1,f1⟩:=IH cs A us A1 β hf inv;have i2:=i1.pop (r:=r) (fun x hx=>by rw[ht];exact xo _ hx);have ph:B<A.next:=Nat.lt_of_not_le fun ek=>by rw[inv.dz B ek] at hg;cases hg
       have hq:dt aI.d nd:=ok.q _ _ (i1.eO nd (by rw[ht];exact xn));unfold dt at hq;rw[jj] at hq;obtain⟨ds,d,q1,q2,q3⟩:=hq;rw[ga] at q1;rw[ig] at q2;obtain⟨q4,q5⟩:=oq q2;have bN:some (D.ptr ds o)=some d:=q3;cases bN;cases o8:aI B with
       |none=>
        have B7:=i2.KD (blk':=⟨.cells FW,pj,NH,true,Im⟩) gB o8 trivial;refine⟨aI,B7,g1,n1,fun dS ol v' hv=> ?_⟩;cases hv with
        |ptr _ _ lc cR=>rw[ol.f B ph,o8] at cR;cases cR
       |some lB=>
        obtain⟨av,e0,fz,k1,k2,k3,k4,k5,k6,k7⟩:=i2.cont B _ lB gB o8;obtain⟨i3,g3⟩:=i2.still gB (.inl ⟨_,rfl⟩) vY o8 k1;have Mc:β B=some lB:=by rw[←g1.f B ph];exact o8
        obtain⟨cT2,e00,fz0,Iv,k02,k03,k04,k05,k06,k07⟩:=inv.cont B _ lB hg Mc;rw[k1] at Iv;cases Iv;refine⟨aI.rk lB.b av,i3,af.iZ g1 (g3 _) (xk _),n1,fun dS ol v' hv=> ?_⟩;have hz:dS.z lB.b=some av:=ol.z _ _ (by rw[af.zm,if_pos rfl]);have yh:aI.grow dS A.next:=af.iZ (g3 _) ol (xk _);have aK:β.le dS:=inv.fX (af.iZ g1 yh (xk _));have rE:dS.d=aI.d:=yh.d;have jR:=l6 q1;cases hv with
        |ptr _ _ lc cR=>
         have uk:aI B=some lc:=by rw[←yh.f B ph];exact cR
         rw[o8] at uk;cases uk;refine .sym c (.ptr ds o) _ (by rw[rE];exact q4) rfl ?_
         let l':=(List.range cs.length).map fun j=>av.getD (lB.d+j) undef
         have ee:∀j,j<cs.length→l'[j]? =some (av.getD (lB.d+j) undef):=fun j hj=>by
          show((List.range cs.length).map _)[j]? =_;rw[xx,List.getElem?_range hj];rfl
         have od:=f1 dS yh l' ⟨by simp[l'],fun j v v' hv dF=>by
          have hj:=(xe.1 hv).1;rw[ee j hj] at dF;cases dF;obtain⟨v2,w1,w2⟩:=k04 j v hv;have:av.getD (lB.d+j) undef=v2:=by rw[Array.getD_eq_getD_getElem?,w1];rfl
          rw[this];exact w2.mono aK⟩
         refine .ptr ds o lB.b lB.d av hz (by rw[jR,e1,k2];exact k03) fun j d v hj cM=> ?_
         have fL:j<us.length:=by rw[←jR];exact(xe.1 hj).1
         have TL:l'[j]? =some v:=by
          rw[ee j (by omega),Array.getD_eq_getD_getElem?,cM];rfl
         exact fY (β:=dS) (by rw[rE];exact jU q1 hj (xc fL)) (od.2 _ _ _ (xc fL) TL)
      ·cases h'
     ·cases h'
    ·cases h'
   ·cases h'
  ·rename_i f p q;split at h'
   ·rename_i us A1 hf;obtain⟨nd,r,c,ht,jj,ga,ig,rfl,rfl⟩:=p8 h';obtain⟨aI,i1,g1,n1,e1,f1⟩:=IH _ A us A1 β hf inv;have i2:=i1.pop (r:=r) (fun x hx=>by rw[ht];exact xo _ hx);have hq:dt aI.d nd:=ok.q _ _ (i1.eO nd (by rw[ht];exact xn));unfold dt at hq;rw[jj] at hq;obtain⟨ds,d,q1,q2,q3⟩:=hq;rw[ga] at q1;rw[ig] at q2;obtain⟨q4,q5⟩:=oq q2;rw[dA] at q3;have bN:(if p.length≤ds.length then some (D.func f (ds.take p.length) (ds.drop p.length)) else none)=some d:=q3;split at bN
    ·cases bN;refine⟨aI,i2,g1,n1,fun dS ol v' hv=> ?_⟩;have rE:dS.d=aI.d:=ol.d;cases hv with
     |func _ _ p' _ q' hp hq h1 h2=>
      rw[jm] at f1 e1;have od:=f1 dS ol (p'++q') (aP.append ⟨hp,h1⟩ ⟨hq,h2⟩);have jR:=l6 q1;have aC:=od.1;rw[xa] at aC;have eT:∀(i:Nat) (d:D) (v:xM),ds[i]? =some d→(p'++q')[i]? =some v→Rd dS.z d v:=fun i d v hd hv=>by
       have hi:i<us.length:=by rw[←jR];exact(xe.1 hd).1
       exact fY (β:=dS) (by rw[rE];exact jU q1 hd (xc hi)) (od.2 _ _ _ (xc hi) hv)
      refine .sym c _ _ (by rw[rE];exact q4) rfl (.func f _ _ p' q' (by rw[xz];omega) (by rw[List.length_drop];omega) (fun i d v hd hv=> ?_) (fun i d v hd hv=> ?_))
      ·rw[List.getElem?_take] at hd;split at hd
       ·exact eT i d v hd (by rw[xw (by omega)];exact hv)
       ·cases hd
      ·rw[List.getElem?_drop] at hd;refine eT (p.length+i) d v hd ?_;rw[xq (by omega),hp,Nat.add_sub_cancel_left];exact hv
    ·cases bN
   ·cases h'
  ·rename_i l;split at h'
   ·rename_i us A1 hf;cases h';obtain⟨aI,i1,g1,n1,e1,f1⟩:=IH l A us A' β hf inv;refine⟨aI,i1,g1,n1,fun dS ol v' hv=> ?_⟩;cases hv with
    |agg _ p' hp h2=>exact ai.tL (f1 dS ol p' ⟨hp,h2⟩)
   ·cases h'
  ·rename_i l;split at h'
   ·rename_i us A1 hf;cases h';obtain⟨aI,i1,g1,n1,e1,f1⟩:=IH l A us A' β hf inv;refine⟨aI,i1,g1,n1,fun dS ol v' hv=> ?_⟩;cases hv with
    |tuple _ p' hp h2=>exact ai.rJ (f1 dS ol p' ⟨hp,h2⟩)
   ·cases h'
  ·cases h'
end
end
end Go.Ex
