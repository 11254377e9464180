/- A verified evaluator of Go functions. -/
import Derived.Test.YtnjdjocokegphaaGreatDoorX3
import Derived.Laws.IdiomStrings
set_option linter.unusedVariables false
set_option linter.unusedSimpArgs false
namespace Go.Ex
open Go.RowKit
noncomputable section
def pC(a b:xM):Bool:=
 match a,b with
 | .bool x,.bool y=>bs x y (not y)
 | .int k x,.int j y=>dq k j&&kI x y
 | .string ⟨⟨x⟩⟩,.string ⟨⟨y⟩⟩=>uc x y
 | .pointer none,.pointer none=>true
 | .pointer (some ⟨B,o,none⟩),.pointer (some ⟨B',o',none⟩)=>Nat.beq B B'&&Nat.beq o o'
 | .slice none n c,.slice none n' c'=>Nat.beq n n'&&Nat.beq c c'
 | .slice (some ⟨B,o,none⟩) n c,.slice (some ⟨B',o',none⟩) n' c'=>Nat.beq B B'&&Nat.beq o o'&&Nat.beq n n'&&Nat.beq c c'
 | .map none,.map none=>true
 | .map (some x),.map (some y)=>Nat.beq x y
 | .nilFunc,.nilFunc=>true
 | .nilIface,.nilIface=>true
 | .func (.func f) ⟨[]⟩ ⟨[]⟩,.func (.func f') ⟨[]⟩ ⟨[]⟩=>Nat.beq f f'
 | .chan (some x),.chan (some y)=>Nat.beq x y
 | .iface x (.chan (some c)),.iface y (.chan (some c'))=>Nat.beq x y&&Nat.beq c c'
 |_,_=>false
def lm(a:List xM):List xM→Bool:=
 List.rec (motive:=fun _=>List xM→Bool) (fun b=>List.rec (motive:=fun _=>Bool) true (fun _ _ _=>false) b)
  (fun x _ ih b=>List.rec (motive:=fun _=>Bool) false (fun y t _=>bs (pC x y) (ih t) false) b) a
def ud(a b:xM):Bool:=
 match a,b with
 | .agg ⟨x⟩,.agg ⟨y⟩=>lm x y
 | .tuple ⟨x⟩,.tuple ⟨y⟩=>lm x y
 | .func (.func f) ⟨p⟩ ⟨q⟩,.func (.func f') ⟨p'⟩ ⟨q'⟩=>Nat.beq f f'&&lm p p'&&lm q q'
 | .iface x (.agg ⟨p⟩),.iface y (.agg ⟨q⟩)=>Nat.beq x y&&lm p q
 |a,b=>pC a b
def Df(a:List xM):List xM→Bool:=
 List.rec (motive:=fun _=>List xM→Bool) (fun b=>List.rec (motive:=fun _=>Bool) true (fun _ _ _=>false) b)
  (fun x _ ih b=>List.rec (motive:=fun _=>Bool) false (fun y t _=>bs (ud x y) (ih t) false) b) a
theorem uS{a b:xM}(h:pC a b=true):a=b:=by
 unfold pC at h;split at h<;>(try simp only [xf] at h)
 ·rename_i x y;cases x<;>cases y<;>first|rfl|cases h
 ·obtain⟨h1,h2⟩:=h;rw[mX] at h2;rw[pg h1,of_decide_eq_true h2]
 ·rw[ya] at h;rw[of_decide_eq_true h]
 ·rfl
 ·rw[xb h.1,xb h.2]
 ·rw[xb h.1,xb h.2]
 ·rw[xb h.1.1.1,xb h.1.1.2,xb h.1.2,xb h.2]
 ·rfl
 ·rw[xb h]
 ·rfl
 ·rfl
 ·rw[xb h]
 ·rw[xb h]
 ·rw[xb h.1,xb h.2]
 ·cases h
theorem lQ:∀(a b:List xM),lm a b=true→a=b
 |[],[],_=>rfl
 |[],_::_,h=>by cases h
 |_::_,[],h=>by cases h
 |x::a,y::b,h=>by
  have h':bs (pC x y) (lm a b) false=true:=h;cases hb:pC x y with
  |false=>rw[hb] at h';cases h'
  |true=>
   rw[hb,ek] at h';rw[uS hb,lQ a b h']
theorem Fb{a b:xM}(h:ud a b=true):a=b:=by
 unfold ud at h;split at h
 ·rw[lQ _ _ h]
 ·rw[lQ _ _ h]
 ·simp only [xf] at h;rw[xb h.1.1,lQ _ _ h.1.2,lQ _ _ h.2]
 ·rw[xf] at h;rw[xb h.1,lQ _ _ h.2]
 ·exact uS h
theorem I9:∀(a b:List xM),Df a b=true→a=b
 |[],[],_=>rfl
 |[],_::_,h=>by cases h
 |_::_,[],h=>by cases h
 |x::a,y::b,h=>by
  have h':bs (ud x y) (Df a b) false=true:=h;cases hb:ud x y with
  |false=>rw[hb] at h';cases h'
  |true=>
   rw[hb,ek] at h';rw[Fb hb,I9 a b h']
def LI:BinOp→Nat| .add=>0| .sub=>1| .mul=>2| .quo=>3| .rem=>4| .and=>5| .or=>6| .xor=>7| .shl=>8| .shr=>9| .andNot=>10| .eql=>11| .neq=>12| .lss=>13| .leq=>14| .gtr=>15| .geq=>16
theorem bn5{a b:BinOp}(h:LI a=LI b):a=b:=by cases a<;>cases b<;>first|rfl|(exact absurd h (by decide))
def JU:UnOp→Nat| .neg=>0| .xor=>1| .not=>2| .plus=>3
theorem bg3{a b:UnOp}(h:JU a=JU b):a=b:=by cases a<;>cases b<;>first|rfl|(exact absurd h (by decide))
def QV(a:List xO):List xO→Bool:=
 List.rec (motive:=fun _=>List xO→Bool) (fun b=>List.rec (motive:=fun _=>Bool) true (fun _ _ _=>false) b)
  (fun x _ ih b=>List.rec (motive:=fun _=>Bool) false (fun y t _=>bs (dq x y) (ih t) false) b) a
theorem WZ:∀(a b:List xO),QV a b=true→a=b
 |[],[],_=>rfl
 |[],_::_,h=>by cases h
 |_::_,[],h=>by cases h
 |x::a,y::b,h=>by
  have h':bs (dq x y) (QV a b) false=true:=h;cases hb:dq x y with
  |false=>rw[hb] at h';cases h'
  |true=>
   rw[hb,ek] at h';rw[pg hb,WZ a b h']
theorem Y4{r r':Bool}(h:bs r r' (not r')=true):r=r':=by cases r<;>cases r'<;>first|rfl|cases h
def vL(a b:NK):Bool:=
 match a,b with
 | .bin o c,.bin o' c'=>Nat.beq (LI o) (LI o')&&Nat.beq c c'
 | .nW k n,.nW k' n'=>QV k k'&&bs n n' (not n')
 | .un o,.un o'=>Nat.beq (JU o) (JU o')
 | .ku k,.ku k'=>dq k k'
 | .EA,.EA=>true
 | .lz,.lz=>true
 | .n8,.n8=>true
 | .n9,.n9=>true
 | .vF,.vF=>true
 | .gw a,.gw b=>Nat.beq a b
 | .mD a,.mD b=>Nat.beq a b
 | .Mq n a,.Mq m b=>Nat.beq n m&&Nat.beq a b
 | .Hr a,.Hr b=>Nat.beq a b
 | .ld,.ld=>true
 | .lI a,.lI b=>Nat.beq a b
 | .FN,.FN=>true
 | .own a,.own b=>Nat.beq a b
 | .call a,.call b=>Nat.beq a b
 | .kG a,.kG b=>Nat.beq a b
 | .bH a b,.bH c d=>Nat.beq a c&&Nat.beq b d
 | .vV a,.vV b=>Nat.beq a b
 | .MF a b,.MF c d=>Nat.beq a c&&Nat.beq b d
 | .app a b,.app a' b'=>Nat.beq a a'&&Nat.beq b b'
 | .jF,.jF=>true
 | .eM a b r,.eM a' b' r'=>Nat.beq a a'&&Nat.beq b b'&&bs r r' (not r')
 | .fR e a b r,.fR e' a' b' r'=>Nat.beq e e'&&Nat.beq a a'&&Nat.beq b b'&&bs r r' (not r')
 | .fO a,.fO b=>Nat.beq a b
 | .j6 a b,.j6 a' b'=>Nat.beq a a'&&Nat.beq b b'
 | .strOf,.strOf=>true
 | .mx,.mx=>true
 | .z7,.z7=>true
 | .CN,.CN=>true
 | .mn,.mn=>true
 | .EC a,.EC b=>Nat.beq a b
 | .rY a b,.rY a' b'=>Nat.beq a a'&&Nat.beq b b'
 | .Dc a,.Dc b=>Nat.beq a b
 |_,_=>false
theorem B9{a b:NK}(h:vL a b=true):a=b:=by
 unfold vL at h;split at h<;>(try simp only [xf] at h)
 ·rw[bn5 (xb h.1),xb h.2]
 ·rename_i k n k' n';rw[WZ _ _ h.1];have:n=n':=by have:=h.2;cases n<;>cases n'<;>first|rfl|cases this
  rw[this]
 ·rw[bg3 (xb h)]
 ·rw[pg h]
 ·rfl
 ·rfl
 ·rfl
 ·rfl
 ·rfl
 ·rw[xb h]
 ·rw[xb h]
 ·rw[xb h.1,xb h.2]
 ·rw[xb h]
 ·rfl
 ·rw[xb h]
 ·rfl
 ·rw[xb h]
 ·rw[xb h]
 ·rw[xb h]
 ·rw[xb h.1,xb h.2]
 ·rw[xb h]
 ·rw[xb h.1,xb h.2]
 ·rw[xb h.1,xb h.2]
 ·rfl
 ·rw[xb h.1.1,xb h.1.2,Y4 h.2]
 ·rw[xb h.1.1.1,xb h.1.1.2,xb h.1.2,Y4 h.2]
 ·rw[xb h]
 ·rw[xb h.1,xb h.2]
 ·rfl
 ·rfl
 ·rfl
 ·rfl
 ·rfl
 ·rw[xb h]
 ·rw[xb h.1,xb h.2]
 ·rw[xb h]
 ·cases h
def BE(E:av)(t:xN):Nat:=
 match E.ti.get none t with
 |some ⟨.bool,_,_,_,_⟩=>1
 |some ⟨.pointer _,_,_,_,_⟩=>2
 |some ⟨.string,_,_,_,_⟩=>3
 |_=>0
def jE(E:av)(t:xN):Option Nat:=match E.ti.get none t with|some r=>some r.size|none=>none
def qW(E:av)(g:Gt)(x:Option Operand):xM:=match x with|some x=>ev E g x|none=> .int .i64 (.ofNat 0)
def sQ(E:av)(g:Gt)(x:Option Operand):List xM:=match x with|some x=>[ev E g x]|none=>[]
def keyOf(E:av)(sq:List (Nat×List xO))(g:Gt)(op:Op):Option (NK×List xM):=
 match op with
 | .binOp BG t x y _=>match qe sq t with
  |some ks=>match BG with
   | .eql=>some (.nW ks false,[ev E g x,ev E g y])
   | .neq=>some (.nW ks true,[ev E g x,ev E g y])
   |_=>none
  |none=>some (.bin BG (BE E t),[ev E g x,ev E g y])
 | .unOp MX _ x=>some (.un MX,[ev E g x])
 | .convert s d x=>match E.ti.get none s,E.ti.get none d with
  |some _,some ⟨.int k,_,_,_,_⟩=>some (.ku k,[ev E g x])
  |some _,some ⟨.string,_,_,_,_⟩=>some (.EA,[ev E g x])
  |_,_=>none
 | .call ⟨.builtin .len,⟨[x]⟩,⟨[t]⟩⟩=>match E.ti.get none t with
  |some ⟨.string,_,_,_,_⟩=>some (.lz,[ev E g x])
  |some ⟨.slice _,_,_,_,_⟩=>some (.n8,[ev E g x])
  |_=>none
 | .call ⟨.builtin .max,⟨l⟩,_⟩=>some (.mx,ez (ev E g) l)
 | .call ⟨.builtin .min,⟨l⟩,_⟩=>some (.mn,ez (ev E g) l)
 | .index t x i=>match E.ti.get none t with
  |some ⟨.string,_,_,_,_⟩=>some (.n9,[ev E g x,ev E g i])
  |_=>none
 | .slice t x lo hi none=>match E.ti.get none t with
  |some ⟨.string,_,_,_,_⟩=>some (.vF,ev E g x::qW E g lo::sQ E g hi)
  |some ⟨.slice e,_,_,_,_⟩=>match jE E e with|some n=>some (.gw n,ev E g x::qW E g lo::sQ E g hi)|none=>none
  |_=>none
 | .indexAddr t x i=>match E.ti.get none t with
  |some ⟨.slice e,_,_,_,_⟩=>match jE E e with|some n=>some (.mD n,[ev E g x,ev E g i])|none=>none
  |some ⟨.array len e,_,_,_,_⟩=>match jE E e with|some n=>some (.Mq len n,[ev E g x,ev E g i])|none=>none
  |_=>none
 | .fieldAddr t x f=>match E.ti.get none t with
  |some ⟨.struct ⟨fs⟩,_,_,_,_⟩=>match dj fs f with
   |some fd=>match E.ti.get none fd.type with
    |some r=>bs (Nat.beq r.size 0) none (some (.Hr fd.offset,[ev E g x]))
    |none=>none
   |none=>none
  |_=>none
 | .load t x=>match E.ti.get none t with
  |some r=>bs (lU r.desc) (some (.lI r.size,[ev E g x])) (some (.ld,[ev E g x]))
  |none=>none
 | .nilCheck x=>some (.FN,[ev E g x])
 |_=>none
def yk(E:av)(sq:List (Nat×List xO))(g:Gt)(op:Op)(nd:Node):Option xM:=
 match keyOf E sq g op with
 |some (k,args)=>bs (vL k nd.k) (bs (Df args nd.args) (some nd.res) none) none
 |none=>none
theorem aX5{E:av}{sq:List (Nat×List xO)}{g:Gt}{op:Op}{nd:Node}{v:xM}(h:yk E sq g op nd=some v):v=nd.res∧keyOf E sq g op=some (nd.k,nd.args):=by
 unfold yk at h;split at h
 ·rename_i k args hk;rcases aB h with⟨h1,h⟩|⟨_,h⟩
  ·rcases aB h with⟨h2,h⟩|⟨_,h⟩
   ·cases h;rw[←B9 h1,←I9 _ _ h2];exact⟨rfl,hk⟩
   ·cases h
  ·cases h
 ·cases h
def jL(z:Nat→Option (Array xM))(b o:Nat):ah:=⟨fun _=>some ⟨b,o,0,0⟩,z,fun _=>none,⟨fun _=>False,z⟩,fun _=>none⟩
theorem bi9{β:ah}{z:Nat→Option (Array xM)}{x:Option xM}{d:D}{v v':xM}(h:ofInt x=some d)(hx:x=some v)(hv:ai β v v'):Rd z d v':=by
 subst hx;unfold ofInt at h;split at h
 ·rename_i e;cases e;cases h;cases hv;exact .int _ _
 ·rename_i e;cases e;cases h;cases hv;exact .bool _
 ·cases h
section
variable{P:Program}{E:av}(ok:E.Ok P){sq:List (Nat×List xO)}(aY:E.Seq P sq){z:Nat→Option (Array xM)}
include ok aY in
theorem bT9{op:BinOp}{t:xN}{x y d:D}{x' y':xM}(h:JP op (BE E t) x y=some d)(hx:Rd z x x')(hy:Rd z y y')(p q:Operand)(w:World):
 ∃v',(do eqGuard op t p q x' y';binOp op t x' y':Sem xM).run P w= .ok v' w∧Rd z d v':=by
 have co6:BE E t=1→∃a b c e,E.ti.get none t=some ⟨.bool,a,b,c,e⟩:=fun h=>by
  unfold BE at h;split at h
  ·rename_i h2;exact⟨_,_,_,_,h2⟩
  ·cases h
  ·cases h
  ·cases h
 have aj4:BE E t=2→∃u a b c e,E.ti.get none t=some ⟨.pointer u,a,b,c,e⟩:=fun h=>by
  unfold BE at h;split at h
  ·cases h
  ·rename_i h2;exact⟨_,_,_,_,_,h2⟩
  ·cases h
  ·cases h
 unfold JP at h;split at h
 ·rename_i k a k' b;cases hx;cases hy;cases hi:AT op k a k' b with
  |none=>rw[hi] at h;cases h
  |some v=>
   have hb:ft E sq op t (.int k a) (.int k' b)=some v:=hi;obtain⟨v',h1,h2⟩:=qc ok aY (β:=jL z 0 0) hb (.int k a) (.int k' b) p q w;exact⟨v',h1,bi9 h hi h2⟩
 ·split at h
  ·rename_i a b hc;cases hx;cases hy;obtain⟨_,_,_,_,hr⟩:=co6 hc;unfold yY at h;split at h<;>cases h
   ·have hb:ft E sq .eql t (.bool a) (.bool b)=some (.bool (bs a b (not b))):=by simp only [ft,rA,hr];rfl
    obtain⟨v',h1,h2⟩:=qc ok aY (β:=jL z 0 0) hb (.bool a) (.bool b) p q w;cases h2;exact⟨_,h1,by cases a<;>cases b<;>exact .bool _⟩
   ·have hb:ft E sq .neq t (.bool a) (.bool b)=some (.bool (not (bs a b (not b)))):=by simp only [ft,rA,hr];rfl
    obtain⟨v',h1,h2⟩:=qc ok aY (β:=jL z 0 0) hb (.bool a) (.bool b) p q w;cases h2;exact⟨_,h1,by cases a<;>cases b<;>exact .bool _⟩
  ·cases h
 ·rename_i a b;cases hx;cases hy;split at h
  ·split at h<;>cases h
   rename_i aR;have hb:ft E sq .add t (.string ⟨⟨a⟩⟩) (.string ⟨⟨b⟩⟩)=some (.string ⟨⟨aj a b⟩⟩):=by
    simp only [ft];rw[dg,dg,show Nat.ble (Nat.add a.length b.length) 9223372036854775807=true from Nat.ble_eq_true_of_le aR,ek]
   obtain⟨v',h1,h2⟩:=qc ok aY (β:=jL z 0 0) hb (.string _) (.string _) p q w;rw[iN] at h2;cases h2;exact⟨_,h1,.str _⟩
  ·unfold yY at h;split at h<;>cases h
   ·have hb:ft E sq .eql t (.string ⟨⟨a⟩⟩) (.string ⟨⟨b⟩⟩)=some (.bool (uc a b)):=rfl;obtain⟨v',h1,h2⟩:=qc ok aY (β:=jL z 0 0) hb (.string _) (.string _) p q w;rw[ya] at h2;cases h2;exact⟨_,h1,.bool _⟩
   ·have hb:ft E sq .neq t (.string ⟨⟨a⟩⟩) (.string ⟨⟨b⟩⟩)=some (.bool (not (uc a b))):=rfl;obtain⟨v',h1,h2⟩:=qc ok aY (β:=jL z 0 0) hb (.string _) (.string _) p q w;rw[ya] at h2;cases h2;exact⟨_,h1,.bool _⟩
 ·split at h
  ·rename_i row o hc;cases hy;obtain⟨_,_,_,_,_,hr⟩:=aj4 hc;cases hx with
   |ptr _ _ b o0 cells hz hs hh=>
    have hv:ai (jL z b (o0+o)) (.pointer (some ⟨0,0,none⟩)) (.pointer (some ⟨b,o0+o,none⟩)):= .ptr (β:=jL z b (o0+o)) 0 0 ⟨b,o0+o,0,0⟩ rfl;unfold yY at h;split at h<;>cases h
    ·have hb:ft E sq .eql t (.pointer (some ⟨0,0,none⟩)) (.pointer none)=some (.bool false):=by simp only [ft,rA,hr];rfl
     obtain⟨v',h1,h2⟩:=qc ok aY hb hv .oX p q w;cases h2;exact⟨_,h1,.bool _⟩
    ·have hb:ft E sq .neq t (.pointer (some ⟨0,0,none⟩)) (.pointer none)=some (.bool true):=by simp only [ft,rA,hr];rfl
     obtain⟨v',h1,h2⟩:=qc ok aY hb hv .oX p q w;cases h2;exact⟨_,h1,.bool _⟩
  ·cases h
 ·split at h
  ·rename_i hc;cases hx;cases hy;obtain⟨_,_,_,_,_,hr⟩:=aj4 hc;unfold yY at h;split at h<;>cases h
   ·have hb:ft E sq .eql t (.pointer none) (.pointer none)=some (.bool true):=by simp only [ft,rA,hr];rfl
    obtain⟨v',h1,h2⟩:=qc ok aY (β:=jL z 0 0) hb .oX .oX p q w;cases h2;exact⟨_,h1,.bool _⟩
   ·have hb:ft E sq .neq t (.pointer none) (.pointer none)=some (.bool false):=by simp only [ft,rA,hr];rfl
    obtain⟨v',h1,h2⟩:=qc ok aY (β:=jL z 0 0) hb .oX .oX p q w;cases h2;exact⟨_,h1,.bool _⟩
  ·cases h
 ·cases h
include ok aY in
theorem YZ{t:xN}{ks:List xO}{neg:Bool}{a b:List D}{r:Bool}{x' y':xM}(hk:qe sq t=some ks)(h:ph ks a b=some r)(hx:Rd z (.agg a) x')(hy:Rd z (.agg b) y')(p q:Operand)(w:World):
 (do eqGuard (if neg then .neq else .eql) t p q x' y';binOp (if neg then .neq else .eql) t x' y':Sem xM).run P w= .ok (.bool (r !=neg)) w:=by
 have key:∀(ks:List xO) (a b:List D) (r:Bool),ph ks a b=some r→∀(va vb:List xM),a.length=va.length→b.length=vb.length→(∀(i:Nat) (d:D) (v:xM),a[i]? =some d→va[i]? =some v→Rd z d v)→(∀(i:Nat) (d:D) (v:xM),b[i]? =some d→vb[i]? =some v→Rd z d v)→
  gF ks va vb=some r∧aT (jL z 0 0) va va∧aT (jL z 0 0) vb vb:=by
  intro ks
  induction ks with
  |nil=>
   intro a b r h va vb h1 h2 _ _
   match a,b,h with
   |[],[],h=>
    obtain rfl:va=[]:=xA h1.symm;obtain rfl:vb=[]:=xA h2.symm;cases h;exact⟨rfl,aT.nil _,aT.nil _⟩
  |cons k ks ih=>
   intro a b r h va vb h1 h2 h3 h4
   match a,b,h with
   | .int k1 m::a,.int k2 n::b,h=>
    have h':(if k1=k∧k2=k then(ph ks a b).map fun r=>decide (m=n)&&r else none)=some r:=h;split at h'
    ·rename_i iL;obtain⟨r0,kp,rfl⟩:=xp.1 h'
     match va,vb,h1,h2,h3,h4 with
     |x::va,y::vb,h1,h2,h3,h4=>
      have hx:=h3 0 _ _ rfl rfl;have hy:=h4 0 _ _ rfl rfl;cases hx;cases hy;obtain⟨i1,i2,i3⟩:=ih a b r0 kp va vb (by simpa using h1) (by simpa using h2) (fun i d v e1 e2=>h3 (i+1) d v (by simpa using e1) (by simpa using e2)) (fun i d v e1 e2=>h4 (i+1) d v (by simpa using e1) (by simpa using e2));refine⟨?_,i2.cons (.int _ _),i3.cons (.int _ _)⟩;show mB k (gF ks) (Value.int k1 m::va) (Value.int k2 n::vb)=_;unfold mB;have e1:dq k1 k=true:=by rw[iL.1];cases k<;>rfl
      have e2:dq k2 k=true:=by rw[iL.2];cases k<;>rfl
      simp only [e1,e2,Bool.and_self,ek,i1];rw[mX];cases decide (m=n)<;>rfl
    ·cases h'
 cases hx with
 |agg _ va H4 h1=>
  cases hy with
  |agg _ vb gS h2=>
   obtain⟨e1,e2,e3⟩:=key ks a b r h va vb H4 gS h1 h2;have hb:ft E sq (if neg then .neq else .eql) t (.agg ⟨va⟩) (.agg ⟨vb⟩)=some (.bool (r !=neg)):=by
    cases neg
    ·simp only [ft,rA,hk,e1,Option.map_some];cases r<;>rfl
    ·simp only [ft,rA,hk,e1,Option.map_some];cases r<;>rfl
   obtain⟨v',h3,h4⟩:=qc ok aY (β:=jL z 0 0) hb (ai.rR e2) (ai.rR e3) p q w;cases h4;exact h3
theorem bV2{op:UnOp}{x d:D}{x':xM}(h:LD op x=some d)(hx:Rd z x x')(w:World):∃v',(Op.unary op x').run P w= .ok v' w∧Rd z d v':=by
 unfold LD at h;split at h
 ·rename_i k n;cases h;cases hx;obtain⟨v',h1,h2⟩:=JV (β:=jL z 0 0) (show Ba .neg (.int k n)=some _ from rfl) (.int _ _) P w;cases h2;refine⟨_,h1,?_⟩;rw[kQ];exact .int _ _
 ·rename_i k n;split at h
  ·cases h
  ·rename_i hs;have hs:k.signed=false:=by simpa using hs
   obtain⟨r,hr,rfl⟩:=xp.1 h;cases hx;obtain⟨v',h1,h2⟩:=JV (β:=jL z 0 0) (show Ba .xor (.int k n)=some (.int k r) by show bs k.signed none (Option.map (Value.int k) (mE BinOp.xor k (Int.ofNat ((mk k).sub 1)) n))=_;rw[hs,hr];rfl) (.int _ _) P w;cases h2;exact⟨_,h1,.int _ _⟩
 ·cases h;cases hx;obtain⟨v',h1,h2⟩:=JV (β:=jL z 0 0) (show Ba .not (.bool _)=some _ from rfl) (.bool _) P w;cases h2;exact⟨_,h1,.bool _⟩
 ·cases h
include ok in
theorem bt4{t:xN}{a1 a2 a3 a4}{x i d:D}{x' i':xM}(hr:E.ti.get none t=some ⟨.string,a1,a2,a3,a4⟩)(h:Jo x i=some d)(hx:Rd z x x')(hi:Rd z i i')(w:World):∃v',(Instr.index t x' i').run P w= .ok v' w∧Rd z d v':=by
 unfold Jo at h;split at h
 ·rename_i l k m;obtain⟨b,hb,rfl⟩:=xp.1 h;cases hx;cases hi;have hv:CA E t (.string ⟨⟨l⟩⟩) (.int k (.ofNat m))=some (.int .u8 (.ofNat b.toNat)):=by simp only [CA,hr,eL,hb]
  obtain⟨v',h1,h2⟩:=B3 (β:=jL z 0 0) ok hv (.string _) (.int _ _) w;cases h2;exact⟨_,h1,.int _ _⟩
 ·cases h
def vd(z:Nat→Option (Array xM))(w:World):Prop:=∀b cs,z b=some cs→∃e fz,w.heap[b]? =some (.cells cs e fz)
include ok in
theorem cl4{t:xN}{r:Row}{x d:D}{x':xM}{w:World}(bc:vd z w)(hr:E.ti.get none t=some r)(hd:lU r.desc=false)(h:LF x=some d)(hx:Rd z x x'):∃v',(Instr.loadAt t x').run P w= .ok v' w∧Rd z d v':=by
 unfold LF at h;split at h
 ·rename_i row o;obtain⟨d2,h1,h⟩:=xr.1 h;split at h<;>cases h
  cases hx with
  |ptr _ _ b o0 cells hz hs hh=>
   obtain⟨e,fz,hb⟩:=bc b cells hz;have aX:=(xe.1 h1).1;have Tu:o0+o<cells.size:=by omega
   refine⟨cells[o0+o],?_,hh o _ _ h1 (by simp[Tu])⟩;have gd:w.cell? ⟨b,o0+o,none⟩=some cells[o0+o]:=by rw[cell_of_row w b _ cells e fz hb];simp[Tu]
   simp[Instr.loadAt,Instr.sureAddr,loadVar,EK ok hr,hd,load,Sem.run,gd]
 ·cases h
include ok in
theorem bD5{t:xN}{r:Row}{x d:D}{x':xM}{w:World}(bc:vd z w)(hr:E.ti.get none t=some r)(hd:lU r.desc=true)(h:JO r.size x=some d)(hx:Rd z x x'):∃v',(Instr.loadAt t x').run P w= .ok v' w∧Rd z d v':=by
 unfold JO at h;split at h
 ·rename_i row o;split at h<;>cases h
  rename_i aR;cases hx with
  |ptr _ _ b o0 cells hz hs hh=>
   obtain⟨e,fz,hb⟩:=bc b cells hz;have pK:∀j,j<r.size→((cells.toList.drop (o0+o)).take r.size)[j]? =cells[o0+o+j]? :=fun j hj=>by
    rw[List.getElem?_take,if_pos hj,List.getElem?_drop];simp
   have aF:((cells.toList.drop (o0+o)).take r.size).length=r.size:=by simp;omega
   refine⟨.agg ⟨(cells.toList.drop (o0+o)).take r.size⟩,?_,?_⟩
   ·have bF:(loadCells ⟨b,o0+o,none⟩ r.size).run P w= .ok ((cells.toList.drop (o0+o)).take r.size).toArray w:=by
     have:=run_loadCells_list (P:=P) w ⟨b,o0+o,none⟩ ((cells.toList.drop (o0+o)).take r.size) (fun j u hu=>by
      rw[Addr.add_mid];have hj:j<r.size:=by have:=(xe.1 hu).1;omega
      rw[pK j hj] at hu;rw[cell_of_row w b _ cells e fz hb];exact hu)
     rw[aF] at this;exact this
    simp[Instr.loadAt,Instr.sureAddr,loadVar,EK ok hr,hd,dD ok hr,bF]
   ·refine .agg _ _ (by rw[aF];simp;omega) fun i d v h1 h2=> ?_
    rw[List.getElem?_take,List.getElem?_drop] at h1;split at h1
    ·rename_i hi;rw[pK i hi] at h2;rw[Nat.add_assoc] at h2;exact hh _ _ _ h1 h2
    ·cases h1
 ·cases h
include ok in
theorem bu2{t:xN}{fs:List Field}{a1 a2 a3 a4}{f:Nat}{fd:Field}{r:Row}{row:List D}{o:Nat}{x':xM}(hr:E.ti.get none t=some ⟨.struct ⟨fs⟩,a1,a2,a3,a4⟩)(hf:fs[f]? =some fd)(bK:E.ti.get none fd.type=some r)(hz:Nat.beq r.size 0=false)
 (hx:Rd z (.ptr row o) x') (w:World):∃v',(Instr.fieldAt t x' f).run P w= .ok v' w∧Rd z (.ptr row (o+fd.offset)) v':=by
 rw[l4] at hz;have Bf: ¬r.size=0:=by simpa using hz
 cases hx with
 |ptr _ _ b o0 cells wi hs hh=>
  refine⟨.pointer (some ⟨b,o0+(o+fd.offset),none⟩),?_,.ptr row (o+fd.offset) b o0 cells wi hs hh⟩;have hu:=(ok.ti t _ hr).1;simp[Instr.fieldAt,run_underlying hu,hf,Instr.sureAddr,fieldPlace,dD ok bK,Bf,Addr.add_lit,Nat.add_assoc]
include ok in
theorem bt6{t e:xN}{a1 a2 a3 a4}{n:Nat}{x i d:D}{x' i':xM}(hr:E.ti.get none t=some ⟨.slice e,a1,a2,a3,a4⟩)(hs:jE E e=some n)(h:Jq n x i=some d)(hx:Rd z x x')(hi:Rd z i i')(w:World):∃v',(Instr.indexAt t x' i').run P w= .ok v' w∧Rd z d v':=by
 unfold jE at hs;split at hs<;>cases hs
 rename_i r bK;unfold Jq at h;split at h
 ·rename_i rows k m;obtain⟨row,h1,h⟩:=xr.1 h;split at h<;>cases h
  rename_i wu;have aX:=(xe.1 h1).1;cases hi;cases hx with
  |qV=>simp at aX
  |mL=>simp at aX
  |sl _ es b o c cells hz bq cb hc hs hh=>
   have di3:es=r.size:=by rw[←cb row (xu h1),wu]
   subst di3;have hu:=(ok.ti t _ hr).1;refine⟨.pointer (some ⟨b,o+m*r.size+0,none⟩),?_,.ptr row 0 b (o+m*r.size) cells hz ?_ fun j d v e1 e2=>hh m row j d v h1 e1 (by rw[←Nat.add_assoc];exact e2)⟩
   ·simp[Instr.indexAt,asIntOf,run_underlying hu,dD ok bK,Addr.add_lit,Nat.add_assoc,aX]
   ·rw[wu];have:(m+1)*r.size≤c*r.size:=xD _ (by omega);rw[Nat.add_mul] at this;omega
 ·cases h
include ok in
theorem bt5{t e:xN}{a1 a2 a3 a4}{len n:Nat}{x i d:D}{x' i':xM}(hr:E.ti.get none t=some ⟨.array len e,a1,a2,a3,a4⟩)(hs:jE E e=some n)(h:Jp len n x i=some d)(hx:Rd z x x')(hi:Rd z i i')(w:World):∃v',(Instr.indexAt t x' i').run P w= .ok v' w∧Rd z d v':=by
 unfold jE at hs;split at hs<;>cases hs
 rename_i r bK;unfold Jp at h;split at h
 ·rename_i row o k m;split at h<;>cases h
  rename_i aX;cases hi;cases hx with
  |ptr _ _ b o0 cells hz hs hh=>
   have hu:=(ok.ti t _ hr).1;refine⟨.pointer (some ⟨b,o0+(o+m*r.size),none⟩),?_,.ptr row (o+m*r.size) b o0 cells hz hs hh⟩;have h0:(0:Int)≤(m:Int)∧(m:Int)<(len:Int):=⟨by omega,by omega⟩;simp[Instr.indexAt,asIntOf,run_underlying hu,Instr.sureAddr,dD ok bK,Addr.add_lit,Nat.add_assoc,aX]
 ·cases h
include ok in
theorem bR2{s d:xN}{r:Row}{k j:xO}{n:Int}{a1 a2 a3 a4}(hs:E.ti.get none s=some r)(hd:E.ti.get none d=some ⟨.int k,a1,a2,a3,a4⟩)(w:World):(convert s d (.int j n)).run P w= .ok (.int k (k.wrap n)) w:=by
 have hv:AA E s d (.int j n)=some (.int k (gW k n)):=by simp only [AA,hs,hd]
 obtain⟨v',h1,h2⟩:=PQ (β:=jL (fun _=>none) 0 0) ok hv (.int _ _) w;cases h2;rw[←kQ];exact h1
include ok in
theorem bR1{s d:xN}{r:Row}{l:List UInt8}{a1 a2 a3 a4}(hs:E.ti.get none s=some r)(hd:E.ti.get none d=some ⟨.string,a1,a2,a3,a4⟩)(w:World):(convert s d (.string ⟨⟨l⟩⟩)).run P w= .ok (.string ⟨⟨l⟩⟩) w:=by
 have hv:AA E s d (.string ⟨⟨l⟩⟩)=some (.string ⟨⟨l⟩⟩):=by simp only [AA,hs,hd]
 obtain⟨v',h1,h2⟩:=PQ (β:=jL (fun _=>none) 0 0) ok hv (.string _) w;cases h2;exact h1
include ok in
theorem bs5{t ty:xN}{l:List UInt8}{a1 a2 a3 a4}(hr:E.ti.get none t=some ⟨.string,a1,a2,a3,a4⟩)(w:World):(Builtin.len_ #[t] ty #[.string ⟨⟨l⟩⟩]).run P w= .ok (.int .i64 l.length) w:=by
 have hu:=(ok.ti t _ hr).1;simp[Builtin.len_,run_underlying hu,goInt];rfl
include ok in
theorem bs6{t ty e:xN}{rows:List (List D)}{x':xM}{a1 a2 a3 a4}(hr:E.ti.get none t=some ⟨.slice e,a1,a2,a3,a4⟩)(hx:Rd z (.sl rows) x')(w:World):(Builtin.len_ #[t] ty #[x']).run P w= .ok (.int .i64 rows.length) w:=by
 have hu:=(ok.ti t _ hr).1;cases hx<;>simp[Builtin.len_,run_underlying hu,goInt]
theorem HF{len cap a b:Nat}{k:xO}{lo' hi':Option xM}{hb:Option Nat}(If:a≤b)(Ep:b≤len)(cF:len≤cap)(eZ:hb.getD len=b)(gI:lo'=some (.int k (.ofNat a))∨(lo'=none∧a=0))(fS:(hb=none∧hi'=none)∨∃k',hb=some b∧hi'=some (.int k' (.ofNat b)))(s:Bool)(w:World):
 ∃m',(Instr.sliceBounds s len cap lo' hi' none).run P w= .ok (a,b,m') w∧len≤m'∧m'≤cap:=by
 have hB:tC len len lo' hi' none=some (a,b,len):=by
  unfold tC;have e1:s8 hi' len len=some b:=by
   rcases fS with⟨h1,rfl⟩|⟨k',h1,rfl⟩
   ·rw[h1] at eZ;exact congrArg some eZ
   ·show bs (Nat.ble b len) (some b) none=some b;rw[Nat.ble_eq_true_of_le Ep];rfl
  have e2:s8 lo' 0 b=some a:=by
   rcases gI with rfl|⟨rfl,rfl⟩
   ·show bs (Nat.ble a b) (some a) none=some a;rw[Nat.ble_eq_true_of_le If];rfl
   ·rfl
  show(match s8 hi' len len with|none=>none|some h=>match s8 lo' 0 h with|none=>none|some l=>some (l,h,len))=_;rw[e1];show(match s8 lo' 0 b with|none=>none|some l=>some (l,b,len))=_;rw[e2]
 have rl:l6 (jL (fun _=>none) 0 0) lo' lo':=by rcases gI with rfl|⟨rfl,_⟩;exact .int _ _;trivial
 have rh:l6 (jL (fun _=>none) 0 0) hi' hi':=by rcases fS with⟨_,rfl⟩|⟨_,_,rfl⟩;trivial;exact .int _ _
 obtain⟨⟨m',h1,h2,h3,_⟩,_⟩:=rE (P:=P) hB rl rh (show l6 (jL (fun _=>none) 0 0) none none from trivial) (xk _) cF (fun h=>by cases h) s w;exact⟨m',h1,h2,h3⟩
include ok in
theorem Ys{t e:xN}{a1 a2 a3 a4}{n:Nat}{x d:D}{x':xM}{a b:Nat}{hb:Option Nat}{k:xO}{lo' hi':Option xM}(hr:E.ti.get none t=some ⟨.slice e,a1,a2,a3,a4⟩)(hs:jE E e=some n)(h:zY n x (some a) hb=some d)(hx:Rd z x x')
 (gI:lo'=some (.int k (.ofNat a))∨(lo'=none∧a=0)) (fS:(hb=none∧hi'=none)∨∃k',hb=some b∧hi'=some (.int k' (.ofNat b))) (w:World):∃v',(Instr.sliceAt t x' lo' hi' none).run P w= .ok v' w∧Rd z d v':=by
 unfold jE at hs;split at hs<;>cases hs
 rename_i r bK;have hu:=(ok.ti t _ hr).1;unfold zY at h;split at h
 ·rename_i rows a0 e0;cases e0;split at h<;>cases h
  rename_i aR;have AU:(hb=none∧hi'=none)∨∃k',hb=some (hb.getD rows.length)∧hi'=some (.int k' (.ofNat (hb.getD rows.length))):=by
   rcases fS with h|⟨k',rfl,h⟩
   ·exact .inl h
   ·exact .inr ⟨k',rfl,h⟩
  generalize H9:hb.getD rows.length=b2 at*;cases hx with
  |qV=>
   obtain rfl:b2=0:=by simpa using aR.2.1
   obtain rfl:a=0:=by omega
   obtain⟨m',aM,_,hm⟩:=HF (P:=P) (len:=0) (cap:=0) (a:=0) (b:=0) (xk _) (xk _) (xk _) H9 gI AU true w;obtain rfl:m'=0:=by omega
   exact⟨.slice none 0 0,by simp[Instr.sliceAt,run_underlying hu,Instr.slice,aM,dD ok bK],.qV⟩
  |mL ad c=>
   obtain rfl:b2=0:=by simpa using aR.2.1
   obtain rfl:a=0:=by omega
   obtain⟨m',aM,_,hm⟩:=HF (P:=P) (len:=0) (cap:=c) (a:=0) (b:=0) (xk _) (xk _) (xL _) H9 gI AU true w;exact⟨.slice (some ad) 0 m',by simp[Instr.sliceAt,run_underlying hu,Instr.slice,aM,dD ok bK,Addr.add],.mL _ _⟩
  |sl _ es bb o c cells hz bq cb hc aU hh=>
   obtain⟨m',aM,pT,eK⟩:=HF (P:=P) (len:=rows.length) (cap:=c) (a:=a) (b:=b2) aR.1 aR.2.1 hc H9 gI AU true w;have aF:((rows.drop a).take (b2 - a)).length=b2 - a:=by rw[xz,List.length_drop];omega
   have eC:∀cap',b2 - a≤cap'→o+a*es+cap'*es≤cells.size→Rd z (.sl ((rows.drop a).take (b2 - a))) (.slice (some ⟨bb,o+a*es,none⟩) (b2 - a) cap'):=fun cap' h1 h2=>by
    by_cases he:(rows.drop a).take (b2 - a)=[]
    ·rw[he] at aF⊢;rw[←aF];exact .mL _ _
    ·have:=Rd.sl (z:=z) ((rows.drop a).take (b2 - a)) es bb (o+a*es) cap' cells hz he (fun row fI=>cb row (List.mem_of_mem_drop (List.mem_of_mem_take fI))) (by rw[aF];exact h1) h2 (fun i row j d v e1 e2 e3=>by
      rw[List.getElem?_take] at e1;split at e1
      ·rw[List.getElem?_drop] at e1;refine hh (a+i) row j d v e1 e2 ?_;rw[←e3,Nat.add_mul]
       congr 1
       omega
      ·cases e1)
     rw[aF] at this;exact this
   have pL:∀m,m≤c→a≤m→o+a*es+(m - a)*es≤cells.size:=fun m h1 h2=>by
    have h3:a*es+(m - a)*es=m*es:=by rw[←Nat.add_mul];congr 1;omega
    have h4:m*es≤c*es:=xD _ h1;omega
   by_cases ha0:a=0
   ·subst ha0;have:=eC m' (by omega) (by have:=pL m' eK (xL _);simpa using this);simp only [Nat.zero_mul,Nat.add_zero,Nat.sub_zero] at this;exact⟨.slice (some ⟨bb,o,none⟩) b2 m',by simp[Instr.sliceAt,run_underlying hu,Instr.slice,aM,dD ok bK,Addr.add],this⟩
   ·by_cases ham:m'=a
    ·have hba:b2=a:=by omega
     subst hba;subst ham;have he:(rows.drop m').take (m' - m')=[]:=by simp
     refine⟨.slice (some ⟨bb,o,none⟩) 0 0,by simp[Instr.sliceAt,run_underlying hu,Instr.slice,aM,dD ok bK],?_⟩;rw[he];exact .mL _ _
    ·have qK:es=r.size:=by
      have hf:=aR.2.2.resolve_left ha0;unfold EV at hf;split at hf
      ·exact absurd rfl bq
      ·rw[←cb _ xn];exact of_decide_eq_true hf
     subst qK;exact⟨.slice (some ⟨bb,o+a*r.size,none⟩) (b2 - a) (m' - a),by simp[Instr.sliceAt,run_underlying hu,Instr.slice,aM,dD ok bK,Addr.add_lit,ham],eC _ (by omega) (pL m' eK (by omega))⟩
 ·cases h
include ok in
theorem bq0{t:xN}{a1 a2 a3 a4}{x d:D}{x':xM}{a b:Nat}{hb:Option Nat}{k:xO}{lo' hi':Option xM}(hr:E.ti.get none t=some ⟨.string,a1,a2,a3,a4⟩)(h:E' x (some a) hb=some d)(hx:Rd z x x')
 (gI:lo'=some (.int k (.ofNat a))∨(lo'=none∧a=0)) (fS:(hb=none∧hi'=none)∨∃k',hb=some b∧hi'=some (.int k' (.ofNat b))) (w:World):∃v',(Instr.sliceAt t x' lo' hi' none).run P w= .ok v' w∧Rd z d v':=by
 have hu:=(ok.ti t _ hr).1;unfold E' at h;split at h
 ·rename_i l a0 e0;cases e0;split at h<;>cases h
  rename_i aR;have AU:(hb=none∧hi'=none)∨∃k',hb=some (hb.getD l.length)∧hi'=some (.int k' (.ofNat (hb.getD l.length))):=by
   rcases fS with h|⟨k',rfl,h⟩
   ·exact .inl h
   ·exact .inr ⟨k',rfl,h⟩
  generalize H9:hb.getD l.length=b2 at*;cases hx;obtain⟨m',aM,_⟩:=HF (P:=P) (len:=l.length) (cap:=l.length) (a:=a) (b:=b2) aR.1 aR.2 (xk _) H9 gI AU false w;refine⟨_,?_,.str _⟩;have aU:(⟨⟨l⟩⟩:ByteArray).size=l.length:=rfl;simp[Instr.sliceAt,run_underlying hu,Instr.slice,aU,aM,VC]
 ·cases h
end
theorem kw{g:xM→Option D}{x:xM}{l:List xM}{ds:List D}(h:aW g (x::l)=some ds):∃d r,ds=d::r∧g x=some d∧aW g l=some r:=by
 unfold aW at h;split at h
 ·rename_i d r h1 h2;cases h;exact⟨d,r,rfl,h1,h2⟩
 ·cases h
theorem W5{g:xM→Option D}{ds:List D}(h:aW g []=some ds):ds=[]:=by cases h;rfl
theorem mU{g:xM→Option D}{x:xM}{ds:List D}(h:aW g [x]=some ds):∃d,ds=[d]∧g x=some d:=by
 obtain⟨d,r,rfl,h1,h2⟩:=kw h;rw[W5 h2];exact⟨d,rfl,h1⟩
theorem nX{g:xM→Option D}{x y:xM}{ds:List D}(h:aW g [x,y]=some ds):∃d e,ds=[d,e]∧g x=some d∧g y=some e:=by
 obtain⟨d,r,rfl,h1,h2⟩:=kw h;obtain⟨e,rfl,h3⟩:=mU h2;exact⟨d,e,rfl,h1,h3⟩
theorem Wn{d:D}{a:Nat}(h:r8 d=some a):∃k,d= .int k (.ofNat a):=by
 unfold r8 at h;split at h
 ·cases h;exact⟨_,rfl⟩
 ·cases h
theorem PT{E:av}{β:ah}{wI:Act}{g:Gt}(E1:∀x d,bT β.d (ev E g x)=some d→Rd β.z d (wI.eval x)){u:xM}{lo hi:Option Operand}{f:D→Option Nat→Option Nat→Option D}(hf:∀x b,f x none b=none){ds:List D}{d:D}
 (h1:aW (bT β.d) (u::qW E g lo::sQ E g hi)=some ds) (h2:DZ f ds=some d):
 ∃dx al hb k b,bT β.d u=some dx∧f dx (some al) hb=some d∧(lo.map wI.eval=some (.int k (.ofNat al))∨(lo.map wI.eval=none∧al=0))∧((hb=none∧hi.map wI.eval=none)∨∃k',hb=some b∧hi.map wI.eval=some (.int k' (.ofNat b))):=by
 obtain⟨dx,r1,rfl,e1,h1⟩:=kw h1;obtain⟨dl,r2,rfl,e2,h1⟩:=kw h1;have gI:∀al,r8 dl=some al→∃k,lo.map wI.eval=some (.int k (.ofNat al))∨(lo.map wI.eval=none∧al=0):=fun al bm=>by
  obtain⟨k,rfl⟩:=Wn bm;cases lo with
  |none=>
   have e2:some (D.int .i64 (.ofNat 0))=some (D.int k (.ofNat al)):=e2;cases e2;exact⟨.i64,.inr ⟨rfl,rfl⟩⟩
  |some y=>
   have:=E1 y _ e2;generalize hg:wI.eval y=yv at this;cases this;exact⟨k,.inl (congrArg some hg)⟩
 cases hi with
 |none=>
  have:r2=[]:=W5 h1;subst this;have h2:f dx (r8 dl) none=some d:=h2;cases bm:r8 dl with
  |none=>rw[bm,hf] at h2;cases h2
  |some al=>
   rw[bm] at h2;obtain⟨k,hk⟩:=gI al bm;exact⟨dx,al,none,k,0,e1,h2,hk,.inl ⟨rfl,rfl⟩⟩
 |some y=>
  obtain⟨db,rfl,e3⟩:=mU h1;have h2:((r8 db).bind fun b=>f dx (r8 dl) (some b))=some d:=h2;obtain⟨b,hb,h4⟩:=xr.1 h2;clear h2;obtain⟨k',rfl⟩:=Wn hb;cases bm:r8 dl with
  |none=>rw[bm,hf] at h4;cases h4
  |some al=>
   rw[bm] at h4;obtain⟨k,hk⟩:=gI al bm;have:=E1 y _ e3;generalize hg:wI.eval y=yv at this;cases this;exact⟨dx,al,some b,k,b,e1,h4,hk,.inr ⟨k',rfl,congrArg some hg⟩⟩
section
variable{P:Program}{E:av}(ok:E.Ok P){sq:List (Nat×List xO)}(aY:E.Seq P sq){w0 w:World}{β:ah}{A:AW}(inv:Inv w0 E.G β A w)
include ok aY inv
omit ok aY inv in
theorem XS{k:xO}{z:Nat→Option (Array xM)}{d:D}:∀{l:List D} {l':List xM} {x:Int},Ka k l x=some d→l.length=l'.length→(∀(i:Nat) (d:D) (v:xM),l[i]? =some d→l'[i]? =some v→Rd z d v)→∃n,d= .int k n∧(l'.foldlM Builtin.max2 (.int k x)).run P w= .ok (.int k n) w
 |[],l',x,h,hl,hr=>by
  have:l'=[]:=xA hl.symm;subst this;cases h;exact⟨x,rfl,rfl⟩
 |y::r,[],x,h,hl,hr=>by cases hl
 |y::r,y'::r',x,h,hl,hr=>by
  have vT:∃k2 n,y= .int k2 n∧Ka k r (if x<n then n else x)=some d:=by
   cases y<;>first|(cases h;done)|exact⟨_,_,rfl,h⟩
  obtain⟨k2,n,rfl,h2⟩:=vT;have hy:=hr 0 _ y' rfl rfl;cases hy;obtain⟨m,e1,e2⟩:=XS h2 (by simpa using hl) (fun i d v a b=>hr (i+1) d v (by simpa using a) (by simpa using b));refine⟨m,e1,?_⟩;rw[List.foldlM_cons];have h1:Builtin.max2 (.int k x) (.int k2 n)=(pure (.int k (if x<n then n else x)):Sem xM):=by
   unfold Builtin.max2;by_cases aX:x<n<;>simp[aX]
  rw[h1];simpa using e2
omit ok aY inv in
theorem XQ{k:xO}{z:Nat→Option (Array xM)}{d:D}:∀{l:List D} {l':List xM} {x:Int},J' k l x=some d→l.length=l'.length→(∀(i:Nat) (d:D) (v:xM),l[i]? =some d→l'[i]? =some v→Rd z d v)→∃n,d= .int k n∧(l'.foldlM Builtin.min2 (.int k x)).run P w= .ok (.int k n) w
 |[],l',x,h,hl,hr=>by
  have:l'=[]:=xA hl.symm;subst this;cases h;exact⟨x,rfl,rfl⟩
 |y::r,[],x,h,hl,hr=>by cases hl
 |y::r,y'::r',x,h,hl,hr=>by
  have vT:∃k2 n,y= .int k2 n∧J' k r (if n<x then n else x)=some d:=by
   cases y<;>first|(cases h;done)|exact⟨_,_,rfl,h⟩
  obtain⟨k2,n,rfl,h2⟩:=vT;have hy:=hr 0 _ y' rfl rfl;cases hy;obtain⟨m,e1,e2⟩:=XQ h2 (by simpa using hl) (fun i d v a b=>hr (i+1) d v (by simpa using a) (by simpa using b));refine⟨m,e1,?_⟩;rw[List.foldlM_cons];have h1:Builtin.min2 (.int k x) (.int k2 n)=(pure (.int k (if n<x then n else x)):Sem xM):=by
   unfold Builtin.min2;by_cases aX:n<x<;>simp[aX]
  rw[h1];simpa using e2
theorem bp4{n:Nat}{g:Gt}{a:Act}(hf:bX β n g a.tmps){o:Oper}{nd:Node}{v:xM}(h:yk E sq g o.op nd=some v)(hq:dw β.d nd):∃v',(execOp a.eval o).run P w= .ok (.value v') w∧ai β v v':=by
 obtain⟨rfl,hk⟩:=aX5 h;have bc:vd β.z w:=inv.bH;have E1:=fun(x:Operand) (d:D) (hd:bT β.d (ev E g x)=some d)=>gL hd (ky (a:=a) inv hf x)
 obtain⟨dst,op,type,uj,after,guard⟩:=o;obtain⟨nk,J9,AM⟩:=nd;have fin:∀{s:Sem xM} {d:D} {v':xM},s.run P w= .ok v' w→ji β.d AM=some d→Rd β.z d v'→(∃HB,(do pure (Next.value (←s)):Sem Next).run P w= .ok (.value HB) w∧ai β AM HB):=fun{s d v'} h1 h2 h3=>⟨v',by simp[h1],wY h2 h3⟩
 unfold keyOf at hk;simp only at hk hq⊢;split at hk
 ·
  rename_i BG t x y ty;split at hk
  ·rename_i ks gJ;split at hk<;>cases hk
   ·obtain⟨ds,d,h1,h2,h3⟩:=hq;obtain⟨da,db,rfl,e1,e2⟩:=nX h1;have h3:FA ks false da db=some d:=h3;unfold FA at h3;split at h3
    ·obtain⟨r,hr,rfl⟩:=xp.1 h3;exact fin (YZ ok aY (neg:=false) gJ hr (E1 x _ e1) (E1 y _ e2) x y w) h2 (.bool _)
    ·cases h3
   ·obtain⟨ds,d,h1,h2,h3⟩:=hq;obtain⟨da,db,rfl,e1,e2⟩:=nX h1;have h3:FA ks true da db=some d:=h3;unfold FA at h3;split at h3
    ·obtain⟨r,hr,rfl⟩:=xp.1 h3;exact fin (YZ ok aY (neg:=true) gJ hr (E1 x _ e1) (E1 y _ e2) x y w) h2 (.bool _)
    ·cases h3
  ·cases hk;obtain⟨ds,d,h1,h2,h3⟩:=hq;obtain⟨da,db,rfl,e1,e2⟩:=nX h1;obtain⟨v',r1,r2⟩:=bT9 ok aY (show JP BG (BE E t) da db=some d from h3) (E1 x _ e1) (E1 y _ e2) x y w;exact fin r1 h2 r2
 ·
  rename_i MX t x;cases hk;obtain⟨ds,d,h1,h2,h3⟩:=hq;obtain⟨da,rfl,e1⟩:=mU h1;obtain⟨v',r1,r2⟩:=bV2 (P:=P) (show LD MX da=some d from h3) (E1 x _ e1) w;exact fin r1 h2 r2
 ·
  rename_i s d0 x;split at hk<;>cases hk
  ·rename_i hs hd;obtain⟨ds,d,h1,h2,h3⟩:=hq;obtain⟨da,rfl,e1⟩:=mU h1;have h3:Qp _ da=some d:=h3;have hx:=E1 x _ e1;unfold Qp at h3;split at h3<;>cases h3
   generalize hg:a.eval x=xv at hx;cases hx;exact fin (by rw[hg];exact bR2 ok hs hd w) h2 (.int _ _)
  ·rename_i hs hd;obtain⟨ds,d,h1,h2,h3⟩:=hq;obtain⟨da,rfl,e1⟩:=mU h1;have h3:FB da=some d:=h3;have hx:=E1 x _ e1;unfold FB at h3;split at h3<;>cases h3
   generalize hg:a.eval x=xv at hx;cases hx;exact fin (by rw[hg];exact bR1 ok hs hd w) h2 (.str _)
 ·
  rename_i x t;split at hk<;>cases hk
  ·rename_i hr;obtain⟨ds,d,h1,h2,h3⟩:=hq;obtain⟨da,rfl,e1⟩:=mU h1;have h3:PL da=some d:=h3;have hx:=E1 x _ e1;unfold PL at h3;split at h3<;>cases h3
   generalize hg:a.eval x=xv at hx;cases hx;have:=fin (bs5 (P:=P) (ty:=type) ok hr w) h2 (.int _ _);simpa[execOp,resolve,invoke,builtin,hg] using this
  ·rename_i hr;obtain⟨ds,d,h1,h2,h3⟩:=hq;obtain⟨da,rfl,e1⟩:=mU h1;have h3:Fa da=some d:=h3;have hx:=E1 x _ e1;unfold Fa at h3;split at h3<;>cases h3
   have:=fin (bs6 (P:=P) (ty:=type) ok hr hx w) h2 (.int _ _);simpa[execOp,resolve,invoke,builtin] using this
 ·
  rename_i l _;cases hk;obtain⟨ds,d,h1,h2,h3⟩:=hq;have h3:RY ds=some d:=h3;rw[kV] at h1;have eC:∀(i:Nat) (d:D) (v:xM),ds[i]? =some d→(l.map a.eval)[i]? =some v→Rd β.z d v:=fun i d v e1 e2=>by
   rw[xx] at e2;obtain⟨x,hx,rfl⟩:=xp.1 e2;exact E1 x d (jZ h1 e1 (by rw[xx,hx];rfl))
  have aF:ds.length=(l.map a.eval).length:=by rw[kT h1,xm,xm]
  unfold RY at h3;split at h3
  ·rename_i k x r _;generalize dW:l.map a.eval=l' at eC aF
   match l',aF with
   |[],aF=>cases aF
   |y'::r',aF=>
    have hy:=eC 0 _ y' rfl rfl;cases hy;obtain⟨m,e1,e2⟩:=XS (P:=P) (w:=w) h3 (by simpa using aF) (fun i d v a b=>eC (i+1) d v (by simpa using a) (by simpa using b));subst e1;have:=fun ts:Array xN=>fin (s:=Builtin.max_ ts type ⟨.int k x::r'⟩) (by show(r'.foldlM Builtin.max2 (.int k x)).run P w=_;exact e2) h2 (.int _ _)
    simpa[execOp,resolve,invoke,builtin,dW] using this _
  ·cases h3
 ·
  rename_i l _;cases hk;obtain⟨ds,d,h1,h2,h3⟩:=hq;have h3:RZ ds=some d:=h3;rw[kV] at h1;have eC:∀(i:Nat) (d:D) (v:xM),ds[i]? =some d→(l.map a.eval)[i]? =some v→Rd β.z d v:=fun i d v e1 e2=>by
   rw[xx] at e2;obtain⟨x,hx,rfl⟩:=xp.1 e2;exact E1 x d (jZ h1 e1 (by rw[xx,hx];rfl))
  have aF:ds.length=(l.map a.eval).length:=by rw[kT h1,xm,xm]
  unfold RZ at h3;split at h3
  ·rename_i k x r _;generalize dW:l.map a.eval=l' at eC aF
   match l',aF with
   |[],aF=>cases aF
   |y'::r',aF=>
    have hy:=eC 0 _ y' rfl rfl;cases hy;obtain⟨m,e1,e2⟩:=XQ (P:=P) (w:=w) h3 (by simpa using aF) (fun i d v a b=>eC (i+1) d v (by simpa using a) (by simpa using b));subst e1;have:=fun ts:Array xN=>fin (s:=Builtin.min_ ts type ⟨.int k x::r'⟩) (by show(r'.foldlM Builtin.min2 (.int k x)).run P w=_;exact e2) h2 (.int _ _)
    simpa[execOp,resolve,invoke,builtin,dW] using this _
  ·cases h3
 ·
  rename_i t x i;split at hk<;>cases hk
  rename_i hr;obtain⟨ds,d,h1,h2,h3⟩:=hq;obtain⟨da,db,rfl,e1,e2⟩:=nX h1;obtain⟨v',r1,r2⟩:=bt4 ok hr (show Jo da db=some d from h3) (E1 x _ e1) (E1 i _ e2) w;exact fin r1 h2 r2
 ·
  rename_i t x lo hi;split at hk
  ·rename_i hr;cases hk;obtain⟨ds,d,h1,h2,h3⟩:=hq;have h3:DZ E' ds=some d:=h3;obtain⟨dx,al,hb,k,b,e1,e2,e3,e4⟩:=PT E1 (fun x b=>by unfold E';split<;>first|rfl|(rename_i e;cases e)) h1 h3;obtain⟨v',r1,r2⟩:=bq0 ok hr e2 (E1 x _ e1) e3 e4 w;exact fin r1 h2 r2
  ·rename_i hr;split at hk<;>cases hk
   rename_i hs;obtain⟨ds,d,h1,h2,h3⟩:=hq;have h3:DZ (zY _) ds=some d:=h3;obtain⟨dx,al,hb,k,b,e1,e2,e3,e4⟩:=PT E1 (fun x b=>by unfold zY;split<;>first|rfl|(rename_i e;cases e)) h1 h3;obtain⟨v',r1,r2⟩:=Ys ok hr hs e2 (E1 x _ e1) e3 e4 w;exact fin r1 h2 r2
  ·cases hk
 ·
  rename_i t x i;split at hk
  ·rename_i hr;split at hk<;>cases hk
   rename_i hs;obtain⟨ds,d,h1,h2,h3⟩:=hq;obtain⟨da,db,rfl,e1,e2⟩:=nX h1;obtain⟨v',r1,r2⟩:=bt6 ok hr hs (show Jq _ da db=some d from h3) (E1 x _ e1) (E1 i _ e2) w;exact fin r1 h2 r2
  ·rename_i hr;split at hk<;>cases hk
   rename_i hs;obtain⟨ds,d,h1,h2,h3⟩:=hq;obtain⟨da,db,rfl,e1,e2⟩:=nX h1;obtain⟨v',r1,r2⟩:=bt5 ok hr hs (show Jp _ _ da db=some d from h3) (E1 x _ e1) (E1 i _ e2) w;exact fin r1 h2 r2
  ·cases hk
 ·
  rename_i t x f;split at hk
  ·rename_i hr;split at hk
   ·rename_i fd lN;rw[eL] at lN;split at hk
    ·rename_i r bK;replace hk:=aB hk;rcases hk with⟨_,hk⟩|⟨hz,hk⟩<;>cases hk
     obtain⟨ds,d,h1,h2,h3⟩:=hq;obtain⟨da,rfl,e1⟩:=mU h1;have h3:Qo _ da=some d:=h3;have hx:=E1 x _ e1;unfold Qo at h3;split at h3<;>cases h3
     obtain⟨v',r1,r2⟩:=bu2 (P:=P) ok hr lN bK hz hx w;exact fin r1 h2 r2
    ·cases hk
   ·cases hk
  ·cases hk
 ·
  rename_i t x;split at hk
  ·rename_i r hr;replace hk:=aB hk;rcases hk with⟨hd,hk⟩|⟨hd,hk⟩<;>cases hk
   ·obtain⟨ds,d,h1,h2,h3⟩:=hq;obtain⟨da,rfl,e1⟩:=mU h1;obtain⟨v',r1,r2⟩:=bD5 (P:=P) ok bc hr hd (show JO r.size da=some d from h3) (E1 x _ e1);exact fin r1 h2 r2
   ·obtain⟨ds,d,h1,h2,h3⟩:=hq;obtain⟨da,rfl,e1⟩:=mU h1;obtain⟨v',r1,r2⟩:=cl4 (P:=P) ok bc hr hd (show LF da=some d from h3) (E1 x _ e1);exact fin r1 h2 r2
  ·cases hk
 ·
  rename_i x;cases hk;obtain⟨ds,d,h1,h2,h3⟩:=hq;obtain⟨da,rfl,e1⟩:=mU h1;have h3:Qn da=some d:=h3;have hx:=E1 x _ e1;unfold Qn at h3;split at h3<;>cases h3
  ·generalize hg:a.eval x=xv at hx;refine⟨xv,?_,wY h2 hx⟩;cases hx;simp[execOp,hg]
  ·generalize hg:a.eval x=xv at hx;refine⟨xv,?_,wY h2 hx⟩;cases hx;simp[execOp,hg]
 ·cases hk
end
def iH(v:xM):Bool:=match v with| .chan (some (_+1))=>true|_=>false
def Ss(B:Nat)(iv:xM)(es off:Nat):xM:= .iface B (.agg ⟨[iv,.int .i64 (.ofNat es),.int .i64 (.ofNat off)]⟩)
def yP(E:av)(A:AW)(g:Gt)(op:Op):Option (NK×List xM×Option xM):=
 match op with
 | .call ⟨.builtin .len,⟨[x]⟩,⟨[t]⟩⟩=>match ev E g x,E.ti.get none t with
  | .iface _ (.chan (some (c+1))),some ⟨.slice _,_,_,_,_⟩=>some (.n8,[.chan (some (c+1))],none)
  | .map (some B),some ⟨.map _ _,_,_,_,_⟩=>match A.get B with
   |some ⟨.maps c,_,_,_,_⟩=>some (.n8,[c],none)
   |_=>none
  |_,_=>none
 | .indexAddr t x i=>match E.ti.get none t with
  |some ⟨.slice e,_,_,_,_⟩=>match jE E e,ev E g x with
   |some es,.iface B (.chan (some (c+1)))=>some (.jF,[.chan (some (c+1)),ev E g i],some (Ss B (ev E g i) es 0))
   |some es,.slice (some ⟨B,o,none⟩) n _=>bs (iH (ev E g i)) (some (.jF,[.int .i64 (.ofNat n),ev E g i],some (Ss B (ev E g i) es o))) none
   |_,_=>none
  |some ⟨.array len e,_,_,_,_⟩=>match jE E e,ev E g x with
   |some es,.pointer (some ⟨B,o,none⟩)=>bs (iH (ev E g i)) (some (.jF,[.int .i64 (.ofNat len),ev E g i],some (Ss B (ev E g i) es o))) none
   |_,_=>none
  |_=>none
 | .load t x=>match ev E g x,E.ti.get none t with
  | .iface B (.agg ⟨[iv,.int .i64 (.ofNat es),.int .i64 (.ofNat off)]⟩),some r=>match A.get B with
   |some ⟨.own c,aD,_,_,_⟩=>bs (Nat.beq es aD) (some (.eM off r.size (lU r.desc),[c,iv],none)) none
   |some ⟨.cells cs,_,_,_,_⟩=>some (.fR es off r.size (lU r.desc),iv::cs,none)
   |_=>none
  |_,_=>none
 | .convert s d x=>match E.ti.get none s,E.ti.get none d,ev E g x with
  |some ⟨.slice e,_,_,_,_⟩,some ⟨.string,_,_,_,_⟩,.slice (some ⟨B,o,none⟩) n _=>match E.ti.get none e,iP A B with
   |some ⟨.int .u8,_,_,_,_⟩,some cs=>match mY n (oO o cs) with
    |some l=>bs (Nat.beq B rZ) none (some (.strOf,l,none))
    |none=>none
   |_,_=>none
  |_,_,_=>none
 |_=>none
def n5(E:av)(sq:List (Nat×List xO))(A:AW)(g:Gt)(op:Op)(nd:Node):Option xM:=
 match yP E A g op with
 |some (k,args,u)=>bs (vL k nd.k) (bs (Df args nd.args) (match u with|none=>some nd.res|some u=>bs (pC nd.res (.bool true)) (some u) none) none) none
 |none=>yk E sq g op nd
theorem bb2{E:av}{sq:List (Nat×List xO)}{A:AW}{g:Gt}{op:Op}{nd:Node}{v:xM}(h:n5 E sq A g op nd=some v):
 (yk E sq g op nd=some v)∨(yP E A g op=some (nd.k,nd.args,none)∧v=nd.res)∨(yP E A g op=some (nd.k,nd.args,some v)∧nd.res= .bool true):=by
 unfold n5 at h;split at h
 ·rename_i k args u hk;rcases aB h with⟨h1,h⟩|⟨_,h⟩
  ·rcases aB h with⟨h2,h⟩|⟨_,h⟩
   ·rw[←B9 h1,←I9 _ _ h2];cases u with
    |none=>cases h;exact .inr (.inl ⟨hk,rfl⟩)
    |some u=>
     rcases aB h with⟨h3,h⟩|⟨_,h⟩<;>cases h
     exact .inr (.inr ⟨hk,uS h3⟩)
   ·cases h
  ·cases h
 ·exact .inl h
section
variable{P:Program}{E:av}(ok:E.Ok P){sq:List (Nat×List xO)}(aY:E.Seq P sq){w0 w:World}{β:ah}{A:AW}(inv:Inv w0 E.G β A w)
include ok in
theorem VX{t:xN}{r:Row}(hr:E.ti.get none t=some r){z:Nat→Option (Array xM)}{lb d0:Nat}{aE:Array xM}{e:xN}{fz:Nat×Nat}(hh:w.heap[lb]? =some (.cells aE e fz)){row:List D}(C0:∀(j:Nat) (d:D),row[j]? =some d→∃v,aE[d0+j]? =some v∧Rd z d v)
 {off:Nat} {d:D} (h:u3 row off r.size (lU r.desc)=some d):∃v',(Instr.loadAt t (.pointer (some ⟨lb,d0+off,none⟩))).run P w= .ok v' w∧Rd z d v':=by
 have zt:=EK (P:=P) ok hr;unfold u3 at h;split at h
 ·rename_i aR;split at h
  ·rename_i hd;cases h;have key:∀j,j<r.size→∃v,aE[d0+off+j]? =some v∧∃d,row[off+j]? =some d∧Rd z d v:=fun j hj=>by
    have fG:off+j<row.length:=by omega
    obtain⟨v,h1,h2⟩:=C0 (off+j) _ (xc fG);exact⟨v,by rw[Nat.add_assoc];exact h1,_,xc fG,h2⟩
   let vs:=(List.range r.size).map fun j=>aE.getD (d0+off+j) undef
   have iK:∀j,j<r.size→vs[j]? =some (aE.getD (d0+off+j) undef):=fun j hj=>by
    show((List.range r.size).map _)[j]? =_;rw[xx,List.getElem?_range hj];rfl
   have hl:(loadCells ⟨lb,d0+off,none⟩ r.size).run P w= .ok vs.toArray w:=by
    have aF:vs.length=r.size:=by simp[vs]
    rw[←aF];refine run_loadCells_list (P:=P) w ⟨lb,d0+off,none⟩ vs fun j v hv=> ?_
    have hj:j<r.size:=by rw[←aF];exact(xe.1 hv).1
    rw[iK j hj] at hv;cases hv;obtain⟨v,h1,_⟩:=key j hj;rw[Addr.add_mid,cell_of_row w lb _ aE e fz hh,h1];have:aE.getD (d0+off+j) undef=v:=by rw[Array.getD_eq_getD_getElem?,h1];rfl
    rw[this]
   refine⟨.agg vs.toArray,by simp[Instr.loadAt,Instr.sureAddr,loadVar,zt,hd,dD ok hr,hl],?_⟩;refine .agg _ vs (by simp[vs];omega) fun j d v e1 e2=> ?_
   have hj:j<r.size:=by have:=(xe.1 e2).1;simpa[vs] using this
   rw[iK j hj] at e2;cases e2;obtain⟨v,h1,d2,h2,h3⟩:=key j hj;rw[List.getElem?_take,if_pos hj,List.getElem?_drop,h2] at e1;cases e1;have:aE.getD (d0+off+j) undef=v:=by rw[Array.getD_eq_getD_getElem?,h1];rfl
   rw[this];exact h3
  ·rename_i hd;obtain⟨d2,h1,h⟩:=xr.1 h;split at h<;>cases h
   obtain⟨v,h2,h3⟩:=C0 off _ h1;refine⟨v,?_,h3⟩;have gd:w.cell? ⟨lb,d0+off,none⟩=some v:=by rw[cell_of_row w lb _ aE e fz hh];exact h2
   simp[Instr.loadAt,Instr.sureAddr,loadVar,zt,hd,load,Sem.run,gd]
 ·cases h
include ok in
theorem VI{t e:xN}{a1 a2 a3 a4}{es:Nat}(hr:E.ti.get none t=some ⟨.slice e,a1,a2,a3,a4⟩)(hs:jE E e=some es){lb ld n cap m:Nat}(hm:m<n)(k:xO)(w:World):
 (Instr.indexAt t (.slice (some ⟨lb,ld,none⟩) n cap) (.int k (m:Nat))).run P w= .ok (.pointer (some ⟨lb,ld+m*es,none⟩)) w:=by
 unfold jE at hs;split at hs<;>cases hs
 rename_i r bK;have hu:=(ok.ti t _ hr).1;simp[Instr.indexAt,asIntOf,run_underlying hu,dD ok bK,Addr.add_lit,Nat.add_assoc,hm]
include ok in
theorem aV9{t e:xN}{a1 a2 a3 a4}{len es:Nat}(hr:E.ti.get none t=some ⟨.array len e,a1,a2,a3,a4⟩)(hs:jE E e=some es){lb ld m:Nat}(hm:m<len)(k:xO)(w:World):
 (Instr.indexAt t (.pointer (some ⟨lb,ld,none⟩)) (.int k (m:Nat))).run P w= .ok (.pointer (some ⟨lb,ld+m*es,none⟩)) w:=by
 unfold jE at hs;split at hs<;>cases hs
 rename_i r bK;have hu:=(ok.ti t _ hr).1;have h0:(0:Int)≤(m:Int)∧(m:Int)<(len:Int):=⟨by omega,by omega⟩;simp[Instr.indexAt,asIntOf,run_underlying hu,Instr.sureAddr,dD ok bK,Addr.add_lit,Nat.add_assoc,hm]
theorem bm0{rows:List (List D)}{di:D}(h:GV (.sl rows) di=some (.bool true)):∃(k:xO) (m:Nat),di= .int k (.ofNat m)∧m<rows.length:=by
 unfold GV at h;split at h
 ·rename_i e;cases e
 ·rename_i CM k m e;cases e;exact⟨k,m,rfl,by simpa using h⟩
 ·cases h
theorem OK{k0:xO}{n:Nat}{di:D}(h:GV (.int k0 (.ofNat n)) di=some (.bool true)):∃(k:xO) (m:Nat),di= .int k (.ofNat m)∧m<n:=by
 unfold GV at h;split at h
 ·rename_i k2 n2 k m e;cases e;exact⟨k,m,rfl,by simpa using h⟩
 ·rename_i e;cases e
 ·cases h
theorem Ov:∀{ds:List D} {l:List UInt8},vc ds=some l→ds.length=l.length∧∀(j:Nat) (b:UInt8),l[j]? =some b→ds[j]? =some (.int .u8 (b.toNat:Nat))
 |[],l,h=>by cases h;exact⟨rfl,fun j b h=>by simp at h⟩
 |d::ds,l,h=>by
  unfold vc at h;split at h
  ·rename_i e;cases e
  ·rename_i n l2 e;cases e;split at h
   ·rename_i hn;obtain⟨r,hr,rfl⟩:=xp.1 h;obtain⟨h1,h2⟩:=Ov hr;refine⟨by simp[h1],fun j b hb=> ?_⟩;cases j with
    |zero=>simp at hb;subst hb;simp[Nat.mod_eq_of_lt hn]
    |succ j=>simp at hb;simpa using h2 j b hb
   ·cases h
  ·cases h
include ok aY inv
theorem Yo{n:Nat}{g:Gt}{a:Act}(hf:bX β n g a.tmps){o:Oper}{nd:Node}{v:xM}(h:n5 E sq A g o.op nd=some v)(hq:dw β.d nd):∃v',(execOp a.eval o).run P w= .ok (.value v') w∧ai β v v':=by
 rcases bb2 h with h|⟨hk,rfl⟩|⟨hk,qK⟩
 ·exact bp4 ok aY inv hf h hq
 ·have E0:=ky (a:=a) inv hf;have E1:=fun(x:Operand) (d:D) (hd:bT β.d (ev E g x)=some d)=>gL hd (ky (a:=a) inv hf x)
  obtain⟨dst,op,type,uj,after,guard⟩:=o;obtain⟨nk,J9,AM⟩:=nd;have fin:∀{s:Sem xM} {d:D} {v':xM},s.run P w= .ok v' w→ji β.d AM=some d→Rd β.z d v'→(∃HB,(do pure (Next.value (←s)):Sem Next).run P w= .ok (.value HB) w∧ai β AM HB):=fun{s d v'} h1 h2 h3=>⟨v',by simp[h1],wY h2 h3⟩
  unfold yP at hk;simp only at hk hq⊢;split at hk
  ·
   rename_i x t;split at hk;rotate_left
   ·rename_i B kt et a1 a2 a3 a4 hx hr;split at hk<;>cases hk
    rename_i c es ex ro ty hg;obtain⟨ds,d,h1,h2,h3⟩:=hq;obtain⟨da,rfl,e1⟩:=mU h1;have h3:Fa da=some d:=h3;have hv:=E0 x;rw[hx] at hv;generalize gk:a.eval x=xv at hv;cases hv with
    |map _ l hl=>
     obtain⟨aD,ck,rows,g1,g2,g3⟩:=inv.cont B _ l hg hl;have Im:bT β.d c=some (.sl rows):=by
      unfold bT;split
      ·cases g2
      ·exact g2
     rw[Im] at e1;cases e1;cases h3;have hu:=(ok.ti t _ hr).1;have aM:(Builtin.len_ #[t] type #[.map (some l.b)]).run P w= .ok (.int .i64 rows.length) w:=by simp[Builtin.len_,run_underlying hu,goInt,getObj,Sem.run,g1,g3.1]
     have:=fin aM h2 (.int _ _);simpa[execOp,resolve,invoke,builtin,gk] using this
   ·cases hk
   cases hk;rename_i B c e a1 a2 a3 a4 hx hr;obtain⟨ds,d,h1,h2,h3⟩:=hq;obtain⟨da,rfl,e1⟩:=mU h1;have h3:Fa da=some d:=h3;have hv:=E0 x;rw[hx] at hv;generalize gk:a.eval x=xv at hv;cases hv with
   |own _ _ rows a0 cap ho ha hd=>
    have mg:(β.d c).bind (fun x=>if x.cell then some x else none)=some da:=e1;rw[hd] at mg;cases mg;cases h3;have hu:=(ok.ti t _ hr).1;have aM:(Builtin.len_ #[t] type #[.slice a0 rows.length cap]).run P w= .ok (.int .i64 rows.length) w:=by simp[Builtin.len_,run_underlying hu,goInt]
    have:=fin aM h2 (.int _ _);simpa[execOp,resolve,invoke,builtin,gk] using this
  ·
   split at hk
   ·split at hk
    ·cases hk
    ·rcases aB hk with⟨_,hk⟩|⟨_,hk⟩<;>cases hk
    ·cases hk
   ·split at hk
    ·rcases aB hk with⟨_,hk⟩|⟨_,hk⟩<;>cases hk
    ·cases hk
   ·cases hk
  ·
   rename_i t x;split at hk
   ·rename_i B iv es off r hx hr;have hv:=E0 x;rw[hx] at hv;generalize gk:a.eval x=xv at hv;cases hv with
    |pG _ _ _ m l _ k hl hi=>
     split at hk
     ·rename_i c aD ex ro ty hg;rcases aB hk with⟨cb,hk⟩|⟨_,hk⟩<;>cases hk
      have qO:=xb cb;subst qO;obtain⟨ds,d,h1,h2,h3⟩:=hq;obtain⟨dx,di,rfl,e1,e2⟩:=nX h1;obtain⟨aE,rows,k1,k2,k3,k4,k5,k6,k7⟩:=inv.cont B _ l hg hl;have bq:∀v d,bQ β.d v=some d→bT β.d v=some d:=fun v d h=>by
       unfold bT;split
       ·cases h
       ·exact h
      rw[bq _ _ k3] at e1;rw[bq _ _ hi] at e2;cases e1;cases e2;have h3:W7 off r.size (lU r.desc) (.sl rows) (.int k (m:Nat))=some d:=h3;obtain⟨row,fI,h4⟩:=xr.1 (show(rows[m]?).bind _=some d from h3);have kH:l.es=es:=k4;obtain⟨v',r1,r2⟩:=VX ok hr k1 (z:=β.z) (row:=row) (d0:=l.d+m*es) (fun j d hj=>by
       obtain⟨v,q1,q2⟩:=k7 m row j d fI hj;exact⟨v,by rw[kH] at q1;rw[Nat.add_assoc];exact q1,q2⟩) h4
      refine fin ?_ h2 r2;rw[gk,show l.d+(m*es+off)=l.d+m*es+off by omega];exact r1
     ·rename_i cs aD ex ro ty hg;cases hk;obtain⟨ds,d,h1,h2,h3⟩:=hq;obtain⟨di,mh,rfl,e2,e3⟩:=kw h1;have bq:bT β.d iv=some (.int k (m:Nat)):=by
       unfold bT;split
       ·cases hi
       ·exact hi
      rw[bq] at e2;cases e2;obtain⟨aE,e,fz,k1,k2,k3,k4,_⟩:=inv.cont B _ l hg hl;have h3:u3 mh (m*es+off) r.size (lU r.desc)=some d:=h3;obtain⟨v',r1,r2⟩:=VX ok hr k1 (z:=β.z) (row:=mh) (d0:=l.d) (fun j d hj=>by
       have fG:j<cs.length:=by rw[←kT e3];exact(xe.1 hj).1
       obtain⟨v,q1,q2⟩:=k4 j _ (xc fG);exact⟨v,q1,gL (jZ e3 hj (xc fG)) q2⟩) h3
      refine fin ?_ h2 r2;rw[gk];exact r1
     ·cases hk
   ·cases hk
  ·
   rename_i s d0 x;split at hk
   ·rename_i e a1 a2 a3 a4 b1 b2 b3 b4 B o n cp hs hd hx;split at hk
    ·rename_i c1 c2 c3 c4 cs he bZ;split at hk
     ·rename_i l hl;rcases aB hk with⟨_,hk⟩|⟨hT,hk⟩<;>cases hk
      obtain⟨ds,d,h1,h2,h3⟩:=hq;obtain⟨eT,hb,rfl⟩:=xp.1 (show(vc ds).map .str=some d from h3);obtain⟨cz,cg⟩:=Ov hb;have hv:=E0 x;rw[hx] at hv;generalize gk:a.eval x=xv at hv;cases hv with
      |slice _ _ _ _ c' lc cF hn hc rq=>
       obtain⟨l',q1,q2,q3⟩:=wV inv bZ cF o n J9 hl;have aF:eT.length=n:=by rw[←cz,kT h1,q2]
       have aM:=run_convert_bytes_back (P:=P) w s d0 e ⟨lc.b,lc.d+o,none⟩ c' eT (ok.ti s _ hs).1 (ok.ti e _ he).1 (ok.ti d0 _ hd).1 (fun j hj=>by
        have fG:j<J9.length:=by rw[q2];omega
        have ig:=cg j _ (xc hj);have jl:=jZ h1 ig (xc fG);obtain⟨v',mN,cx⟩:=q1.get (xc fG);have eC:=gL jl cx;cases eC;rw[Addr.add_mid];exact q3 j _ mN)
       rw[aF] at aM;refine fin ?_ h2 (.str eT);rw[gk];exact aM
      |empty=>exact absurd hT (by decide)
     ·cases hk
    ·cases hk
   ·cases hk
  ·cases hk
 ·have E0:=ky (a:=a) inv hf;obtain⟨dst,op,type,uj,after,guard⟩:=o;obtain⟨nk,J9,AM⟩:=nd;have cm7:AM= .bool true:=qK;subst cm7;unfold yP at hk;simp only at hk hq⊢;split at hk
  ·split at hk
   ·cases hk
   ·split at hk<;>cases hk
   ·cases hk
  ·
   rename_i t x i;have E1:=fun(x:Operand) (d:D) (hd:bT β.d (ev E g x)=some d)=>gL hd (ky (a:=a) inv hf x)
   have ix:∀(di:D) (k:xO) (m:Nat),bT β.d (ev E g i)=some (.int k (m:Nat))→bQ β.d (ev E g i)=some (.int k (m:Nat))∧a.eval i= .int k (m:Nat):=fun di k m h=>by
    have hr:=E1 i _ h;constructor
    ·unfold bT at h;split at h
     ·obtain⟨_,_,h⟩:=xp.1 h;cases h
     ·exact h
    ·generalize a.eval i=iv at hr;cases hr;rfl
   split at hk
   ·rename_i e a1 a2 a3 a4 hr;split at hk
    ·rename_i es B c hs hx;cases hk;obtain⟨ds,d,h1,h2,h3⟩:=hq;obtain⟨dx,di,rfl,e1,e2⟩:=nX h1;cases h2;have hv:=E0 x;rw[hx] at hv;generalize gk:a.eval x=xv at hv;cases hv with
     |own _ _ rows a0 cap ho ha hd=>
      have mg:(β.d c).bind (fun x=>if x.cell then some x else none)=some dx:=e1;rw[hd] at mg;cases mg;obtain⟨k,m,rfl,hm⟩:=bm0 h3;obtain⟨i1,i2⟩:=ix (.bool true) k m e2;rcases ha with⟨_,kp⟩|⟨l,hl,rfl⟩
      ·rw[kp] at hm;simp at hm
      ·refine⟨_,?_,.pG B es 0 m l _ k hl i1⟩;simp[execOp,gk,i2,VI (P:=P) ok hr hs hm k w]
    ·rename_i es B o n cp hs hx;rcases aB hk with⟨_,hk⟩|⟨_,hk⟩<;>cases hk
     obtain⟨ds,d,h1,h2,h3⟩:=hq;obtain⟨dx,di,rfl,e1,e2⟩:=nX h1;cases h2;cases e1;obtain⟨k,m,rfl,hm⟩:=OK h3;obtain⟨i1,i2⟩:=ix (.bool true) k m e2;have hv:=E0 x;rw[hx] at hv;generalize gk:a.eval x=xv at hv;cases hv with
     |slice _ _ _ _ c' lc cF hn hc rq=>
      refine⟨_,?_,.pG B es o m lc _ k cF i1⟩;rw[show lc.d+(m*es+o)=lc.d+o+m*es by omega];simp[execOp,gk,i2,VI (P:=P) ok hr hs hm k w]
     |empty=>omega
    ·cases hk
   ·rename_i len e a1 a2 a3 a4 hr;split at hk
    ·rename_i es B o hs hx;rcases aB hk with⟨_,hk⟩|⟨_,hk⟩<;>cases hk
     obtain⟨ds,d,h1,h2,h3⟩:=hq;obtain⟨dx,di,rfl,e1,e2⟩:=nX h1;cases h2;cases e1;obtain⟨k,m,rfl,hm⟩:=OK h3;obtain⟨i1,i2⟩:=ix (.bool true) k m e2;have hv:=E0 x;rw[hx] at hv;generalize gk:a.eval x=xv at hv;cases hv with
     |ptr _ _ lc cF=>
      refine⟨_,?_,.pG B es o m lc _ k cF i1⟩;rw[show lc.d+(m*es+o)=lc.d+o+m*es by omega];simp[execOp,gk,i2,aV9 (P:=P) ok hr hs hm k w]
    ·cases hk
   ·cases hk
  ·split at hk
   ·split at hk
    ·rcases aB hk with⟨_,hk⟩|⟨_,hk⟩<;>cases hk
    ·cases hk
    ·cases hk
   ·cases hk
  ·split at hk
   ·split at hk
    ·split at hk
     ·rcases aB hk with⟨_,hk⟩|⟨_,hk⟩<;>cases hk
     ·cases hk
    ·cases hk
   ·cases hk
  ·cases hk
end
def vO(v:xM):Bool:=
 match v with
 | .chan (some (_+1))=>true
 | .int _ _=>true
 | .bool _=>true
 | .string _=>true
 | .nilFunc=>true
 | .nilIface=>true
 | .pointer none=>true
 | .slice none 0 0=>true
 | .map none=>true
 | .func (.func _) ⟨[]⟩ ⟨[]⟩=>true
 |_=>false
def nE(ih:xM→AW→Option (xM×AW))(l:List xM):AW→Option (List xM×AW):=
 List.rec (motive:=fun _=>AW→Option (List xM×AW)) (fun A=>some ([],A))
  (fun v _ r A=>match ih v A with|some (u,A1)=>(match r A1 with|some (us,A2)=>some (u::us,A2)|none=>none)|none=>none) l
def AW.pop(A:AW)(r:List Node):AW:=⟨A.heap,A.next,r⟩
def ny(A:AW)(k:NK)(us:List xM):Option (xM×AW):=
 match A.tape with
 |[]=>none
 |nd::r=>bs (vL k nd.k) (bs (lm us nd.args) (bs (iH nd.res) (some (nd.res,A.pop r)) none) none) none
def JA(A:AW)(B:Nat):Option AW:=
 match A.get B with
 |some ⟨.cells cs,es,ex,_,ty⟩=>some (A.put B (some ⟨.cells cs,es,ex,true,ty⟩))
 |_=>none
def MG(G:Nat)(ih:xM→AW→Option (xM×AW))(v:xM)(A:AW):Option (xM×AW):=
 match v with
 | .iface B (.chan (some (_+1)))=>match A.get B with
  |some ⟨.own c,es,ex,_,ty⟩=>bs (Nat.ble G B) (bs (iH c) (some (c,A.put B (some ⟨.own c,es,ex,true,ty⟩))) none) none
  |_=>none
 | .slice (some ⟨B,o,none⟩) k _=>match A.get B with
  |some ⟨.cells cs,es,_,_,_⟩=>match mY (Nat.mul k es) (oO o cs) with
   |some l=>match nE ih l A with
    |some (us,A1)=>match ny A1 (.bH es k) us with
     |some (u,A2)=>match JA A2 B with
      |some A3=>bs (Nat.ble G B) (some (u,A3)) none
      |none=>none
     |none=>none
    |none=>none
   |none=>none
  |_=>none
 | .pointer (some ⟨B,o,none⟩)=>match A.get B with
  |some ⟨.cells cs,_,_,_,_⟩=>match nE ih cs A with
   |some (us,A1)=>match ny A1 (.vV o) us with
    |some (u,A2)=>match JA A2 B with
     |some A3=>bs (Nat.ble G B) (some (u,A3)) none
     |none=>none
    |none=>none
   |none=>none
  |_=>none
 | .func (.func f) ⟨p⟩ ⟨q⟩=>match nE ih (aj p q) A with
  |some (us,A1)=>ny A1 (.MF f (bE p)) us
  |none=>none
 | .agg ⟨l⟩=>match nE ih l A with
  |some (us,A1)=>some (.agg ⟨us⟩,A1)
  |none=>none
 | .tuple ⟨l⟩=>match nE ih l A with
  |some (us,A1)=>some (.tuple ⟨us⟩,A1)
  |none=>none
 |_=>none
def nD(G n:Nat):xM→AW→Option (xM×AW):=
 Nat.rec (motive:=fun _=>xM→AW→Option (xM×AW)) (fun v A=>bs (vO v) (some (v,A)) none) (fun _ ih v A=>bs (vO v) (some (v,A)) (MG G ih v A)) n
theorem Inv.pop{w0 w:World}{G:GP}{β:ah}{A:AW}(h:Inv w0 G β A w){r:List Node}(hr:∀nd∈r,nd∈A.tape):Inv w0 G β (A.pop r) w:=
 ⟨h.below,h.gU,h.dh,h.loc,h.inj,h.cont,h.jm,h.bH,h.sep,fun nd cS=>h.fw nd (hr nd cS),h.own,h.jj,h.lay,h.xg,h.jv,h.zo⟩
theorem oG{A A':AW}{k:NK}{us:List xM}{u:xM}(h:ny A k us=some (u,A')):∃nd r c,A.tape=nd::r∧nd.k=k∧nd.args=us∧nd.res=u∧u= .chan (some (c+1))∧A'=A.pop r:=by
 unfold ny at h;split at h
 ·cases h
 ·rename_i nd r ht;rcases aB h with⟨h1,h⟩|⟨_,h⟩
  ·rcases aB h with⟨h2,h⟩|⟨_,h⟩
   ·rcases aB h with⟨h3,h⟩|⟨_,h⟩<;>cases h
    unfold iH at h3;split at h3
    ·rename_i c hc;exact⟨nd,r,c,ht,(B9 h1).symm,(lQ _ _ h2).symm,rfl,hc,rfl⟩
    ·cases h3
   ·cases h
  ·cases h
def ah.pO(β:ah)(b:Nat)(aE:Array xM):ah:={β with z:=fun x=>if x=b then some aE else β.z x}
theorem ah.yl(β:ah)(b:Nat)(aE:Array xM)(x:Nat):(β.pO b aE).z x=if x=b then some aE else β.z x:=rfl
theorem Inv.still{w0 w:World}{G:GP}{β:ah}{A:AW}(h:Inv w0 G β A w){B:Nat}{ao:ap}{l:Loc}{aE:Array xM}{e:xN}{fz:Nat×Nat}(hk:A.get B=some ao)(hp:(∃cs,ao.obj= .cells cs)∨∃c,ao.obj= .own c)(hB:G.n≤B)(hl:β B=some l)(hh:w.heap[l.b]? =some (.cells aE e fz)):
 Inv w0 G (β.pO l.b aE) (A.put B (some {ao with ro:=true})) w∧∀N,β.grow (β.pO l.b aE) N:=by
 have hzm:∀b c,β.z b=some c→(β.pO l.b aE).z b=some c:=fun b c hz=>by
  rw[ah.yl];by_cases hb:b=l.b
  ·rw[if_pos hb];obtain⟨e2,NW,h2⟩:=h.bH b c hz;rw[hb,hh] at h2;cases h2;rfl
  ·rw[if_neg hb];exact hz
 have aR:β.le (β.pO l.b aE):=⟨fun _ _ e=>e,hzm,fun _ _ e=>e,rfl,rfl⟩;have p9:∀D,((A.put B (some {ao with ro:=true})).get D).isSome=true→(A.get D).isSome=true:=fun D h=>by
  rcases A.iO B (some {ao with ro:=true}) D with⟨_,e⟩|⟨e,_⟩|⟨e,_⟩
  ·rw[e,hk];rfl
  ·rw[e] at h;cases h
  ·rw[e] at h;exact h
 have nT:=h.gU B l hl;have fQ:∀{l2:Loc} {o:Option Obj},hM (β.pO l.b aE) l2 ao o→hM (β.pO l.b aE) l2 {ao with ro:=true} o:=fun{l2 o} hb=>by
  unfold hM at hb⊢;rcases hp with⟨cs,hc⟩|⟨c,hc⟩
  ·simp only [hc] at hb⊢;obtain⟨ua,e2,NW,q1,q2,q3,q4,q5,q6,q7⟩:=hb;exact⟨ua,e2,NW,q1,q2,q3,q4,(fun h=>by cases h),q6,q7⟩
  ·simp only [hc] at hb⊢;exact hb
 have cm8:∀{ak:ah} {C:Nat},iU ak C ao→iU ak C {ao with ro:=true}:=fun{ak C} ho=>by
  unfold iU at ho⊢;exact ho
 refine⟨⟨h.below,h.gU,fun C hC=> ?_,h.loc,fun C C' lc qX e e' eE ha iz=>h.inj C C' lc qX e e' eE (p9 C ha) (p9 C' iz),fun C k lc bN e=> ?_,h.jm,fun b c hz=> ?_,fun C lc k hG e bN hs=> ?_,h.fw,fun C k bN=> ?_,h.jj,h.lay,h.xg,h.jv,fun b c hz=> ?_⟩,fun N=>⟨fun _ _=>rfl,hzm,fun _ _=>rfl,rfl,rfl⟩⟩
 ·have Bw:A.next≤C:=hC;rcases A.iO B (some {ao with ro:=true}) C with⟨_,e⟩|⟨e,_⟩|⟨e,_⟩
  ·omega
  ·exact e
  ·rw[e];exact h.dh C Bw
 ·rcases A.iO B (some {ao with ro:=true}) C with⟨e2,e3⟩|⟨e2,_⟩|⟨e2,_⟩
  ·subst e3;rw[e2] at bN;cases bN;exact fQ ((h.cont C ao lc hk e).mono aR)
  ·rw[e2] at bN;cases bN
  ·rw[e2] at bN;exact(h.cont C k lc bN e).mono aR
 ·rw[ah.yl] at hz;by_cases hb:b=l.b
  ·rw[if_pos hb] at hz;cases hz;rw[hb];exact⟨e,fz,hh⟩
  ·rw[if_neg hb] at hz;exact h.bH b c hz
 ·rcases A.iO B (some {ao with ro:=true}) C with⟨e2,e3⟩|⟨e2,_⟩|⟨e2,bq⟩
  ·rw[e2] at bN;cases bN;exfalso;unfold ap.still at hs;rcases hp with⟨cs,hc⟩|⟨c,hc⟩<;>simp[hc] at hs
  ·rw[e2] at bN;cases bN
  ·rw[e2] at bN;rw[ah.yl,if_neg (fun eE=>bq (h.inj C B lc l e hl eE (by rw[bN];rfl) (by rw[hk];rfl)))];exact h.sep C lc k hG e bN hs
 ·rcases A.iO B (some {ao with ro:=true}) C with⟨e2,e3⟩|⟨e2,_⟩|⟨e2,_⟩
  ·subst e3;rw[e2] at bN;cases bN;exact cm8 ((h.own C ao hk).mono aR)
  ·rw[e2] at bN;cases bN
  ·rw[e2] at bN;exact(h.own C k bN).mono aR
 ·rw[ah.yl] at hz;by_cases hb:b=l.b
  ·rw[hb];rcases(h.loc B l hl).2 with h1|h1|h1
   ·omega
   ·exact .inr (.inl h1)
   ·exact .inr (.inr h1)
  ·rw[if_neg hb] at hz;exact h.zo b c hz
theorem Inv.QF{w0 w:World}{G:GP}{β:ah}{A:AW}(h:Inv w0 G β A w){B:Nat}{ao blk':ap}(hk:A.get B=some ao)(hl:β B=none)(ho:iU β B blk'):Inv w0 G β (A.put B (some blk')) w:=by
 have p9:∀D,D≠B→∀k,(A.put B (some blk')).get D=some k→A.get D=some k:=fun D hD k h=>by
  rcases A.iO B (some blk') D with⟨_,e⟩|⟨e,_⟩|⟨e,_⟩
  ·exact absurd e hD
  ·rw[e] at h;cases h
  ·rw[e] at h;exact h
 have ne:∀C lc,β C=some lc→C≠B:=fun C lc e hC=>by rw[hC,hl] at e;cases e
 have iso:∀C lc,β C=some lc→((A.put B (some blk')).get C).isSome=true→(A.get C).isSome=true:=fun C lc e h=>by
  obtain⟨k,hk⟩:=Option.isSome_iff_exists.1 h;rw[p9 C (ne C lc e) k hk];rfl
 refine⟨h.below,h.gU,fun C hC=> ?_,h.loc,fun C C' lc qX e e' eE ha iz=>h.inj C C' lc qX e e' eE (iso C lc e ha) (iso C' qX e' iz),fun C k lc bN e=>h.cont C k lc (p9 C (ne C lc e) k bN) e,h.jm,h.bH,fun C lc k hG e bN hs=>h.sep C lc k hG e (p9 C (ne C lc e) k bN) hs,h.fw,fun C k bN=> ?_,h.jj,h.lay,h.xg,h.jv,h.zo⟩
 ·have Bw:A.next≤C:=hC;rcases A.iO B (some blk') C with⟨_,e⟩|⟨e,_⟩|⟨e,_⟩
  ·exfalso;subst e;rw[h.dh C Bw] at hk;cases hk
  ·exact e
  ·rw[e];exact h.dh C Bw
 ·rcases A.iO B (some blk') C with⟨e2,e3⟩|⟨e2,_⟩|⟨e2,_⟩
  ·subst e3;rw[e2] at bN;cases bN;exact ho
  ·rw[e2] at bN;cases bN
  ·rw[e2] at bN;exact h.own C k bN
section
variable{P:Program}{E:av}(ok:E.Ok P){w0 w:World}
def Vo(w0 w:World)(G:GP)(β:ah)(A:AW)(v u:xM)(A':AW):Prop:=
 ∃ak,Inv w0 G ak A' w∧β.grow ak A.next∧A'.next=A.next∧∀dQ,ak.grow dQ A.next→∀v',ai dQ v v'→ai dQ u v'
def dn5(w0 w:World)(G:GP)(β:ah)(A:AW)(vs us:List xM)(A':AW):Prop:=
 ∃ak,Inv w0 G ak A' w∧β.grow ak A.next∧A'.next=A.next∧us.length=vs.length∧∀dQ,ak.grow dQ A.next→∀l',aT dQ vs l'→aT dQ us l'
theorem PB{ih:xM→AW→Option (xM×AW)}{G:GP}(sP:∀v A u A' β,ih v A=some (u,A')→Inv w0 G β A w→Vo w0 w G β A v u A'):∀(l:List xM) (A:AW) (us:List xM) (A':AW) (β:ah),nE ih l A=some (us,A')→Inv w0 G β A w→dn5 w0 w G β A l us A'
 |[],A,us,A',β,h,inv=>by
  cases h;exact⟨β,inv,ah.ca _ _,rfl,rfl,fun _ _ _ h=>h⟩
 |v::l,A,us,A',β,h,inv=>by
  have h':(match ih v A with|some (u,A1)=>(match nE ih l A1 with|some (us,A2)=>some (u::us,A2)|none=>none)|none=>none)=some (us,A'):=h;split at h'
  ·rename_i u A1 h1;split at h'
   ·rename_i DW A2 h2;cases h';obtain⟨aO,i1,g1,n1,f1⟩:=sP v A u A1 β h1 inv;obtain⟨cT,i2,g2,n2,e2,f2⟩:=PB sP l A1 DW A' aO h2 i1;rw[n1] at g2 f2;refine⟨cT,i2,ah.iB g1 g2 (xk _),n2.trans n1,by simp[e2],fun dQ hg l' hl=> ?_⟩;obtain⟨v',r',rfl,hv,hr⟩:=hl.kS;exact(f2 dQ hg r' hr).cons (f1 dQ (ah.iB g2 hg (xk _)) v' hv)
   ·cases h'
  ·cases h'
theorem oJ{δ:Nat→Option D}{c:Nat}{d:D}(h:ji δ (.chan (some (c+1)))=some d):δ c=some d∧d.cell=true:=by
 have h':(δ c).bind (fun x=>if x.cell then some x else none)=some d:=h;obtain⟨x,hx,h2⟩:=xr.1 h';split at h2<;>cases h2
 exact⟨hx,by assumption⟩
theorem VG{A A':AW}{B:Nat}(h:JA A B=some A'):∃cs es ex ro ty,A.get B=some ⟨.cells cs,es,ex,ro,ty⟩∧A'=A.put B (some ⟨.cells cs,es,ex,true,ty⟩):=by
 unfold JA at h;split at h
 ·rename_i cs es ex ro ty hg;cases h;exact⟨cs,es,ex,ro,ty,hg,rfl⟩
 ·cases h
include ok in
theorem yf:∀(n:Nat) (v:xM) (A:AW) (u:xM) (A':AW) (β:ah),nD E.G.n n v A=some (u,A')→Inv w0 E.G β A w→Vo w0 w E.G β A v u A'
 |0,v,A,u,A',β,h,inv=>by
  have h':bs (vO v) (some (v,A)) none=some (u,A'):=h;replace h':=aB h';rcases h' with⟨_,h'⟩|⟨_,h'⟩<;>cases h'
  exact⟨β,inv,ah.ca _ _,rfl,fun _ _ _ h=>h⟩
 |n+1,v,A,u,A',β,h,inv=>by
  have h':bs (vO v) (some (v,A)) (MG E.G.n (nD E.G.n n) v A)=some (u,A'):=h;clear h;replace h':=aB h';rcases h' with⟨_,h'⟩|⟨cS,h'⟩
  ·cases h';exact⟨β,inv,ah.ca _ _,rfl,fun _ _ _ h=>h⟩
  clear cS;have IH:=PB (w0:=w0) (w:=w) (G:=E.G) (fun v A u A' β h i=>yf n v A u A' β h i);unfold MG at h';split at h'
  ·rename_i B c0;split at h'
   ·rename_i c es ex ro ty hg;replace h':=aB h';rcases h' with⟨hG,h'⟩|⟨_,h'⟩
    ·replace h':=aB h';rcases h' with⟨hs,h'⟩|⟨_,h'⟩<;>cases h'
     have uE:=xh hG;have nT:B<A.next:=Nat.lt_of_not_le fun dX=>by rw[inv.dh B dX] at hg;cases hg
     unfold iH at hs;split at hs
     ·rename_i c1;have ho:=inv.own B _ hg;obtain⟨rows,hd,ho⟩:=ho;have pV:=oJ (δ:=β.d) (d:= .sl rows) (by exact hd);rcases ho with⟨kp,ho⟩|⟨l,cap,hl,ho,h1,h2,h3⟩
      ·cases hl:β B with
       |none=>
        refine⟨β,inv.QF hg hl (by have:=inv.own B _ hg;unfold iU at this⊢;exact this),ah.ca _ _,rfl,fun dQ iM v' hv=> ?_⟩;cases hv with
        |own _ _ CM a cap gz ha ig=>
         rw[iM.o B nT,ho] at gz;have wv:=xC gz;injection wv with q1 q2 q3;have:CM=[]:=xE.1 q2.symm;subst q1;subst q3;subst this;refine .sym c1 (.sl rows) _ (by rw[iM.d];exact pV.1) rfl ?_;rw[kp];exact .qV
       |some l=>
        obtain⟨aE,Z1,k1,k2,k3,k4,k5,k6,k7⟩:=inv.cont B _ l hg hl;obtain⟨i1,g1⟩:=inv.still hg (.inr ⟨_,rfl⟩) uE hl k1;refine⟨β.pO l.b aE,i1,g1 _,rfl,fun dQ iM v' hv=> ?_⟩;cases hv with
        |own _ _ CM a cap gz ha ig=>
         have e1:=iM.o B nT;have e2:(β.pO l.b aE).o B=some (.slice none 0 0):=ho;rw[e1,e2] at gz;have wv:=xC gz;injection wv with q1 q2 q3;have:CM=[]:=xE.1 q2.symm;subst q1;subst q3;subst this;refine .sym c1 (.sl rows) _ (by rw[iM.d];exact pV.1) rfl ?_;rw[kp];exact .qV
      ·obtain⟨aE,Z1,k1,k2,k3,k4,k5,k6,k7⟩:=inv.cont B _ l hg hl;have Bd:(D.sl rows)= .sl Z1:=xC (hd.symm.trans k3);cases Bd;obtain⟨i1,g1⟩:=inv.still hg (.inr ⟨_,rfl⟩) uE hl k1;refine⟨β.pO l.b aE,i1,g1 _,rfl,fun dQ iM v' hv=> ?_⟩;cases hv with
       |own _ _ CM a ub gz ha ig=>
        have e1:=iM.o B nT;have e2:(β.pO l.b aE).o B=some (.slice (some ⟨l.b,l.d,none⟩) rows.length cap):=ho;rw[e1,e2] at gz;have wv:=xC gz;injection wv with q1 q2 q3;subst q1;subst q3;rw[←q2];refine .sym c1 (.sl rows) _ (by rw[iM.d];exact pV.1) rfl ?_;have hz:dQ.z l.b=some aE:=iM.z _ _ (by rw[ah.yl,if_pos rfl]);by_cases bq:rows=[]
        ·rw[bq];exact .mL _ _
        ·refine .sl rows l.es l.b l.d _ aE hz bq k5 h1 (by rw[k2];exact h2) fun i row j d v hi hj cx=> ?_
         obtain⟨v2,w1,w2⟩:=k7 i row j d hi hj;rw[cx] at w1;cases w1;exact(w2.mono (g1 0).z).mono iM.z
     ·cases hs
    ·cases h'
   ·cases h'
  ·rename_i B o k cp;split at h'
   ·rename_i cs es ex ro ty hg;split at h'
    ·rename_i l hl;split at h'
     ·rename_i us A1 hf;split at h'
      ·rename_i u2 A2 eR;split at h'
       ·rename_i A3 bc;replace h':=aB h';rcases h' with⟨hG,h'⟩|⟨_,h'⟩<;>cases h'
        have uE:=xh hG;obtain⟨nd,r,c,ht,jr,gA,jd,rfl,rfl⟩:=oG eR;obtain⟨EB,nV,NY,ro2,HD,iM,rfl⟩:=VG bc;obtain⟨aO,i1,g1,n1,e1,f1⟩:=IH l A us A1 β hf inv;have i2:=i1.pop (r:=r) (fun x hx=>by rw[ht];exact xo _ hx);have nT:B<A.next:=Nat.lt_of_not_le fun dX=>by rw[inv.dh B dX] at hg;cases hg
        have hq:dw aO.d nd:=ok.q _ _ (i1.fw nd (by rw[ht];exact xn));unfold dw at hq;rw[jr] at hq;obtain⟨ds,d,q1,q2,q3⟩:=hq;rw[gA] at q1;rw[jd] at q2;obtain⟨q4,q5⟩:=oJ q2;have cw:(if ds.length=k*es then(tA es k ds).map D.sl else none)=some d:=q3;split at cw
        ·rename_i ju;obtain⟨rows,vv,rfl⟩:=xp.1 cw;obtain⟨r1,r2,r3,r4⟩:=N9 vv;cases nM:aO B with
         |none=>
          have AR:=i2.QF (blk':=⟨.cells EB,nV,NY,true,HD⟩) iM nM trivial;refine⟨aO,AR,g1,n1,fun dQ mT v' hv=> ?_⟩;cases hv with
          |slice _ _ _ _ c' lc cF hn hc he=>
           rw[mT.f B nT,nM] at cF;cases cF
          |empty o2 a' c'=>
           have jt:rows=[]:=xE.1 r1;refine .sym c (.sl rows) _ (by rw[mT.d];exact q4) rfl ?_;rw[jt];exact .mL _ _
         |some lB=>
          obtain⟨aE,e0,fz,k1,k2,k3,k4,k5,k6,k7⟩:=i2.cont B _ lB iM nM;obtain⟨i3,g3⟩:=i2.still iM (.inl ⟨_,rfl⟩) uE nM k1;have Mx:β B=some lB:=by rw[←g1.f B nT];exact nM
          obtain⟨dm7,e00,fz0,HN,k02,k03,k04,k05,k06,k07⟩:=inv.cont B _ lB hg Mx;rw[k1] at HN;cases HN;obtain⟨l',w1,w2,w3⟩:=wV inv (show iP A B=some cs by unfold iP;rw[hg]) Mx o _ l hl;refine⟨aO.pO lB.b aE,i3,ah.iB g1 (g3 _) (xk _),n1,fun dQ mT v' hv=> ?_⟩;have hz:dQ.z lB.b=some aE:=mT.z _ _ (by rw[ah.yl,if_pos rfl]);have vU:aO.grow dQ A.next:=ah.iB (g3 _) mT (xk _);have aR:β.le dQ:=inv.fY (ah.iB g1 vU (xk _));have mO:=f1 dQ vU l' (w1.mono aR);have pV:dQ.d=aO.d:=vU.d;cases hv with
          |slice _ _ _ _ c' lc cF hn hc he=>
           have su:aO B=some lc:=by rw[←vU.f B nT];exact cF
           rw[nM] at su;cases su;refine .sym c (.sl rows) _ (by rw[pV];exact q4) rfl ?_;by_cases bq:rows=[]
           ·have:k=0:=by rw[←r1,bq];rfl
            subst this;rw[bq];exact .mL _ _
           ·have D8:lB.es=es:=k07.1;have hRd:Rd dQ.z (.sl rows) (.slice (some ⟨lB.b,lB.d+o,none⟩) rows.length c'):=by
             refine .sl rows es lB.b (lB.d+o) c' aE hz bq r2 (by omega) (by rw[←D8,k2];exact he) fun i row j d v hi hj cx=> ?_
             have hd:=r4 i row j d hi hj;have eY:i*es+j<us.length:=by rw[←kT q1];exact(xe.1 hd).1
             have nN:i*es+j<l'.length:=by rw[←mO.1];exact eY
             have gd:=w3 (i*es+j) _ (xc nN);rw[cell_of_row w lB.b _ aE e0 fz k1,cx] at gd;cases gd;exact gL (β:=dQ) (by rw[pV];exact jZ q1 hd (xc eY)) (mO.2 _ _ _ (xc eY) (xc nN))
            rw[r1] at hRd;exact hRd
          |empty o2 a' c'=>
           have jt:rows=[]:=xE.1 r1;refine .sym c (.sl rows) _ (by rw[pV];exact q4) rfl ?_;rw[jt];exact .mL _ _
        ·cases cw
       ·cases h'
      ·cases h'
     ·cases h'
    ·cases h'
   ·cases h'
  ·rename_i B o;split at h'
   ·rename_i cs es ex ro ty hg;split at h'
    ·rename_i us A1 hf;split at h'
     ·rename_i u2 A2 eR;split at h'
      ·rename_i A3 bc;replace h':=aB h';rcases h' with⟨hG,h'⟩|⟨_,h'⟩<;>cases h'
       have uE:=xh hG;obtain⟨nd,r,c,ht,jr,gA,jd,rfl,rfl⟩:=oG eR;obtain⟨EB,nV,NY,ro2,HD,iM,rfl⟩:=VG bc;obtain⟨aO,i1,g1,n1,e1,f1⟩:=IH cs A us A1 β hf inv;have i2:=i1.pop (r:=r) (fun x hx=>by rw[ht];exact xo _ hx);have nT:B<A.next:=Nat.lt_of_not_le fun dX=>by rw[inv.dh B dX] at hg;cases hg
       have hq:dw aO.d nd:=ok.q _ _ (i1.fw nd (by rw[ht];exact xn));unfold dw at hq;rw[jr] at hq;obtain⟨ds,d,q1,q2,q3⟩:=hq;rw[gA] at q1;rw[jd] at q2;obtain⟨q4,q5⟩:=oJ q2;have cw:some (D.ptr ds o)=some d:=q3;cases cw;cases nM:aO B with
       |none=>
        have AR:=i2.QF (blk':=⟨.cells EB,nV,NY,true,HD⟩) iM nM trivial;refine⟨aO,AR,g1,n1,fun dQ mT v' hv=> ?_⟩;cases hv with
        |ptr _ _ lc cF=>rw[mT.f B nT,nM] at cF;cases cF
       |some lB=>
        obtain⟨aE,e0,fz,k1,k2,k3,k4,k5,k6,k7⟩:=i2.cont B _ lB iM nM;obtain⟨i3,g3⟩:=i2.still iM (.inl ⟨_,rfl⟩) uE nM k1;have Mx:β B=some lB:=by rw[←g1.f B nT];exact nM
        obtain⟨dm7,e00,fz0,HN,k02,k03,k04,k05,k06,k07⟩:=inv.cont B _ lB hg Mx;rw[k1] at HN;cases HN;refine⟨aO.pO lB.b aE,i3,ah.iB g1 (g3 _) (xk _),n1,fun dQ mT v' hv=> ?_⟩;have hz:dQ.z lB.b=some aE:=mT.z _ _ (by rw[ah.yl,if_pos rfl]);have vU:aO.grow dQ A.next:=ah.iB (g3 _) mT (xk _);have aR:β.le dQ:=inv.fY (ah.iB g1 vU (xk _));have pV:dQ.d=aO.d:=vU.d;have ju:=kT q1;cases hv with
        |ptr _ _ lc cF=>
         have su:aO B=some lc:=by rw[←vU.f B nT];exact cF
         rw[nM] at su;cases su;refine .sym c (.ptr ds o) _ (by rw[pV];exact q4) rfl ?_
         let l':=(List.range cs.length).map fun j=>aE.getD (lB.d+j) undef
         have dW:∀j,j<cs.length→l'[j]? =some (aE.getD (lB.d+j) undef):=fun j hj=>by
          show((List.range cs.length).map _)[j]? =_;rw[xx,List.getElem?_range hj];rfl
         have mO:=f1 dQ vU l' ⟨by simp[l'],fun j v v' hv du=>by
          have hj:=(xe.1 hv).1;rw[dW j hj] at du;cases du;obtain⟨v2,w1,w2⟩:=k04 j v hv;have:aE.getD (lB.d+j) undef=v2:=by rw[Array.getD_eq_getD_getElem?,w1];rfl
          rw[this];exact w2.mono aR⟩
         refine .ptr ds o lB.b lB.d aE hz (by rw[ju,e1,k2];exact k03) fun j d v hj cx=> ?_
         have fG:j<us.length:=by rw[←ju];exact(xe.1 hj).1
         have UD:l'[j]? =some v:=by
          rw[dW j (by omega),Array.getD_eq_getD_getElem?,cx];rfl
         exact gL (β:=dQ) (by rw[pV];exact jZ q1 hj (xc fG)) (mO.2 _ _ _ (xc fG) UD)
      ·cases h'
     ·cases h'
    ·cases h'
   ·cases h'
  ·rename_i f p q;split at h'
   ·rename_i us A1 hf;obtain⟨nd,r,c,ht,jr,gA,jd,rfl,rfl⟩:=oG h';obtain⟨aO,i1,g1,n1,e1,f1⟩:=IH _ A us A1 β hf inv;have i2:=i1.pop (r:=r) (fun x hx=>by rw[ht];exact xo _ hx);have hq:dw aO.d nd:=ok.q _ _ (i1.fw nd (by rw[ht];exact xn));unfold dw at hq;rw[jr] at hq;obtain⟨ds,d,q1,q2,q3⟩:=hq;rw[gA] at q1;rw[jd] at q2;obtain⟨q4,q5⟩:=oJ q2;rw[dg] at q3;have cw:(if p.length≤ds.length then some (D.func f (ds.take p.length) (ds.drop p.length)) else none)=some d:=q3;split at cw
    ·cases cw;refine⟨aO,i2,g1,n1,fun dQ mT v' hv=> ?_⟩;have pV:dQ.d=aO.d:=mT.d;cases hv with
     |func _ _ p' _ q' hp hq h1 h2=>
      rw[iN] at f1 e1;have mO:=f1 dQ mT (p'++q') (aT.append ⟨hp,h1⟩ ⟨hq,h2⟩);have ju:=kT q1;have aF:=mO.1;rw[xa] at aF;have fE:∀(i:Nat) (d:D) (v:xM),ds[i]? =some d→(p'++q')[i]? =some v→Rd dQ.z d v:=fun i d v hd hv=>by
       have hi:i<us.length:=by rw[←ju];exact(xe.1 hd).1
       exact gL (β:=dQ) (by rw[pV];exact jZ q1 hd (xc hi)) (mO.2 _ _ _ (xc hi) hv)
      refine .sym c _ _ (by rw[pV];exact q4) rfl (.func f _ _ p' q' (by rw[xz];omega) (by rw[List.length_drop];omega) (fun i d v hd hv=> ?_) (fun i d v hd hv=> ?_))
      ·rw[List.getElem?_take] at hd;split at hd
       ·exact fE i d v hd (by rw[xw (by omega)];exact hv)
       ·cases hd
      ·rw[List.getElem?_drop] at hd;refine fE (p.length+i) d v hd ?_;rw[xq (by omega),hp,Nat.add_sub_cancel_left];exact hv
    ·cases cw
   ·cases h'
  ·rename_i l;split at h'
   ·rename_i us A1 hf;cases h';obtain⟨aO,i1,g1,n1,e1,f1⟩:=IH l A us A' β hf inv;refine⟨aO,i1,g1,n1,fun dQ mT v' hv=> ?_⟩;cases hv with
    |agg _ p' hp h2=>exact ai.rR (f1 dQ mT p' ⟨hp,h2⟩)
   ·cases h'
  ·rename_i l;split at h'
   ·rename_i us A1 hf;cases h';obtain⟨aO,i1,g1,n1,e1,f1⟩:=IH l A us A' β hf inv;refine⟨aO,i1,g1,n1,fun dQ mT v' hv=> ?_⟩;cases hv with
    |tuple _ p' hp h2=>exact ai.p8 (f1 dQ mT p' ⟨hp,h2⟩)
   ·cases h'
  ·cases h'
end
end
end Go.Ex
