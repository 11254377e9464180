/- Steps of programs on data. -/
import Derived.Test.YtnjdjocokegphaaGreatDoorX10
import Derived.IntWalk
import Derived.Test.YtnjdjocokegphaaGreatDoorX9
set_option linter.unusedVariables false
set_option linter.unusedSimpArgs false
namespace Go.Ex
open Go.RowKit
theorem xT(k:xO):dq k k=true:=by cases k<;>rfl
section
variable{c:Nat}{k:xO}{a b:Int}
theorem au:aN (.bin .eql c) [.int k a,.int k b]=some (.bool (decide (a=b))):=by
 show ofInt (bs (dq k k) (pw .eql k a b) none)=_;rw[xT];show some (D.bool (kI a b))=_;rw[mX]
theorem ew:aN (.bin .neq c) [.int k a,.int k b]=some (.bool (decide (a≠b))):=by
 show ofInt (bs (dq k k) (pw .neq k a b) none)=_;rw[xT];show some (D.bool (not (kI a b)))=_;rw[mX];simp
theorem af:aN (.bin .lss c) [.int k a,.int k b]=some (.bool (decide (a<b))):=by
 show ofInt (bs (dq k k) (pw .lss k a b) none)=_;rw[xT];show some (D.bool (hY a b))=_;rw[oL]
theorem ch:aN (.bin .gtr c) [.int k a,.int k b]=some (.bool (decide (b<a))):=by
 show ofInt (bs (dq k k) (pw .gtr k a b) none)=_;rw[xT];show some (D.bool (hY b a))=_;rw[oL]
theorem Fm:aN (.bin .leq c) [.int k a,.int k b]=some (.bool (decide (a≤b))):=by
 show ofInt (bs (dq k k) (pw .leq k a b) none)=_;rw[xT];show some (D.bool (not (hY b a)))=_;rw[oL,N0]
theorem yd:aN (.bin .geq c) [.int k a,.int k b]=some (.bool (decide (b≤a))):=by
 show ofInt (bs (dq k k) (pw .geq k a b) none)=_;rw[xT];show some (D.bool (not (hY a b)))=_;rw[oL,N0]
theorem mm{a b:List UInt8}:aN (.bin .eql c) [.str a,.str b]=some (.bool (decide (a=b))):=rfl
end
abbrev jD(n:Nat):D:= .int .i64 (n:Nat)
theorem gE{c a b:Nat}(h:a+b≤9223372036854775807):aN (.bin .add c) [jD a,jD b]=some (jD (a+b)):=by
 show some (D.int .i64 (gW .i64 ((a:Int)+(b:Int))))=_;rw[kQ,IntWalk.i64_in _ (by omega)];rfl
theorem XJ{c:Nat}{a b:Int}(h1: -9223372036854775808≤a+b)(h2:a+b≤9223372036854775807):aN (.bin .add c) [.int .i64 a,.int .i64 b]=some (.int .i64 (a+b)):=by
 show some (D.int .i64 (gW .i64 (a+b)))=_;rw[kQ,IntWalk.i64_in _ (by omega)]
theorem rK{c:Nat}{a b:Int}(h1: -9223372036854775808≤a - b)(h2:a - b≤9223372036854775807):aN (.bin .sub c) [.int .i64 a,.int .i64 b]=some (.int .i64 (a - b)):=by
 show some (D.int .i64 (gW .i64 (a - b)))=_;rw[kQ,IntWalk.i64_in _ (by omega)]
theorem zS{c a b:Nat}(h:b≤a)(h2:a≤9223372036854775807):aN (.bin .sub c) [jD a,jD b]=some (jD (a - b)):=by
 rw[rK (by omega) (by omega)];congr 2;omega
theorem j4{c a b:Nat}(k:xO)(h:1≤b):aN (.bin .rem c) [.int k (a:Nat),.int k (b:Nat)]=some (.int k ((a%b:Nat):Int)):=by
 show ofInt (bs (dq k k) (pw .rem k a b) none)=_;rw[xT];show ofInt (bs (kI (b:Int) 0) none (some (.int k (Int.tmod a b))))=_;rw[mX,decide_eq_false (by omega)];show some (D.int k (Int.tmod a b))=_
 congr 2
theorem bB7{c a b:Nat}(h:1≤b)(h2:a≤9223372036854775807):aN (.bin .quo c) [jD a,jD b]=some (jD (a/b)):=by
 show ofInt (bs (kI (b:Int) 0) none (some (.int .i64 (gW .i64 (Int.tdiv a b)))))=_;rw[mX,decide_eq_false (by omega)];show some (D.int .i64 (gW .i64 (Int.tdiv a b)))=_;have:a/b≤a:=Nat.div_le_self a b;have h3:Int.tdiv (a:Int) (b:Int)=((a/b:Nat):Int):=rfl;rw[h3,kQ,IntWalk.i64_in _ ⟨by exact Int.le_trans (by decide) (Int.natCast_nonneg _),by omega⟩]
theorem YE{c a b:Nat}(h2:a*b≤9223372036854775807):aN (.bin .mul c) [jD a,jD b]=some (jD (a*b)):=by
 show some (D.int .i64 (gW .i64 ((a:Int)*(b:Int))))=_;have h3:(a:Int)*(b:Int)=((a*b:Nat):Int):=by simp
 rw[h3,kQ,IntWalk.i64_in _ (by omega)]
theorem Z9{k:xO}{n:Nat}(h:n≤9223372036854775807):aN (.ku .i64) [.int k (n:Nat)]=some (jD n):=by
 show some (D.int .i64 (IntKind.i64.wrap n))=_;rw[IntWalk.i64_in _ (by omega)]
theorem Fp{k:xO}{n:Nat}(h:n≤255):aN (.ku .u8) [.int k (n:Nat)]=some (.int .u8 (n:Nat)):=by
 show some (D.int .u8 (IntKind.u8.wrap n))=_;rw[IntWalk.u8_in _ (by omega)]
theorem bl{rows:List (List D)}:aN .n8 [.sl rows]=some (jD rows.length):=rfl
theorem aA{es m:Nat}{rows:List (List D)}{row:List D}(h:rows[m]? =some row)(hl:row.length=es):aN (.mD es) [.sl rows,jD m]=some (.ptr row 0):=by
 show(rows[m]?).bind _=_;rw[h];show(if row.length=es then _ else _)=_;rw[if_pos hl]
theorem Jh{es a:Nat}{rows:List (List D)}(h:a≤rows.length)(hl:∀row∈rows,row.length=es):aN (.gw es) [.sl rows,jD a]=some (.sl (rows.drop a)):=by
 show(if a≤rows.length∧rows.length≤rows.length∧(a=0∨EV rows es=true) then some (D.sl ((rows.drop a).take (rows.length - a))) else none)=_;rw[if_pos ⟨h,xk _,.inr (by cases rows with|nil=>rfl|cons r l=>simp[EV,hl r xn])⟩];rw[List.take_of_length_le (by simp)]
theorem kZ{es b:Nat}{rows:List (List D)}(h:b≤rows.length):aN (.gw es) [.sl rows,jD 0,jD b]=some (.sl (rows.take b)):=by
 show(if 0≤b∧b≤rows.length∧(0=0∨EV rows es=true) then some (D.sl ((rows.drop 0).take (b - 0))) else none)=_;rw[if_pos ⟨xL _,h,.inl rfl⟩];rfl
theorem zT{es bys:Nat}{rows q:List (List D)}(hq:∀row∈q,row.length=es∧row.all D.cell=true)(h1:rows.length+q.length≤9223372036854775807)(h2:(rows.length+q.length)*bys≤140737488355328):aN (.app es bys) [.sl rows,.sl q]=some (.sl (rows++q)):=by
 show(if q.all (fun r=>r.length==es&&r.all D.cell) then some q else none).bind (fun q=>if lj (rows.length+q.length) bys then some (D.sl (rows++q)) else none)=_;rw[if_pos (List.all_eq_true.2 fun r hr=>by simp[(hq r hr).1,(hq r hr).2])];show(if lj _ bys then _ else _)=_;rw[if_pos (by simp[lj,h1,h2])]
theorem fZ{es bys:Nat}{rows:List (List D)}{row:List D}(hl:row.length=es)(hc:row.all D.cell=true)(h2:(rows.length+1)*bys≤140737488355328)(h1:rows.length+1≤9223372036854775807):aN (.app es bys) [.sl rows,.sl [row]]=some (.sl (rows++[row])):=
 zT (q:=[row]) (fun r hr=>by rw[xy] at hr;subst hr;exact⟨hl,hc⟩) h1 h2
theorem br4{a b:Nat}(ha:a<256)(hb:b<256):aN .strOf [.int .u8 (a:Nat),.int .u8 (b:Nat)]=some (.str [a.toUInt8,b.toUInt8]):=by
 show(if a<256 then(if b<256 then some [b.toUInt8] else none:Option (List UInt8)).map (fun r=>a.toUInt8::r) else none:Option (List UInt8)).map D.str=_;rw[if_pos ha,if_pos hb];rfl
section
variable{F:List FD}{X:Nat→List D→Option (List D)}{i h:Nat}{env ds:List D}{Q:List D→Prop}
theorem Wp.dB{k:NK}{args:List xM}{t e:DT}{p:Prop}[Decidable p](h1:aW (bT (lk env)) args=some ds)(h2:aN k ds=some (.bool (decide p)))(hp:p)(h4:Wp F X i t env Q):Wp F X i (.br k args t e) env Q:=Wp.s7 h1 (by rw[h2,decide_eq_true hp]) h4
theorem Wp.cN{k:NK}{args:List xM}{t e:DT}{p:Prop}[Decidable p](h1:aW (bT (lk env)) args=some ds)(h2:aN k ds=some (.bool (decide p)))(hp: ¬p)(h4:Wp F X i e env Q):Wp F X i (.br k args t e) env Q:=Wp.uI h1 (by rw[h2,decide_eq_false hp]) h4
theorem Wp.ao4{f j:Nat}{us:List xM}{cE:List (Option xM)}{t e:DT}{Q':List D→Prop}(h1:aW (bQ (lk env)) us=some ds)(h2:Rn F X j 0 ds Q')(h3:∀o,Q' o→gV cE o=true∧Wp F X i t (env++o) Q):Wp F X i (.call f j us cE t e) env Q:=
 Wp.call h1 h2 fun o q=> .inl (h3 o q)
end
theorem po{n k:Nat}:aN .jF [jD n,jD k]=some (.bool (decide (k<n))):=rfl
theorem YJ{rows:List (List D)}{k:Nat}:aN .jF [.sl rows,jD k]=some (.bool (decide (k<rows.length))):=rfl
theorem bi7{off k n:Nat}{rows:List (List D)}{row:List D}{d:D}{b:Bool}(h:rows[k]? =some row)(hp:u3 row off n b=some d):aN (.eM off n b) [.sl rows,jD k]=some d:=by
 show(rows[k]?).bind _=_;rw[h];exact hp
theorem bC0{k:xO}{a b:Nat}:aN .mx [.int k (a:Nat),.int k (b:Nat)]=some (.int k ((max a b:Nat):Int)):=by
 show some (D.int k (if(a:Int)<b then(b:Int) else a))=_
 congr 2
 split<;>omega
theorem bB9{k:xO}{a b c:Nat}:aN .mx [.int k (a:Nat),.int k (b:Nat),.int k (c:Nat)]=some (.int k ((max (max a b) c:Nat):Int)):=by
 show some (D.int k (if(if(a:Int)<b then(b:Int) else a)<c then(c:Int) else(if(a:Int)<b then(b:Int) else a)))=_
 congr 2
 split<;>split<;>omega
theorem c8{c:Nat}{a b:List UInt8}(h:a.length+b.length≤9223372036854775807):aN (.bin .add c) [.str a,.str b]=some (.str (a++b)):=by
 show(if a.length+b.length≤9223372036854775807 then some (D.str (a++b)) else none)=_;rw[if_pos h]
theorem jT{α:Type}(a:α)(l:List α):List.take 1 (List.drop 0 (a::l))=[a]:=rfl
theorem jS{α:Type}(a b:α)(l:List α):List.take 2 (List.drop 0 (a::b::l))=[a,b]:=rfl
theorem jR{α:Type}(a b c:α)(l:List α):List.take 3 (List.drop 0 (a::b::c::l))=[a,b,c]:=rfl
theorem jQ{α:Type}(a b c d:α)(l:List α):List.take 4 (List.drop 0 (a::b::c::d::l))=[a,b,c,d]:=rfl
theorem jP{α:Type}(a b c d e f:α)(l:List α):List.take 6 (List.drop 0 (a::b::c::d::e::f::l))=[a,b,c,d,e,f]:=rfl
def kP(k:xO)(d:D):Prop:=∃n:Nat,d= .int k (.ofNat n)∧n<mk k
abbrev sA:=List (NK×List xM)
def Ft(l:sA)(t:DT):DT:=l.foldr (fun x t=> .op x.1 x.2 t) t
noncomputable def vZ(K:T (Option xO))(v:xM):Option xO:=
 match v with
 | .chan (some (c+1))=>K.get none c
 | .int k (.ofNat n)=>bs (Nat.blt n (mk k)) (some k) none
 |_=>none
noncomputable def JW(K:T (Option xO))(k:NK)(args:List xM):Option xO:=
 match k,args with
 | .bin op _,[x,y]=>match vZ K x,vZ K y with
  |some a,some b=>match op with
   | .add=>bs (dq a b&& !a.signed) (some a) none
   | .sub=>bs (dq a b&& !a.signed) (some a) none
   | .and=>bs (dq a b&& !a.signed) (some a) none
   | .or=>bs (dq a b&& !a.signed) (some a) none
   | .xor=>bs (dq a b&& !a.signed) (some a) none
   | .shl=>bs a.signed none (some a)
   | .shr=>bs a.signed none (some a)
   |_=>none
  |_,_=>none
 | .un .xor,[x]=>match vZ K x with|some a=>bs a.signed none (some a)|none=>none
 | .ku k',[x]=>match vZ K x with|some _=>bs k'.signed none (some k')|none=>none
 |_,_=>none
noncomputable def tH(l:sA):T (Option xO)→Nat→Option (T (Option xO)×Nat):=
 List.rec (motive:=fun _=>T (Option xO)→Nat→Option (T (Option xO)×Nat)) (fun K n=>some (K,n))
  (fun x _ ih K n=>match JW K x.1 x.2 with|some r=>ih (K.set n (some r)) (Nat.succ n)|none=>none) l
theorem Cl{k:xO}(hs:k.signed=false)(n:Int):∃m:Nat,gW k n= .ofNat m∧m<mk k:=by
 unfold gW;have hr:∀r:Nat,r<mk k→∃m:Nat,bs (Nat.ble (hk k) r) (Int.negSucc (Nat.sub (Nat.sub (mk k) r) 1)) (Int.ofNat r)= .ofNat m∧m<mk k:=fun r h=>by
  have e:hk k=mk k:=by cases k<;>first|rfl|(exact absurd hs (by decide))
  have hb:Nat.ble (hk k) r=false:=by
   cases hq:Nat.ble (hk k) r with
   |false=>rfl
   |true=>have:=xh hq;omega
  rw[hb];exact⟨r,rfl,h⟩
 have aH0:0<mk k:=by cases k<;>decide
 cases n with
 |ofNat m=>exact hr _ (Nat.mod_lt _ aH0)
 |negSucc m=>exact hr _ (by show mk k - 1 - m%mk k<mk k;omega)
theorem bG0{k:xO}{n:Nat}(h:n<mk k)(p:Nat):∃m:Nat,Int.fdiv (.ofNat n) (.ofNat p)= .ofNat m∧m<mk k:=by
 refine⟨n/p,?_,Nat.lt_of_le_of_lt (Nat.div_le_self n p) h⟩;cases n with
 |zero=>simp
 |succ n=>rfl
theorem MN{op:BinOp}{k:xO}(hs:k.signed=false)(eu:op= .and∨op= .or∨op= .xor)(a b:Nat):∃m:Nat,mE op k (.ofNat a) (.ofNat b)=some (.ofNat m)∧m<mk k:=by
 rcases eu with rfl|rfl|rfl
 all_goals
  unfold mE;simp only
  first
   |(obtain⟨m,h1,h2⟩:=Cl hs (Int.ofNat (Nat.land (Nat.mod a (mk k)) (Nat.mod b (mk k))));exact⟨m,by rw[h1],h2⟩)
   |(obtain⟨m,h1,h2⟩:=Cl hs (Int.ofNat (Nat.lor (Nat.mod a (mk k)) (Nat.mod b (mk k))));exact⟨m,by rw[h1],h2⟩)
   |(obtain⟨m,h1,h2⟩:=Cl hs (Int.ofNat (Nat.xor (Nat.mod a (mk k)) (Nat.mod b (mk k))));exact⟨m,by rw[h1],h2⟩)
section
variable{K:T (Option xO)}{env:List D}(he:∀c k,K.get none c=some k→∃d,env[c]? =some d∧kP k d)
include he
theorem Jv{v:xM}{k:xO}(h:vZ K v=some k):∃n:Nat,bT (lk env) v=some (.int k (.ofNat n))∧n<mk k:=by
 unfold vZ at h;split at h
 ·rename_i c;obtain⟨d,h1,n,rfl,h3⟩:=he c k h;refine⟨n,?_,h3⟩;show(env[c]?).bind _=_;rw[h1];rfl
 ·rename_i k0 n;rcases aB h with⟨h1,h2⟩|⟨_,h2⟩<;>cases h2
  exact⟨n,rfl,xh h1⟩
 ·cases h
theorem bh1{k:NK}{args:List xM}{r:xO}(h:JW K k args=some r):∃ds d,aW (bT (lk env)) args=some ds∧aN k ds=some d∧kP r d:=by
 unfold JW at h;split at h
 ·rename_i op c x y;split at h
  ·rename_i a b ha hb;obtain⟨n,e1,e2⟩:=Jv he ha;obtain⟨m,e3,e4⟩:=Jv he hb;have jl:aW (bT (lk env)) [x,y]=some [.int a (.ofNat n),.int b (.ofNat m)]:=by simp only [aW,e1,e3]
   have hm:hY (Int.ofNat m) 0=false:=by rw[oL];exact decide_eq_false (by simp)
   have yN:∀(q:Bool),bs (dq a b&& !a.signed) (some a) none=some r→a=b∧a.signed=false∧r=a:=fun _ h=>by
    rcases aB h with⟨h1,h2⟩|⟨_,h2⟩<;>cases h2
    rw[xf] at h1;exact⟨pg h1.1,by simpa using h1.2,rfl⟩
   have wr:∀(x:Int),r=a→a.signed=false→∃d,some (D.int a (gW a x))=some d∧kP r d:=fun x h1 h2=>by
    obtain⟨q,q1,q2⟩:=Cl h2 x;exact⟨_,rfl,q,by rw[q1,h1],by rw[h1];exact q2⟩
   split at h
   ·obtain⟨rfl,hs,rfl⟩:=yN true h;obtain⟨d,h1,h2⟩:=wr (Int.add (.ofNat n) (.ofNat m)) rfl hs;refine⟨_,d,jl,?_,h2⟩;rw[←h1];show ofInt (bs (dq r r) (pw .add r _ _) none)=_;rw[show dq r r=true by cases r<;>rfl];rfl
   ·obtain⟨rfl,hs,rfl⟩:=yN true h;obtain⟨d,h1,h2⟩:=wr (Int.sub (.ofNat n) (.ofNat m)) rfl hs;refine⟨_,d,jl,?_,h2⟩;rw[←h1];show ofInt (bs (dq r r) (pw .sub r _ _) none)=_;rw[show dq r r=true by cases r<;>rfl];rfl
   ·obtain⟨rfl,hs,rfl⟩:=yN true h;obtain⟨q,q1,q2⟩:=MN (op:= .and) hs (.inl rfl) n m;refine⟨_,.int r (.ofNat q),jl,?_,q,rfl,q2⟩;show ofInt (bs (dq r r) ((mE .and r (.ofNat n) (.ofNat m)).map (Value.int r)) none)=_;rw[show dq r r=true by cases r<;>rfl,q1];rfl
   ·obtain⟨rfl,hs,rfl⟩:=yN true h;obtain⟨q,q1,q2⟩:=MN (op:= .or) hs (.inr (.inl rfl)) n m;refine⟨_,.int r (.ofNat q),jl,?_,q,rfl,q2⟩;show ofInt (bs (dq r r) ((mE .or r (.ofNat n) (.ofNat m)).map (Value.int r)) none)=_;rw[show dq r r=true by cases r<;>rfl,q1];rfl
   ·obtain⟨rfl,hs,rfl⟩:=yN true h;obtain⟨q,q1,q2⟩:=MN (op:= .xor) hs (.inr (.inr rfl)) n m;refine⟨_,.int r (.ofNat q),jl,?_,q,rfl,q2⟩;show ofInt (bs (dq r r) ((mE .xor r (.ofNat n) (.ofNat m)).map (Value.int r)) none)=_;rw[show dq r r=true by cases r<;>rfl,q1];rfl
   ·rcases aB h with⟨_,h2⟩|⟨hs,h2⟩<;>cases h2
    obtain⟨q,q1,q2⟩:=Cl hs (Int.mul (.ofNat n) (.ofNat (Nat.pow 2 (Nat.min (Int.toNat (.ofNat m)) r.bits))));refine⟨_,.int r (.ofNat q),jl,?_,q,rfl,q2⟩;show ofInt (bs (hY (.ofNat m) 0) none (some (.int r (gW r _))))=_;rw[hm,q1];rfl
   ·rcases aB h with⟨_,h2⟩|⟨hs,h2⟩<;>cases h2
    obtain⟨q,q1,q2⟩:=bG0 e2 (Nat.pow 2 (Nat.min (Int.toNat (.ofNat m)) r.bits));refine⟨_,.int r (.ofNat q),jl,?_,q,rfl,q2⟩;show ofInt (bs (hY (.ofNat m) 0) none (some (.int r _)))=_;rw[hm,q1];rfl
   ·cases h
  ·cases h
 ·rename_i x;split at h
  ·rename_i a ha;rcases aB h with⟨_,h2⟩|⟨hs,h2⟩<;>cases h2
   obtain⟨n,e1,e2⟩:=Jv he ha;obtain⟨q,q1,q2⟩:=MN (op:= .xor) hs (.inr (.inr rfl)) (Nat.sub (mk r) 1) n;refine⟨[.int r (.ofNat n)],.int r (.ofNat q),by simp only [aW,e1],?_,q,rfl,q2⟩;show(if r.signed=true then none else(mE .xor r (.ofNat (Nat.sub (mk r) 1)) (.ofNat n)).map (D.int r))=_;rw[hs,q1];rfl
  ·cases h
 ·rename_i k' x;split at h
  ·rename_i a ha;rcases aB h with⟨_,h2⟩|⟨hs,h2⟩<;>cases h2
   obtain⟨n,e1,e2⟩:=Jv he ha;obtain⟨q,q1,q2⟩:=Cl hs (Int.ofNat n);refine⟨[.int a (.ofNat n)],.int r (.ofNat q),by simp only [aW,e1],?_,q,rfl,q2⟩;show some (D.int r (r.wrap _))=_;rw[←kQ,q1]
  ·cases h
 ·cases h
end
section
variable{F:List FD}{X:Nat→List D→Option (List D)}{i:Nat}{Q:List D→Prop}
theorem qa{t:DT}:∀(l:sA) (K K':T (Option xO)) (n n':Nat) (env:List D),env.length=n→(∀c k,K.get none c=some k→∃d,env[c]? =some d∧kP k d)→tH l K n=some (K',n')→
 (∀new:List D,(env++new).length=n'→(∀c k,K'.get none c=some k→∃d,(env++new)[c]? =some d∧kP k d)→Wp F X i t (env++new) Q)→Wp F X i (Ft l t) env Q
 |[],K,K',n,n',env,hn,he,h,hc=>by
  cases h;have:=hc [] (by simpa using hn) (by simpa using he);rw[xj] at this;exact this
 |x::l,K,K',n,n',env,hn,he,h,hc=>by
  have h':(match JW K x.1 x.2 with|some r=>tH l (K.set n (some r)) (n+1)|none=>none)=some (K',n'):=h;split at h'
  ·rename_i r hr;obtain⟨ds,d,h1,h2,h3⟩:=bh1 he hr;have gd:d.cell=true:=by obtain⟨m,rfl,_⟩:=h3;rfl
   refine Wp.op h1 h2 gd ?_;refine qa l (K.set n (some r)) K' (n+1) n' (env++[d]) (by simp[hn]) (fun c k nR=> ?_) h' fun new q1 q2=> ?_
   ·by_cases Bo:n=c
    ·subst Bo;rcases T.wT none K n (some r) with e|⟨e,_⟩
     ·rw[e] at nR;cases nR;exact⟨d,by rw[xq (by omega)];simp[hn],h3⟩
     ·rw[e] at nR;cases nR
    ·rw[T.uN none K n c _ Bo] at nR;obtain⟨d',e1,e2⟩:=he c k nR;have:=(xe.1 e1).1;exact⟨d',by rw[xw this];exact e1,e2⟩
   ·have:=hc (d::new) (by simpa using q1) (by simpa using q2);rw[List.append_assoc];exact this
  ·cases h'
end
abbrev bn(op:BinOp)(x y:xM):NK×List xM:=(.bin op 0,[x,y])
abbrev u6(n:Nat):xM:= .int .u64 (.ofNat n)
def uf(x n c:Nat):sA:=[bn .shl (cd x) (u6 (32 - n)),bn .shr (cd x) (u6 n),bn .or (cd c) (cd (c+1))]
def ldW(x c:Nat):sA:=[(.ku .u32,[cd x]),bn .shl (cd c) (u6 24),(.ku .u32,[cd (x+1)]),bn .shl (cd (c+2)) (u6 16),bn .or (cd (c+1)) (cd (c+3)),(.ku .u32,[cd (x+2)]),bn .shl (cd (c+5)) (u6 8),bn .or (cd (c+4)) (cd (c+6)),(.ku .u32,[cd (x+3)]),bn .or (cd (c+7)) (cd (c+8))]
def wC(i:Nat):Nat:=if i<16 then 155+10*i else 326+21*(i - 16)
def exW(x y p q c:Nat):sA:=uf x 7 c++uf x 18 (c+3)++[bn .xor (cd (c+2)) (cd (c+5)),bn .shr (cd x) (u6 3),bn .xor (cd (c+6)) (cd (c+7))]++uf y 17 (c+9)++uf y 19 (c+12)++[bn .xor (cd (c+11)) (cd (c+14)),bn .shr (cd y) (u6 10),bn .xor (cd (c+15)) (cd (c+16)),bn .add (cd p) (cd (c+8)),bn .add (cd (c+18)) (cd q),bn .add (cd (c+19)) (cd (c+17))]
def rnd(a b c d e f g h w r:Nat)(k:xM):sA:=
 [bn .and (cd e) (cd f),(.un .xor,[cd e]),bn .and (cd (r+1)) (cd g),bn .xor (cd r) (cd (r+2))]++uf e 6 (r+4)++uf e 11 (r+7)++[bn .xor (cd (r+6)) (cd (r+9))]++uf e 25 (r+11)++[bn .xor (cd (r+10)) (cd (r+13)),bn .add (cd h) (cd (r+14)),bn .add (cd (r+15)) (cd (r+3)),bn .add (cd (r+16)) k,bn .add (cd (r+17)) (cd w)]++
 uf a 2 (r+19)++uf a 13 (r+22)++[bn .xor (cd (r+21)) (cd (r+24))]++uf a 22 (r+26)++[bn .xor (cd (r+25)) (cd (r+28)),bn .and (cd a) (cd b),bn .and (cd a) (cd c),bn .xor (cd (r+30)) (cd (r+31)),bn .and (cd b) (cd c),bn .xor (cd (r+32)) (cd (r+33)),bn .add (cd (r+29)) (cd (r+34)),bn .add (cd (r+18)) (cd (r+35)),bn .add (cd d) (cd (r+18))]
def az1:List xM→(a b c d e f g h t r:Nat)→sA
 |[],a,b,c,d,e,f,g,h,_,_=>[bn .add (cd 1) (cd a),bn .add (cd 2) (cd b),bn .add (cd 3) (cd c),bn .add (cd 4) (cd d),bn .add (cd 5) (cd e),bn .add (cd 6) (cd f),bn .add (cd 7) (cd g),bn .add (cd 8) (cd h)]
 |k::l,a,b,c,d,e,f,g,h,t,r=>rnd a b c d e f g h (wC t) r k++az1 l (r+36) a b c (r+37) e f g (t+1) (r+38)
def Hc(kc:List xM):sA:=(List.range 16).flatMap (fun i=>ldW (78+4*i) (146+10*i))++(List.range 48).flatMap (fun i=>exW (wC (i+1)) (wC (i+14)) (wC i) (wC (i+9)) (306+21*i))++az1 kc 1 2 3 4 5 6 7 8 0 1314
def Ik(b:Option ap):List xM:=match b with|some ⟨.cells cs,_,_,_,_⟩=>cs|_=>[]
end Go.Ex
namespace Go.Fl
open Go.Ex
abbrev aL:=List UInt8
abbrev iD(n:Nat):D:= .int .i64 (n:Nat)
abbrev bD(n:Nat):D:= .int .u8 (n:Nat)
inductive Ex where|mk (op:Nat) (name:aL) (n:Nat) (args:List Ex)
inductive St where|mk (kind:Nat) (name bV:aL) (bg:List Ex) (th el:List St)
structure Hn where
 name:aL
 params:List aL
 body:List St
structure Vr where
 name:aL
 type:Nat
 init:Nat
structure Cm where
 name:aL
 vars:List Vr
 bt:List (List Hn)
structure Fg where
 name:aL
 init:Bool
structure Lk where
 src:aL
 dst:aL
 zd:Nat
structure dK where
 name:aL
 flags:List Fg
 links:List Lk
 comps:List Cm
mutual
def Ex.r:Ex→List D| .mk op name n args=>[iD op,.str name,iD n,.sl (Ex.rs args)]
def Ex.rs:List Ex→List (List D)|[]=>[]|e::l=>Ex.r e::Ex.rs l
end
mutual
def St.r:St→List D| .mk kind name bV bg th el=>[iD kind,.str name,.str bV,.sl (Ex.rs bg),.sl (St.rs th),.sl (St.rs el)]
def St.rs:List St→List (List D)|[]=>[]|e::l=>St.r e::St.rs l
end
mutual
def Ex.s:Ex→List D| .mk op name n args=>[bD op,.str name,iD n,.sl (Ex.ss args)]
def Ex.ss:List Ex→List (List D)|[]=>[]|e::l=>Ex.s e::Ex.ss l
end
mutual
def St.s:St→List D| .mk kind name bV bg th el=>[bD kind,.str name,.str bV,.sl (Ex.ss bg),.sl (St.ss th),.sl (St.ss el)]
def St.ss:List St→List (List D)|[]=>[]|e::l=>St.s e::St.ss l
end
def strs(l:List aL):List (List D):=l.map fun p=>[.str p]
def Hn.r(h:Hn):List D:=[.str h.name,.sl (strs h.params),.sl (St.rs h.body)]
def Hn.s(h:Hn):List D:=[.str h.name,.sl (strs h.params),.sl (St.ss h.body)]
def Vr.r(v:Vr):List D:=[.str v.name,iD v.type,iD v.init]
def Vr.s(v:Vr):List D:=[.str v.name,bD v.type,iD v.init]
def Cm.r(c:Cm):List D:=[.str c.name,.sl (c.vars.map Vr.r),.sl (c.bt.map fun l=>[.sl (l.map Hn.r)])]
def Cm.s(c:Cm):List D:=[.str c.name,.sl (c.vars.map Vr.s),.sl (c.bt.map fun l=>[.sl (l.map Hn.s)])]
def Fg.d(f:Fg):List D:=[.str f.name,.bool f.init]
def Lk.d(l:Lk):List D:=[.str l.src,.str l.dst,iD l.zd]
def dK.r(f:dK):List D:=[.str f.name,.sl (f.flags.map Fg.d),.sl (f.links.map Lk.d),.sl (f.comps.map Cm.r)]
def dK.s(f:dK):List D:=[.str f.name,.sl (f.flags.map Fg.d),.sl (f.links.map Lk.d),.sl (f.comps.map Cm.s)]
def nm(c:Nat)(k:Nat):aL:=[c.toUInt8,(48+k).toUInt8]
structure Sc where
 ints:Nat
 tables:Nat
 flags:Nat
 params:Nat
inductive fh (c:Sc):Nat→Ex→Prop where
 |num {d:Nat} (n:Nat) (h:n≤8):fh c d (.mk 1 [] n [])
 |var {d:Nat} (k:Nat) (h:k<c.ints):fh c d (.mk 5 (nm 120 k) 0 [])
 |lH {d:Nat} (k:Nat) (h:k<c.params):fh c d (.mk 5 (nm 112 k) 0 [])
 |now {d:Nat}:fh c d (.mk 4 [] 0 [])
 |get {d:Nat} (h:0<c.tables) {e:Ex} (he:fh c d e):fh c (d+1) (.mk 6 (nm 116 0) 0 [e])
 |size {d:Nat} (h:0<c.tables):fh c d (.mk 8 (nm 116 0) 0 [])
 |neg {d:Nat} {e:Ex} (he:fh c d e):fh c (d+1) (.mk 9 [] 0 [e])
 |bin {d:Nat} (op:Nat) (h1:11≤op) (h2:op≤15) {a b:Ex} (ha:fh c d a) (hb:fh c d b):fh c (d+1) (.mk op [] 0 [a,b])
inductive j8 (c:Sc):Nat→Ex→Prop where
 |lit {d:Nat} (op:Nat) (h1:2≤op) (h2:op≤3):j8 c d (.mk op [] 0 [])
 |b0 {d:Nat}:j8 c d (.mk 5 (nm 98 0) 0 [])
 |flag {d:Nat} (k:Nat) (h:k<c.flags):j8 c d (.mk 5 (nm 102 k) 0 [])
 |has {d:Nat} (h:0<c.tables) {e:Ex} (he:fh c d e):j8 c (d+1) (.mk 7 (nm 116 0) 0 [e])
 |not {d:Nat} {e:Ex} (he:j8 c d e):j8 c (d+1) (.mk 10 [] 0 [e])
 |It {d:Nat} (op:Nat) (h1:22≤op) (h2:op≤23) {a b:Ex} (ha:j8 c d a) (hb:j8 c d b):j8 c (d+1) (.mk op [] 0 [a,b])
 |cmp {d:Nat} (op:Nat) (h1:16≤op) (h2:op≤21) {a b:Ex} (ha:fh c d a) (hb:fh c d b):j8 c (d+1) (.mk op [] 0 [a,b])
structure Wd where
 sc:Sc
 ar:List (List Nat)
 own:Nat
inductive lD (w:Wd) (B:List St→Prop):St→Prop where
 |my (k:Nat) (h:k<w.sc.ints) {e:Ex} (he:fh w.sc 3 e):lD w B (.mk 1 (nm 120 k) [] [e] [] [])
 |Dg {e:Ex} (he:j8 w.sc 5 e):lD w B (.mk 1 (nm 98 0) [] [e] [] [])
 |put (h:0<w.sc.tables) {a b:Ex} (ha:fh w.sc 3 a) (hb:fh w.sc 3 b):lD w B (.mk 2 (nm 116 0) [] [a,b] [] [])
 |del (h:0<w.sc.tables) {a:Ex} (ha:fh w.sc 3 a):lD w B (.mk 3 (nm 116 0) [] [a] [] [])
 |cond {e:Ex} (he:j8 w.sc 5 e) {th el:List St} (h1:B th) (h2:B el):lD w B (.mk 4 [] [] [e] th el)
 |G3 {e:Ex} (he:j8 w.sc 5 e) {th:List St} (h1:B th):lD w B (.mk 5 [] [] [e] th [])
 |send (i h n:Nat) {l:List Nat} (hi:w.ar[i]? =some l) (hh:l[h]? =some n) {es:List Ex} (he:∀e∈es,fh w.sc 3 e) (hn:es.length=n):lD w B (.mk 6 [(97+i).toUInt8] (nm 104 h) es [] [])
 |DM (h n:Nat) {l:List Nat} (hi:w.ar[w.own]? =some l) (hh:l[h]? =some n) {es:List Ex} (he:∀e∈es,fh w.sc 3 e) (hn:es.length=n+1):lD w B (.mk 7 [] (nm 104 h) es [] [])
 |store {a b:Ex} (ha:fh w.sc 3 a) (hb:fh w.sc 3 b) {el:List St} (h2:B el):lD w B (.mk 8 [] [] [a,b] [] el)
 |GO (k:Nat) (h:k<w.sc.ints) {a:Ex} (ha:fh w.sc 3 a) {el:List St} (h2:B el):lD w B (.mk 9 (nm 120 k) [] [a] [] el)
 |stop:lD w B (.mk 10 [] [] [] [] [])
def kY(w:Wd):Nat→List St→Prop
 |0,l=>l=[]
 |d+1,l=>∀s∈l,lD w (kY w d) s
theorem fh.mono{c:Sc}{d d':Nat}{e:Ex}(h:fh c d e)(hd:d≤d'):fh c d' e:=by
 induction h generalizing d' with
 |num n h=>exact .num n h
 |var k h=>exact .var k h
 |lH k h=>exact .lH k h
 |now=>exact .now
 |get h _ ih=>obtain⟨d',rfl⟩:∃x,d'=x+1:=⟨d' - 1,by omega⟩;exact .get h (ih (by omega))
 |size h=>exact .size h
 |neg _ ih=>obtain⟨d',rfl⟩:∃x,d'=x+1:=⟨d' - 1,by omega⟩;exact .neg (ih (by omega))
 |bin op h1 h2 _ _ ko eB=>obtain⟨d',rfl⟩:∃x,d'=x+1:=⟨d' - 1,by omega⟩;exact .bin op h1 h2 (ko (by omega)) (eB (by omega))
structure Mk where
 ints:Nat
 tables:Nat
 flags:Nat
 own:Nat
 ar:List (List Nat)
 params:Nat
 bs:List UInt8
 left:Nat
def bO(l:List UInt8):List (List D):=l.map fun b=>[bD b.toNat]
def dN(ar:List (List Nat)):List (List D):=ar.map fun l=>[.sl (l.map fun n=>[iD n])]
def Mk.d(m:Mk):List D:=[iD m.ints,iD m.tables,iD m.flags,iD m.own,.sl (dN m.ar),iD m.params,.sl (bO m.bs),iD m.left]
end Go.Fl
namespace Go.Ex
open Go.RowKit
noncomputable section
def sE:Nat→DT→List D→Option (DT×List D)
 |0,t,env=>some (t,env)
 |n+1,.note _ t,env=>sE n t env
 |n+1,.op k args t,env=>match aW (bT (lk env)) args with
  |some ds=>match aN k ds with
   |some d=>match d.cell with
    |true=>sE n t (env++[d])
    |false=>none
   |none=>none
  |none=>none
 |n+1,.aC k args cE t e,env=>match aW (bT (lk env)) args with
  |some ds=>match aN k ds with
   |some (.agg l)=>match gV cE l with
    |true=>sE n t (env++l)
    |false=>sE n e env
   |_=>none
  |none=>none
 |n+1,.br k args t e,env=>match aW (bT (lk env)) args with
  |some ds=>match aN k ds with
   |some (.bool true)=>sE n t env
   |some (.bool false)=>sE n e env
   |_=>none
  |none=>none
 |_+1,_,_=>none
def GY(f j:Nat)(us:List xM):List (List (Option xM)×DT)→DT
 |[]=> .stop
 |(p,t)::l=> .call f j us p t (GY f j us l)
def M2(o:List D):List (List (Option xM)×DT)→Option DT
 |[]=>none
 |(p,t)::l=>match gV p o with
  |true=>some t
  |false=>M2 o l
def kal(ρ:List xM)(f j:Nat)(us:List xM)(l:List (List (Option xM)×DT)):DT:= .note ⟨.own 1,[.tuple ⟨ρ⟩,.tuple ⟨us⟩],J⟩ (GY f j us l)
def QT(F:List FD)(i h:Nat):Option (DT×Nat):=match F[i]? with
 |some fd=>match fd.hs[h]?,fd.sZ[h]? with
  |some s,some t=>some (t,s.m)
  |_,_=>none
 |none=>none
section
variable{F:List FD}{X:Nat→List D→Option (List D)}{i h:Nat}{t t' e:DT}{k:NK}{args us:List xM}{env nF ds:List D}{Q:List D→Prop}
theorem wg:∀(n:Nat) {t:DT} {env:List D},sE n t env=some (t',nF)→Wp F X i t' nF Q→Wp F X i t env Q
 |0,t,env,h,w=>by
  unfold sE at h;cases h;exact w
 |n+1,.note nd t,env,h,w=>Wp.note (wg n h w)
 |n+1,.op k args t,env,h,w=>by
  unfold sE at h;split at h
  ·rename_i h1;split at h
   ·rename_i h2;split at h
    ·rename_i h3;exact Wp.op h1 h2 h3 (wg n h w)
    ·cases h
   ·cases h
  ·cases h
 |n+1,.aC k args cE t e,env,h,w=>by
  unfold sE at h;split at h
  ·rename_i h1;split at h
   ·rename_i h2;split at h
    ·rename_i h3;exact Wp.aC h1 h2 h3 (wg n h w)
    ·rename_i h3;exact Wp.opN h1 h2 h3 (wg n h w)
   ·cases h
  ·cases h
 |n+1,.br k args t e,env,h,w=>by
  unfold sE at h;split at h
  ·rename_i h1;split at h
   ·rename_i h2;exact Wp.s7 h1 h2 (wg n h w)
   ·rename_i h2;exact Wp.uI h1 h2 (wg n h w)
   ·cases h
  ·cases h
 |n+1,.sw ..,_,h,_=>by cases h
 |n+1,.call ..,_,h,_=>by cases h
 |n+1,.jump ..,_,h,_=>by cases h
 |n+1,.ret ..,_,h,_=>by cases h
 |n+1,.stop,_,h,_=>by cases h
theorem wo{d:D}(h1:aW (bT (lk env)) args=some ds)(h2:aN k ds=some d)(h4:Wp F X i t (env++[d]) Q)(h3:d.cell=true:=by exact rfl):Wp F X i (.op k args t) env Q:=Wp.op h1 h2 h3 h4
theorem wy{p:Prop}[Decidable p](h1:aW (bT (lk env)) args=some ds)(h2:aN k ds=some (.bool (decide p)))(h4:Wp F X i t env Q)(hp:p:=by omega):Wp F X i (.br k args t e) env Q:=Wp.dB h1 h2 hp h4
theorem wn{p:Prop}[Decidable p](h1:aW (bT (lk env)) args=some ds)(h2:aN k ds=some (.bool (decide p)))(h4:Wp F X i e env Q)(hp: ¬p:=by omega):Wp F X i (.br k args t e) env Q:=Wp.cN h1 h2 hp h4
theorem wL{f j:Nat}{o:List D}:∀{l:List (List (Option xM)×DT)},aW (bQ (lk env)) us=some ds→Rn F X j 0 ds (·=o)→M2 o l=some t→Wp F X i t (env++o) Q→Wp F X i (GY f j us l) env Q
 |[],_,_,h3,_=>by cases h3
 |(p,t')::l,h1,h2,h3,h4=>by
  unfold M2 at h3;split at h3
  ·rename_i hm;cases h3;exact Wp.AD h1 h2 hm h4
  ·rename_i hm;exact Wp.LH h1 h2 hm (wL h1 h2 h3 h4)
theorem wl{nd:Node}{f j:Nat}{o:List D}{l:List (List (Option xM)×DT)}(h1:aW (bQ (lk env)) us=some ds)(h2:Rn F X j 0 ds (·=o))(h3:M2 o l=some t)(h4:Wp F X i t (env++o) Q):Wp F X i (.note nd (GY f j us l)) env Q:=Wp.note (wL h1 h2 h3 h4)
theorem wR{m:Nat}(h1:QT F i h=some (t,m))(h2:ds.length=m)(h3:Wp F X i t ds Q):Rn F X i h ds Q:=by
 unfold QT at h1;split at h1
 ·rename_i fd hi;split at h1
  ·rename_i s t' hs ht;cases h1;exact Rn.of hi hs ht h2 h3
  ·cases h1
 ·cases h1
theorem wr{m:Nat}(h1:QT F i h=some (t,m))(h3:Wp F X i t ds Q)(h2:ds.length=m:=by exact rfl):Rn F X i h ds Q:=wR h1 h2 h3
end
section
variable{F:List FD}{X:Nat→List D→Option (List D)}{i:Nat}{t:DT}{Q:List D→Prop}
section
variable{a b c d e f g j k l m n o p q r s u v w x y z A B C E G H I J K L M N O P R S T U V W Y Z a1 b1 c1 d1 e1 f1 g1 j1 k1:D}
theorem w5(h:Wp F X i t [a,b,c,d,e] Q):Wp F X i t [a,b,c,d,e] Q:=h
theorem w6(h:Wp F X i t [a,b,c,d,e,f] Q):Wp F X i t [a,b,c,d,e,f] Q:=h
theorem w7(h:Wp F X i t [a,b,c,d,e,f,g] Q):Wp F X i t [a,b,c,d,e,f,g] Q:=h
theorem w8(h:Wp F X i t [a,b,c,d,e,f,g,j] Q):Wp F X i t [a,b,c,d,e,f,g,j] Q:=h
theorem w9(h:Wp F X i t [a,b,c,d,e,f,g,j,k] Q):Wp F X i t [a,b,c,d,e,f,g,j,k] Q:=h
theorem mK(h:Wp F X i t [a,b,c,d,e,f,g,j,k,l] Q):Wp F X i t [a,b,c,d,e,f,g,j,k,l] Q:=h
theorem cW(h:Wp F X i t [a,b,c,d,e,f,g,j,k,l,m] Q):Wp F X i t [a,b,c,d,e,f,g,j,k,l,m] Q:=h
theorem kF(h:Wp F X i t [a,b,c,d,e,f,g,j,k,l,m,n] Q):Wp F X i t [a,b,c,d,e,f,g,j,k,l,m,n] Q:=h
theorem jq(h:Wp F X i t [a,b,c,d,e,f,g,j,k,l,m,n,o] Q):Wp F X i t [a,b,c,d,e,f,g,j,k,l,m,n,o] Q:=h
theorem kf(h:Wp F X i t [a,b,c,d,e,f,g,j,k,l,m,n,o,p] Q):Wp F X i t [a,b,c,d,e,f,g,j,k,l,m,n,o,p] Q:=h
theorem dC(h:Wp F X i t [a,b,c,d,e,f,g,j,k,l,m,n,o,p,q] Q):Wp F X i t [a,b,c,d,e,f,g,j,k,l,m,n,o,p,q] Q:=h
theorem lG(h:Wp F X i t [a,b,c,d,e,f,g,j,k,l,m,n,o,p,q,r] Q):Wp F X i t [a,b,c,d,e,f,g,j,k,l,m,n,o,p,q,r] Q:=h
theorem fK(h:Wp F X i t [a,b,c,d,e,f,g,j,k,l,m,n,o,p,q,r,s] Q):Wp F X i t [a,b,c,d,e,f,g,j,k,l,m,n,o,p,q,r,s] Q:=h
theorem DU(h:Wp F X i t [a,b,c,d,e,f,g,j,k,l,m,n,o,p,q,r,s,u] Q):Wp F X i t [a,b,c,d,e,f,g,j,k,l,m,n,o,p,q,r,s,u] Q:=h
theorem fJ(h:Wp F X i t [a,b,c,d,e,f,g,j,k,l,m,n,o,p,q,r,s,u,v] Q):Wp F X i t [a,b,c,d,e,f,g,j,k,l,m,n,o,p,q,r,s,u,v] Q:=h
theorem jo(h:Wp F X i t [a,b,c,d,e,f,g,j,k,l,m,n,o,p,q,r,s,u,v,w] Q):Wp F X i t [a,b,c,d,e,f,g,j,k,l,m,n,o,p,q,r,s,u,v,w] Q:=h
theorem eH(h:Wp F X i t [a,b,c,d,e,f,g,j,k,l,m,n,o,p,q,r,s,u,v,w,x] Q):Wp F X i t [a,b,c,d,e,f,g,j,k,l,m,n,o,p,q,r,s,u,v,w,x] Q:=h
theorem hO(h:Wp F X i t [a,b,c,d,e,f,g,j,k,l,m,n,o,p,q,r,s,u,v,w,x,y] Q):Wp F X i t [a,b,c,d,e,f,g,j,k,l,m,n,o,p,q,r,s,u,v,w,x,y] Q:=h
theorem om(h:Wp F X i t [a,b,c,d,e,f,g,j,k,l,m,n,o,p,q,r,s,u,v,w,x,y,z] Q):Wp F X i t [a,b,c,d,e,f,g,j,k,l,m,n,o,p,q,r,s,u,v,w,x,y,z] Q:=h
theorem v9(h:Wp F X i t [a,b,c,d,e,f,g,j,k,l,m,n,o,p,q,r,s,u,v,w,x,y,z,A] Q):Wp F X i t [a,b,c,d,e,f,g,j,k,l,m,n,o,p,q,r,s,u,v,w,x,y,z,A] Q:=h
theorem qT(h:Wp F X i t [a,b,c,d,e,f,g,j,k,l,m,n,o,p,q,r,s,u,v,w,x,y,z,A,B] Q):Wp F X i t [a,b,c,d,e,f,g,j,k,l,m,n,o,p,q,r,s,u,v,w,x,y,z,A,B] Q:=h
theorem mJ(h:Wp F X i t [a,b,c,d,e,f,g,j,k,l,m,n,o,p,q,r,s,u,v,w,x,y,z,A,B,C] Q):Wp F X i t [a,b,c,d,e,f,g,j,k,l,m,n,o,p,q,r,s,u,v,w,x,y,z,A,B,C] Q:=h
theorem io(h:Wp F X i t [a,b,c,d,e,f,g,j,k,l,m,n,o,p,q,r,s,u,v,w,x,y,z,A,B,C,E] Q):Wp F X i t [a,b,c,d,e,f,g,j,k,l,m,n,o,p,q,r,s,u,v,w,x,y,z,A,B,C,E] Q:=h
theorem mI(h:Wp F X i t [a,b,c,d,e,f,g,j,k,l,m,n,o,p,q,r,s,u,v,w,x,y,z,A,B,C,E,G] Q):Wp F X i t [a,b,c,d,e,f,g,j,k,l,m,n,o,p,q,r,s,u,v,w,x,y,z,A,B,C,E,G] Q:=h
theorem MV(h:Wp F X i t [a,b,c,d,e,f,g,j,k,l,m,n,o,p,q,r,s,u,v,w,x,y,z,A,B,C,E,G,H] Q):Wp F X i t [a,b,c,d,e,f,g,j,k,l,m,n,o,p,q,r,s,u,v,w,x,y,z,A,B,C,E,G,H] Q:=h
theorem ol(h:Wp F X i t [a,b,c,d,e,f,g,j,k,l,m,n,o,p,q,r,s,u,v,w,x,y,z,A,B,C,E,G,H,I] Q):Wp F X i t [a,b,c,d,e,f,g,j,k,l,m,n,o,p,q,r,s,u,v,w,x,y,z,A,B,C,E,G,H,I] Q:=h
theorem lF(h:Wp F X i t [a,b,c,d,e,f,g,j,k,l,m,n,o,p,q,r,s,u,v,w,x,y,z,A,B,C,E,G,H,I,J] Q):Wp F X i t [a,b,c,d,e,f,g,j,k,l,m,n,o,p,q,r,s,u,v,w,x,y,z,A,B,C,E,G,H,I,J] Q:=h
theorem gP(h:Wp F X i t [a,b,c,d,e,f,g,j,k,l,m,n,o,p,q,r,s,u,v,w,x,y,z,A,B,C,E,G,H,I,J,K] Q):Wp F X i t [a,b,c,d,e,f,g,j,k,l,m,n,o,p,q,r,s,u,v,w,x,y,z,A,B,C,E,G,H,I,J,K] Q:=h
theorem MU(h:Wp F X i t [a,b,c,d,e,f,g,j,k,l,m,n,o,p,q,r,s,u,v,w,x,y,z,A,B,C,E,G,H,I,J,K,L,M] Q):Wp F X i t [a,b,c,d,e,f,g,j,k,l,m,n,o,p,q,r,s,u,v,w,x,y,z,A,B,C,E,G,H,I,J,K,L,M] Q:=h
theorem iW(h:Wp F X i t [a,b,c,d,e,f,g,j,k,l,m,n,o,p,q,r,s,u,v,w,x,y,z,A,B,C,E,G,H,I,J,K,L,M,N,O] Q):Wp F X i t [a,b,c,d,e,f,g,j,k,l,m,n,o,p,q,r,s,u,v,w,x,y,z,A,B,C,E,G,H,I,J,K,L,M,N,O] Q:=h
theorem DS(h:Wp F X i t [a,b,c,d,e,f,g,j,k,l,m,n,o,p,q,r,s,u,v,w,x,y,z,A,B,C,E,G,H,I,J,K,L,M,N,O,P,R] Q):Wp F X i t [a,b,c,d,e,f,g,j,k,l,m,n,o,p,q,r,s,u,v,w,x,y,z,A,B,C,E,G,H,I,J,K,L,M,N,O,P,R] Q:=h
theorem lE(h:Wp F X i t [a,b,c,d,e,f,g,j,k,l,m,n,o,p,q,r,s,u,v,w,x,y,z,A,B,C,E,G,H,I,J,K,L,M,N,O,P,R,S,T] Q):Wp F X i t [a,b,c,d,e,f,g,j,k,l,m,n,o,p,q,r,s,u,v,w,x,y,z,A,B,C,E,G,H,I,J,K,L,M,N,O,P,R,S,T] Q:=h
theorem Hz(h:Wp F X i t [a,b,c,d,e,f,g,j,k,l,m,n,o,p,q,r,s,u,v,w,x,y,z,A,B,C,E,G,H,I,J,K,L,M,N,O,P,R,S,T,U,V,W,Y,Z,a1,b1] Q):Wp F X i t [a,b,c,d,e,f,g,j,k,l,m,n,o,p,q,r,s,u,v,w,x,y,z,A,B,C,E,G,H,I,J,K,L,M,N,O,P,R,S,T,U,V,W,Y,Z,a1,b1] Q:=h
theorem MT(h:Wp F X i t [a,b,c,d,e,f,g,j,k,l,m,n,o,p,q,r,s,u,v,w,x,y,z,A,B,C,E,G,H,I,J,K,L,M,N,O,P,R,S,T,U,V,W,Y,Z,a1,b1,c1,d1] Q):Wp F X i t [a,b,c,d,e,f,g,j,k,l,m,n,o,p,q,r,s,u,v,w,x,y,z,A,B,C,E,G,H,I,J,K,L,M,N,O,P,R,S,T,U,V,W,Y,Z,a1,b1,c1,d1] Q:=h
theorem A9(h:Wp F X i t [a,b,c,d,e,f,g,j,k,l,m,n,o,p,q,r,s,u,v,w,x,y,z,A,B,C,E,G,H,I,J,K,L,M,N,O,P,R,S,T,U,V,W,Y,Z,a1,b1,c1,d1,e1,f1] Q):Wp F X i t [a,b,c,d,e,f,g,j,k,l,m,n,o,p,q,r,s,u,v,w,x,y,z,A,B,C,E,G,H,I,J,K,L,M,N,O,P,R,S,T,U,V,W,Y,Z,a1,b1,c1,d1,e1,f1] Q:=h
theorem sC(h:Wp F X i t [a,b,c,d,e,f,g,j,k,l,m,n,o,p,q,r,s,u,v,w,x,y,z,A,B,C,E,G,H,I,J,K,L,M,N,O,P,R,S,T,U,V,W,Y,Z,a1,b1,c1,d1,e1,f1,g1] Q):Wp F X i t [a,b,c,d,e,f,g,j,k,l,m,n,o,p,q,r,s,u,v,w,x,y,z,A,B,C,E,G,H,I,J,K,L,M,N,O,P,R,S,T,U,V,W,Y,Z,a1,b1,c1,d1,e1,f1,g1] Q:=h
theorem MS(h:Wp F X i t [a,b,c,d,e,f,g,j,k,l,m,n,o,p,q,r,s,u,v,w,x,y,z,A,B,C,E,G,H,I,J,K,L,M,N,O,P,R,S,T,U,V,W,Y,Z,a1,b1,c1,d1,e1,f1,g1,j1,k1] Q):Wp F X i t [a,b,c,d,e,f,g,j,k,l,m,n,o,p,q,r,s,u,v,w,x,y,z,A,B,C,E,G,H,I,J,K,L,M,N,O,P,R,S,T,U,V,W,Y,Z,a1,b1,c1,d1,e1,f1,g1,j1,k1] Q:=h
end
theorem wt{ρ:List Nat}{aS us:List xM}{env o:List D}(h1:aW (bQ (lk env)) us=some o)(h2:Q o):Wp F X i (.ret ρ aS us) env Q:=Wp.ret h1 h2
theorem wx{f j:Nat}{us:List xM}{cE:List (Option xM)}{t e:DT}{env ds:List D}{Q':List D→Prop}(h1:aW (bQ (lk env)) us=some ds)(h2:Rn F X j 0 ds Q')(h3:∀o,Q' o→gV cE o=true∧Wp F X i t (env++o) Q):Wp F X i (.call f j us cE t e) env Q:=Wp.ao4 h1 h2 h3
theorem wj{h' m:Nat}{ρ:List Nat}{aS us:List xM}{env ds:List D}(h2:Rn F X i h' ds Q)(h1:aW (bQ (lk env)) us=some ds:=by exact rfl):Wp F X i (.jump h' m ρ aS us) env Q:=Wp.jump h1 h2
end
theorem oA{c a:Nat}(h:a+1≤9223372036854775807:=by omega):aN (.bin .add c) [jD a,.int .i64 1]=some (jD (a+1)):=gE (b:=1) h
theorem oW{c a:Nat}(h:1≤a:=by omega)(h2:a≤9223372036854775807:=by omega):aN (.bin .sub c) [jD a,.int .i64 1]=some (jD (a - 1)):=zS (b:=1) h h2
theorem oP{es bys:Nat}{rows:List (List D)}{row:List D}(h2:(rows.length+1)*bys≤140737488355328:=by omega)(h1:rows.length+1≤9223372036854775807:=by omega)(hl:row.length=es:=by exact rfl)(hc:row.all D.cell=true:=by exact rfl):aN (.app es bys) [.sl rows,.sl [row]]=some (.sl (rows++[row])):=fZ hl hc h2 h1
theorem oI{c:Nat}{a b:Int}(h1: -9223372036854775808≤a+b:=by omega)(h2:a+b≤9223372036854775807:=by omega):aN (.bin .add c) [.int .i64 a,.int .i64 b]=some (.int .i64 (a+b)):=XJ h1 h2
theorem oC{k:xO}{n:Nat}(h:n≤9223372036854775807:=by omega):aN (.ku .i64) [.int k (n:Nat)]=some (jD n):=Z9 h
end
end Go.Ex
namespace Go.T
open Go Go.Ex Go.RowKit
noncomputable section
abbrev c(n:Nat):xM:= .chan (some (n+1))
abbrev i(n:Int):xM:= .int .i64 n
abbrev y(n:Int):xM:= .int .u8 n
def cs:Nat→Nat→List xM→List xM
 |_,0,l=>l
 |a,n+1,l=>c a::cs (a+1) n l
def n:Nat→List (Option xM)
 |0=>[]
 |k+1=>none::n k
abbrev u:xM:= .bool true
abbrev v:xM:= .bool false
abbrev s(l:List UInt8):xM:= .string ⟨⟨l⟩⟩
abbrev x:xM:= .string ⟨⟨[]⟩⟩
abbrev g(b x:Nat):xM:= .iface b (c x)
abbrev w(x es ty:Nat):ap:=⟨.own (c x),es,false,false,ty⟩
def rp:Nat→xM→List xM→List xM
 |0,_,l=>l
 |n+1,a,l=>a::rp n a l
abbrev e0:NK:= .bin .eql 0
abbrev e3:NK:= .bin .eql 3
abbrev n0:NK:= .bin .neq 0
abbrev n3:NK:= .bin .neq 3
abbrev l0:NK:= .bin .lss 0
abbrev g0:NK:= .bin .gtr 0
abbrev m0:NK:= .bin .leq 0
abbrev h0:NK:= .bin .geq 0
abbrev a0:NK:= .bin .add 0
abbrev a3:NK:= .bin .add 3
abbrev s0:NK:= .bin .sub 0
abbrev r0:NK:= .bin .rem 0
abbrev k0:NK:= .bin .shr 0
abbrev u0:NK:= .ku .u8
abbrev d0:NK:= .ku .i64
abbrev f1:NK:= .bH 1 1
abbrev f3:NK:= .bH 3 1
abbrev f4:NK:= .bH 4 1
abbrev f7:NK:= .bH 7 1
abbrev o0:NK:= .eM 0 1 false
abbrev x0:NK:= .jF
abbrev D2:=List (List (Option xM)×DT)
abbrev O(k:NK)(a:List xM)(t:DT):DT:= .op k a t
abbrev b(k:NK)(a:List xM)(t e:DT):DT:= .br k a t e
abbrev f(k x:Nat)(t:DT):DT:= .op (.Hr k) [c x] t
abbrev l(x:Nat)(t:DT):DT:= .op .ld [c x] t
abbrev N(x:Nat)(t:DT):DT:= .op .FN [c x] t
abbrev L(x:Nat)(t:DT):DT:= .op .n8 [c x] t
abbrev I(k x y:Nat)(t:DT):DT:= .op (.mD k) [c x,c y] t
abbrev A(k x:Nat)(t:DT):DT:= .aC (.lI k) [c x] (n k) t .stop
abbrev P(x:Nat)(t:DT):DT:= .op (.bin .add 0) [c x,i 1] t
abbrev W(t:DT):DT:= .note ⟨.own 0,[],J⟩ t
abbrev j(h:Nat)(ρ:List Nat)(us:List xM):DT:= .jump h 0 ρ us us
abbrev r(ρ:List Nat)(us:List xM):DT:= .ret ρ us us
abbrev t:DT:= .ret [] [.bool true] [.bool true]
abbrev e:DT:= .ret [] [.bool false] [.bool false]
abbrev K(ρ:List Int)(f j:Nat)(us:List xM)(l:D2):DT:=kal (ρ.map i) f j us l
abbrev X(f j:Nat)(us:List xM)(l:D2):DT:=GY f j us l
abbrev M(ρ:List Int)(aS:List xM)(t:DT):DT:= .note ⟨.own 1,[.tuple ⟨ρ.map i⟩,.tuple ⟨aS⟩],J⟩ t
abbrev ls(x y:Nat)(t e:DT):DT:= .br (.bin .lss 0) [c x,c y] t e
abbrev eq(x:Nat)(k:Int)(t e:DT):DT:= .br (.bin .eql 0) [c x,i k] t e
abbrev p(k:Nat):xM:= .pointer (some ⟨k,0,none⟩)
abbrev z:xM:= .slice none 0 0
abbrev B(cs:List xM)(es ty:Nat):ap:=⟨.cells cs,es,true,false,ty⟩
def da2(body:FuncId→Code)(f n k:Nat)(rs:List ResultVar)(sg:aG)(m:Nat)(hs:List (Nat×aI×Nat))(ds:List DT):FD:=
 ⟨f,n,k,rs,sg,⟨[.code (body f)],⟨vY sg.args,sg.hp⟩,m⟩::hs.map (fun h=>⟨((heads (body f) [])[h.1]?).getD [],h.2.1,h.2.2⟩),ds⟩
def Hy(q:Nat→Prop):Nat→Nat→Prop
 |0,_=>True
 |k+1,h=>q h∧Hy q k (h+1)
theorem Hy.get{q:Nat→Prop}:∀{k a:Nat},Hy q k a→∀h,h<k→q (h+a)
 |0,_,_,h,hh=>absurd hh (Nat.not_lt_zero h)
 |k+1,a,hq,0,_=>by rw[Nat.zero_add];exact hq.1
 |k+1,a,hq,h+1,hh=>by
  have:=Hy.get hq.2 h (Nat.lt_of_succ_lt_succ hh)
  rwa [show h+1+a=h+(a+1) by omega]
end
end Go.T
namespace Go.W
open Go Go.Ex Go.RowKit
abbrev i(n:Nat):xM:= .int .i64 (.ofNat n)
abbrev y(n:Nat):xM:= .int .u8 (.ofNat n)
abbrev w(n:Nat):xM:= .int .u32 (.ofNat n)
abbrev s(l:List UInt8):xM:= .string ⟨⟨l⟩⟩
abbrev e:xM:= .string ⟨⟨[]⟩⟩
abbrev A(b n:Nat):xM:= .slice (some ⟨b,0,none⟩) n n
abbrev R(b o n c:Nat):xM:= .slice (some ⟨b,o,none⟩) n c
abbrev z:xM:= .slice none 0 0
abbrev p(b:Nat):xM:= .pointer (some ⟨b,0,none⟩)
abbrev t:xM:= .bool true
abbrev f:xM:= .bool false
def rp:Nat→xM→List xM→List xM
 |0,_,l=>l
 |n+1,a,l=>a::rp n a l
abbrev N:Option ap:=none
abbrev B(es ty:Nat)(cs:List xM):Option ap:=some ⟨.cells cs,es,true,false,ty⟩
abbrev C(es ty:Nat)(cs:List xM):Option ap:=some ⟨.cells cs,es,false,false,ty⟩
end Go.W
