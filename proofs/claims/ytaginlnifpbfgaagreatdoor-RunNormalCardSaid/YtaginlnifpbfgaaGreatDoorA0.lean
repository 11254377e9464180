/- Steps of programs on data. -/
import Derived.Test.YtaginlnifpbfgaaGreatDoorX11
import Derived.IntWalk
import Derived.Test.YtaginlnifpbfgaaGreatDoorX9
set_option linter.unusedVariables false
set_option linter.unusedSimpArgs false
namespace Go.Ex
open Go.RowKit
theorem A9(k:xO):dE k k=true:=by cases k<;>rfl
section
variable{c:Nat}{k:xO}{a b:Int}
theorem ay:aU (.bin .eql c) [.int k a,.int k b]=some (.bool (decide (a=b))):=by
 show ofInt (bs (dE k k) (sv .eql k a b) none)=_;rw[A9];show some (D.bool (mQ a b))=_;rw[pu]
theorem gP:aU (.bin .neq c) [.int k a,.int k b]=some (.bool (decide (a≠b))):=by
 show ofInt (bs (dE k k) (sv .neq k a b) none)=_;rw[A9];show some (D.bool (not (mQ a b)))=_;rw[pu];simp
theorem ak:aU (.bin .lss c) [.int k a,.int k b]=some (.bool (decide (a<b))):=by
 show ofInt (bs (dE k k) (sv .lss k a b) none)=_;rw[A9];show some (D.bool (iH a b))=_;rw[qa]
theorem c7:aU (.bin .gtr c) [.int k a,.int k b]=some (.bool (decide (b<a))):=by
 show ofInt (bs (dE k k) (sv .gtr k a b) none)=_;rw[A9];show some (D.bool (iH b a))=_;rw[qa]
theorem Xu:aU (.bin .leq c) [.int k a,.int k b]=some (.bool (decide (a≤b))):=by
 show ofInt (bs (dE k k) (sv .leq k a b) none)=_;rw[A9];show some (D.bool (not (iH b a)))=_;rw[qa,NJ]
theorem Bk:aU (.bin .geq c) [.int k a,.int k b]=some (.bool (decide (b≤a))):=by
 show ofInt (bs (dE k k) (sv .geq k a b) none)=_;rw[A9];show some (D.bool (not (iH a b)))=_;rw[qa,NJ]
theorem nG{a b:List UInt8}:aU (.bin .eql c) [.str a,.str b]=some (.bool (decide (a=b))):=rfl
end
abbrev jD(n:Nat):D:= .int .i64 (n:Nat)
theorem m4{c a b:Nat}(h:a+b≤9223372036854775807):aU (.bin .add c) [jD a,jD b]=some (jD (a+b)):=by
 show some (D.int .i64 (iM .i64 ((a:Int)+(b:Int))))=_;rw[mX,IntWalk.i64_in _ (by omega)];rfl
theorem WI{c:Nat}{a b:Int}(h1: -9223372036854775808≤a+b)(h2:a+b≤9223372036854775807):aU (.bin .add c) [.int .i64 a,.int .i64 b]=some (.int .i64 (a+b)):=by
 show some (D.int .i64 (iM .i64 (a+b)))=_;rw[mX,IntWalk.i64_in _ (by omega)]
theorem tE{c:Nat}{a b:Int}(h1: -9223372036854775808≤a - b)(h2:a - b≤9223372036854775807):aU (.bin .sub c) [.int .i64 a,.int .i64 b]=some (.int .i64 (a - b)):=by
 show some (D.int .i64 (iM .i64 (a - b)))=_;rw[mX,IntWalk.i64_in _ (by omega)]
theorem Dx{c a b:Nat}(h:b≤a)(h2:a≤9223372036854775807):aU (.bin .sub c) [jD a,jD b]=some (jD (a - b)):=by
 rw[tE (by omega) (by omega)];congr 2;omega
theorem kz{c a b:Nat}(k:xO)(h:1≤b):aU (.bin .rem c) [.int k (a:Nat),.int k (b:Nat)]=some (.int k ((a%b:Nat):Int)):=by
 show ofInt (bs (dE k k) (sv .rem k a b) none)=_;rw[A9];show ofInt (bs (mQ (b:Int) 0) none (some (.int k (Int.tmod a b))))=_;rw[pu,decide_eq_false (by omega)];show some (D.int k (Int.tmod a b))=_
 congr 2
theorem bn1{c a b:Nat}(h:1≤b)(h2:a≤9223372036854775807):aU (.bin .quo c) [jD a,jD b]=some (jD (a/b)):=by
 show ofInt (bs (mQ (b:Int) 0) none (some (.int .i64 (iM .i64 (Int.tdiv a b)))))=_;rw[pu,decide_eq_false (by omega)];show some (D.int .i64 (iM .i64 (Int.tdiv a b)))=_;have:a/b≤a:=Nat.div_le_self a b;have h3:Int.tdiv (a:Int) (b:Int)=((a/b:Nat):Int):=rfl;rw[h3,mX,IntWalk.i64_in _ ⟨by exact Int.le_trans (by decide) (Int.natCast_nonneg _),by omega⟩]
theorem Xs{c a b:Nat}(h2:a*b≤9223372036854775807):aU (.bin .mul c) [jD a,jD b]=some (jD (a*b)):=by
 show some (D.int .i64 (iM .i64 ((a:Int)*(b:Int))))=_;have h3:(a:Int)*(b:Int)=((a*b:Nat):Int):=by simp
 rw[h3,mX,IntWalk.i64_in _ (by omega)]
theorem YD{k:xO}{n:Nat}(h:n≤9223372036854775807):aU (.nD .i64) [.int k (n:Nat)]=some (jD n):=by
 show some (D.int .i64 (IntKind.i64.wrap n))=_;rw[IntWalk.i64_in _ (by omega)]
theorem Kf{k:xO}{n:Nat}(h:n≤255):aU (.nD .u8) [.int k (n:Nat)]=some (.int .u8 (n:Nat)):=by
 show some (D.int .u8 (IntKind.u8.wrap n))=_;rw[IntWalk.u8_in _ (by omega)]
theorem bf{rows:List (List D)}:aU .nT [.sl rows]=some (jD rows.length):=rfl
theorem aB{es m:Nat}{rows:List (List D)}{row:List D}(h:rows[m]? =some row)(hl:row.length=es):aU (.nV es) [.sl rows,jD m]=some (.ptr row 0):=by
 show(rows[m]?).bind _=_;rw[h];show(if row.length=es then _ else _)=_;rw[if_pos hl]
theorem JV{es a:Nat}{rows:List (List D)}(h:a≤rows.length)(hl:∀row∈rows,row.length=es):aU (.iF es) [.sl rows,jD a]=some (.sl (rows.drop a)):=by
 show(if a≤rows.length∧rows.length≤rows.length∧(a=0∨Ge rows es=true) then some (D.sl ((rows.drop a).take (rows.length - a))) else none)=_;rw[if_pos ⟨h,xk _,.inr (by cases rows with|nil=>rfl|cons r l=>simp[Ge,hl r xn])⟩];rw[List.take_of_length_le (by simp)]
theorem m6{es b:Nat}{rows:List (List D)}(h:b≤rows.length):aU (.iF es) [.sl rows,jD 0,jD b]=some (.sl (rows.take b)):=by
 show(if 0≤b∧b≤rows.length∧(0=0∨Ge rows es=true) then some (D.sl ((rows.drop 0).take (b - 0))) else none)=_;rw[if_pos ⟨xL _,h,.inl rfl⟩];rfl
theorem GK{es bys:Nat}{rows q:List (List D)}(hq:∀row∈q,row.length=es∧row.all D.cell=true)(h1:rows.length+q.length≤9223372036854775807)(h2:(rows.length+q.length)*bys≤140737488355328):aU (.app es bys) [.sl rows,.sl q]=some (.sl (rows++q)):=by
 show(if q.all (fun r=>r.length==es&&r.all D.cell) then some q else none).bind (fun q=>if jI (rows.length+q.length) bys then some (D.sl (rows++q)) else none)=_;rw[if_pos (List.all_eq_true.2 fun r hr=>by simp[(hq r hr).1,(hq r hr).2])];show(if jI _ bys then _ else _)=_;rw[if_pos (by simp[jI,h1,h2])]
theorem gO{es bys:Nat}{rows:List (List D)}{row:List D}(hl:row.length=es)(hc:row.all D.cell=true)(h2:(rows.length+1)*bys≤140737488355328)(h1:rows.length+1≤9223372036854775807):aU (.app es bys) [.sl rows,.sl [row]]=some (.sl (rows++[row])):=
 GK (q:=[row]) (fun r hr=>by rw[xy] at hr;subst hr;exact⟨hl,hc⟩) h1 h2
theorem bd8{a b:Nat}(ha:a<256)(hb:b<256):aU .strOf [.int .u8 (a:Nat),.int .u8 (b:Nat)]=some (.str [a.toUInt8,b.toUInt8]):=by
 show(if a<256 then(if b<256 then some [b.toUInt8] else none:Option (List UInt8)).map (fun r=>a.toUInt8::r) else none:Option (List UInt8)).map D.str=_;rw[if_pos ha,if_pos hb];rfl
section
variable{F:List FD}{X:Nat→List D→Option (List D)}{i h:Nat}{env ds:List D}{Q:List D→Prop}
theorem Wp.fR{k:NK}{args:List xM}{t e:DT}{p:Prop}[Decidable p](h1:aX (cb (lk env)) args=some ds)(h2:aU k ds=some (.bool (decide p)))(hp:p)(h4:Wp F X i t env Q):Wp F X i (.br k args t e) env Q:=Wp.CT h1 (by rw[h2,decide_eq_true hp]) h4
theorem Wp.iG{k:NK}{args:List xM}{t e:DT}{p:Prop}[Decidable p](h1:aX (cb (lk env)) args=some ds)(h2:aU k ds=some (.bool (decide p)))(hp: ¬p)(h4:Wp F X i e env Q):Wp F X i (.br k args t e) env Q:=Wp.I9 h1 (by rw[h2,decide_eq_false hp]) h4
theorem Wp.cp4{f j:Nat}{us:List xM}{cQ:List (Option xM)}{t e:DT}{Q':List D→Prop}(h1:aX (bP (lk env)) us=some ds)(h2:Rn F X j 0 ds Q')(h3:∀o,Q' o→iy cQ o=true∧Wp F X i t (env++o) Q):Wp F X i (.call f j us cQ t e) env Q:=
 Wp.call h1 h2 fun o q=> .inl (h3 o q)
end
theorem qK{n k:Nat}:aU .kW [jD n,jD k]=some (.bool (decide (k<n))):=rfl
theorem DB{rows:List (List D)}{k:Nat}:aU .kW [.sl rows,jD k]=some (.bool (decide (k<rows.length))):=rfl
theorem OJ{off k n:Nat}{rows:List (List D)}{row:List D}{d:D}{b:Bool}(h:rows[k]? =some row)(hp:Du row off n b=some d):aU (.wN off n b) [.sl rows,jD k]=some d:=by
 show(rows[k]?).bind _=_;rw[h];exact hp
theorem bn4{k:xO}{a b:Nat}:aU .mx [.int k (a:Nat),.int k (b:Nat)]=some (.int k ((max a b:Nat):Int)):=by
 show some (D.int k (if(a:Int)<b then(b:Int) else a))=_
 congr 2
 split<;>omega
theorem bn3{k:xO}{a b c:Nat}:aU .mx [.int k (a:Nat),.int k (b:Nat),.int k (c:Nat)]=some (.int k ((max (max a b) c:Nat):Int)):=by
 show some (D.int k (if(if(a:Int)<b then(b:Int) else a)<c then(c:Int) else(if(a:Int)<b then(b:Int) else a)))=_
 congr 2
 split<;>split<;>omega
theorem du{c:Nat}{a b:List UInt8}(h:a.length+b.length≤9223372036854775807):aU (.bin .add c) [.str a,.str b]=some (.str (a++b)):=by
 show(if a.length+b.length≤9223372036854775807 then some (D.str (a++b)) else none)=_;rw[if_pos h]
theorem df{α:Type}(a:α)(l:List α):List.take 1 (List.drop 0 (a::l))=[a]:=rfl
theorem de{α:Type}(a b:α)(l:List α):List.take 2 (List.drop 0 (a::b::l))=[a,b]:=rfl
theorem iT{α:Type}(a b c:α)(l:List α):List.take 3 (List.drop 0 (a::b::c::l))=[a,b,c]:=rfl
theorem kr{α:Type}(a b c d:α)(l:List α):List.take 4 (List.drop 0 (a::b::c::d::l))=[a,b,c,d]:=rfl
theorem kq{α:Type}(a b c d e f:α)(l:List α):List.take 6 (List.drop 0 (a::b::c::d::e::f::l))=[a,b,c,d,e,f]:=rfl
def lZ(k:xO)(d:D):Prop:=∃n:Nat,d= .int k (.ofNat n)∧n<mk k
abbrev ur:=List (NK×List xM)
def GM(l:ur)(t:DT):DT:=l.foldr (fun x t=> .op x.1 x.2 t) t
noncomputable def ym(K:T (Option xO))(v:xM):Option xO:=
 match v with
 | .chan (some (c+1))=>K.get none c
 | .int k (.ofNat n)=>bs (Nat.blt n (mk k)) (some k) none
 |_=>none
noncomputable def KE(K:T (Option xO))(k:NK)(args:List xM):Option xO:=
 match k,args with
 | .bin op _,[x,y]=>match ym K x,ym K y with
  |some a,some b=>match op with
   | .add=>bs (dE a b&& !a.signed) (some a) none
   | .sub=>bs (dE a b&& !a.signed) (some a) none
   | .and=>bs (dE a b&& !a.signed) (some a) none
   | .or=>bs (dE a b&& !a.signed) (some a) none
   | .xor=>bs (dE a b&& !a.signed) (some a) none
   | .shl=>bs a.signed none (some a)
   | .shr=>bs a.signed none (some a)
   |_=>none
  |_,_=>none
 | .un .xor,[x]=>match ym K x with|some a=>bs a.signed none (some a)|none=>none
 | .nD k',[x]=>match ym K x with|some _=>bs k'.signed none (some k')|none=>none
 |_,_=>none
noncomputable def vf(l:ur):T (Option xO)→Nat→Option (T (Option xO)×Nat):=
 List.rec (motive:=fun _=>T (Option xO)→Nat→Option (T (Option xO)×Nat)) (fun K n=>some (K,n))
  (fun x _ ih K n=>match KE K x.1 x.2 with|some r=>ih (K.set n (some r)) (Nat.succ n)|none=>none) l
theorem Dn{k:xO}(hs:k.signed=false)(n:Int):∃m:Nat,iM k n= .ofNat m∧m<mk k:=by
 unfold iM;have hr:∀r:Nat,r<mk k→∃m:Nat,bs (Nat.ble (hk k) r) (Int.negSucc (Nat.sub (Nat.sub (mk k) r) 1)) (Int.ofNat r)= .ofNat m∧m<mk k:=fun r h=>by
  have e:hk k=mk k:=by cases k<;>first|rfl|(exact absurd hs (by decide))
  have hb:Nat.ble (hk k) r=false:=by
   cases hq:Nat.ble (hk k) r with
   |false=>rfl
   |true=>have:=xh hq;omega
  rw[hb];exact⟨r,rfl,h⟩
 have at6:0<mk k:=by cases k<;>decide
 cases n with
 |ofNat m=>exact hr _ (Nat.mod_lt _ at6)
 |negSucc m=>exact hr _ (by show mk k - 1 - m%mk k<mk k;omega)
theorem bq6{k:xO}{n:Nat}(h:n<mk k)(p:Nat):∃m:Nat,Int.fdiv (.ofNat n) (.ofNat p)= .ofNat m∧m<mk k:=by
 refine⟨n/p,?_,Nat.lt_of_le_of_lt (Nat.div_le_self n p) h⟩;cases n with
 |zero=>simp
 |succ n=>rfl
theorem Mt{op:BinOp}{k:xO}(hs:k.signed=false)(eE:op= .and∨op= .or∨op= .xor)(a b:Nat):∃m:Nat,nW op k (.ofNat a) (.ofNat b)=some (.ofNat m)∧m<mk k:=by
 rcases eE with rfl|rfl|rfl
 all_goals
  unfold nW;simp only
  first
   |(obtain⟨m,h1,h2⟩:=Dn hs (Int.ofNat (Nat.land (Nat.mod a (mk k)) (Nat.mod b (mk k))));exact⟨m,by rw[h1],h2⟩)
   |(obtain⟨m,h1,h2⟩:=Dn hs (Int.ofNat (Nat.lor (Nat.mod a (mk k)) (Nat.mod b (mk k))));exact⟨m,by rw[h1],h2⟩)
   |(obtain⟨m,h1,h2⟩:=Dn hs (Int.ofNat (Nat.xor (Nat.mod a (mk k)) (Nat.mod b (mk k))));exact⟨m,by rw[h1],h2⟩)
section
variable{K:T (Option xO)}{env:List D}(he:∀c k,K.get none c=some k→∃d,env[c]? =some d∧lZ k d)
include he
theorem J8{v:xM}{k:xO}(h:ym K v=some k):∃n:Nat,cb (lk env) v=some (.int k (.ofNat n))∧n<mk k:=by
 unfold ym at h;split at h
 ·rename_i c;obtain⟨d,h1,n,rfl,h3⟩:=he c k h;refine⟨n,?_,h3⟩;show(env[c]?).bind _=_;rw[h1];rfl
 ·rename_i k0 n;rcases au h with⟨h1,h2⟩|⟨_,h2⟩<;>cases h2
  exact⟨n,rfl,xh h1⟩
 ·cases h
theorem aU2{k:NK}{args:List xM}{r:xO}(h:KE K k args=some r):∃ds d,aX (cb (lk env)) args=some ds∧aU k ds=some d∧lZ r d:=by
 unfold KE at h;split at h
 ·rename_i op c x y;split at h
  ·rename_i a b ha hb;obtain⟨n,e1,e2⟩:=J8 he ha;obtain⟨m,e3,e4⟩:=J8 he hb;have gj:aX (cb (lk env)) [x,y]=some [.int a (.ofNat n),.int b (.ofNat m)]:=by simp only [aX,e1,e3]
   have hm:iH (Int.ofNat m) 0=false:=by rw[qa];exact decide_eq_false (by simp)
   have z6:∀(q:Bool),bs (dE a b&& !a.signed) (some a) none=some r→a=b∧a.signed=false∧r=a:=fun _ h=>by
    rcases au h with⟨h1,h2⟩|⟨_,h2⟩<;>cases h2
    rw[xf] at h1;exact⟨qH h1.1,by simpa using h1.2,rfl⟩
   have wr:∀(x:Int),r=a→a.signed=false→∃d,some (D.int a (iM a x))=some d∧lZ r d:=fun x h1 h2=>by
    obtain⟨q,q1,q2⟩:=Dn h2 x;exact⟨_,rfl,q,by rw[q1,h1],by rw[h1];exact q2⟩
   split at h
   ·obtain⟨rfl,hs,rfl⟩:=z6 true h;obtain⟨d,h1,h2⟩:=wr (Int.add (.ofNat n) (.ofNat m)) rfl hs;refine⟨_,d,gj,?_,h2⟩;rw[←h1];show ofInt (bs (dE r r) (sv .add r _ _) none)=_;rw[show dE r r=true by cases r<;>rfl];rfl
   ·obtain⟨rfl,hs,rfl⟩:=z6 true h;obtain⟨d,h1,h2⟩:=wr (Int.sub (.ofNat n) (.ofNat m)) rfl hs;refine⟨_,d,gj,?_,h2⟩;rw[←h1];show ofInt (bs (dE r r) (sv .sub r _ _) none)=_;rw[show dE r r=true by cases r<;>rfl];rfl
   ·obtain⟨rfl,hs,rfl⟩:=z6 true h;obtain⟨q,q1,q2⟩:=Mt (op:= .and) hs (.inl rfl) n m;refine⟨_,.int r (.ofNat q),gj,?_,q,rfl,q2⟩;show ofInt (bs (dE r r) ((nW .and r (.ofNat n) (.ofNat m)).map (Value.int r)) none)=_;rw[show dE r r=true by cases r<;>rfl,q1];rfl
   ·obtain⟨rfl,hs,rfl⟩:=z6 true h;obtain⟨q,q1,q2⟩:=Mt (op:= .or) hs (.inr (.inl rfl)) n m;refine⟨_,.int r (.ofNat q),gj,?_,q,rfl,q2⟩;show ofInt (bs (dE r r) ((nW .or r (.ofNat n) (.ofNat m)).map (Value.int r)) none)=_;rw[show dE r r=true by cases r<;>rfl,q1];rfl
   ·obtain⟨rfl,hs,rfl⟩:=z6 true h;obtain⟨q,q1,q2⟩:=Mt (op:= .xor) hs (.inr (.inr rfl)) n m;refine⟨_,.int r (.ofNat q),gj,?_,q,rfl,q2⟩;show ofInt (bs (dE r r) ((nW .xor r (.ofNat n) (.ofNat m)).map (Value.int r)) none)=_;rw[show dE r r=true by cases r<;>rfl,q1];rfl
   ·rcases au h with⟨_,h2⟩|⟨hs,h2⟩<;>cases h2
    obtain⟨q,q1,q2⟩:=Dn hs (Int.mul (.ofNat n) (.ofNat (Nat.pow 2 (Nat.min (Int.toNat (.ofNat m)) r.bits))));refine⟨_,.int r (.ofNat q),gj,?_,q,rfl,q2⟩;show ofInt (bs (iH (.ofNat m) 0) none (some (.int r (iM r _))))=_;rw[hm,q1];rfl
   ·rcases au h with⟨_,h2⟩|⟨hs,h2⟩<;>cases h2
    obtain⟨q,q1,q2⟩:=bq6 e2 (Nat.pow 2 (Nat.min (Int.toNat (.ofNat m)) r.bits));refine⟨_,.int r (.ofNat q),gj,?_,q,rfl,q2⟩;show ofInt (bs (iH (.ofNat m) 0) none (some (.int r _)))=_;rw[hm,q1];rfl
   ·cases h
  ·cases h
 ·rename_i x;split at h
  ·rename_i a ha;rcases au h with⟨_,h2⟩|⟨hs,h2⟩<;>cases h2
   obtain⟨n,e1,e2⟩:=J8 he ha;obtain⟨q,q1,q2⟩:=Mt (op:= .xor) hs (.inr (.inr rfl)) (Nat.sub (mk r) 1) n;refine⟨[.int r (.ofNat n)],.int r (.ofNat q),by simp only [aX,e1],?_,q,rfl,q2⟩;show(if r.signed=true then none else(nW .xor r (.ofNat (Nat.sub (mk r) 1)) (.ofNat n)).map (D.int r))=_;rw[hs,q1];rfl
  ·cases h
 ·rename_i k' x;split at h
  ·rename_i a ha;rcases au h with⟨_,h2⟩|⟨hs,h2⟩<;>cases h2
   obtain⟨n,e1,e2⟩:=J8 he ha;obtain⟨q,q1,q2⟩:=Dn hs (Int.ofNat n);refine⟨[.int a (.ofNat n)],.int r (.ofNat q),by simp only [aX,e1],?_,q,rfl,q2⟩;show some (D.int r (r.wrap _))=_;rw[←mX,q1]
  ·cases h
 ·cases h
end
section
variable{F:List FD}{X:Nat→List D→Option (List D)}{i:Nat}{Q:List D→Prop}
theorem Be{t:DT}:∀(l:ur) (K K':T (Option xO)) (n n':Nat) (env:List D),env.length=n→(∀c k,K.get none c=some k→∃d,env[c]? =some d∧lZ k d)→vf l K n=some (K',n')→
 (∀new:List D,(env++new).length=n'→(∀c k,K'.get none c=some k→∃d,(env++new)[c]? =some d∧lZ k d)→Wp F X i t (env++new) Q)→Wp F X i (GM l t) env Q
 |[],K,K',n,n',env,hn,he,h,hc=>by
  cases h;have:=hc [] (by simpa using hn) (by simpa using he);rw[xj] at this;exact this
 |x::l,K,K',n,n',env,hn,he,h,hc=>by
  have h':(match KE K x.1 x.2 with|some r=>vf l (K.set n (some r)) (n+1)|none=>none)=some (K',n'):=h;split at h'
  ·rename_i r hr;obtain⟨ds,d,h1,h2,h3⟩:=aU2 he hr;have gh:d.cell=true:=by obtain⟨m,rfl,_⟩:=h3;rfl
   refine Wp.op h1 h2 gh ?_;refine Be l (K.set n (some r)) K' (n+1) n' (env++[d]) (by simp[hn]) (fun c k pc=> ?_) h' fun new q1 q2=> ?_
   ·by_cases CA:n=c
    ·subst CA;rcases T.yU none K n (some r) with e|⟨e,_⟩
     ·rw[e] at pc;cases pc;exact⟨d,by rw[xq (by omega)];simp[hn],h3⟩
     ·rw[e] at pc;cases pc
    ·rw[T.wc none K n c _ CA] at pc;obtain⟨d',e1,e2⟩:=he c k pc;have:=(xe.1 e1).1;exact⟨d',by rw[xw this];exact e1,e2⟩
   ·have:=hc (d::new) (by simpa using q1) (by simpa using q2);rw[List.append_assoc];exact this
  ·cases h'
end
abbrev bn(op:BinOp)(x y:xM):NK×List xM:=(.bin op 0,[x,y])
abbrev u6(n:Nat):xM:= .int .u64 (.ofNat n)
def vI(x n c:Nat):ur:=[bn .shl (cd x) (u6 (32 - n)),bn .shr (cd x) (u6 n),bn .or (cd c) (cd (c+1))]
def ldW(x c:Nat):ur:=[(.nD .u32,[cd x]),bn .shl (cd c) (u6 24),(.nD .u32,[cd (x+1)]),bn .shl (cd (c+2)) (u6 16),bn .or (cd (c+1)) (cd (c+3)),(.nD .u32,[cd (x+2)]),bn .shl (cd (c+5)) (u6 8),bn .or (cd (c+4)) (cd (c+6)),(.nD .u32,[cd (x+3)]),bn .or (cd (c+7)) (cd (c+8))]
def wC(i:Nat):Nat:=if i<16 then 155+10*i else 326+21*(i - 16)
def exW(x y p q c:Nat):ur:=vI x 7 c++vI x 18 (c+3)++[bn .xor (cd (c+2)) (cd (c+5)),bn .shr (cd x) (u6 3),bn .xor (cd (c+6)) (cd (c+7))]++vI y 17 (c+9)++vI y 19 (c+12)++[bn .xor (cd (c+11)) (cd (c+14)),bn .shr (cd y) (u6 10),bn .xor (cd (c+15)) (cd (c+16)),bn .add (cd p) (cd (c+8)),bn .add (cd (c+18)) (cd q),bn .add (cd (c+19)) (cd (c+17))]
def rnd(a b c d e f g h w r:Nat)(k:xM):ur:=
 [bn .and (cd e) (cd f),(.un .xor,[cd e]),bn .and (cd (r+1)) (cd g),bn .xor (cd r) (cd (r+2))]++vI e 6 (r+4)++vI e 11 (r+7)++[bn .xor (cd (r+6)) (cd (r+9))]++vI e 25 (r+11)++[bn .xor (cd (r+10)) (cd (r+13)),bn .add (cd h) (cd (r+14)),bn .add (cd (r+15)) (cd (r+3)),bn .add (cd (r+16)) k,bn .add (cd (r+17)) (cd w)]++
 vI a 2 (r+19)++vI a 13 (r+22)++[bn .xor (cd (r+21)) (cd (r+24))]++vI a 22 (r+26)++[bn .xor (cd (r+25)) (cd (r+28)),bn .and (cd a) (cd b),bn .and (cd a) (cd c),bn .xor (cd (r+30)) (cd (r+31)),bn .and (cd b) (cd c),bn .xor (cd (r+32)) (cd (r+33)),bn .add (cd (r+29)) (cd (r+34)),bn .add (cd (r+18)) (cd (r+35)),bn .add (cd d) (cd (r+18))]
def am3:List xM→(a b c d e f g h t r:Nat)→ur
 |[],a,b,c,d,e,f,g,h,_,_=>[bn .add (cd 1) (cd a),bn .add (cd 2) (cd b),bn .add (cd 3) (cd c),bn .add (cd 4) (cd d),bn .add (cd 5) (cd e),bn .add (cd 6) (cd f),bn .add (cd 7) (cd g),bn .add (cd 8) (cd h)]
 |k::l,a,b,c,d,e,f,g,h,t,r=>rnd a b c d e f g h (wC t) r k++am3 l (r+36) a b c (r+37) e f g (t+1) (r+38)
def HT(kc:List xM):ur:=(List.range 16).flatMap (fun i=>ldW (78+4*i) (146+10*i))++(List.range 48).flatMap (fun i=>exW (wC (i+1)) (wC (i+14)) (wC i) (wC (i+9)) (306+21*i))++am3 kc 1 2 3 4 5 6 7 8 0 1314
def I0(b:Option ao):List xM:=match b with|some ⟨.cells cs,_,_,_,_⟩=>cs|_=>[]
end Go.Ex
namespace Go.Fl
open Go.Ex
abbrev aH:=List UInt8
abbrev iD(n:Nat):D:= .int .i64 (n:Nat)
abbrev bD(n:Nat):D:= .int .u8 (n:Nat)
inductive Ex where|mk (op:Nat) (name:aH) (n:Nat) (args:List Ex)
inductive St where|mk (kind:Nat) (name cg:aH) (bi:List Ex) (th el:List St)
structure Hn where
 name:aH
 params:List aH
 body:List St
structure Vr where
 name:aH
 type:Nat
 init:Nat
structure Cm where
 name:aH
 vars:List Vr
 bx:List (List Hn)
structure Fg where
 name:aH
 init:Bool
structure Lk where
 src:aH
 dst:aH
 Ay:Nat
structure bq where
 name:aH
 flags:List Fg
 links:List Lk
 comps:List Cm
mutual
def Ex.r:Ex→List D| .mk op name n args=>[iD op,.str name,iD n,.sl (Ex.rs args)]
def Ex.rs:List Ex→List (List D)|[]=>[]|e::l=>Ex.r e::Ex.rs l
end
mutual
def St.r:St→List D| .mk kind name cg bi th el=>[iD kind,.str name,.str cg,.sl (Ex.rs bi),.sl (St.rs th),.sl (St.rs el)]
def St.rs:List St→List (List D)|[]=>[]|e::l=>St.r e::St.rs l
end
mutual
def Ex.s:Ex→List D| .mk op name n args=>[bD op,.str name,iD n,.sl (Ex.ss args)]
def Ex.ss:List Ex→List (List D)|[]=>[]|e::l=>Ex.s e::Ex.ss l
end
mutual
def St.s:St→List D| .mk kind name cg bi th el=>[bD kind,.str name,.str cg,.sl (Ex.ss bi),.sl (St.ss th),.sl (St.ss el)]
def St.ss:List St→List (List D)|[]=>[]|e::l=>St.s e::St.ss l
end
def strs(l:List aH):List (List D):=l.map fun p=>[.str p]
def Hn.r(h:Hn):List D:=[.str h.name,.sl (strs h.params),.sl (St.rs h.body)]
def Hn.s(h:Hn):List D:=[.str h.name,.sl (strs h.params),.sl (St.ss h.body)]
def Vr.r(v:Vr):List D:=[.str v.name,iD v.type,iD v.init]
def Vr.s(v:Vr):List D:=[.str v.name,bD v.type,iD v.init]
def Cm.r(c:Cm):List D:=[.str c.name,.sl (c.vars.map Vr.r),.sl (c.bx.map fun l=>[.sl (l.map Hn.r)])]
def Cm.s(c:Cm):List D:=[.str c.name,.sl (c.vars.map Vr.s),.sl (c.bx.map fun l=>[.sl (l.map Hn.s)])]
def Fg.d(f:Fg):List D:=[.str f.name,.bool f.init]
def Lk.d(l:Lk):List D:=[.str l.src,.str l.dst,iD l.Ay]
def bq.r(f:bq):List D:=[.str f.name,.sl (f.flags.map Fg.d),.sl (f.links.map Lk.d),.sl (f.comps.map Cm.r)]
def bq.s(f:bq):List D:=[.str f.name,.sl (f.flags.map Fg.d),.sl (f.links.map Lk.d),.sl (f.comps.map Cm.s)]
def nm(c:Nat)(k:Nat):aH:=[c.toUInt8,(48+k).toUInt8]
structure Sc where
 ints:Nat
 tables:Nat
 flags:Nat
 params:Nat
inductive fc (c:Sc):Nat→Ex→Prop where
 |num {d:Nat} (n:Nat) (h:n≤8):fc c d (.mk 1 [] n [])
 |var {d:Nat} (k:Nat) (h:k<c.ints):fc c d (.mk 5 (nm 120 k) 0 [])
 |mO {d:Nat} (k:Nat) (h:k<c.params):fc c d (.mk 5 (nm 112 k) 0 [])
 |now {d:Nat}:fc c d (.mk 4 [] 0 [])
 |get {d:Nat} (h:0<c.tables) {e:Ex} (he:fc c d e):fc c (d+1) (.mk 6 (nm 116 0) 0 [e])
 |size {d:Nat} (h:0<c.tables):fc c d (.mk 8 (nm 116 0) 0 [])
 |neg {d:Nat} {e:Ex} (he:fc c d e):fc c (d+1) (.mk 9 [] 0 [e])
 |bin {d:Nat} (op:Nat) (h1:11≤op) (h2:op≤15) {a b:Ex} (ha:fc c d a) (hb:fc c d b):fc c (d+1) (.mk op [] 0 [a,b])
inductive kJ (c:Sc):Nat→Ex→Prop where
 |lit {d:Nat} (op:Nat) (h1:2≤op) (h2:op≤3):kJ c d (.mk op [] 0 [])
 |b0 {d:Nat}:kJ c d (.mk 5 (nm 98 0) 0 [])
 |flag {d:Nat} (k:Nat) (h:k<c.flags):kJ c d (.mk 5 (nm 102 k) 0 [])
 |has {d:Nat} (h:0<c.tables) {e:Ex} (he:fc c d e):kJ c (d+1) (.mk 7 (nm 116 0) 0 [e])
 |not {d:Nat} {e:Ex} (he:kJ c d e):kJ c (d+1) (.mk 10 [] 0 [e])
 |I8 {d:Nat} (op:Nat) (h1:22≤op) (h2:op≤23) {a b:Ex} (ha:kJ c d a) (hb:kJ c d b):kJ c (d+1) (.mk op [] 0 [a,b])
 |cmp {d:Nat} (op:Nat) (h1:16≤op) (h2:op≤21) {a b:Ex} (ha:fc c d a) (hb:fc c d b):kJ c (d+1) (.mk op [] 0 [a,b])
structure Wd where
 sc:Sc
 ar:List (List Nat)
 own:Nat
inductive mL (w:Wd) (B:List St→Prop):St→Prop where
 |nP (k:Nat) (h:k<w.sc.ints) {e:Ex} (he:fc w.sc 3 e):mL w B (.mk 1 (nm 120 k) [] [e] [] [])
 |EA {e:Ex} (he:kJ w.sc 5 e):mL w B (.mk 1 (nm 98 0) [] [e] [] [])
 |put (h:0<w.sc.tables) {a b:Ex} (ha:fc w.sc 3 a) (hb:fc w.sc 3 b):mL w B (.mk 2 (nm 116 0) [] [a,b] [] [])
 |del (h:0<w.sc.tables) {a:Ex} (ha:fc w.sc 3 a):mL w B (.mk 3 (nm 116 0) [] [a] [] [])
 |cond {e:Ex} (he:kJ w.sc 5 e) {th el:List St} (h1:B th) (h2:B el):mL w B (.mk 4 [] [] [e] th el)
 |HJ {e:Ex} (he:kJ w.sc 5 e) {th:List St} (h1:B th):mL w B (.mk 5 [] [] [e] th [])
 |send (i h n:Nat) {l:List Nat} (hi:w.ar[i]? =some l) (hh:l[h]? =some n) {es:List Ex} (he:∀e∈es,fc w.sc 3 e) (hn:es.length=n):mL w B (.mk 6 [(97+i).toUInt8] (nm 104 h) es [] [])
 |E7 (h n:Nat) {l:List Nat} (hi:w.ar[w.own]? =some l) (hh:l[h]? =some n) {es:List Ex} (he:∀e∈es,fc w.sc 3 e) (hn:es.length=n+1):mL w B (.mk 7 [] (nm 104 h) es [] [])
 |store {a b:Ex} (ha:fc w.sc 3 a) (hb:fc w.sc 3 b) {el:List St} (h2:B el):mL w B (.mk 8 [] [] [a,b] [] el)
 |HC (k:Nat) (h:k<w.sc.ints) {a:Ex} (ha:fc w.sc 3 a) {el:List St} (h2:B el):mL w B (.mk 9 (nm 120 k) [] [a] [] el)
 |stop:mL w B (.mk 10 [] [] [] [] [])
def l9(w:Wd):Nat→List St→Prop
 |0,l=>l=[]
 |d+1,l=>∀s∈l,mL w (l9 w d) s
theorem fc.mono{c:Sc}{d d':Nat}{e:Ex}(h:fc c d e)(hd:d≤d'):fc c d' e:=by
 induction h generalizing d' with
 |num n h=>exact .num n h
 |var k h=>exact .var k h
 |mO k h=>exact .mO k h
 |now=>exact .now
 |get h _ ih=>obtain⟨d',rfl⟩:∃x,d'=x+1:=⟨d' - 1,by omega⟩;exact .get h (ih (by omega))
 |size h=>exact .size h
 |neg _ ih=>obtain⟨d',rfl⟩:∃x,d'=x+1:=⟨d' - 1,by omega⟩;exact .neg (ih (by omega))
 |bin op h1 h2 _ _ kQ eH=>obtain⟨d',rfl⟩:∃x,d'=x+1:=⟨d' - 1,by omega⟩;exact .bin op h1 h2 (kQ (by omega)) (eH (by omega))
structure Mk where
 ints:Nat
 tables:Nat
 flags:Nat
 own:Nat
 ar:List (List Nat)
 params:Nat
 bs:List UInt8
 left:Nat
def bX(l:List UInt8):List (List D):=l.map fun b=>[bD b.toNat]
def dO(ar:List (List Nat)):List (List D):=ar.map fun l=>[.sl (l.map fun n=>[iD n])]
def Mk.d(m:Mk):List D:=[iD m.ints,iD m.tables,iD m.flags,iD m.own,.sl (dO m.ar),iD m.params,.sl (bX m.bs),iD m.left]
end Go.Fl
namespace Go.Ex
open Go.RowKit
noncomputable section
def uw:Nat→DT→List D→Option (DT×List D)
 |0,t,env=>some (t,env)
 |n+1,.note _ t,env=>uw n t env
 |n+1,.op k args t,env=>match aX (cb (lk env)) args with
  |some ds=>match aU k ds with
   |some d=>match d.cell with
    |true=>uw n t (env++[d])
    |false=>none
   |none=>none
  |none=>none
 |n+1,.aF k args cQ t e,env=>match aX (cb (lk env)) args with
  |some ds=>match aU k ds with
   |some (.agg l)=>match iy cQ l with
    |true=>uw n t (env++l)
    |false=>uw n e env
   |_=>none
  |none=>none
 |n+1,.br k args t e,env=>match aX (cb (lk env)) args with
  |some ds=>match aU k ds with
   |some (.bool true)=>uw n t env
   |some (.bool false)=>uw n e env
   |_=>none
  |none=>none
 |_+1,_,_=>none
def HG(f j:Nat)(us:List xM):List (List (Option xM)×DT)→DT
 |[]=> .stop
 |(p,t)::l=> .call f j us p t (HG f j us l)
def MG(o:List D):List (List (Option xM)×DT)→Option DT
 |[]=>none
 |(p,t)::l=>match iy p o with
  |true=>some t
  |false=>MG o l
def kal(ρ:List xM)(f j:Nat)(us:List xM)(l:List (List (Option xM)×DT)):DT:= .note ⟨.own 1,[.tuple ⟨ρ⟩,.tuple ⟨us⟩],J⟩ (HG f j us l)
def QE(F:List FD)(i h:Nat):Option (DT×Nat):=match F[i]? with
 |some fd=>match fd.hs[h]?,fd.uR[h]? with
  |some s,some t=>some (t,s.m)
  |_,_=>none
 |none=>none
section
variable{F:List FD}{X:Nat→List D→Option (List D)}{i h:Nat}{t t' e:DT}{k:NK}{args us:List xM}{env oV ds:List D}{Q:List D→Prop}
theorem wg:∀(n:Nat) {t:DT} {env:List D},uw n t env=some (t',oV)→Wp F X i t' oV Q→Wp F X i t env Q
 |0,t,env,h,w=>by
  unfold uw at h;cases h;exact w
 |n+1,.note nd t,env,h,w=>Wp.note (wg n h w)
 |n+1,.op k args t,env,h,w=>by
  unfold uw at h;split at h
  ·rename_i h1;split at h
   ·rename_i h2;split at h
    ·rename_i h3;exact Wp.op h1 h2 h3 (wg n h w)
    ·cases h
   ·cases h
  ·cases h
 |n+1,.aF k args cQ t e,env,h,w=>by
  unfold uw at h;split at h
  ·rename_i h1;split at h
   ·rename_i h2;split at h
    ·rename_i h3;exact Wp.aF h1 h2 h3 (wg n h w)
    ·rename_i h3;exact Wp.opN h1 h2 h3 (wg n h w)
   ·cases h
  ·cases h
 |n+1,.br k args t e,env,h,w=>by
  unfold uw at h;split at h
  ·rename_i h1;split at h
   ·rename_i h2;exact Wp.CT h1 h2 (wg n h w)
   ·rename_i h2;exact Wp.I9 h1 h2 (wg n h w)
   ·cases h
  ·cases h
 |n+1,.sw ..,_,h,_=>by cases h
 |n+1,.call ..,_,h,_=>by cases h
 |n+1,.jump ..,_,h,_=>by cases h
 |n+1,.ret ..,_,h,_=>by cases h
 |n+1,.stop,_,h,_=>by cases h
theorem wo{d:D}(h1:aX (cb (lk env)) args=some ds)(h2:aU k ds=some d)(h4:Wp F X i t (env++[d]) Q)(h3:d.cell=true:=by exact rfl):Wp F X i (.op k args t) env Q:=Wp.op h1 h2 h3 h4
theorem wy{p:Prop}[Decidable p](h1:aX (cb (lk env)) args=some ds)(h2:aU k ds=some (.bool (decide p)))(h4:Wp F X i t env Q)(hp:p:=by omega):Wp F X i (.br k args t e) env Q:=Wp.fR h1 h2 hp h4
theorem wn{p:Prop}[Decidable p](h1:aX (cb (lk env)) args=some ds)(h2:aU k ds=some (.bool (decide p)))(h4:Wp F X i e env Q)(hp: ¬p:=by omega):Wp F X i (.br k args t e) env Q:=Wp.iG h1 h2 hp h4
theorem wL{f j:Nat}{o:List D}:∀{l:List (List (Option xM)×DT)},aX (bP (lk env)) us=some ds→Rn F X j 0 ds (·=o)→MG o l=some t→Wp F X i t (env++o) Q→Wp F X i (HG f j us l) env Q
 |[],_,_,h3,_=>by cases h3
 |(p,t')::l,h1,h2,h3,h4=>by
  unfold MG at h3;split at h3
  ·rename_i hm;cases h3;exact Wp.Rs h1 h2 hm h4
  ·rename_i hm;exact Wp.ac1 h1 h2 hm (wL h1 h2 h3 h4)
theorem wl{nd:Node}{f j:Nat}{o:List D}{l:List (List (Option xM)×DT)}(h1:aX (bP (lk env)) us=some ds)(h2:Rn F X j 0 ds (·=o))(h3:MG o l=some t)(h4:Wp F X i t (env++o) Q):Wp F X i (.note nd (HG f j us l)) env Q:=Wp.note (wL h1 h2 h3 h4)
theorem wR{m:Nat}(h1:QE F i h=some (t,m))(h2:ds.length=m)(h3:Wp F X i t ds Q):Rn F X i h ds Q:=by
 unfold QE at h1;split at h1
 ·rename_i fd hi;split at h1
  ·rename_i s t' hs ht;cases h1;exact Rn.of hi hs ht h2 h3
  ·cases h1
 ·cases h1
theorem wr{m:Nat}(h1:QE F i h=some (t,m))(h3:Wp F X i t ds Q)(h2:ds.length=m:=by exact rfl):Rn F X i h ds Q:=wR h1 h2 h3
end
section
variable{F:List FD}{X:Nat→List D→Option (List D)}{i:Nat}{t:DT}{Q:List D→Prop}
section
variable{a b c d e f g j k l m n o p q r s u v w x y z A B C E G H I J K L M N O P R S T U V W Y Z a1 b1 c1 d1 e1 f1 g1 j1 k1:D}
theorem w5(h:Wp F X i t [a,b,c,d,e] Q):Wp F X i t [a,b,c,d,e] Q:=h
theorem w6(h:Wp F X i t [a,b,c,d,e,f] Q):Wp F X i t [a,b,c,d,e,f] Q:=h
theorem w7(h:Wp F X i t [a,b,c,d,e,f,g] Q):Wp F X i t [a,b,c,d,e,f,g] Q:=h
theorem w8(h:Wp F X i t [a,b,c,d,e,f,g,j] Q):Wp F X i t [a,b,c,d,e,f,g,j] Q:=h
theorem w9(h:Wp F X i t [a,b,c,d,e,f,g,j,k] Q):Wp F X i t [a,b,c,d,e,f,g,j,k] Q:=h
theorem n7(h:Wp F X i t [a,b,c,d,e,f,g,j,k,l] Q):Wp F X i t [a,b,c,d,e,f,g,j,k,l] Q:=h
theorem dh(h:Wp F X i t [a,b,c,d,e,f,g,j,k,l,m] Q):Wp F X i t [a,b,c,d,e,f,g,j,k,l,m] Q:=h
theorem lH(h:Wp F X i t [a,b,c,d,e,f,g,j,k,l,m,n] Q):Wp F X i t [a,b,c,d,e,f,g,j,k,l,m,n] Q:=h
theorem mN(h:Wp F X i t [a,b,c,d,e,f,g,j,k,l,m,n,o] Q):Wp F X i t [a,b,c,d,e,f,g,j,k,l,m,n,o] Q:=h
theorem nj(h:Wp F X i t [a,b,c,d,e,f,g,j,k,l,m,n,o,p] Q):Wp F X i t [a,b,c,d,e,f,g,j,k,l,m,n,o,p] Q:=h
theorem dJ(h:Wp F X i t [a,b,c,d,e,f,g,j,k,l,m,n,o,p,q] Q):Wp F X i t [a,b,c,d,e,f,g,j,k,l,m,n,o,p,q] Q:=h
theorem oY(h:Wp F X i t [a,b,c,d,e,f,g,j,k,l,m,n,o,p,q,r] Q):Wp F X i t [a,b,c,d,e,f,g,j,k,l,m,n,o,p,q,r] Q:=h
theorem gu(h:Wp F X i t [a,b,c,d,e,f,g,j,k,l,m,n,o,p,q,r,s] Q):Wp F X i t [a,b,c,d,e,f,g,j,k,l,m,n,o,p,q,r,s] Q:=h
theorem Fc(h:Wp F X i t [a,b,c,d,e,f,g,j,k,l,m,n,o,p,q,r,s,u] Q):Wp F X i t [a,b,c,d,e,f,g,j,k,l,m,n,o,p,q,r,s,u] Q:=h
theorem fZ(h:Wp F X i t [a,b,c,d,e,f,g,j,k,l,m,n,o,p,q,r,s,u,v] Q):Wp F X i t [a,b,c,d,e,f,g,j,k,l,m,n,o,p,q,r,s,u,v] Q:=h
theorem lG(h:Wp F X i t [a,b,c,d,e,f,g,j,k,l,m,n,o,p,q,r,s,u,v,w] Q):Wp F X i t [a,b,c,d,e,f,g,j,k,l,m,n,o,p,q,r,s,u,v,w] Q:=h
theorem iE(h:Wp F X i t [a,b,c,d,e,f,g,j,k,l,m,n,o,p,q,r,s,u,v,w,x] Q):Wp F X i t [a,b,c,d,e,f,g,j,k,l,m,n,o,p,q,r,s,u,v,w,x] Q:=h
theorem js(h:Wp F X i t [a,b,c,d,e,f,g,j,k,l,m,n,o,p,q,r,s,u,v,w,x,y] Q):Wp F X i t [a,b,c,d,e,f,g,j,k,l,m,n,o,p,q,r,s,u,v,w,x,y] Q:=h
theorem qp(h:Wp F X i t [a,b,c,d,e,f,g,j,k,l,m,n,o,p,q,r,s,u,v,w,x,y,z] Q):Wp F X i t [a,b,c,d,e,f,g,j,k,l,m,n,o,p,q,r,s,u,v,w,x,y,z] Q:=h
theorem yr(h:Wp F X i t [a,b,c,d,e,f,g,j,k,l,m,n,o,p,q,r,s,u,v,w,x,y,z,A] Q):Wp F X i t [a,b,c,d,e,f,g,j,k,l,m,n,o,p,q,r,s,u,v,w,x,y,z,A] Q:=h
theorem yq(h:Wp F X i t [a,b,c,d,e,f,g,j,k,l,m,n,o,p,q,r,s,u,v,w,x,y,z,A,B] Q):Wp F X i t [a,b,c,d,e,f,g,j,k,l,m,n,o,p,q,r,s,u,v,w,x,y,z,A,B] Q:=h
theorem n6(h:Wp F X i t [a,b,c,d,e,f,g,j,k,l,m,n,o,p,q,r,s,u,v,w,x,y,z,A,B,C] Q):Wp F X i t [a,b,c,d,e,f,g,j,k,l,m,n,o,p,q,r,s,u,v,w,x,y,z,A,B,C] Q:=h
theorem iS(h:Wp F X i t [a,b,c,d,e,f,g,j,k,l,m,n,o,p,q,r,s,u,v,w,x,y,z,A,B,C,E] Q):Wp F X i t [a,b,c,d,e,f,g,j,k,l,m,n,o,p,q,r,s,u,v,w,x,y,z,A,B,C,E] Q:=h
theorem oX(h:Wp F X i t [a,b,c,d,e,f,g,j,k,l,m,n,o,p,q,r,s,u,v,w,x,y,z,A,B,C,E,G] Q):Wp F X i t [a,b,c,d,e,f,g,j,k,l,m,n,o,p,q,r,s,u,v,w,x,y,z,A,B,C,E,G] Q:=h
theorem MA(h:Wp F X i t [a,b,c,d,e,f,g,j,k,l,m,n,o,p,q,r,s,u,v,w,x,y,z,A,B,C,E,G,H] Q):Wp F X i t [a,b,c,d,e,f,g,j,k,l,m,n,o,p,q,r,s,u,v,w,x,y,z,A,B,C,E,G,H] Q:=h
theorem pQ(h:Wp F X i t [a,b,c,d,e,f,g,j,k,l,m,n,o,p,q,r,s,u,v,w,x,y,z,A,B,C,E,G,H,I] Q):Wp F X i t [a,b,c,d,e,f,g,j,k,l,m,n,o,p,q,r,s,u,v,w,x,y,z,A,B,C,E,G,H,I] Q:=h
theorem n5(h:Wp F X i t [a,b,c,d,e,f,g,j,k,l,m,n,o,p,q,r,s,u,v,w,x,y,z,A,B,C,E,G,H,I,J] Q):Wp F X i t [a,b,c,d,e,f,g,j,k,l,m,n,o,p,q,r,s,u,v,w,x,y,z,A,B,C,E,G,H,I,J] Q:=h
theorem hZ(h:Wp F X i t [a,b,c,d,e,f,g,j,k,l,m,n,o,p,q,r,s,u,v,w,x,y,z,A,B,C,E,G,H,I,J,K] Q):Wp F X i t [a,b,c,d,e,f,g,j,k,l,m,n,o,p,q,r,s,u,v,w,x,y,z,A,B,C,E,G,H,I,J,K] Q:=h
theorem Mz(h:Wp F X i t [a,b,c,d,e,f,g,j,k,l,m,n,o,p,q,r,s,u,v,w,x,y,z,A,B,C,E,G,H,I,J,K,L,M] Q):Wp F X i t [a,b,c,d,e,f,g,j,k,l,m,n,o,p,q,r,s,u,v,w,x,y,z,A,B,C,E,G,H,I,J,K,L,M] Q:=h
theorem jL(h:Wp F X i t [a,b,c,d,e,f,g,j,k,l,m,n,o,p,q,r,s,u,v,w,x,y,z,A,B,C,E,G,H,I,J,K,L,M,N,O] Q):Wp F X i t [a,b,c,d,e,f,g,j,k,l,m,n,o,p,q,r,s,u,v,w,x,y,z,A,B,C,E,G,H,I,J,K,L,M,N,O] Q:=h
theorem Fb(h:Wp F X i t [a,b,c,d,e,f,g,j,k,l,m,n,o,p,q,r,s,u,v,w,x,y,z,A,B,C,E,G,H,I,J,K,L,M,N,O,P,R] Q):Wp F X i t [a,b,c,d,e,f,g,j,k,l,m,n,o,p,q,r,s,u,v,w,x,y,z,A,B,C,E,G,H,I,J,K,L,M,N,O,P,R] Q:=h
theorem mM(h:Wp F X i t [a,b,c,d,e,f,g,j,k,l,m,n,o,p,q,r,s,u,v,w,x,y,z,A,B,C,E,G,H,I,J,K,L,M,N,O,P,R,S,T] Q):Wp F X i t [a,b,c,d,e,f,g,j,k,l,m,n,o,p,q,r,s,u,v,w,x,y,z,A,B,C,E,G,H,I,J,K,L,M,N,O,P,R,S,T] Q:=h
theorem Ii(h:Wp F X i t [a,b,c,d,e,f,g,j,k,l,m,n,o,p,q,r,s,u,v,w,x,y,z,A,B,C,E,G,H,I,J,K,L,M,N,O,P,R,S,T,U,V,W,Y,Z,a1,b1] Q):Wp F X i t [a,b,c,d,e,f,g,j,k,l,m,n,o,p,q,r,s,u,v,w,x,y,z,A,B,C,E,G,H,I,J,K,L,M,N,O,P,R,S,T,U,V,W,Y,Z,a1,b1] Q:=h
theorem My(h:Wp F X i t [a,b,c,d,e,f,g,j,k,l,m,n,o,p,q,r,s,u,v,w,x,y,z,A,B,C,E,G,H,I,J,K,L,M,N,O,P,R,S,T,U,V,W,Y,Z,a1,b1,c1,d1] Q):Wp F X i t [a,b,c,d,e,f,g,j,k,l,m,n,o,p,q,r,s,u,v,w,x,y,z,A,B,C,E,G,H,I,J,K,L,M,N,O,P,R,S,T,U,V,W,Y,Z,a1,b1,c1,d1] Q:=h
theorem Cn(h:Wp F X i t [a,b,c,d,e,f,g,j,k,l,m,n,o,p,q,r,s,u,v,w,x,y,z,A,B,C,E,G,H,I,J,K,L,M,N,O,P,R,S,T,U,V,W,Y,Z,a1,b1,c1,d1,e1,f1] Q):Wp F X i t [a,b,c,d,e,f,g,j,k,l,m,n,o,p,q,r,s,u,v,w,x,y,z,A,B,C,E,G,H,I,J,K,L,M,N,O,P,R,S,T,U,V,W,Y,Z,a1,b1,c1,d1,e1,f1] Q:=h
theorem vG(h:Wp F X i t [a,b,c,d,e,f,g,j,k,l,m,n,o,p,q,r,s,u,v,w,x,y,z,A,B,C,E,G,H,I,J,K,L,M,N,O,P,R,S,T,U,V,W,Y,Z,a1,b1,c1,d1,e1,f1,g1] Q):Wp F X i t [a,b,c,d,e,f,g,j,k,l,m,n,o,p,q,r,s,u,v,w,x,y,z,A,B,C,E,G,H,I,J,K,L,M,N,O,P,R,S,T,U,V,W,Y,Z,a1,b1,c1,d1,e1,f1,g1] Q:=h
theorem Mx(h:Wp F X i t [a,b,c,d,e,f,g,j,k,l,m,n,o,p,q,r,s,u,v,w,x,y,z,A,B,C,E,G,H,I,J,K,L,M,N,O,P,R,S,T,U,V,W,Y,Z,a1,b1,c1,d1,e1,f1,g1,j1,k1] Q):Wp F X i t [a,b,c,d,e,f,g,j,k,l,m,n,o,p,q,r,s,u,v,w,x,y,z,A,B,C,E,G,H,I,J,K,L,M,N,O,P,R,S,T,U,V,W,Y,Z,a1,b1,c1,d1,e1,f1,g1,j1,k1] Q:=h
end
theorem wt{ρ:List Nat}{aO us:List xM}{env o:List D}(h1:aX (bP (lk env)) us=some o)(h2:Q o):Wp F X i (.ret ρ aO us) env Q:=Wp.ret h1 h2
theorem wx{f j:Nat}{us:List xM}{cQ:List (Option xM)}{t e:DT}{env ds:List D}{Q':List D→Prop}(h1:aX (bP (lk env)) us=some ds)(h2:Rn F X j 0 ds Q')(h3:∀o,Q' o→iy cQ o=true∧Wp F X i t (env++o) Q):Wp F X i (.call f j us cQ t e) env Q:=Wp.cp4 h1 h2 h3
theorem wj{h' m:Nat}{ρ:List Nat}{aO us:List xM}{env ds:List D}(h2:Rn F X i h' ds Q)(h1:aX (bP (lk env)) us=some ds:=by exact rfl):Wp F X i (.jump h' m ρ aO us) env Q:=Wp.jump h1 h2
end
theorem oA{c a:Nat}(h:a+1≤9223372036854775807:=by omega):aU (.bin .add c) [jD a,.int .i64 1]=some (jD (a+1)):=m4 (b:=1) h
theorem oW{c a:Nat}(h:1≤a:=by omega)(h2:a≤9223372036854775807:=by omega):aU (.bin .sub c) [jD a,.int .i64 1]=some (jD (a - 1)):=Dx (b:=1) h h2
theorem oP{es bys:Nat}{rows:List (List D)}{row:List D}(h2:(rows.length+1)*bys≤140737488355328:=by omega)(h1:rows.length+1≤9223372036854775807:=by omega)(hl:row.length=es:=by exact rfl)(hc:row.all D.cell=true:=by exact rfl):aU (.app es bys) [.sl rows,.sl [row]]=some (.sl (rows++[row])):=gO hl hc h2 h1
theorem oI{c:Nat}{a b:Int}(h1: -9223372036854775808≤a+b:=by omega)(h2:a+b≤9223372036854775807:=by omega):aU (.bin .add c) [.int .i64 a,.int .i64 b]=some (.int .i64 (a+b)):=WI h1 h2
theorem oC{k:xO}{n:Nat}(h:n≤9223372036854775807:=by omega):aU (.nD .i64) [.int k (n:Nat)]=some (jD n):=YD h
end
end Go.Ex
namespace Go.T
open Go Go.Ex Go.RowKit
noncomputable section
abbrev c(n:Nat):xM:= .chan (some (n+1))
abbrev i(n:Int):xM:= .int .i64 n
abbrev y(n:Int):xM:= .int .u8 n
def cs:Nat→Nat→List xM→List xM
 |_,0,l=>l
 |a,n+1,l=>c a::cs (a+1) n l
def n:Nat→List (Option xM)
 |0=>[]
 |k+1=>none::n k
abbrev u:xM:= .bool true
abbrev v:xM:= .bool false
abbrev s(l:List UInt8):xM:= .string ⟨⟨l⟩⟩
abbrev x:xM:= .string ⟨⟨[]⟩⟩
abbrev g(b x:Nat):xM:= .iface b (c x)
abbrev w(x es ty:Nat):ao:=⟨.own (c x),es,false,false,ty⟩
def rp:Nat→xM→List xM→List xM
 |0,_,l=>l
 |n+1,a,l=>a::rp n a l
abbrev e0:NK:= .bin .eql 0
abbrev e3:NK:= .bin .eql 3
abbrev n0:NK:= .bin .neq 0
abbrev n3:NK:= .bin .neq 3
abbrev l0:NK:= .bin .lss 0
abbrev g0:NK:= .bin .gtr 0
abbrev m0:NK:= .bin .leq 0
abbrev h0:NK:= .bin .geq 0
abbrev a0:NK:= .bin .add 0
abbrev a3:NK:= .bin .add 3
abbrev s0:NK:= .bin .sub 0
abbrev r0:NK:= .bin .rem 0
abbrev k0:NK:= .bin .shr 0
abbrev u0:NK:= .nD .u8
abbrev d0:NK:= .nD .i64
abbrev f1:NK:= .bB 1 1
abbrev f3:NK:= .bB 3 1
abbrev f4:NK:= .bB 4 1
abbrev f7:NK:= .bB 7 1
abbrev o0:NK:= .wN 0 1 false
abbrev x0:NK:= .kW
abbrev D2:=List (List (Option xM)×DT)
abbrev O(k:NK)(a:List xM)(t:DT):DT:= .op k a t
abbrev b(k:NK)(a:List xM)(t e:DT):DT:= .br k a t e
abbrev f(k x:Nat)(t:DT):DT:= .op (.Ib k) [c x] t
abbrev l(x:Nat)(t:DT):DT:= .op .ld [c x] t
abbrev N(x:Nat)(t:DT):DT:= .op .Ha [c x] t
abbrev L(x:Nat)(t:DT):DT:= .op .nT [c x] t
abbrev I(k x y:Nat)(t:DT):DT:= .op (.nV k) [c x,c y] t
abbrev A(k x:Nat)(t:DT):DT:= .aF (.jN k) [c x] (n k) t .stop
abbrev P(x:Nat)(t:DT):DT:= .op (.bin .add 0) [c x,i 1] t
abbrev W(t:DT):DT:= .note ⟨.own 0,[],J⟩ t
abbrev j(h:Nat)(ρ:List Nat)(us:List xM):DT:= .jump h 0 ρ us us
abbrev r(ρ:List Nat)(us:List xM):DT:= .ret ρ us us
abbrev t:DT:= .ret [] [.bool true] [.bool true]
abbrev e:DT:= .ret [] [.bool false] [.bool false]
abbrev K(ρ:List Int)(f j:Nat)(us:List xM)(l:D2):DT:=kal (ρ.map i) f j us l
abbrev X(f j:Nat)(us:List xM)(l:D2):DT:=HG f j us l
abbrev M(ρ:List Int)(aO:List xM)(t:DT):DT:= .note ⟨.own 1,[.tuple ⟨ρ.map i⟩,.tuple ⟨aO⟩],J⟩ t
abbrev ls(x y:Nat)(t e:DT):DT:= .br (.bin .lss 0) [c x,c y] t e
abbrev eq(x:Nat)(k:Int)(t e:DT):DT:= .br (.bin .eql 0) [c x,i k] t e
abbrev p(k:Nat):xM:= .pointer (some ⟨k,0,none⟩)
abbrev z:xM:= .slice none 0 0
abbrev B(cs:List xM)(es ty:Nat):ao:=⟨.cells cs,es,true,false,ty⟩
def cF8(body:FuncId→Code)(f n k:Nat)(rs:List ResultVar)(sg:aD)(m:Nat)(hs:List (Nat×aG×Nat))(ds:List DT):FD:=
 ⟨f,n,k,rs,sg,⟨[.code (body f)],⟨yl sg.args,sg.hp⟩,m⟩::hs.map (fun h=>⟨((heads (body f) [])[h.1]?).getD [],h.2.1,h.2.2⟩),ds⟩
def Ih(q:Nat→Prop):Nat→Nat→Prop
 |0,_=>True
 |k+1,h=>q h∧Ih q k (h+1)
theorem Ih.get{q:Nat→Prop}:∀{k a:Nat},Ih q k a→∀h,h<k→q (h+a)
 |0,_,_,h,hh=>absurd hh (Nat.not_lt_zero h)
 |k+1,a,hq,0,_=>by rw[Nat.zero_add];exact hq.1
 |k+1,a,hq,h+1,hh=>by
  have:=Ih.get hq.2 h (Nat.lt_of_succ_lt_succ hh)
  rwa [show h+1+a=h+(a+1) by omega]
end
end Go.T
namespace Go.W
open Go Go.Ex Go.RowKit
abbrev i(n:Nat):xM:= .int .i64 (.ofNat n)
abbrev y(n:Nat):xM:= .int .u8 (.ofNat n)
abbrev w(n:Nat):xM:= .int .u32 (.ofNat n)
abbrev s(l:List UInt8):xM:= .string ⟨⟨l⟩⟩
abbrev e:xM:= .string ⟨⟨[]⟩⟩
abbrev A(b n:Nat):xM:= .slice (some ⟨b,0,none⟩) n n
abbrev R(b o n c:Nat):xM:= .slice (some ⟨b,o,none⟩) n c
abbrev z:xM:= .slice none 0 0
abbrev p(b:Nat):xM:= .pointer (some ⟨b,0,none⟩)
abbrev t:xM:= .bool true
abbrev f:xM:= .bool false
def rp:Nat→xM→List xM→List xM
 |0,_,l=>l
 |n+1,a,l=>a::rp n a l
abbrev N:Option ao:=none
abbrev B(es ty:Nat)(cs:List xM):Option ao:=some ⟨.cells cs,es,true,false,ty⟩
abbrev C(es ty:Nat)(cs:List xM):Option ao:=some ⟨.cells cs,es,false,false,ty⟩
end Go.W
