/- The law, and its closed call awake. -/
import Derived.Test.YthicpeihkkokmaaGreatDoorT1
import Derived.Test.YthicpeihkkokmaaGreatDoorX9
import Derived.Test.YthicpeihkkokmaaGreatDoorRows
import Derived.KernelRfl
import Derived.Test.YthicpeihkkokmaaGreatDoorP10
import Derived.Test.YthicpeihkkokmaaGreatDoorX11
import Derived.Test.YthicpeihkkokmaaGreatDoorT2
import Derived.Test.YthicpeihkkokmaaGreatDoorT3
import Derived.Test.YthicpeihkkokmaaGreatDoorT4
import Derived.Test.YthicpeihkkokmaaGreatDoorT5
import Derived.Test.YthicpeihkkokmaaGreatDoorT6
import Derived.Test.YthicpeihkkokmaaGreatDoorT7
import Derived.Test.YthicpeihkkokmaaGreatDoorT8
import Derived.Test.YthicpeihkkokmaaGreatDoorP1
set_option linter.unusedVariables false
set_option linter.unusedSimpArgs false
namespace Go.Proofs.YthicpeihkkokmaaGreatDoor
open Go.Ex Go.RowKit
abbrev oV:List (String×DataW Unit):=[("math/bits.deBruijn32tab",Rows.laid_math_bits_deBruijn32tab),("math/bits.deBruijn64tab",Rows.laid_math_bits_deBruijn64tab),("internal/strconv.uint64pow10",Rows.laid_internal_strconv_uint64pow10),("rootcause/digest.constants",Rows.laid_rootcause_digest_constants),("rootcause/lexer.words",Rows.laid_rootcause_lexer_words),("rootcause/lexer.symbols",Rows.laid_rootcause_lexer_symbols),("rootcause/syntax.shapes",Rows.laid_rootcause_syntax_shapes),("rootcause/syntax.forms",Rows.laid_rootcause_syntax_forms),("rootcause/code.rows",Rows.laid_rootcause_code_rows)]
noncomputable def jP(b:Option aG):C3:=match b with|some ⟨.cells cs,_,_,_,_⟩=>cs|_=>[]
theorem uR:(oV.all fun x=>x.2.handleName?.isNone)=true:=by kernel_rfl
section
variable{w:World}(h:laidMetH Tryz.prog oV w)
include h
theorem lg0:∃e fz,w.heap[0]? =some (.cells ⟨jP BV⟩ e fz):=uS h uR 4 (n:= "rootcause/digest.constants") (d:=Rows.laid_rootcause_digest_constants) (t:=(Tryz.prog.globals[0]?.map (·.type)).getD 0) (by simp[oV]) (by kernel_rfl) (by kernel_rfl) (by kernel_rfl)
theorem lg1:∃e fz,w.heap[1]? =some (.cells ⟨jP gb1⟩ e fz):=uS h uR 4 (n:= "rootcause/lexer.symbols") (d:=Rows.laid_rootcause_lexer_symbols) (t:=(Tryz.prog.globals[1]?.map (·.type)).getD 0) (by simp[oV]) (by kernel_rfl) (by kernel_rfl) (by kernel_rfl)
theorem lg2:∃e fz,w.heap[2]? =some (.cells ⟨jP gb2⟩ e fz):=uS h uR 4 (n:= "rootcause/lexer.words") (d:=Rows.laid_rootcause_lexer_words) (t:=(Tryz.prog.globals[2]?.map (·.type)).getD 0) (by simp[oV]) (by kernel_rfl) (by kernel_rfl) (by kernel_rfl)
theorem lg3:∃e fz,w.heap[3]? =some (.cells ⟨jP gb3⟩ e fz):=uS h uR 4 (n:= "rootcause/syntax.forms") (d:=Rows.laid_rootcause_syntax_forms) (t:=(Tryz.prog.globals[3]?.map (·.type)).getD 0) (by simp[oV]) (by kernel_rfl) (by kernel_rfl) (by kernel_rfl)
theorem lg4:∃e fz,w.heap[4]? =some (.cells ⟨jP gb4⟩ e fz):=uS h uR 4 (n:= "rootcause/code.rows") (d:=Rows.laid_rootcause_code_rows) (t:=(Tryz.prog.globals[4]?.map (·.type)).getD 0) (by simp[oV]) (by kernel_rfl) (by kernel_rfl) (by kernel_rfl)
theorem lg5:∃e fz,w.heap[5]? =some (.cells ⟨jP gb5⟩ e fz):=uS h uR 4 (n:= "internal/strconv.uint64pow10") (d:=Rows.laid_internal_strconv_uint64pow10) (t:=(Tryz.prog.globals[5]?.map (·.type)).getD 0) (by simp[oV]) (by kernel_rfl) (by kernel_rfl) (by kernel_rfl)
theorem lg6:∃e fz,w.heap[6]? =some (.cells ⟨jP gb6⟩ e fz):=uS h uR 4 (n:= "rootcause/syntax.shapes") (d:=Rows.laid_rootcause_syntax_shapes) (t:=(Tryz.prog.globals[6]?.map (·.type)).getD 0) (by simp[oV]) (by kernel_rfl) (by kernel_rfl) (by kernel_rfl)
theorem lg7:∃e fz,w.heap[7]? =some (.cells ⟨jP gb7⟩ e fz):=uS h uR 4 (n:= "math/bits.deBruijn32tab") (d:=Rows.laid_math_bits_deBruijn32tab) (t:=(Tryz.prog.globals[7]?.map (·.type)).getD 0) (by simp[oV]) (by kernel_rfl) (by kernel_rfl) (by kernel_rfl)
theorem lg8:∃e fz,w.heap[8]? =some (.cells ⟨jP gb8⟩ e fz):=uS h uR 4 (n:= "math/bits.deBruijn64tab") (d:=Rows.laid_math_bits_deBruijn64tab) (t:=(Tryz.prog.globals[8]?.map (·.type)).getD 0) (by simp[oV]) (by kernel_rfl) (by kernel_rfl) (by kernel_rfl)
theorem bl4:LG.length<=w.heap.size:=by obtain⟨e,fz,h6⟩:=lg8 h;exact(Array.getElem?_eq_some_iff.1 h6).1
theorem bl5:AL w:=fun g hg=>by
 match g,hg with
 |0,_=>exact .inr ⟨_,_,rfl,by kernel_rfl,lg0 h⟩
 |1,_=>exact .inr ⟨_,_,rfl,by kernel_rfl,lg1 h⟩
 |2,_=>exact .inr ⟨_,_,rfl,by kernel_rfl,lg2 h⟩
 |3,_=>exact .inr ⟨_,_,rfl,by kernel_rfl,lg3 h⟩
 |4,_=>exact .inr ⟨_,_,rfl,by kernel_rfl,lg4 h⟩
 |5,_=>exact .inr ⟨_,_,rfl,by kernel_rfl,lg5 h⟩
 |6,_=>exact .inr ⟨_,_,rfl,by kernel_rfl,lg6 h⟩
 |7,_=>exact .inr ⟨_,_,rfl,by kernel_rfl,lg7 h⟩
 |8,_=>exact .inr ⟨_,_,rfl,by kernel_rfl,lg8 h⟩
 |n+9,hg=>exact absurd hg NS
end
open Go.Ex Go.RowKit Go.Fl
theorem bh4{n:Int}(h:(Lit.int .u8 n).wf=true):∃b:UInt8,D.int .u8 n=bD b.toNat:=by
 have h1:0<=n/\n<=255:=by
  have:=h;simp only [Lit.wf,xf,decide_eq_true_eq] at this;have h1:IntKind.min .u8=0:=Pp
  have h2:IntKind.max .u8=255:=Pp
  rw[h1,h2] at this;exact this
 refine⟨UInt8.ofNat n.toNat,?_⟩;show D.int .u8 n=D.int .u8 (((UInt8.ofNat n.toNat).toNat:Nat):Int);rw[UInt8.toNat_ofNat']
 congr 1
 omega
section
variable{ds:Di}
theorem Hl(h:TR Tryz.prog 5 ds):∃b:UInt8,ds=[bD b.toNat]:=by
 obtain⟨n,rfl,hn⟩:=h.aQ4 Tryz.underlying5;obtain⟨b,hb⟩:=bh4 hn;exact⟨b,by rw[hb]⟩
theorem OZ(h:TR Tryz.prog 22 ds):∃l:EH,ds=[.sl (bG l)]:=by
 obtain⟨rows,rfl,_,hr⟩:=h.Nl Tryz.underlying22;obtain⟨l,rfl⟩:=Jc (f:=fun b:UInt8=>[D.int .u8 (b.toNat:Nat)]) fun row hm=>Hl (hr row hm)
 exact⟨l,rfl⟩
theorem bg5(h:TR Tryz.prog 151 ds):∃c:Cd,ds=c.d:=by
 obtain⟨a,r,rfl,h1,h⟩:=(h.MY Tryz.underlying151).cons_inv;obtain⟨b,r,rfl,h2,h⟩:=h.cons_inv;obtain rfl:=h.OB;obtain⟨x,rfl⟩:=Hl h1;obtain⟨l,rfl⟩:=OZ h2;exact⟨⟨x,l⟩,rfl⟩
theorem XY(h:TR Tryz.prog 135 ds):∃l:List Cd,ds=[.sl (l.map Cd.d)]:=by
 obtain⟨rows,rfl,_,hr⟩:=h.Nl Tryz.underlying135;obtain⟨l,rfl⟩:=Jc (f:=Cd.d) fun row hm=>bg5 (hr row hm)
 exact⟨l,rfl⟩
theorem bg4(h:TR Tryz.prog 137 ds):∃p:Pt,ds=p.d:=by
 obtain⟨a,r,rfl,h1,h⟩:=(h.MY Tryz.underlying137).cons_inv;obtain⟨b,r,rfl,h2,h⟩:=h.cons_inv;obtain⟨c,r,rfl,h3,h⟩:=h.cons_inv;obtain⟨d,r,rfl,h4,h⟩:=h.cons_inv;obtain rfl:=h.OB;obtain⟨x,rfl⟩:=Hl h1;obtain⟨y,rfl⟩:=Hl h2;obtain⟨l,rfl⟩:=XY h3;obtain⟨m,rfl⟩:=XY h4;exact⟨⟨x,y,l,m⟩,rfl⟩
theorem bg3(h:TR Tryz.prog 25 ds):∃p:ui,ds=p.d:=by
 obtain⟨a,r,rfl,h1,h⟩:=(h.MY Tryz.underlying25).cons_inv;obtain⟨b,r,rfl,h2,h⟩:=h.cons_inv;obtain⟨c,r,rfl,h3,h⟩:=h.cons_inv;obtain rfl:=h.OB;obtain⟨x,rfl⟩:=Hl h1;obtain⟨l,rfl⟩:=OZ h2;obtain⟨rows,rfl,_,hr⟩:=h3.Nl Tryz.underlying23;obtain⟨m,rfl⟩:=Jc (f:=Pt.d) fun row hm=>bg4 (hr row hm)
 exact⟨⟨x,l,m⟩,rfl⟩
end
theorem aU4:dQ eF F:= .app tg0 (.app tg2 (.app tg3 (.app tg4 (.app tg5 (.app tg6 (.app bu3 (.app bu2 (.app bu1 (.app bu0 (.app bt9 (.app bt8 (.app bt7 (.app bt6 (.app bt5 (.app bt4 (.app bt3 (.app bt2 (.app bt1 (.app bt0 (.app bs9 (.app bs8 (.app bs7 (.app bj2 (.app bj1 (.app bj0 (.app bi9 (.app bi8 (.app bi7 (.app bi6 (.app bi5 (.app wT (.app vl (.app ve (.app uH (.app bi0 (.app bh9 (.app tG (.app tE (.app bh7 bh6)))))))))))))))))))))))))))))))))))))))
theorem aV3:∀(i:Nat) (fd:FD),F[i]? =some fd->eF fd/\S[i]? =some (fd.f,fd.sg):=fun i fd h=>⟨aU4.get i fd h,by rw[xx,h];rfl⟩
def XA:Bv:=fun _ _=>none
theorem aQ0(p:ui){x y z:Nat}(h:x<=255/\y<=255/\z<=255):zy Tryz.prog AL 9 LG 6 bw.sg (p.d++[bD x,bD y,bD z]) [.bool true]:=by
 obtain⟨o,h,rfl⟩:=sE (X:=XA) p h.1 h.2.1 h.2.2;obtain⟨n,h⟩:=(zS F XA).1 h;exact(FF F9 P3 hGE Zk XU aH9 aV3 (fun _ _ _ _ _ h=>by unfold XA at h;cases h) n 163).2 _ _ _ _ h rfl
theorem aF9{w:World}(h:AL w)(hz:LG.length<=w.heap.size)(p:ui){x y z:Nat}(hb:x<=255/\y<=255/\z<=255){xs:C3}(hx:qn w p.d xs):Calls Tryz.prog 6 #[.agg ⟨xs⟩,.agg ⟨[.int .u8 x,.int .u8 y,.int .u8 z]⟩] w fun e w'=>e= .returned (.bool true)/\Below w.heap.size w w':=by
 have lp:p.d.length=3:=rfl;refine ap4 (args':=[.agg ⟨xs⟩,.agg ⟨[.int .u8 x,.int .u8 y,.int .u8 z]⟩]) rfl rfl (aQ0 p hb) h h hz ?_;have c1:aj (AP LG (fun c=>(p.d++[bD x,bD y,bD z])[c]?) (zW w)) (.agg ⟨[cd 0,cd 1,cd 2]⟩) (.agg ⟨xs⟩):=
  bk8 (ds:=p.d) (a:=0) (n:=3) lp (fun i d v h1 h2=>⟨by
   show(p.d++[bD x,bD y,bD z])[0+i]? =some d;rw[Nat.zero_add,xw (xe.1 h1).1];exact h1,hx.2.1 d (xu h1),hx.2.2 i d v h1 h2⟩) hx.1 rfl
 have c2:aj (AP LG (fun c=>(p.d++[bD x,bD y,bD z])[c]?) (zW w)) (.agg ⟨[cd 3,cd 4,cd 5]⟩) (.agg ⟨[.int .u8 x,.int .u8 y,.int .u8 z]⟩):=
  .agg _ _ rfl fun i v v' h1 h2=>by
   match i with
   |0=>cases h1;cases h2;exact .sym 3 (bD x) _ rfl rfl (.int ..)
   |1=>cases h1;cases h2;exact .sym 4 (bD y) _ rfl rfl (.int ..)
   |2=>cases h1;cases h2;exact .sym 5 (bD z) _ rfl rfl (.int ..)
   |i+3=>cases h1
 exact .cons c1 (.cons c2 (.nil _))
end Go.Proofs.YthicpeihkkokmaaGreatDoor
