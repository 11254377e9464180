/- The law, and its closed call awake. -/
import Derived.Test.YthicpeihkkokmaaGreatDoorT1
import Derived.Test.YthicpeihkkokmaaGreatDoorX8
import Derived.Test.YthicpeihkkokmaaGreatDoorRows
import Derived.KernelRfl
import Derived.Test.YthicpeihkkokmaaGreatDoorP10
import Derived.Test.YthicpeihkkokmaaGreatDoorX10
import Derived.Test.YthicpeihkkokmaaGreatDoorT2
import Derived.Test.YthicpeihkkokmaaGreatDoorT3
import Derived.Test.YthicpeihkkokmaaGreatDoorT4
import Derived.Test.YthicpeihkkokmaaGreatDoorT5
import Derived.Test.YthicpeihkkokmaaGreatDoorT6
import Derived.Test.YthicpeihkkokmaaGreatDoorT7
import Derived.Test.YthicpeihkkokmaaGreatDoorT8
import Derived.Test.YthicpeihkkokmaaGreatDoorP1
import Derived.Test.YthicpeihkkokmaaGreatDoorX11
set_option linter.unusedVariables false
set_option linter.unusedSimpArgs false
namespace Go.Proofs.YthicpeihkkokmaaGreatDoor
open Go.Ex Go.RowKit
abbrev pq:List (String×DataW Unit):=[("math/bits.deBruijn32tab",Rows.laid_math_bits_deBruijn32tab),("math/bits.deBruijn64tab",Rows.laid_math_bits_deBruijn64tab),("internal/strconv.uint64pow10",Rows.laid_internal_strconv_uint64pow10),("rootcause/digest.constants",Rows.laid_rootcause_digest_constants),("rootcause/lexer.words",Rows.laid_rootcause_lexer_words),("rootcause/lexer.symbols",Rows.laid_rootcause_lexer_symbols),("rootcause/syntax.shapes",Rows.laid_rootcause_syntax_shapes),("rootcause/syntax.forms",Rows.laid_rootcause_syntax_forms),("rootcause/code.rows",Rows.laid_rootcause_code_rows)]
noncomputable def jw(b:Option aE):a0e:=match b with|some ⟨.cells cs,_,_,_,_⟩=>cs|_=>[]
theorem vO:(pq.all fun x=>x.2.handleName?.isNone)=true:=by kernel_rfl
section
variable{w:World}(h:laidMetH Tryz.prog pq w)
include h
theorem lg0:∃e fz,w.heap[0]? =some (.cells ⟨jw C0⟩ e fz):=vP h vO 4 (n:= "rootcause/digest.constants") (d:=Rows.laid_rootcause_digest_constants) (t:=(Tryz.prog.globals[0]?.map (·.type)).getD 0) (by simp[pq]) (by kernel_rfl) (by kernel_rfl) (by kernel_rfl)
theorem lg1:∃e fz,w.heap[1]? =some (.cells ⟨jw gb1⟩ e fz):=vP h vO 4 (n:= "rootcause/lexer.symbols") (d:=Rows.laid_rootcause_lexer_symbols) (t:=(Tryz.prog.globals[1]?.map (·.type)).getD 0) (by simp[pq]) (by kernel_rfl) (by kernel_rfl) (by kernel_rfl)
theorem lg2:∃e fz,w.heap[2]? =some (.cells ⟨jw gb2⟩ e fz):=vP h vO 4 (n:= "rootcause/lexer.words") (d:=Rows.laid_rootcause_lexer_words) (t:=(Tryz.prog.globals[2]?.map (·.type)).getD 0) (by simp[pq]) (by kernel_rfl) (by kernel_rfl) (by kernel_rfl)
theorem lg3:∃e fz,w.heap[3]? =some (.cells ⟨jw gb3⟩ e fz):=vP h vO 4 (n:= "rootcause/syntax.forms") (d:=Rows.laid_rootcause_syntax_forms) (t:=(Tryz.prog.globals[3]?.map (·.type)).getD 0) (by simp[pq]) (by kernel_rfl) (by kernel_rfl) (by kernel_rfl)
theorem lg4:∃e fz,w.heap[4]? =some (.cells ⟨jw gb4⟩ e fz):=vP h vO 4 (n:= "rootcause/code.rows") (d:=Rows.laid_rootcause_code_rows) (t:=(Tryz.prog.globals[4]?.map (·.type)).getD 0) (by simp[pq]) (by kernel_rfl) (by kernel_rfl) (by kernel_rfl)
theorem lg5:∃e fz,w.heap[5]? =some (.cells ⟨jw gb5⟩ e fz):=vP h vO 4 (n:= "internal/strconv.uint64pow10") (d:=Rows.laid_internal_strconv_uint64pow10) (t:=(Tryz.prog.globals[5]?.map (·.type)).getD 0) (by simp[pq]) (by kernel_rfl) (by kernel_rfl) (by kernel_rfl)
theorem lg6:∃e fz,w.heap[6]? =some (.cells ⟨jw gb6⟩ e fz):=vP h vO 4 (n:= "rootcause/syntax.shapes") (d:=Rows.laid_rootcause_syntax_shapes) (t:=(Tryz.prog.globals[6]?.map (·.type)).getD 0) (by simp[pq]) (by kernel_rfl) (by kernel_rfl) (by kernel_rfl)
theorem lg7:∃e fz,w.heap[7]? =some (.cells ⟨jw gb7⟩ e fz):=vP h vO 4 (n:= "math/bits.deBruijn32tab") (d:=Rows.laid_math_bits_deBruijn32tab) (t:=(Tryz.prog.globals[7]?.map (·.type)).getD 0) (by simp[pq]) (by kernel_rfl) (by kernel_rfl) (by kernel_rfl)
theorem lg8:∃e fz,w.heap[8]? =some (.cells ⟨jw gb8⟩ e fz):=vP h vO 4 (n:= "math/bits.deBruijn64tab") (d:=Rows.laid_math_bits_deBruijn64tab) (t:=(Tryz.prog.globals[8]?.map (·.type)).getD 0) (by simp[pq]) (by kernel_rfl) (by kernel_rfl) (by kernel_rfl)
theorem bt9:LG.length<=w.heap.size:=by obtain⟨e,fz,h6⟩:=lg8 h;exact(Array.getElem?_eq_some_iff.1 h6).1
theorem bu0:BO w:=fun g hg=>by
 match g,hg with
 |0,_=>exact .inr ⟨_,_,rfl,by kernel_rfl,lg0 h⟩
 |1,_=>exact .inr ⟨_,_,rfl,by kernel_rfl,lg1 h⟩
 |2,_=>exact .inr ⟨_,_,rfl,by kernel_rfl,lg2 h⟩
 |3,_=>exact .inr ⟨_,_,rfl,by kernel_rfl,lg3 h⟩
 |4,_=>exact .inr ⟨_,_,rfl,by kernel_rfl,lg4 h⟩
 |5,_=>exact .inr ⟨_,_,rfl,by kernel_rfl,lg5 h⟩
 |6,_=>exact .inr ⟨_,_,rfl,by kernel_rfl,lg6 h⟩
 |7,_=>exact .inr ⟨_,_,rfl,by kernel_rfl,lg7 h⟩
 |8,_=>exact .inr ⟨_,_,rfl,by kernel_rfl,lg8 h⟩
 |n+9,hg=>exact absurd hg a0C
end
open Go.Ex Go.RowKit Go.Fl
theorem br3{n:Int}(h:(Lit.int .u8 n).wf=true):∃b:UInt8,D.int .u8 n=bD b.toNat:=by
 have h1:0<=n/\n<=255:=by
  have:=h;simp only [Lit.wf,xf,decide_eq_true_eq] at this;have h1:IntKind.min .u8=0:=a0I
  have h2:IntKind.max .u8=255:=a0I
  rw[h1,h2] at this;exact this
 refine⟨UInt8.ofNat n.toNat,?_⟩;show D.int .u8 n=D.int .u8 (((UInt8.ofNat n.toNat).toNat:Nat):Int);rw[UInt8.toNat_ofNat']
 congr 1
 omega
section
variable{ds:a0d}
theorem Iw(h:TR Tryz.prog 5 ds):∃b:UInt8,ds=[bD b.toNat]:=by
 obtain⟨n,rfl,hn⟩:=h.aZ4 Tryz.underlying5;obtain⟨b,hb⟩:=br3 hn;exact⟨b,by rw[hb]⟩
theorem Y5(h:TR Tryz.prog 22 ds):∃l:a0h,ds=[.sl (bV l)]:=by
 obtain⟨rows,rfl,_,hr⟩:=h.Ow Tryz.underlying22;obtain⟨l,rfl⟩:=Kb (f:=fun b:UInt8=>[D.int .u8 (b.toNat:Nat)]) fun row hm=>Iw (hr row hm)
 exact⟨l,rfl⟩
theorem bq3(h:TR Tryz.prog 151 ds):∃c:Cd,ds=c.d:=by
 obtain⟨a,r,rfl,h1,h⟩:=(h.N7 Tryz.underlying151).cons_inv;obtain⟨b,r,rfl,h2,h⟩:=h.cons_inv;obtain rfl:=h.PL;obtain⟨x,rfl⟩:=Iw h1;obtain⟨l,rfl⟩:=Y5 h2;exact⟨⟨x,l⟩,rfl⟩
theorem Y4(h:TR Tryz.prog 135 ds):∃l:List Cd,ds=[.sl (l.map Cd.d)]:=by
 obtain⟨rows,rfl,_,hr⟩:=h.Ow Tryz.underlying135;obtain⟨l,rfl⟩:=Kb (f:=Cd.d) fun row hm=>bq3 (hr row hm)
 exact⟨l,rfl⟩
theorem bq2(h:TR Tryz.prog 137 ds):∃p:Pt,ds=p.d:=by
 obtain⟨a,r,rfl,h1,h⟩:=(h.N7 Tryz.underlying137).cons_inv;obtain⟨b,r,rfl,h2,h⟩:=h.cons_inv;obtain⟨c,r,rfl,h3,h⟩:=h.cons_inv;obtain⟨d,r,rfl,h4,h⟩:=h.cons_inv;obtain rfl:=h.PL;obtain⟨x,rfl⟩:=Iw h1;obtain⟨y,rfl⟩:=Iw h2;obtain⟨l,rfl⟩:=Y4 h3;obtain⟨m,rfl⟩:=Y4 h4;exact⟨⟨x,y,l,m⟩,rfl⟩
theorem bq1(h:TR Tryz.prog 25 ds):∃p:vc,ds=p.d:=by
 obtain⟨a,r,rfl,h1,h⟩:=(h.N7 Tryz.underlying25).cons_inv;obtain⟨b,r,rfl,h2,h⟩:=h.cons_inv;obtain⟨c,r,rfl,h3,h⟩:=h.cons_inv;obtain rfl:=h.PL;obtain⟨x,rfl⟩:=Iw h1;obtain⟨l,rfl⟩:=Y5 h2;obtain⟨rows,rfl,_,hr⟩:=h3.Ow Tryz.underlying23;obtain⟨m,rfl⟩:=Kb (f:=Pt.d) fun row hm=>bq2 (hr row hm)
 exact⟨⟨x,l,m⟩,rfl⟩
theorem CN(h:TR Tryz.prog 3 ds):∃n:Int,ds=[.int .i64 n]:=by
 obtain⟨n,rfl,hn⟩:=h.aZ4 Tryz.underlying3;exact⟨n,rfl⟩
theorem V8(h:TR Tryz.prog 66 ds):∃l:List Int,ds=[.sl (rK l)]:=by
 obtain⟨rows,rfl,_,hr⟩:=h.Ow Tryz.underlying66;obtain⟨l,rfl⟩:=Kb (f:=fun n:Int=>[D.int .i64 n]) fun row hm=>by
  obtain⟨n,e,_⟩:=(hr row hm).aZ4 Tryz.underlying2;exact⟨n,e⟩
 exact⟨l,rfl⟩
theorem TJ(h:TR Tryz.prog 68 ds):∃c:RC,ds=c.dd:=by
 obtain⟨a,r,rfl,h1,h⟩:=(h.N7 Tryz.underlying68).cons_inv;obtain⟨b,r,rfl,h2,h⟩:=h.cons_inv;obtain⟨c,r,rfl,h3,h⟩:=h.cons_inv;obtain⟨d,r,rfl,h4,h⟩:=h.cons_inv;obtain rfl:=h.PL;obtain⟨e,r,rfl,k1,k⟩:=(h1.N7 Tryz.underlying65).cons_inv;obtain⟨f,r,rfl,k2,k⟩:=k.cons_inv;obtain⟨g,r,rfl,k3,k⟩:=k.cons_inv;obtain⟨i,r,rfl,k4,k⟩:=k.cons_inv;obtain rfl:=k.PL;obtain⟨n0,rfl,hn⟩:=k1.aZ4 Tryz.underlying63;obtain⟨x0,hx⟩:=br3 hn;obtain⟨x1,rfl⟩:=CN k2;obtain⟨x2,rfl⟩:=CN k3;obtain⟨x3,rfl⟩:=CN k4;obtain⟨x4,rfl⟩:=CN h2;obtain⟨x5,rfl⟩:=CN h3;obtain⟨l,rfl⟩:=V8 h4;exact⟨⟨x0.toNat,x1,x2,x3,x4,x5,l⟩,by rw[hx];rfl⟩
theorem Sa(h:TR Tryz.prog 61 ds):∃l:List RC,ds=[.sl (gj l)]:=by
 obtain⟨rows,rfl,_,hr⟩:=h.Ow Tryz.underlying61;obtain⟨l,rfl⟩:=Kb (f:=RC.dd) fun row hm=>TJ (hr row hm)
 exact⟨l,rfl⟩
end
theorem be0:nK rJ F:= .app tg0 (.app tg2 (.app tg3 (.app tg4 (.app tg5 (.app tg6 (.app Kw (.app Ks (.app Jw (.app Ji (.app IU (.app IQ (.app IP (.app IE (.app It (.app Is (.app Ib (.app HI (.app YS (.app Hk (.app Hg (.app FW (.app Fq (.app Yq (.app XB (.app Xn (.app W6 (.app Ay (.app Am (.app Ai (.app y0 (.app ye (.app Wo (.app Wm (.app Wl (.app si (.app oh (.app np mH)))))))))))))))))))))))))))))))))))))
theorem bf0:∀(i:Nat) (fd:FD),F[i]? =some fd->rJ fd/\S[i]? =some (fd.f,fd.sg):=fun i fd h=>⟨be0.get i fd h,by rw[xx,h];rfl⟩
def XA:a0a:=fun _ _=>none
theorem aY8(p:vc)(l:List RC):Az Tryz.prog BO 9 LG 7 Ge.sg (p.d++[.sl (gj l)]) [.bool true]:=by
 obtain⟨o,h,rfl⟩:=QR (X:=XA) p l;obtain⟨n,h⟩:=(AR F XA).1 h;exact(GC Hb Ra hGE ab5 Y1 aQ5 bf0 (fun _ _ _ _ _ h=>by unfold XA at h;cases h) n 164).2 _ _ _ _ h rfl
theorem aO6{w:World}(h:BO w)(hz:LG.length<=w.heap.size)(p:vc)(l:List RC){xs:a0e}{y:xM}(hx:tu w p.d xs)(hy:tu w [.sl (gj l)] [y]):Calls Tryz.prog 7 #[.agg ⟨xs⟩,y] w fun e w'=>e= .returned (.bool true)/\Below w.heap.size w w':=by
 have lp:p.d.length=3:=rfl;refine ax3 (args':=[.agg ⟨xs⟩,y]) rfl rfl (aY8 p l) h h hz ?_;have c1:aj (EH LG (fun c=>(p.d++[.sl (gj l)])[c]?) (zW w)) (.agg ⟨[cd 0,cd 1,cd 2]⟩) (.agg ⟨xs⟩):=
  bt3 (ds:=p.d) (a:=0) (n:=3) lp (fun i d v h1 h2=>⟨by
   show(p.d++[.sl (gj l)])[0+i]? =some d;rw[Nat.zero_add,xw (xe.1 h1).1];exact h1,hx.2.1 d (xu h1),hx.2.2 i d v h1 h2⟩) hx.1 rfl
 have c2:aj (EH LG (fun c=>(p.d++[.sl (gj l)])[c]?) (zW w)) (cd 3) y:= .sym 3 (.sl (gj l)) _ rfl rfl (hy.2.2 0 _ _ rfl rfl);exact .cons c1 (.cons c2 (.nil _))
end Go.Proofs.YthicpeihkkokmaaGreatDoor
