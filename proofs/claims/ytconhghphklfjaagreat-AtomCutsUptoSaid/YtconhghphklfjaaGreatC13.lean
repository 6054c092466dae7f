/- AtomCuts: a part of its proof; conditions: its statement's. -/
import Derived.Test.YtconhghphklfjaaGreatC12
namespace Go.Proofs.YtconhghphklfjaaGreat.Am
open Go
section
variable {P:Program} {E:List (Nat×V)} {h h₁:H} {x y a b:Operand} {v u r:V}
theorem bk (I:lookO E x=some v): opE P E h (.move x)=some (v,h):=by simp only [opE,jV,I]
theorem eZ (I:lookO E x=some v): opE P E h (.assign x)=some (v,h):=by simp only [opE,jV,I]
theorem kT (I:lookO E x=some (.bool true))(J:lookO E a=some v): opE P E h (.pick x a b)=some (v,h):=by simp only [opE,jV,I,ag,J]
theorem kA (I:lookO E x=some (.bool false))(J:lookO E b=some v): opE P E h (.pick x a b)=some (v,h):=by simp only [opE,jV,I,az,J]
theorem j5 {i o:Nat}(I:lookO E x=some (.ptr i o)): opE P E h (.nilCheck x)=some (.ptr i o,h):=by simp only [opE,jV,I]
theorem jE {t i:Nat}(I:lookO E x=some v)(J:fieldAddrV P t v i=some r): opE P E h (.fieldAddr t x i)=some (r,h):=by simp only [opE,jV,I,J,bx]
theorem aV {t:TypeId}(I:lookO E x=some v)(J:loadV P h t v=some r): opE P E h (.load t x)=some (r,h):=by simp only [opE,jV,I,J,bx]
theorem wg {t:TypeId}(I:lookO E x=some v)(J:lookO E y=some u)(U:gV P h t v u=some h₁): opE P E h (.store t x y)=some (cx,h₁):=by simp only [opE,u9,I,J,U,rJ]
theorem ah {op:BinOp}{t t':TypeId}(I:lookO E x=some v)(J:lookO E y=some u)(U:binV P h op t x y v u=some r): opE P E h (.binOp op t x y t')=some (r,h):=by simp only [opE,u9,I,J,U,bx]
theorem dX {op:UnOp}{t:TypeId}(I:lookO E x=some v)(J:unV op v=some r): opE P E h (.unOp op t x)=some (r,h):=by simp only [opE,jV,I,J,bx]
theorem bV {s d:TypeId}(I:lookO E x=some v)(J:convV P h s d v=some (r,h₁)): opE P E h (.convert s d x)=some (r,h₁):=by simp only [opE,jV,I,J]
theorem dY {t:TypeId}(I:lookO E x=some v)(J:lookO E y=some u)(U:indexAddrV P t v u=some r): opE P E h (.indexAddr t x y)=some (r,h):=by simp only [opE,u9,I,J,U,bx]
theorem Ec {t:TypeId}(I:lookO E x=some v)(J:lookO E y=some u)(U:indexV P t v u=some r): opE P E h (.index t x y)=some (r,h):=by simp only [opE,u9,I,J,U,bx]
theorem cy {i:Nat}{l:List V}(I:lookO E x=some (.bD l))(J:nth l i=some r): opE P E h (.extract x i)=some (r,h):=by simp only [opE,jV,I,J,bx]
theorem c7 {t:TypeId}{ps:Array (Nat×Operand)}{l:List (Nat×V)}(I:lookParts E ps.toList=some l)(J:buildV P t l=some r): opE P E h (.build t ps)=some (r,h):=by simp only [opE,I,J,bx]
theorem gC {t:TypeId}(I:lookO E x=some v)(hs:v.cells.all storable=true): opE P E h (.box t x)=some (.ptr h.next 0,newRow h v.cells):=by simp only [opE,jV,I,hs,ag]
theorem cC {t:TypeId}(I:zeroT P t=some v): opE P E h (.alloc t)=some (.ptr h.next 0,newRow h v.cells):=by simp only [opE,I]
theorem Lk {t:TypeId}(I:lookO E x=some v)(J:makeIfaceV P t v=some r): opE P E h (.makeInterface t x)=some (r,h):=by simp only [opE,jV,I,J,bx]
theorem AA {f:Fn}{p q:Array Operand}{l m:List V}(I:lookArgs E p.toList=some l)(J:lookArgs E q.toList=some m): opE P E h (.makeFunc f p q)=some (.fn f l m,h):=by simp only [opE,I,J]
theorem a_ {c:Go.Call}{t:TypeId}(I:c.callee=.builtin .len)(J:lookArgs E c.args.toList=some [v])(U:c.argTypes.toList=[t])(hf:lenV P h t v=some r): opE P E h (.call c)=some (r,h):=by
 simp only [opE,I,J,builtinV,U,hf,je]
theorem oE {c:Go.Call}(I:c.callee=.builtin .append)(J:lookArgs E c.args.toList=some [v,u])(U:appendV P h c.argTypes v u=some (r,h₁)): opE P E h (.call c)=some (r,h₁):=by
 simp only [opE,I,J,builtinV,U]
theorem rO {t:TypeId}(I:lookO E x=some v)(J:lookO E y=some u)(U:makeSliceV P h t v u=some (r,h₁)): opE P E h (.makeSlice t x y)=some (r,h₁):=by simp only [opE,u9,I,J,U]
theorem oJ {t n:Nat}{ps:Array (Nat×Operand)}{l:List (Nat×V)}(I:lookParts E ps.toList=some l)(J:buildSliceV P h t n l=some (r,h₁)): opE P E h (.buildSlice t n ps)=some (r,h₁):=by simp only [opE,I,J]
theorem cD {t:TypeId}{lo hi mx:Option Operand}{p q m:Option V}{p' q' m':Option Nat}(I:lookO E x=some v)(J:lookOpt E lo=some p)(U:lookOpt E hi=some q)(h3:lookOpt E mx=some m)
 (g1:gW p=some p')(g2:gW q=some q')(g3:gW m=some m')(hf:sliceV P h t v p' q' m'=some r): opE P E h (.slice t x lo hi mx)=some (r,h):=by simp only [opE,jV,I,J,U,h3,g1,g2,g3,hf,bx]
theorem P0 {t s:TypeId}{ok:Bool}(I:lookO E x=some v)(J:assertV P v s ok=some r): opE P E h (.typeAssert x t s ok)=some (r,h):=by simp only [opE,jV,I,J,bx]
theorem J5 {t:TypeId}{id off n:Nat}{cs:List V}{st:Bool}(I:cg P t=some false)(J:T.get h.tr id=some (.cells n cs st))(U:nth cs off=some v): loadV P h t (.ptr id off)=some v:=by
 simp only [loadV,I,xN,J,U]
theorem fG {t:TypeId}{id n:Nat}{cs:List V}{st:Bool}(I:cg P t=some true)(hs:bG P t=some n)(J:T.get h.tr id=some (.cells n cs st)): loadV P h t (.ptr id 0)=some (.agg cs):=by
 simp only [loadV,I,hs,rdN,J,dU]
 rw [aQ.2 (aK n),ag,dh,dh]
 rfl
end
section
variable {C:dx} {ay:Nat} {E:List (Nat×V)} {h:H} {R:List (Nat×V)→H→Prop} {L rest:List Oper} {o:Oper} {d:Nat} {cs:List V}
end
section
variable {C:dx} {ay:Nat} {E:List (Nat×V)} {h:H} {R:List (Nat×V)→H→Prop} {L rest:List Oper} {o:Oper} {d:Nat}
theorem E4 {h:H}(hw:lM h){b:Nat}(I:b<256):
  ∃v h₁,buildSliceV Tryz.prog h 32 1 [(0,.int .u8 b)]=some (v,h₁)∧jD h₁ v [b]∧ee 1 [] h h₁∧∀i∈rowIds v,h.next≤i:=by
 refine ⟨.sl h.next 0 1 (.exact 1),newRow h [.int .u8 b],?_,⟨by simpa using I,.inr (.inl ⟨h.next,[],1,rfl,?_,rfl⟩)⟩,ee.wZ hw _,fun i hi=>by simp [rowIds] at hi; omega⟩
 ·simp only [buildSliceV,aS,fu,oI,V.cells]
  rfl
 ·rw [newRow,fM,aj rfl]; rfl
theorem aB.Ll {t:TypeId}{ps:Array (Nat×Operand)}{b:Nat}(J:C.P=Tryz.prog)(hw:lM h)(U:wantE L E o.guard=some true)(hd:o.dst=some d)(hn:Nat.blt d ay=true)(I:o.op=.buildSlice t 1 ps)(ht:t=32)
 (hx:lookParts E ps.toList=some [(0,.int .u8 (b:Int))])(hb:b<256)
 (hr:∀v h₁,jD h₁ v [b]→ee 1 [] h h₁→(∀i∈rowIds v,h.next≤i)→aB C ay L rest ((d,v)::E) h₁ R): aB C ay L (o::rest) E h R:=by
 obtain ⟨v,h₁,e1,e2,e3,e4⟩:=E4 hw hb
 refine aB.op U hd hn (v:=v) (h₁:=h₁) ?_ (hr v h₁ e2 e3 e4)
 rw [I,ht,J]
 exact oJ hx e1
theorem aB.app {c:Go.Call}{s x:V}{l m:List Nat}(hP:C.P=Tryz.prog)(hw:lM h)(hg:wantE L E o.guard=some true)(hd:o.dst=some d)(hn:Nat.blt d ay=true)(I:o.op=.call c)(hc:c.callee=.builtin .append)
 (J:c.argTypes = #[32,32])(ha:lookArgs E c.args.toList=some [s,x])(hs:jD h s l)(hx:View h x m)(U:l.length+m.length≤140737488355328)
 (hr:∀v h₁,jD h₁ v (l++m)→ee 1 (rowIds s) h h₁→(∀i∈rowIds v,i∈rowIds s∨h.next≤i)→aB C ay L rest ((d,v)::E) h₁ R): aB C ay L (o::rest) E h R:=by
 obtain ⟨v,h₁,e1,e2,e3,e4⟩:=yF hw hs hx U
 refine aB.op hg hd hn (v:=v) (h₁:=h₁) ?_ (hr v h₁ e2 e3 e4)
 rw [I,hP]
 exact oE hc ha (by rw [J]; exact e1)
theorem Cx {h:H}(hw:lM h){c:Nat}(J:c<1073741824):
  ∃v h₁,makeSliceV Tryz.prog h 32 (.int .i64 0) (.int .i64 (c:Int))=some (v,h₁)∧jD h₁ v []∧ee 1 [] h h₁∧∀i∈rowIds v,h.next≤i:=by
 obtain ⟨i,hi,i1,i2⟩:=we
 refine ⟨.sl h.next 0 0 (.exact c),h.new (.cells c (repeatL [.int .u8 0] c) false),?_,⟨by simp,.inr (.inl ⟨h.next,repeatL [.int .u8 0] c,c,rfl,?_,?_⟩)⟩,ee.wZ hw _,fun i hi=>by simp [rowIds] at hi; omega⟩
 ·simp only [makeSliceV,aS,hi,oI,i1,i2,V.cells,bj,bY,cP,dN]
  rw [show (decide ((0:Int)≤0)&&decide ((0:Int)≤(c:Int))&&decide ((c:Int)<1073741824)&&Nat.ble 1 4096&&Nat.beq (0+1) 1&&Nat.ble 1 1)=true by simp; omega,ag]
  rfl
 ·rw [fM,aj rfl]; rfl
 ·have:∀n,(repeatL [V.int .u8 0] n).length=n:=fun n=>by
   induction n with
   | zero=>rfl
   | succ n I=>simp [repeatL,I]
  simp [this]
end
section
variable {C:dx} {ay:Nat} {L rest:List Oper} {E:List (Nat×V)} {h h₁:H} {R:List (Nat×V)→H→Prop} {o:Oper} {d i:Nat} {v u r:V} {x y a b:Operand} {t t':TypeId}
theorem zm (e:(o.op,wantE L E o.guard,o.dst,Nat.blt d ay,lookO E x)=(Op.move x,some true,some d,true,some v))(hw:aB C ay L rest ((d,v)::E) h R): aB C ay L (o::rest) E h R:=by
  simp only [aP] at e; exact aB.op e.2.1 e.2.2.1 e.2.2.2.1 (by rw [e.1]; exact bk e.2.2.2.2) hw
theorem za (e:(o.op,wantE L E o.guard,o.dst,Nat.blt d ay,lookO E x)=(Op.assign x,some true,some d,true,some v))(hw:aB C ay L rest ((d,v)::E) h R): aB C ay L (o::rest) E h R:=by
  simp only [aP] at e; exact aB.op e.2.1 e.2.2.1 e.2.2.2.1 (by rw [e.1]; exact eZ e.2.2.2.2) hw
theorem zn {j k:Nat}(e:(o.op,wantE L E o.guard,o.dst,Nat.blt d ay,lookO E x)=(Op.nilCheck x,some true,some d,true,some (V.ptr j k)))(hw:aB C ay L rest ((d,.ptr j k)::E) h R): aB C ay L (o::rest) E h R:=by
  simp only [aP] at e; exact aB.op e.2.1 e.2.2.1 e.2.2.2.1 (by rw [e.1]; exact j5 e.2.2.2.2) hw
theorem zf (e:(o.op,wantE L E o.guard,o.dst,Nat.blt d ay,lookO E x)=(Op.fieldAddr t x i,some true,some d,true,some v))(I:fieldAddrV C.P t v i=some r)(hw:aB C ay L rest ((d,r)::E) h R): aB C ay L (o::rest) E h R:=by
  simp only [aP] at e; exact aB.op e.2.1 e.2.2.1 e.2.2.2.1 (by rw [e.1]; exact jE e.2.2.2.2 I) hw
theorem zl (e:(o.op,wantE L E o.guard,o.dst,Nat.blt d ay,lookO E x)=(Op.load t x,some true,some d,true,some v))(I:loadV C.P h t v=some r)(hw:aB C ay L rest ((d,r)::E) h R): aB C ay L (o::rest) E h R:=by
  simp only [aP] at e; exact aB.op e.2.1 e.2.2.1 e.2.2.2.1 (by rw [e.1]; exact aV e.2.2.2.2 I) hw
theorem ze {l:List V}(e:(o.op,wantE L E o.guard,o.dst,Nat.blt d ay,lookO E x,nth l i)=(Op.extract x i,some true,some d,true,some (V.bD l),some r))(hw:aB C ay L rest ((d,r)::E) h R): aB C ay L (o::rest) E h R:=by
  simp only [aP] at e; exact aB.op e.2.1 e.2.2.1 e.2.2.2.1 (by rw [e.1]; exact cy e.2.2.2.2.1 e.2.2.2.2.2) hw
theorem zp (e:(o.op,wantE L E o.guard,o.dst,Nat.blt d ay,lookO E x,lookO E b)=(Op.pick x a b,some true,some d,true,some (V.bool false),some v))(hw:aB C ay L rest ((d,v)::E) h R): aB C ay L (o::rest) E h R:=by
  simp only [aP] at e; exact aB.op e.2.1 e.2.2.1 e.2.2.2.1 (by rw [e.1]; exact kA e.2.2.2.2.1 e.2.2.2.2.2) hw
theorem zq (e:(o.op,wantE L E o.guard,o.dst,Nat.blt d ay,lookO E x,lookO E a)=(Op.pick x a b,some true,some d,true,some (V.bool true),some v))(hw:aB C ay L rest ((d,v)::E) h R): aB C ay L (o::rest) E h R:=by
  simp only [aP] at e; exact aB.op e.2.1 e.2.2.1 e.2.2.2.1 (by rw [e.1]; exact kT e.2.2.2.2.1 e.2.2.2.2.2) hw
theorem zb {op:BinOp}(e:(o.op,wantE L E o.guard,o.dst,Nat.blt d ay,lookO E x,lookO E y)=(Op.binOp op t x y t',some true,some d,true,some v,some u))(I:binV C.P h op t x y v u=some r)(hw:aB C ay L rest ((d,r)::E) h R): aB C ay L (o::rest) E h R:=by
  simp only [aP] at e; exact aB.op e.2.1 e.2.2.1 e.2.2.2.1 (by rw [e.1]; exact ah e.2.2.2.2.1 e.2.2.2.2.2 I) hw
theorem zx (e:(wantE L E o.guard,o.dst,Nat.blt d ay)=(some false,some d,true))(hw:aB C ay L rest ((d,cx)::E) h R): aB C ay L (o::rest) E h R:=by
  simp only [aP] at e; exact aB.no e.1 e.2.1 e.2.2 hw
theorem zo (e:(wantE L E o.guard,o.dst,Nat.blt d ay)=(some true,some d,true))(ho:opE C.P E h o.op=some (v,h₁))(hw:aB C ay L rest ((d,v)::E) h₁ R): aB C ay L (o::rest) E h R:=by
  simp only [aP] at e; exact aB.op e.1 e.2.1 e.2.2 ho hw
theorem zv (I:R E h): aB C ay L [] E h R:=aB.nil I
variable {Q:Ex→List (Nat×V)→H→Prop} {c f:Code}
theorem zw (hw:WP C ay c E h fun ex E' h'=>match ex with
    | .normal=>WP C ay f E' h' Q
    | ex=>Q ex E' h'): WP C ay (.seq c f) E h Q:=WP.seq hw
theorem zr {k:Nat}{ops:Array Oper}(I:ops.toList=L)(hw:aB C ay L L E h fun E' h'=>Q .normal E' h'): WP C ay (.region k ops false) E h Q:=WP.region I hw
theorem zg {k:Nat}{ops:Array Oper}(I:ops.toList=L)(hw:aB C ay L L E h fun E' h'=>WP C ay f E' h' Q): WP C ay (.seq (.region k ops false) f) E h Q:=WP.seq (WP.region I hw)
theorem zi (I:lookO E x=some (.bool true))(hw:WP C ay c E h Q): WP C ay (.cond x c f) E h Q:=WP.cond I hw
theorem zj (I:lookO E x=some (.bool false))(hw:WP C ay f E h Q): WP C ay (.cond x c f) E h Q:=WP.cond I hw
end
inductive Md where
  | c (c:Code)
  | o (L l:List Oper)
def Cy (C:dx)(ay:Nat)(Q:Ex→List (Nat×V)→H→Prop): List Code→Ex→List (Nat×V)→H→Prop
  | []=>Q
  | b::K=>fun ex E' h'=>match ex with
    | .normal=>WP C ay b E' h' (Cy C ay Q K)
    | ex=>Cy C ay Q K ex E' h'
def RW : List (Nat×V)→Nat→Option V
  | [],_=>none
  | (d,v)::E,k=>cond (Nat.beq d k) (some v) (RW E k)
theorem Nm : ∀(E:List (Nat×V)) (k:Nat),RW E k=look E k
  | [],_=>rfl
  | (d,v)::E,k=>by simp only [RW,look,Nm E k]
def Cz (E:List (Nat×V)): Operand→Option V
  | .tmp t=>RW E t
  | .const c=>ofValue c
  | .global _=>none
  | .func f=>some (.fn (.func f) [] [])
theorem Nn (E:List (Nat×V))(x:Operand): Cz E x=lookO E x:=by cases x <;> first | rfl | exact Nm _ _
def Vx (E:List (Nat×V)): Op→Option V
  | .move x=>Cz E x
  | .assign x=>Cz E x
  | .nilCheck x=>match Cz E x with
    | some (.ptr j k)=>some (.ptr j k)
    | _=>none
  | .extract x i=>match Cz E x with
    | some (.bD l)=>nth l i
    | _=>none
  | .pick x a b=>match Cz E x with
    | some (.bool true)=>Cz E a
    | some (.bool false)=>Cz E b
    | _=>none
  | _=>none
def runM (ay:Nat): Nat→Md→List (Nat×V)→List Code→Option (Md×List (Nat×V)×List Code)
  | 0,m,E,K=>some (m,E,K)
  | n+1,.o _ [],E,b::K=>runM ay n (.c b) E K
  | n+1,.o L (o::l),E,K=>match wantE L E o.guard,o.dst with
    | some false,some d=>cond (Nat.blt d ay) (runM ay n (.o L l) ((d,cx)::E) K) none
    | some true,some d=>match Vx E o.op with
      | some v=>cond (Nat.blt d ay) (runM ay n (.o L l) ((d,v)::E) K) none
      | none=>none
    | _,_=>none
  | n+1,.c (.seq a b),E,K=>runM ay n (.c a) E (b::K)
  | n+1,.c (.region _ ops false),E,K=>runM ay n (.o ops.toList ops.toList) E K
  | n+1,.c (.cond x a b),E,K=>match Cz E x with
    | some (.bool true)=>runM ay n (.c a) E K
    | some (.bool false)=>runM ay n (.c b) E K
    | _=>none
  | n+1,.c .skip,E,b::K=>runM ay n (.c b) E K
  | _+1,_,_,_=>none
abbrev Gl (C:dx)(ay:Nat)(h:H)(Q:Ex→List (Nat×V)→H→Prop)(m:Md)(E:List (Nat×V))(K:List Code): Prop:=match m with
  | .c c=>WP C ay c E h (Cy C ay Q K)
  | .o L l=>aB C ay L l E h fun E' h'=>Cy C ay Q K .normal E' h'
class GL (C:dx)(ay:Nat)(R:List (Nat×V)→H→Prop)(Q:outParam (Ex→List (Nat×V)→H→Prop))where
  K:List Code
  eq:R=fun E' h'=>Cy C ay Q K .normal E' h'
class RX (C:dx)(ay:Nat)(R:Ex→List (Nat×V)→H→Prop)(Q:outParam (Ex→List (Nat×V)→H→Prop))where
  K:List Code
  eq:R=Cy C ay Q K
instance (priority:=50) (C:dx) (ay:Nat) (R:List (Nat×V)→H→Prop):GL C ay R (fun _=>R):=⟨[],rfl⟩
instance (priority:=60) (C:dx) (ay:Nat) (Q:Ex→List (Nat×V)→H→Prop):GL C ay (fun E' h'=>Q .normal E' h') Q:=⟨[],rfl⟩
instance (priority:=70) (C:dx) (ay:Nat) (f:Code) (Q:Ex→List (Nat×V)→H→Prop) (K:List Code):GL C ay (fun E' h'=>WP C ay f E' h' (Cy C ay Q K)) Q:=⟨f::K,rfl⟩
instance (priority:=65) (C:dx) (ay:Nat) (f:Code) (Q:Ex→List (Nat×V)→H→Prop):GL C ay (fun E' h'=>WP C ay f E' h' Q) Q:=⟨[f],rfl⟩
instance (priority:=80) (C:dx) (ay:Nat) (K:List Code) (Q:Ex→List (Nat×V)→H→Prop):GL C ay (fun E' h'=>Cy C ay Q K .normal E' h') Q:=⟨K,rfl⟩
instance (priority:=50) (C:dx) (ay:Nat) (Q:Ex→List (Nat×V)→H→Prop):RX C ay Q Q:=⟨[],rfl⟩
instance (priority:=80) (C:dx) (ay:Nat) (K:List Code) (Q:Ex→List (Nat×V)→H→Prop):RX C ay (Cy C ay Q K) Q:=⟨K,rfl⟩
section
variable {C:dx} {ay:Nat} {L l:List Oper} {E E':List (Nat×V)} {h:H} {R:List (Nat×V)→H→Prop} {Q:Ex→List (Nat×V)→H→Prop} {m m':Md} {K K':List Code} {f:Code}
theorem Vy {o:Op}{v:V}(e:Vx E o=some v): opE C.P E h o=some (v,h):=by
  unfold Vx at e
  simp only [Nn] at e
  split at e
  · exact bk e
  · exact eZ e
  · split at e
    · rename_i I
      cases e; exact j5 I
    · cases e
  · split at e
    · rename_i I
      exact cy I e
    · cases e
  · split at e
    · rename_i I; exact kT I e
    · rename_i I; exact kA I e
    · cases e
  · cases e
theorem J6 : ∀(n:Nat) (m:Md) (E:List (Nat×V)) (K:List Code),runM ay n m E K=some (m',E',K')→Gl C ay h Q m' E' K'→Gl C ay h Q m E K:=by
  intro n
  induction n with
  | zero=>intro m E K e hw; simp only [runM,au,aP] at e; obtain ⟨rfl,rfl,rfl⟩:=e; exact hw
  | succ n I =>
    intro m E K e hw
    unfold runM at e
    split at e
    · rename_i he; cases he
    · rename_i he; cases he
      exact aB.nil (I _ _ _ e hw)
    · rename_i he; cases he
      split at e
      · rename_i d U hd
        cases J:Nat.blt d ay with
        | false=>rw [J] at e; cases e
        | true=>rw [J] at e; exact aB.no U hd J (I _ _ _ e hw)
      · rename_i d U hd
        split at e
        · rename_i v hv
          cases J:Nat.blt d ay with
          | false=>rw [J] at e; cases e
          | true=>rw [J] at e; exact aB.op U hd J (Vy hv) (I _ _ _ e hw)
        · cases e
      · cases e
    · rename_i he; cases he
      exact WP.seq (I _ _ _ e hw)
    · rename_i he; cases he
      exact WP.region rfl (I _ _ _ e hw)
    · rename_i he; cases he
      rw [Nn] at e
      split at e
      · rename_i hx; exact WP.cond hx (I _ _ _ e hw)
      · rename_i hx; exact WP.cond hx (I _ _ _ e hw)
      · cases e
    · rename_i he; cases he
      exact WP.skip (I _ _ _ e hw)
    · cases e
theorem zk (n:Nat)[a:GL C ay R Q](e:runM ay n (.o L l) E (GL.K C ay R)=some (m',E',K'))(hw:Gl C ay h Q m' E' K'): aB C ay L l E h R:=by
  rw [a.eq]; exact J6 n (.o L l) E _ e hw
theorem zK {I:Ex→List (Nat×V)→H→Prop}(n:Nat)[a:RX C ay I Q](e:runM ay n (.c f) E (RX.K C ay I)=some (m',E',K'))(hw:Gl C ay h Q m' E' K'): WP C ay f E h I:=by
  rw [a.eq]; exact J6 n (.c f) E _ e hw
end
section
variable {C:dx} {ay:Nat} {L l rest:List Oper} {o:Oper} {E:List (Nat×V)} {h h₁:H} {d:Nat}
def OpR (C:dx)(E:List (Nat×V))(h:H)(o:Oper)(R:V→H→Prop): Prop:=∃v h₁,R v h₁∧∀env,kH env E→∃N,evOp C (ev C N) env h o=some (v,h₁)
theorem OpR.call {cl:Go.Call}{x:Operand}{k:FuncId}{first cap args:List V}{R:V→H→Prop}(J:o.op=.call cl)(hc:cl.callee=.value x)(hx:lookO E x=some (.fn (.func k) first cap))
 (ha:lookArgs E cl.args.toList=some args)(I:Am.Call C k (first++(args++cap)) h R): OpR C E h o R:=by
 obtain ⟨v,h₁,U,hr⟩:=I
 exact ⟨v,h₁,hr,fun env hE=>EW hE J hc hx ha U⟩
theorem OpR.of {v:V}{R:V→H→Prop}(ho:opE C.P E h o.op=some (v,h₁))(I:R v h₁): OpR C E h o R:=⟨v,h₁,I,fun _ J=>⟨0,Cp J ho⟩⟩
theorem aB.any {R:List (Nat×V)→H→Prop}{wX:V→H→Prop}(hg:wantE L E o.guard=some true)(hd:o.dst=some d)(hn:Nat.blt d ay=true)(ho:OpR C E h o wX)
 (hw:∀v h₁,wX v h₁→aB C ay L rest ((d,v)::E) h₁ R): aB C ay L (o::rest) E h R:=by
 intro env J
 obtain ⟨v,h₁,hr,U⟩:=ho
 obtain ⟨N,hN⟩:=U env J
 obtain ⟨M,I,h',E',h1,h2,h3⟩:=hw v h₁ hr (env.set d (some v)) (J.set d v)
 refine ⟨Nat.max N M,I,h',E',?_,h2,h3⟩
 simp only [evOps,kI J hg,ag,mu (gq (pn N M)) hN,St.put,hd,hn]
 exact sZ (gq (o9 N M)) _ _ _ h1
def Lm : List (Env×V)→List (List (Nat×V)×V)→Prop
 | [],[]=>True
 | x::l,y::m=>kH x.1 y.1∧x.2=y.2∧Lm l m
 | _,_=>False
def aA (C:dx)(ay:Nat)(L l:List Oper)(E:List (Nat×V))(h:H)(hs:List H)(Q:List (Nat×V)→H→List (List (Nat×V)×V)→List H→Prop): Prop :=
 ∀env,kH env E→∃N I h' E' tr U J,trace C (ev C N) L l ⟨env,ay,h⟩ hs=some (tr,J,⟨I,ay,h'⟩)∧kH I E'∧Lm tr U∧Q E' h' U J
variable {hs:List H} {Q:List (Nat×V)→H→List (List (Nat×V)×V)→List H→Prop}
theorem aA.nil (I:Q E h [] hs): aA C ay L [] E h hs Q:=fun env J=>⟨0,env,h,E,[],[],hs,rfl,J,aa,I⟩
theorem aA.any {wX:V→H→Prop}{e:Bool}(hg:wantE L E o.guard=some true)(hd:o.dst=some d)(hn:Nat.blt d ay=true)(he:isEff C o.op=e)(ho:OpR C E h o wX)
 (hw:∀v h₁,wX v h₁→aA C ay L rest ((d,v)::E) h₁ (cond e (hs++[h₁]) hs) fun E' h' ts I=>Q E' h' ((E,v)::ts) I): aA C ay L (o::rest) E h hs Q:=by
 intro env U
 obtain ⟨v,h₁,hr,mP⟩:=ho
 obtain ⟨N,hN⟩:=mP env U
 obtain ⟨M,J,h',E',tr,ts,I,h1,h2,h3,h4⟩:=hw v h₁ hr (env.set d (some v)) (U.set d v)
 refine ⟨Nat.max N M,J,h',E',(env,v)::tr,(E,v)::ts,I,?_,h2,⟨U,rfl,h3⟩,h4⟩
 simp only [trace,kI U hg,ag,mu (gq (pn N M)) hN,St.put,hd,hn,he]
 rw [wV (gq (o9 N M)) _ _ _ _ h1]
theorem aA.g8 {wX:V→H→Prop}{e:Bool}(hg:wantE L E o.guard=some true)(hd:o.dst=none)(he:isEff C o.op=e)(ho:OpR C E h o wX)
 (hw:∀v h₁,wX v h₁→aA C ay L rest E h₁ (cond e (hs++[h₁]) hs) fun E' h' ts I=>Q E' h' ((E,v)::ts) I): aA C ay L (o::rest) E h hs Q:=by
 intro env U
 obtain ⟨v,h₁,hr,mP⟩:=ho
 obtain ⟨N,hN⟩:=mP env U
 obtain ⟨M,J,h',E',tr,ts,I,h1,h2,h3,h4⟩:=hw v h₁ hr env U
 refine ⟨Nat.max N M,J,h',E',(env,v)::tr,(E,v)::ts,I,?_,h2,⟨U,rfl,h3⟩,h4⟩
 simp only [trace,kI U hg,ag,mu (gq (pn N M)) hN,St.put,hd,he]
 rw [wV (gq (o9 N M)) _ _ _ _ h1]
theorem aA.op {v:V}(J:wantE L E o.guard=some true)(U:o.dst=some d)(hn:Nat.blt d ay=true)(he:isEff C o.op=false)(ho:opE C.P E h o.op=some (v,h))
 (hw:aA C ay L rest ((d,v)::E) h hs fun E' h' ts I=>Q E' h' ((E,v)::ts) I): aA C ay L (o::rest) E h hs Q :=
 aA.any J U hn he (OpR.of (R:=fun v' h'=>v'=v∧h'=h) ho ⟨rfl,rfl⟩) (fun v' h' hr=>by obtain ⟨rfl,rfl⟩:=hr; exact hw)
theorem aA.no {e:Bool}(hg:wantE L E o.guard=some false)(hd:o.dst=some d)(hn:Nat.blt d ay=true)(he:isEff C o.op=e)
 (hw:aA C ay L rest ((d,cx)::E) h (cond e (hs++[h]) hs) fun E' h' U I=>Q E' h' ((E,cx)::U) I): aA C ay L (o::rest) E h hs Q:=by
 intro env hE
 obtain ⟨M,J,h',E',tr,U,I,h1,h2,h3,h4⟩:=hw (env.set d (some cx)) (hE.set d cx)
 refine ⟨M,J,h',E',(env,cx)::tr,(E,cx)::U,I,?_,h2,⟨hE,rfl,h3⟩,h4⟩
 simp only [trace,kI hE hg,az,St.put,hd,hn,ag,he]
 rw [h1]
def GM (C:dx)(L:List Oper)(o:Oper)(x:List (Nat×V)×V)(h:H): Prop :=
 wantE L x.1 o.guard=some false∨(wantE L x.1 o.guard=some true∧(∃h',opE C.P x.1 h o.op=some (x.2,h'))∧x.2.beq x.2=true)
def F1 (C:dx)(L:List Oper)(an es:List Nat)(hs:List H): List Oper→List (List (Nat×V)×V)→Nat→Prop
 | o::l,x::tr,i=>(isEff C o.op=true∨(kX ((nth an i).getD 0) es&&Nat.beq (ig ((nth an i).getD 0) es) (j3 an i es))=true ∨
   (kX ((nth an i).getD 0) es=true∧∀h∈(hs.drop (ig ((nth an i).getD 0) es)).take (j3 an i es+1-ig ((nth an i).getD 0) es),GM C L o x h))∧F1 C L an es hs l tr (i+1)
 | [],[],_=>True
 | _,_,_=>False
theorem No {self:Self}{x:Env×V}{y:List (Nat×V)×V}(J:kH x.1 y.1)(hv:x.2=y.2): ∀(hs:List H),(∀h∈hs,GM C L o y h)→sameIn C self L o x hs=true:=by
 intro hs
 induction hs with
 | nil=>intro _; rfl
 | cons h hs ih =>
  intro I
  simp only [sameIn]
  rcases I h bn with U | ⟨U,⟨h',ho⟩,hb⟩
  ·rw [kI J U,az]
  ·rw [kI J U,ag,Cp J ho]
   simp only
   rw [hv,hb,ag]
   exact ih (fun h hh=>I h (bl _ hh))
theorem Np {self:Self}{an es:List Nat}: ∀(l:List Oper) (tr:List (Env×V)) (J:List (List (Nat×V)×V)) (i:Nat),Lm tr J→F1 C L an es hs l J i→stayOk C self L an es hs l tr i=true:=by
 intro l
 induction l with
 | nil=>intro tr J i hn U; cases tr <;> cases J <;> first | rfl | (exact U.elim) | (exact hn.elim)
 | cons o l ih =>
  intro tr J i hn U
  cases tr with
  | nil=>cases J with
   | nil=>exact U.elim
   | cons y J=>exact hn.elim
  | cons x tr =>
   cases J with
   | nil=>exact hn.elim
   | cons y J =>
    obtain ⟨n1,n2,n3⟩:=hn
    obtain ⟨s1,s2⟩:=U
    simp only [stayOk]
    have I:=ih tr J (i+1) n3 s2
    cases he:isEff C o.op with
    | true=>rw [ag]; exact I
    | false =>
     rw [az]
     rcases s1 with s1 | s1 | ⟨s1,s3⟩
     ·rw [he] at s1; cases s1
     ·rw [s1,ag]; exact I
     ·cases hq:(kX ((nth an i).getD 0) es&&Nat.beq (ig ((nth an i).getD 0) es) (j3 an i es)) with
      | true=>rw [ag]; exact I
      | false=>rw [az,s1,No n1 n2 _ s3,iy,ag]; exact I
theorem WP.draw {id:Nat}{ops:Array Oper}{Q:Ex→List (Nat×V)→H→Prop}(hl:ops.toList=L)(J:qZ C L=true)
 (hw:aA C ay L L E h [h] fun E' h' U hs=>F1 C L (ancs L []) (dy C L 0) hs L U 0∧Q .normal E' h'): WP C ay (.region id ops true) E h Q:=by
 intro env hE
 obtain ⟨N,I,h',E',tr,U,EV,h1,h2,h3,h4,h5⟩:=hw env hE
 refine ⟨N+1,.normal,I,h',E',?_,h2,h5⟩
 subst hl
 rw [kz]
 simp only [evStep,ag,om,J,h1,Np _ _ _ _ h3 h4]
end
def planOk (C:dx)(an es:List Nat): List Oper→List (Option (Nat×Nat))→Nat→Bool
 | [],[],_=>true
 | o::l,p::ps,i=>(match p with
   | none=>isEff C o.op||(kX ((nth an i).getD 0) es&&Nat.beq (ig ((nth an i).getD 0) es) (j3 an i es))
   | some (lo,n)=>kX ((nth an i).getD 0) es&&Nat.beq lo (ig ((nth an i).getD 0) es)&&Nat.beq n (j3 an i es+1-ig ((nth an i).getD 0) es))&&planOk C an es l ps (i+1)
 | _,_,_=>false
def CA (C:dx)(L:List Oper)(hs:List H): List Oper→List (List (Nat×V)×V)→List (Option (Nat×Nat))→Prop
 | o::l,x::tr,p::ps=>(match p with
   | none=>True
   | some (lo,n)=>∀h∈(hs.drop lo).take n,GM C L o x h)∧CA C L hs l tr ps
 | [],[],_=>True
 | _,_,_=>False
theorem CA.stay {C:dx}{L:List Oper}{hs:List H}{an es:List Nat}: ∀(l:List Oper) (I:List (List (Nat×V)×V)) (ps:List (Option (Nat×Nat))) (i:Nat),planOk C an es l ps i=true→CA C L hs l I ps→F1 C L an es hs l I i:=by
 intro l
 induction l with
 | nil=>intro I ps i h1 U; cases I with
  | nil=>trivial
  | cons x I=>exact U.elim
 | cons o l ih =>
  intro I ps i h1 U
  cases I with
  | nil=>cases ps <;> exact U.elim
  | cons x I =>
   cases ps with
   | nil=>exact U.elim
   | cons p ps =>
    simp only [planOk,aY] at h1
    obtain ⟨J,a2⟩:=h1
    obtain ⟨b1,b2⟩:=U
    refine ⟨?_,ih I ps (i+1) a2 b2⟩
    cases p with
    | none =>
     simp only [mX] at J
     rcases J with J | J
     ·exact .inl J
     ·exact .inr (.inl J)
    | some q =>
     obtain ⟨lo,n⟩:=q
     simp only [aY,beq_iff] at J
     obtain ⟨⟨c1,c2⟩,c3⟩:=J
     refine .inr (.inr ⟨c1,?_⟩)
     subst c2
     subst c3
     exact b1
theorem WP.drawn {C:dx}{ay:Nat}{L:List Oper}{E:List (Nat×V)}{h:H}{id:Nat}{ops:Array Oper}{Q:Ex→List (Nat×V)→H→Prop}(ps:List (Option (Nat×Nat)))(hl:ops.toList=L)(J:qZ C L=true)
 (hp:planOk C (ancs L []) (dy C L 0) L ps 0=true)
 (hw:aA C ay L L E h [h] fun E' h' U hs=>CA C L hs L U ps∧Q .normal E' h'): WP C ay (.region id ops true) E h Q:=by
 refine WP.draw hl J ?_
 intro env hE
 obtain ⟨N,I,h',E',tr,U,EV,h1,h2,h3,h4,h5⟩:=hw env hE
 exact ⟨N,I,h',E',tr,U,EV,h1,h2,h3,CA.stay _ _ _ _ hp h4,h5⟩
theorem dO {a b:H}{l:List H}{p:H→Prop}(J:p a)(U:p b): ∀x∈((a::b::l).drop 0).take 2,p x:=by
 intro x I
 simp only [dS,DJ,pE,fb,lV,qY] at I
 rcases I with rfl | rfl
 ·exact J
 ·exact U
theorem wj {a b c:H}{l:List H}{p:H→Prop}(J:p a)(U:p b)(hc:p c): ∀x∈((a::b::c::l).drop 0).take 3,p x:=by
 intro x I
 simp only [dS,DJ,pE,fb,lV,qY] at I
 rcases I with rfl | rfl | rfl
 ·exact J
 ·exact U
 ·exact hc
theorem dD (k:IntKind): ikBeq k k=true:=by cases k <;> rfl
theorem lF (n:Int): intBeq n n=true:=by cases n <;> simp [intBeq]
theorem A_ (c:Cap): c.beq c=true:=by cases c <;> simp [Cap.beq]
theorem CC (a b c:Nat)(d:Cap): (V.sl a b c d).beq (.sl a b c d)=true:=by simp [V.beq,A_]
theorem c8 {h:H}{v:V}{l:List Nat}(I:View h v l): v.beq v=true:=by
 obtain ⟨_,I⟩:=I
 rcases I with ⟨rfl | ⟨J,rfl⟩,_⟩ | ⟨id,off,cap,n,cs,st,rfl,_⟩
 ·simp [V.beq]
 ·simp [V.beq]
 ·exact CC _ _ _ _
section
variable {C:dx} {ay:Nat} {L rest:List Oper} {E:List (Nat×V)} {h:H} {hs:List H} {Q:List (Nat×V)→H→List (List (Nat×V)×V)→List H→Prop} {o:Oper} {d i:Nat} {v u r:V} {x y a b:Operand} {t t':TypeId}
theorem zM (e:(o.op,wantE L E o.guard,o.dst,Nat.blt d ay,isEff C o.op,lookO E x)=(Op.move x,some true,some d,true,false,some v))(hw:aA C ay L rest ((d,v)::E) h hs fun E' h' J I=>Q E' h' ((E,v)::J) I): aA C ay L (o::rest) E h hs Q:=by
  simp only [aP] at e; exact aA.op e.2.1 e.2.2.1 e.2.2.2.1 e.2.2.2.2.1 (by rw [e.1]; exact bk e.2.2.2.2.2) hw
theorem zA (e:(o.op,wantE L E o.guard,o.dst,Nat.blt d ay,isEff C o.op,lookO E x)=(Op.assign x,some true,some d,true,false,some v))(hw:aA C ay L rest ((d,v)::E) h hs fun E' h' J I=>Q E' h' ((E,v)::J) I): aA C ay L (o::rest) E h hs Q:=by
  simp only [aP] at e; exact aA.op e.2.1 e.2.2.1 e.2.2.2.1 e.2.2.2.2.1 (by rw [e.1]; exact eZ e.2.2.2.2.2) hw
theorem zN {j k:Nat}(e:(o.op,wantE L E o.guard,o.dst,Nat.blt d ay,isEff C o.op,lookO E x)=(Op.nilCheck x,some true,some d,true,false,some (V.ptr j k)))(hw:aA C ay L rest ((d,.ptr j k)::E) h hs fun E' h' J I=>Q E' h' ((E,.ptr j k)::J) I): aA C ay L (o::rest) E h hs Q:=by
  simp only [aP] at e; exact aA.op e.2.1 e.2.2.1 e.2.2.2.1 e.2.2.2.2.1 (by rw [e.1]; exact j5 e.2.2.2.2.2) hw
theorem zF (e:(o.op,wantE L E o.guard,o.dst,Nat.blt d ay,isEff C o.op,lookO E x)=(Op.fieldAddr t x i,some true,some d,true,false,some v))(J:fieldAddrV C.P t v i=some r)(hw:aA C ay L rest ((d,r)::E) h hs fun E' h' U I=>Q E' h' ((E,r)::U) I): aA C ay L (o::rest) E h hs Q:=by
  simp only [aP] at e; exact aA.op e.2.1 e.2.2.1 e.2.2.2.1 e.2.2.2.2.1 (by rw [e.1]; exact jE e.2.2.2.2.2 J) hw
theorem zL (e:(o.op,wantE L E o.guard,o.dst,Nat.blt d ay,isEff C o.op,lookO E x)=(Op.load t x,some true,some d,true,false,some v))(J:loadV C.P h t v=some r)(hw:aA C ay L rest ((d,r)::E) h hs fun E' h' U I=>Q E' h' ((E,r)::U) I): aA C ay L (o::rest) E h hs Q:=by
  simp only [aP] at e; exact aA.op e.2.1 e.2.2.1 e.2.2.2.1 e.2.2.2.2.1 (by rw [e.1]; exact aV e.2.2.2.2.2 J) hw
theorem zO (e:(wantE L E o.guard,o.dst,Nat.blt d ay,isEff C o.op)=(some true,some d,true,false))(ho:opE C.P E h o.op=some (v,h))(hw:aA C ay L rest ((d,v)::E) h hs fun E' h' J I=>Q E' h' ((E,v)::J) I): aA C ay L (o::rest) E h hs Q:=by
  simp only [aP] at e; exact aA.op e.1 e.2.1 e.2.2.1 e.2.2.2 ho hw
end
end Go.Proofs.YtconhghphklfjaaGreat.Am
