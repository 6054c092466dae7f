/- ChainNeeds: a part of its proof; conditions: its statement's. -/
import Derived.Test.YtefepnnfphdkpaaGreatB19
set_option linter.defProp false
namespace Go.Proofs.YtefepnnfphdkpaaGreat.Am
open Go
def CS:=@Tryz.underlying239
section
variable {told:cK} {h:H} {S:List aq} {X:aq} {k:Nat} {v:V} {l:List Nat}
theorem CT (I:W told){n z:Nat}(s:Sat h (aP v l::S))(J:z≤8)(hl:l.length+z≤140737488355328):
  Call ⟨Tryz.prog,told⟩ 95 [v,.int .i64 (z:Int),.int .u64 (n:Int)] h fun r h'=>Sat h' (aP r (l++le z n)::S) :=
 (IL I.Mo s.wf (s.buf (k:=0) rfl) J hl).mono fun _ _ ⟨h1,h2,h3⟩=>s.vG h2 h1 h3
theorem mT (hT:W told){a z n:Nat}(s:Sat h (aP v l::S))(hz:1≤z)(Fc:z≤8)(J:a+z≤l.length)(je:l.length≤65536):
  Call ⟨Tryz.prog,told⟩ 99 [.agg [v],.int .i64 (a:Int),.int .i64 (z:Int),.int .u64 (n:Int)] h fun r h'=>r=.aX []∧Sat h' (aP v (aT l a (le z n))::S):=by
 obtain ⟨jR,_,cap,_,rfl,_⟩:=s.eo (by omega)
 refine Call.of_wp (hT.free _ rfl) Tryz.func99 rfl rfl (zg rfl ?_)
 refine az.cr s rfl rfl rfl (fC rfl rfl) (fun p4 h s => ?_)
 refine zv ?_
 have s0:=s
 refine WP.drawn [some (0,2),some (0,2),some (0,2),some (0,2),some (0,2),some (0,2),some (0,2),ak,ak,ak,ak] rfl (by kernel_rfl) (by kernel_rfl) ?_
 refine zF rfl (fg _ _) (zL rfl (s.ld (k:=0) rfl bK rfl) (zM rfl (zM rfl (zM rfl (zO rfl (ag rfl rfl (by exact bB (aC (by omega) (by omega)))) ?_)))))
 have ez:((a:Int)+(z:Int)).toNat=a+z:=by omega
 have ea:((a:Int)).toNat=a:=by omega
 refine zO rfl (ff (p:=some (.int .i64 (a:Int))) (q:=some (.int .i64 ((a:Int)+(z:Int)))) (m:=none) (p':=some a) (q':=some (a+z)) (m':=none) rfl rfl rfl rfl (by rw [eV (by omega),ea]) (by rw [eV (by omega),ez]) rfl (iq (s.buf (k:=1) rfl).view (by omega) J).1) ?_
 refine zM rfl (zM rfl (aB.any rfl rfl rfl rfl (OpR.call rfl rfl rfl rfl (CT hT s.CF Fc (by simp; omega))) ?_))
 intro u h s
 have s:=s.ae [1,1,0]
 dsimp only [List.nil_append,V.cells,List.length_cons,List.length_nil,Nat.reduceAdd,bringA,getA,aZ] at s
 have s1:=s
 refine aB.any rfl rfl rfl rfl (OpR.Ri rfl (s.ae [1,1]) (aR _ _) rfl rfl rfl rfl (by omega) J (by simp [dy]; omega)) ?_
 intro r h s
 have hs:∃q c,slR (V.sl jR 0 l.length cap) a (a+z)=.sl jR q (a+z-a) c:=by
  cases cap with
  | exact c=>exact ⟨_,_,rfl⟩
  | rest e alt=>exact ⟨_,_,rfl⟩
 obtain ⟨q,c,hs⟩:=hs
 have I:(slR (V.sl jR 0 l.length cap) a (a+z)).beq (slR (V.sl jR 0 l.length cap) a (a+z))=true:=by rw [hs]; exact BO _ _ _ _
 refine aB.nil ⟨⟨fun _ _=>.inr ⟨rfl,⟨_,ny rfl (fg _ _)⟩,bT _ rfl⟩,fo (.inr ⟨rfl,⟨_,aO rfl (s0.ld (k:=0) rfl bK rfl)⟩,bT _ rfl⟩) (.inr ⟨rfl,⟨_,aO rfl (s1.ld (k:=0) rfl bK rfl)⟩,bT _ rfl⟩),fun _ _=>.inr ⟨rfl,⟨_,b_ rfl⟩,bT _ rfl⟩,fun _ _=>.inr ⟨rfl,⟨_,b_ rfl⟩,bT _ rfl⟩,fun _ _=>.inr ⟨rfl,⟨_,b_ rfl⟩,bT _ rfl⟩,fun _ _=>.inr ⟨rfl,⟨_,ag rfl rfl (by exact bB (aC (by omega) (by omega)))⟩,bT _ rfl⟩,fo (.inr ⟨rfl,⟨_,ff (p:=some (.int .i64 (a:Int))) (q:=some (.int .i64 ((a:Int)+(z:Int)))) (m:=none) (p':=some a) (q':=some (a+z)) (m':=none) rfl rfl rfl rfl (by rw [eV (by omega),ea]) (by rw [eV (by omega),ez]) rfl (iq (s0.buf (k:=1) rfl).view (by omega) J).1⟩,I⟩) (.inr ⟨rfl,⟨_,ff (p:=some (.int .i64 (a:Int))) (q:=some (.int .i64 ((a:Int)+(z:Int)))) (m:=none) (p':=some a) (q':=some (a+z)) (m':=none) rfl rfl rfl rfl (by rw [eV (by omega),ea]) (by rw [eV (by omega),ez]) rfl (iq (s1.buf (k:=1) rfl).view (by omega) J).1⟩,I⟩),aa,aa,aa,aa,aa⟩,?_⟩
 refine ⟨aa,_,rfl,rfl,?_⟩
 rw [show a+z-a=z by omega,eD (by rw [dy]; omega)] at s
 exact (s.del 1).del 1
theorem qj (hT:W told)(s:Sat h (X::S))(hX:cI X (cL v l))(J:l.length<9223372036854775808):
  Call ⟨Tryz.prog,told⟩ 153 [v] h fun r h'=>Sat h' (X::S)∧((bP l=true∧r=.aX [.agg [v],.int .i64 0])∨(bP l=false∧r=.aX [.agg [.bu],.int .i64 4])):=by
 have hv:=s.aH (k:=0) rfl hX
 refine Call.of_wp (hT.free _ rfl) Tryz.func153 rfl rfl (zg rfl ?_)
 refine az.cr s rfl rfl rfl (ck ik) (fun p2 h s => ?_)
 refine zk 6 rfl (zc rfl (Ff hT (s.ae [1]) hX J) ?_)
 rintro r h' ⟨rfl,s⟩
 cases hg:bP l with
 | true =>
  have I:1≤l.length:=by
   have:l.length=512:=by simp only [bP,aG,ej] at hg; exact hg.1
   omega
  obtain ⟨pi,po,pc,rfl⟩:=gD hv I
  refine zo rfl (eY rfl rfl) (zk 6 rfl (zo rfl (cX rfl (by rw [vM]; rfl)) ?_))
  refine zS rfl (s.gQ (j:=1) rfl a_ rfl rfl) (fun h s => ?_)
  refine zk 2 rfl ?_
  refine WP.ret ⟨aa,_,BQ rfl (s.cP (k:=1) rfl bO a_) rfl,?_⟩
  exact ⟨s.del 1,.inl ⟨rfl,rfl⟩⟩
 | false =>
  refine zo rfl (eY rfl rfl) (zk 4 rfl (zo rfl (cX rfl (by rw [vM]; rfl)) ?_))
  refine zS rfl (s.gQ (j:=1) rfl a_ rfl rfl) (fun h s => ?_)
  refine zk 2 rfl ?_
  refine WP.ret ⟨aa,_,BQ rfl (s.cP (k:=1) rfl bO a_) rfl,?_⟩
  exact ⟨s.del 1,.inr ⟨rfl,rfl⟩⟩
theorem gE (I:bP l=true): l.length=512:=by simp only [bP,aG,ej] at I; exact I.1
theorem qN (hT:W told)(s:Sat h (X::S))(J:cI X (cL v l))(je:l.length<9223372036854775808):
  Call ⟨Tryz.prog,told⟩ 100 [v] h fun r h'=>(bP l=true∧∃u,r=.aX [.agg [u],.int .i64 0]∧Sat h' (aP u l::X::S))∨(bP l=false∧r=.aX [.agg [.bu],.int .i64 4]∧Sat h' (X::S)):=by
 have hv:=s.aH (k:=0) rfl J
 refine Call.of_wp (hT.free _ rfl) Tryz.func100 rfl rfl (zg rfl ?_)
 refine az.cr s rfl rfl rfl (ck ik) (fun p2 h s => ?_)
 refine zk 5 rfl (zc rfl (qj hT (s.ae [1]) J je) ?_)
 rintro r h' ⟨s,(⟨I,rfl⟩ | ⟨I,rfl⟩)⟩
 ·have TF:=gE I
  obtain ⟨pi,po,pc,rfl⟩:=gD hv (by omega)
  refine zk 3 rfl ?_
  refine az.cr s rfl rfl rfl (ck ik) (fun p4 h s => ?_)
  refine zS rfl (s.gQ (j:=0) rfl a_ rfl rfl) (fun h s => ?_)
  refine zk 6 rfl (zh rfl (ag rfl rfl aL) (rfl) (zk 4 rfl ?_))
  have s0:=s
  refine WP.drawn [ak,ak,ak,ak,some (0,2),some (0,2),ak,ak,ak,ak] rfl (by kernel_rfl) (by kernel_rfl) ?_
  refine zF rfl (fg _ _) (zL rfl (s.ld (k:=0) rfl bK rfl) (zO rfl (aV rfl rfl rfl (nF rfl aI)) (aB.any rfl rfl rfl rfl (OpR.qd rfl s rfl rfl rfl rfl (by omega)) ?_)))
  intro u h s
  have s:=s.ae [1,1,1,0]
  have s1:=s
  refine zF rfl (fg _ _) (zL rfl (s.ld (k:=0) rfl bK rfl) (aB.any rfl rfl rfl rfl (OpR.ov rfl (s.ae [3,1]) J rfl rfl rfl rfl (by simp; omega)) ?_))
  intro u2 h s
  rw [c5] at s
  obtain ⟨jR,_,cap,_,rfl,_⟩:=s.eo (by omega)
  have s2:=s
  refine zO rfl (cX rfl (by rw [vM]; rfl)) ?_
  refine aB.jG rfl rfl rfl (OpR.r7 rfl rfl rfl (s.gQ (j:=3) rfl a_ rfl rfl)) ?_
  rintro w h ⟨rfl,s⟩
  have s3:=s
  refine zA rfl ?_
  refine aB.nil ⟨⟨aa,aa,aa,aa,fun _ _=>.inr ⟨rfl,⟨_,ny rfl (fg _ _)⟩,bT _ rfl⟩,fo (.inr ⟨rfl,⟨_,aO rfl (s0.ld (k:=0) rfl bK rfl)⟩,bT _ rfl⟩) (.inr ⟨rfl,⟨_,aO rfl (s1.ld (k:=0) rfl bK rfl)⟩,bT _ rfl⟩),aa,aa,aa,aa,aa⟩,?_⟩
  refine WP.ret ⟨aa,_,BQ rfl (s.cP (k:=3) rfl bO a_) rfl,?_⟩
  exact .inl ⟨I,_,rfl,(s.del 2).del 2⟩
 ·skip
  refine zk 3 rfl ?_
  refine az.cr s rfl rfl rfl (ck ik) (fun p4 h s => ?_)
  refine zS rfl (s.gQ (j:=0) rfl a_ rfl rfl) (fun h s => ?_)
  refine zk 6 rfl (zt rfl (ag rfl rfl aL) (rfl) (zk 4 rfl (zo rfl (cX rfl (by rw [vM]; rfl)) ?_)))
  refine zm rfl ?_
  refine zS rfl (s.gQ (j:=2) rfl a_ rfl rfl) (fun h s => ?_)
  refine zk 2 rfl ?_
  refine WP.ret ⟨aa,_,BQ rfl (s.cP (k:=2) rfl bO a_) rfl,?_⟩
  exact .inr ⟨I,rfl,(s.del 2).del 0⟩
def lD (l:List Nat)(n:Nat): List Nat:=aT l 4 (le 8 n)
def cR (l:List Nat)(n:Nat): List Nat:=aT (lD l n) 0 (le 4 (uH 0 ((lD l n).drop 4)))
theorem sW {n:Nat}(I:l.length=512): (lD l n).length=512:=by rw [lD,ct (by rw [dy]; omega),I]
theorem Nw (I:W told){n:Nat}(s:Sat h (X::S))(hX:cI X (cL v l))(je:l.length<9223372036854775808):
  Call ⟨Tryz.prog,told⟩ 127 [v,.int .u64 (n:Int)] h fun r h'=>(bP l=true∧∃u,r=.aX [u,.int .i64 0]∧Sat h' (aP u (cR l n)::X::S))∨(bP l=false∧r=.aX [.bu,.int .i64 4]∧Sat h' (X::S)):=by
 refine Call.of_wp (I.free _ rfl) Tryz.func127 rfl rfl (zK 8 rfl (zc rfl (qN I s hX je) ?_))
 rintro r h' (⟨hg,u,rfl,s⟩ | ⟨hg,rfl,s⟩)
 ·have J:=gE hg
  have Mq:(lD l n).length=512:=sW J
  obtain ⟨jR,_,cap,_,rfl,_⟩:=s.eo (by omega)
  refine zk 3 rfl ?_
  refine az.cr s rfl rfl rfl (ck ik) (fun p6 h s => ?_)
  refine zS rfl (s.gQ (j:=0) rfl a_ rfl rfl) (fun h s => ?_)
  refine zk 6 rfl (zh rfl (ag rfl rfl aL) (rfl) (zk 5 rfl (zl rfl (s.cP (k:=0) rfl bO a_) (zm rfl (zc rfl (mT (a:=4) (z:=8) I (s.ae [1]) (by decide) (by decide) (by omega) (by omega)) ?_)))))
  rintro r h' ⟨rfl,s⟩
  have s:=s.ae [1,0]
  have s:Sat _ (_::aP _ (lD l n)::_):=s
  refine zk 2 rfl ?_
  have s0:=s
  have CU:=(s.buf (k:=1) rfl).view.1
  have ec:(lD l n).length=l.length:=by omega
  rw [←ec] at *
  refine WP.drawn [some (0,2),ak,ak,ak,ak,ak,ak] rfl (by kernel_rfl) (by kernel_rfl) ?_
  refine zL rfl (s.cP (k:=0) rfl bO a_) (zF rfl (fg _ _) (zL rfl (s.ld (k:=0) rfl bK rfl) (zO rfl (ff (p:=some (.int .i64 4)) (q:=none) (m:=none) (p':=some 4) (q':=none) (m':=none) rfl rfl rfl rfl rfl rfl rfl (jf (s.buf (k:=1) rfl).view (a:=4) (by omega)).1) ?_)))
  refine aB.any rfl rfl rfl rfl (OpR.call rfl rfl rfl rfl (Mp I s (k:=1) rfl (E8 (aR _ _) (a:=4) (by omega)) (by simp; omega))) ?_
  rintro r h' ⟨rfl,rfl⟩
  have s1:=s
  have hc:=w5 (s:=0) (l:=(lD l n).drop 4) (by decide) (fun x hx=>CU x (gw hx))
  refine aB.op rfl rfl rfl (by simp only [isEff,cZ]) (cH rfl (by exact jQ Tryz.underlying231 cZ (fX (by omega) (by omega)))) ?_
  refine aB.any rfl rfl rfl rfl (OpR.call rfl rfl rfl rfl (mT (a:=0) (z:=4) I (s.ae [1]) (by decide) (by decide) (by omega) (by omega))) ?_
  rintro r h ⟨rfl,s⟩
  have s:=s.ae [1,0]
  refine aB.nil ⟨⟨fo (.inr ⟨rfl,⟨_,aO rfl (s0.cP (k:=0) rfl bO a_)⟩,bT _ rfl⟩) (.inr ⟨rfl,⟨_,aO rfl (s1.cP (k:=0) rfl bO a_)⟩,bT _ rfl⟩),aa,aa,aa,aa,aa,aa,aa⟩,?_⟩
  exact zg rfl (zf rfl (fg _ _) (zl rfl (s.ld (k:=0) rfl bK rfl) (zk 3 rfl (WP.ret ⟨aa,_,rfl,.inl ⟨hg,_,rfl,s.drop⟩⟩))))
 ·skip
  refine zk 3 rfl ?_
  refine az.cr s rfl rfl rfl (ck ik) (fun p6 h s => ?_)
  refine zS rfl (s.gQ (j:=0) rfl a_ rfl rfl) (fun h s => ?_)
  exact zk 6 rfl (zt rfl (ag rfl rfl aL) (rfl) (zk 8 rfl (WP.ret ⟨aa,_,rfl,.inr ⟨hg,rfl,s.drop⟩⟩)))
theorem TG {P:Program}{E:List (Nat×V)}{d:TypeId}{x:Operand}{r:V}(I:lookO E x=some v)(J:arrPtrV P d v=some r): opE P E h (.sliceToArrayPointer d x)=some (r,h):=by simp only [opE,hU,I,J,aK]
theorem Nx {P:Program}{t:TypeId}{id off n:Nat}{cap:Cap}(I:View h (.sl id off n cap) l)(J:b6 P t=some true)(hs:br P t=some l.length): loadV P h t (.ptr id off)=some (.agg (ofBytes l)):=by
 have:=I.rdN
 obtain ⟨rfl,h2⟩:=this
 simp only [loadV,J,hs,h2,gV]
theorem BG : ∀(l m:List Nat),l.length=m.length→intsBeq .u8 (ofBytes l) (ofBytes m)=some (decide (l=m)):=by
 intro l
 induction l with
 | nil=>intro m hm; cases m with
  | nil=>rfl
  | cons x m=>simp at hm
 | cons x l J=>intro m hm; cases m with
  | nil=>simp at hm
  | cons y m =>
   have hi:=J m (by simpa using hm)
   simp only [ofBytes,b8] at hi ⊢
   simp only [intsBeq,ikBeq,gW,af,hi,mQ]
   by_cases I:x=y
   ·subst I; simp
   ·have:¬ ((x:Int)=(y:Int)):=by omega
    simp [this,I]
theorem KW : buildV Tryz.prog 239 []=some (.agg (ofBytes (List.replicate 512 0))):=by kernel_rfl
theorem Mr {P:Program}{t e:TypeId}{n:Nat}{x y:Operand}{m:List Nat}(hu:P.underlying t=some (.array n e))(he:P.underlying e=some (.int .u8))(hs:br P e=some 1)(I:l.length=n)(hm:m.length=n):
  binV P h .eql t x y (.agg (ofBytes l)) (.agg (ofBytes m))=some (.bool (decide (l=m))):=by
 simp only [binV,eqArr,hu,he,hs,cm,I,hm,dc,gW,af]
 rw [BG l m (by omega)]
 rfl
def ga (l:List Nat): Int:=if l=List.replicate 512 0 then 0 else if bP l=false then 4 else if cF l 0 4≠uH 0 (l.drop 4) then 8 else 0
theorem CV (hT:W told)(s:Sat h (X::S))(J:cI X (cL v l))(je:l.length<9223372036854775808):
  Call ⟨Tryz.prog,told⟩ 125 [v] h fun r h'=>r=.int .i64 (ga l)∧Sat h' (X::S):=by
 have hv:=s.aH (k:=0) rfl J
 have hz:(List.replicate 512 0).length=512:=eE
 -- what follows when the page is no page of noughts
 refine Call.of_wp (hT.free _ rfl) Tryz.func125 rfl rfl (zK 8 rfl (zo rfl (aV rfl rfl rfl (aS aI (s.aH (k:=0) rfl J))) ?_))
 refine zd rfl (ag rfl rfl gC) ?_ ?_
 ·intro hq
  have hq:l.length=512:=by simp at hq; omega
  obtain ⟨pi,po,pc,rfl⟩:=gD hv (by omega)
  refine zk 2 rfl (zo rfl (TG (r:=.ptr pi po) rfl (by simp only [arrPtrV,CS]; rw [hq]; rfl)) ?_)
  refine zl rfl (Nx hv Rc (by rw [hq]; exact Rb)) ?_
  refine zo rfl (cX rfl KW) ?_
  by_cases hn:l=List.replicate 512 0
  ·skip
   exact zt rfl (ag rfl rfl (Mr CS Tryz.underlying5 R8 hq hz)) (decide_eq_true hn) (zk 7 rfl (WP.ret ⟨aa,_,rfl,by rw [ga,ax hn],s⟩))
  ·skip
   refine zh rfl (ag rfl rfl (Mr CS Tryz.underlying5 R8 hq hz)) (decide_eq_false hn) (zk 7 rfl (zc rfl (qj hT s J je) ?_))
   rintro r h' ⟨s,(⟨hg,rfl⟩ | ⟨hg,rfl⟩)⟩
   ·refine az.op rfl rfl rfl (b_ rfl) ?_
    refine zk 2 rfl ?_
    refine az.cr s rfl rfl rfl (ck ik) (fun p3 h s => ?_)
    dsimp only [V.cells,List.length_cons,List.length_nil,Nat.reduceAdd] at s
    refine zS rfl (s.gQ (j:=0) rfl a_ rfl rfl) (fun h s => ?_)
    dsimp only [setA] at s
    refine zk 3 rfl (WP.block (zK 3 rfl (zh rfl (ag rfl rfl aL) (rfl) (zk 4 rfl ?_))))
    have s0:=s
    refine WP.drawn [none,none,some (0,2),some (0,2),ak,ak,ak,ak] rfl (by kernel_rfl) (by kernel_rfl) ?_
    refine zL rfl (s.cP (k:=0) rfl bO a_) (aB.any rfl rfl rfl rfl (OpR.call rfl rfl rfl rfl (qi hT s (k:=1) rfl J (by decide) (by decide) (by decide) (by omega) (by omega))) ?_)
    rintro r h' ⟨rfl,s⟩
    have s1:=s
    refine zM rfl (zO rfl (ff (p:=some (.int .i64 4)) (q:=none) (m:=none) (p':=some 4) (q':=none) (m':=none) rfl rfl rfl rfl rfl rfl rfl (jf (s.aH (k:=1) rfl J) (a:=4) (by omega)).1) ?_)
    refine aB.any rfl rfl rfl rfl (OpR.call rfl rfl rfl rfl (Mp hT s (k:=1) rfl (E8 J (a:=4) (by omega)) (by simp; omega))) ?_
    rintro r h' ⟨rfl,rfl⟩
    have hc:=w5 (s:=0) (l:=l.drop 4) (by decide) (fun x hx=>hv.1 x (gw hx))
    have hs:∃q c,slR (V.sl pi po l.length pc) 4 l.length=.sl pi q (l.length-4) c:=by
     cases pc with
     | exact c=>exact ⟨_,_,rfl⟩
     | rest e alt=>exact ⟨_,_,rfl⟩
    obtain ⟨q,c,hs⟩:=hs
    have Ms:(slR (V.sl pi po l.length pc) 4 l.length).beq (slR (V.sl pi po l.length pc) 4 l.length)=true:=by rw [hs]; exact BO _ _ _ _
    refine aB.op rfl rfl rfl (by simp only [isEff,bN]) (cH rfl (by exact jQ Tryz.underlying231 bN (aC (by omega) (by omega)))) ?_
    by_cases I:cF l 0 4=uH 0 (l.drop 4)
    ·skip
     refine aB.tD rfl rfl rfl rfl (ag rfl rfl aL) (by simp; exact_mod_cast I) ?_
     refine zA rfl ?_
     refine aB.nil ⟨⟨aa,aa,fun _ _=>.inr ⟨rfl,⟨_,b_ rfl⟩,bT _ rfl⟩,fo (.inr ⟨rfl,⟨_,ff (p:=some (.int .i64 4)) (q:=none) (m:=none) (p':=some 4) (q':=none) (m':=none) rfl rfl rfl rfl rfl rfl rfl (jf (s0.aH (k:=1) rfl J) (a:=4) (by omega)).1⟩,Ms⟩) (.inr ⟨rfl,⟨_,ff (p:=some (.int .i64 4)) (q:=none) (m:=none) (p':=some 4) (q':=none) (m':=none) rfl rfl rfl rfl rfl rfl rfl (jf (s1.aH (k:=1) rfl J) (a:=4) (by omega)).1⟩,Ms⟩),aa,aa,aa,aa,aa⟩,?_⟩
     refine zj rfl (WP.skip (zg rfl (za rfl (zv ?_))))
     refine WP.ret ⟨aa,_,rfl,?_⟩
     exact ⟨by rw [ga,ai hn,ai (by rw [hg]; decide),ai (by simpa using I)],s.drop⟩
    ·skip
     refine aB.yq rfl rfl rfl rfl (ag rfl rfl aL) (by simp; exact_mod_cast I) ?_
     refine zA rfl ?_
     refine aB.nil ⟨⟨aa,aa,fun _ _=>.inr ⟨rfl,⟨_,b_ rfl⟩,bT _ rfl⟩,fo (.inr ⟨rfl,⟨_,ff (p:=some (.int .i64 4)) (q:=none) (m:=none) (p':=some 4) (q':=none) (m':=none) rfl rfl rfl rfl rfl rfl rfl (jf (s0.aH (k:=1) rfl J) (a:=4) (by omega)).1⟩,Ms⟩) (.inr ⟨rfl,⟨_,ff (p:=some (.int .i64 4)) (q:=none) (m:=none) (p':=some 4) (q':=none) (m':=none) rfl rfl rfl rfl rfl rfl rfl (jf (s1.aH (k:=1) rfl J) (a:=4) (by omega)).1⟩,Ms⟩),aa,aa,aa,aa,aa⟩,?_⟩
     exact zK 5 rfl (WP.ret ⟨aa,_,rfl,by rw [ga,ai hn,ai (by rw [hg]; decide),ax I],s.drop⟩)
   ·skip
    refine zk 3 rfl ?_
    refine az.cr s rfl rfl rfl (ck ik) (fun p3 h s => ?_)
    refine zS rfl (s.gQ (j:=0) rfl a_ rfl rfl) (fun h s => ?_)
    exact zk 3 rfl (WP.block (zK 3 rfl (zt rfl (ag rfl rfl aL) (rfl) (zk 8 rfl (WP.ret ⟨aa,_,rfl,by rw [ga,ai hn,ax hg],s.drop⟩)))))
 ·intro hq
  have hq:l.length≠512:=by simp at hq; omega
  have hn:l≠List.replicate 512 0:=fun e=>hq (by rw [e,hz])
  have hg:bP l=false:=by rw [bP,dJ hq,fK]
  refine zk 13 rfl (zc rfl (qj hT s J je) ?_)
  rintro r h' ⟨s,(⟨E7,rfl⟩ | ⟨_,rfl⟩)⟩
  ·rw [hg] at E7; cases E7
  ·refine az.op rfl rfl rfl (b_ rfl) ?_
   refine zk 2 rfl ?_
   refine az.cr s rfl rfl rfl (ck ik) (fun p3 h s => ?_)
   refine zS rfl (s.gQ (j:=0) rfl a_ rfl rfl) (fun h s => ?_)
   exact zk 3 rfl (WP.block (zK 3 rfl (zt rfl (ag rfl rfl aL) (rfl) (zk 8 rfl (WP.ret ⟨aa,_,rfl,by rw [ga,ai hn,ax hg],s.drop⟩)))))
theorem n4 {i b id off:Nat}(hv:View h v l)(hb:l[i]?=some b)(he:indexAddrV Tryz.prog 28 v (.int .i64 (i:Int))=some (.ptr id off)): loadV Tryz.prog h 5 (.ptr id off)=some (.int .u8 (b:Int)):=by
 obtain ⟨I,off',J,e2⟩:=eB hv hb
 rw [he] at J
 have e3:V.ptr id off=V.ptr I off':=bG J
 rw [e3]
 exact e2
theorem vX (hT:W told)(s:Sat h (X::S))(I:cI X (cL v l))(je:l.length<9223372036854775808):
  Call ⟨Tryz.prog,told⟩ 142 [v] h fun r h'=>Sat h' (X::S)∧((bP l=true∧r=.aX [.int .i64 (l.getD 12 0:Nat),.int .u64 (cF l 4 8),.int .i64 (cF l 18 4),.int .i64 (cF l 22 4),.int .i64 0]) ∨
   (bP l=false∧r=.aX [.int .i64 0,.int .u64 0,.int .i64 0,.int .i64 0,.int .i64 4])):=by
 have hv:=s.aH (k:=0) rfl I
 refine Call.of_wp (hT.free _ rfl) Tryz.func142 rfl rfl (zK 11 rfl (zc rfl (qj hT s I je) ?_))
 rintro r h' ⟨s,(⟨hg,rfl⟩ | ⟨hg,rfl⟩)⟩
 ·have hq:=gE hg
  obtain ⟨pi,po,pc,rfl⟩:=gD hv (by omega)
  have J:l[12]?=some (l[12]'(by omega)):=aY _
  generalize EF:(l[12]'(by omega))=b at J
  have AX:b<256:=hv.1 b (bh J)
  have nZ:l.getD 12 0=b:=by rw [ei,J]; rfl
  rw [nZ]
  refine zk 3 rfl ?_
  refine az.cr s rfl rfl rfl (ck ik) (fun p7 h s => ?_)
  refine zS rfl (s.gQ (j:=0) rfl a_ rfl rfl) (fun h s => ?_)
  refine zk 6 rfl (zh rfl (ag rfl rfl aL) (rfl) (zk 4 rfl ?_))
  have s0:=s
  obtain ⟨id,off,e1,e2⟩:=eB (s.aH (k:=1) rfl I) J
  refine WP.drawn [some (0,4),some (0,4),some (0,4),some (0,4),ak,ak,ak,some (0,2),none,some (0,3),ak,ak,ak,ak,ak,ak] rfl (by kernel_rfl) (by kernel_rfl) ?_
  refine zM rfl (zO rfl (dm (r:=.ptr id off) rfl rfl e1) (zL rfl (n4 (s.aH (k:=1) rfl I) J e1) (aB.op rfl rfl rfl (by simp only [isEff,bN]) (cH rfl (by exact jQ Tryz.underlying5 bN (aC (by omega) (by omega)))) ?_)))
  refine zM rfl (zO rfl (ff (p:=some (.int .i64 4)) (q:=some (.int .i64 12)) (m:=none) (p':=some 4) (q':=some 12) (m':=none) rfl rfl rfl rfl rfl rfl rfl (iq (s.aH (k:=1) rfl I) (a:=4) (b:=12) (by omega) (by omega)).1) ?_)
  refine aB.any rfl rfl rfl rfl (OpR.call rfl rfl rfl rfl (Fb hT s (k:=1) rfl (sS I (a:=4) (b:=12) (by omega) (by omega)) (by simp; omega))) ?_
  rintro r h' ⟨rfl,rfl⟩
  have s1:=s
  refine zL rfl (s.cP (k:=0) rfl bO a_) (aB.any rfl rfl rfl rfl (OpR.call rfl rfl rfl rfl (qi hT s (k:=1) rfl I (by decide) (by decide) (by decide) (by omega) (by omega))) ?_)
  rintro r h' ⟨rfl,s⟩
  have s2:=s
  refine zL rfl (s.cP (k:=0) rfl bO a_) (aB.any rfl rfl rfl rfl (OpR.call rfl rfl rfl rfl (qi hT s (k:=1) rfl I (by decide) (by decide) (by decide) (by omega) (by omega))) ?_)
  rintro r h' ⟨rfl,s⟩
  refine zA rfl (zA rfl (zA rfl (zA rfl (zA rfl ?_))))
  refine aB.nil ⟨⟨fun _ _=>.inr ⟨rfl,⟨_,b_ rfl⟩,bT _ rfl⟩,fun _ _=>.inr ⟨rfl,⟨_,dm (r:=.ptr id off) rfl rfl e1⟩,bT _ rfl⟩,IA (.inr ⟨rfl,⟨_,aO rfl (n4 (s0.aH (k:=1) rfl I) J e1)⟩,bT _ rfl⟩) (.inr ⟨rfl,⟨_,aO rfl (n4 (s1.aH (k:=1) rfl I) J e1)⟩,bT _ rfl⟩) (.inr ⟨rfl,⟨_,aO rfl (n4 (s2.aH (k:=1) rfl I) J e1)⟩,bT _ rfl⟩) (.inr ⟨rfl,⟨_,aO rfl (n4 (s.aH (k:=1) rfl I) J e1)⟩,bT _ rfl⟩),fun _ _=>.inr ⟨rfl,⟨_,cH rfl (by exact jQ Tryz.underlying5 bN (aC (by omega) (by omega)))⟩,bT _ rfl⟩,aa,aa,aa,fo (.inr ⟨rfl,⟨_,aO rfl (s0.cP (k:=0) rfl bO a_)⟩,bT _ rfl⟩) (.inr ⟨rfl,⟨_,aO rfl (s1.cP (k:=0) rfl bO a_)⟩,bT _ rfl⟩),aa,p_ (.inr ⟨rfl,⟨_,aO rfl (s0.cP (k:=0) rfl bO a_)⟩,bT _ rfl⟩) (.inr ⟨rfl,⟨_,aO rfl (s1.cP (k:=0) rfl bO a_)⟩,bT _ rfl⟩) (.inr ⟨rfl,⟨_,aO rfl (s2.cP (k:=0) rfl bO a_)⟩,bT _ rfl⟩),aa,aa,aa,aa,aa,aa,aa⟩,?_⟩
  refine WP.ret ⟨aa,_,rfl,?_⟩
  exact ⟨s.drop,.inl ⟨hg,rfl⟩⟩
 ·skip
  refine zk 3 rfl ?_
  refine az.cr s rfl rfl rfl (ck ik) (fun p7 h s => ?_)
  refine zS rfl (s.gQ (j:=0) rfl a_ rfl rfl) (fun h s => ?_)
  exact zk 6 rfl (zt rfl (ag rfl rfl aL) (rfl) (zk 11 rfl (WP.ret ⟨aa,_,rfl,s.drop,.inr ⟨hg,rfl⟩⟩)))
end
structure Lg where
 base:Nat
 b:List Nat
 cf:List Nat
 forced:Nat
 check:Nat
def cx (l:List Nat): List V:=l.map fun (n:Nat)=>V.int .i64 (n:Int)
theorem iy (l:List Nat): (cx l).length=l.length:=by simp [cx]
def PO (p base:Nat)(bv I:V)(forced check:Nat): List V:=[.ptr p 0,.int .u64 (base:Int),bv,I,.int .i64 (forced:Int),.int .u64 (check:Int)]
def bW (q p:Nat)(μ:Lg): aq:=xs fun bv:V=>xs fun I:V=>star [pt q (.cells 6 (PO p μ.base bv I μ.forced μ.check) false),aP bv μ.b,.arr 1 I (cx μ.cf)]
structure Lg.Ok (μ:Lg): Prop where
 size:μ.base+μ.b.length≤1099511627776
 many:μ.cf.length≤16777216
 low:∀s∈μ.cf,s<μ.b.length
 AG:μ.cf.Pairwise (· < ·)
 forced:μ.forced≤μ.b.length
 len:μ.b.length≤16777216
 check:μ.check≤1099511627776
theorem Rp {P:Program}{h:H}{t:TypeId}{x y:Operand}{a b:Nat}(I:a+b<4611686018427387904): binV P h .quo t x y (.int .i64 ((a:Int)+(b:Int))) (.int .i64 2)=some (.int .i64 (((a+b)/2:Nat):Int)):=by
 simp only [binV,ikBeq,af,intV]
 rw [show intBeq 2 0=false from rfl,ay,Es (by omega),aC (by omega) (by omega)]
 congr 2
section
variable {told:cK} {h:H} {S:List aq} {X:aq} {k q p:Nat} {v:V} {l:List Nat} {μ:Lg}
theorem fG : Sat h (bW q p μ::S)↔∃bv I,Sat h (pt q (.cells 6 (PO p μ.base bv I μ.forced μ.check) false)::aP bv μ.b::.arr 1 I (cx μ.cf)::S):=by
 simp only [bW,kI,cS,gx,c5]
theorem jK {P:Program}{t e:TypeId}{cs:List V}{i:Nat}{c:V}(s:Sat h S)(hk:getA S k=some (.arr 1 v cs))(hi:cs[i]?=some c)(hu:P.underlying t=some (.slice e))(I:br P e=some 1):
  ∃id off,indexAddrV P t v (.int .i64 (i:Int))=some (.ptr id off)∧∀t',b6 P t'=some false→loadV P h t' (.ptr id off)=some c:=by
 have J:i<cs.length:=(List.getElem?_eq_some_iff.1 hi).1
 obtain ⟨m,r,h1,h2,h3⟩:=s.at hk
 rcases h3.2 with ⟨_,rfl⟩ | ⟨id,n,cap,N,rest,rfl,hg,e1,e2,_⟩
 ·simp at hi
 ·refine ⟨id,i,?_,fun t' ht=>Pm ht (h1 _ _ hg) ?_⟩
  ·simp only [indexAddrV,hu,I,cW]
   rw [show (decide ((0:Int)≤(i:Int))&&decide ((i:Int)<(n:Int)))=true by simp; omega,af]
   simp
  ·rw [fh,iS J,hi]
theorem IX (I:W told)(s:Sat h (bW q p μ::S)): Call ⟨Tryz.prog,told⟩ 82 [.ptr q 0] h fun v h'=>v=.int .u64 (μ.base:Int)∧h'=h:=by
 obtain ⟨bv,J,s⟩:=fG.1 s
 exact Call.of_wp (I.free _ rfl) Tryz.func82 rfl rfl (zK 8 rfl (zf rfl (r9 _ _) (zl rfl (s.ld (k:=0) rfl mN rfl) (zk 2 rfl (WP.ret ⟨aa,_,rfl,rfl,rfl⟩)))))
theorem D5 (I:W told)(s:Sat h (bW q p μ::S)): Call ⟨Tryz.prog,told⟩ 83 [.ptr q 0] h fun v h'=>v=.int .u64 (μ.check:Int)∧h'=h:=by
 obtain ⟨bv,J,s⟩:=fG.1 s
 exact Call.of_wp (I.free _ rfl) Tryz.func83 rfl rfl (zK 8 rfl (zf rfl (Ng _ _) (zl rfl (s.ld (k:=0) rfl mN rfl) (zk 2 rfl (WP.ret ⟨aa,_,rfl,rfl,rfl⟩)))))
theorem AH (I:W told)(s:Sat h (bW q p μ::S))(J:μ.base+μ.b.length≤1099511627776): Call ⟨Tryz.prog,told⟩ 43 [.ptr q 0] h fun v h'=>v=.int .u64 ((μ.base:Int)+(μ.b.length:Int))∧h'=h:=by
 obtain ⟨bv,sv,s⟩:=fG.1 s
 refine Call.of_wp (I.free _ rfl) Tryz.func43 rfl rfl (zK 5 rfl (WP.drawn [ak,ak,ak,ak,ak,ak,ak,ak,ak,ak,ak,ak] rfl (by kernel_rfl) (by kernel_rfl) ?_))
 refine zM rfl (zN rfl (zF rfl (r9 _ _) (zL rfl (s.ld (k:=0) rfl mN rfl) (zM rfl (zN rfl (zF rfl (jI _ _) (zL rfl (s.ld (k:=0) rfl bK rfl) (zO rfl (aV rfl rfl rfl (aS aI (s.aH (k:=1) rfl (aR _ _)))) (aB.op rfl rfl rfl (by simp only [isEff,cZ]) (cH rfl (by exact jQ bN cZ (fX (by omega) (by omega)))) ?_)))))))))
 refine zO rfl (ag rfl rfl (by exact bB (fX (by omega) (by omega)))) ?_
 refine zA rfl ?_
 refine aB.nil ⟨⟨aa,aa,aa,aa,aa,aa,aa,aa,aa,aa,aa,aa,aa⟩,?_⟩
 refine WP.ret ⟨aa,_,rfl,?_⟩
 exact ⟨rfl,rfl⟩
theorem GN (I:W told)(s:Sat h (bW q p μ::S))(J:μ.base+μ.b.length≤1099511627776)(hf:μ.forced≤μ.b.length): Call ⟨Tryz.prog,told⟩ 129 [.ptr q 0] h fun v h'=>v=.int .u64 ((μ.base:Int)+(μ.forced:Int))∧h'=h:=by
 obtain ⟨bv,sv,s⟩:=fG.1 s
 refine Call.of_wp (I.free _ rfl) Tryz.func129 rfl rfl (zK 5 rfl (WP.drawn [ak,ak,ak,ak,ak,ak,ak,ak,ak,ak,ak] rfl (by kernel_rfl) (by kernel_rfl) ?_))
 refine zM rfl (zN rfl (zF rfl (r9 _ _) (zL rfl (s.ld (k:=0) rfl mN rfl) (zM rfl (zN rfl (zF rfl (Aw _ _) (zL rfl (s.ld (k:=0) rfl eM rfl) (aB.op rfl rfl rfl (by simp only [isEff,cZ]) (cH rfl (by exact jQ bN cZ (fX (by omega) (by omega)))) ?_))))))))
 refine zO rfl (ag rfl rfl (by exact bB (fX (by omega) (by omega)))) ?_
 refine zA rfl ?_
 refine aB.nil ⟨⟨aa,aa,aa,aa,aa,aa,aa,aa,aa,aa,aa,aa⟩,?_⟩
 refine WP.ret ⟨aa,_,rfl,?_⟩
 exact ⟨rfl,rfl⟩
def Split (μ:Lg)(n i:Nat): Prop:=i≤μ.cf.length∧(∀(j s:Nat),j<i→μ.cf[j]?=some s→μ.base+s<n)∧(∀(j s:Nat),i≤j→μ.cf[j]?=some s→n≤μ.base+s)
theorem AI {l:List Nat}(J:l.Pairwise (· < ·)){i j a b:Nat}(I:i<j)(ha:l[i]?=some a)(hb:l[j]?=some b): a<b:=by
 obtain ⟨h1,rfl⟩:=List.getElem?_eq_some_iff.1 ha
 obtain ⟨h2,rfl⟩:=List.getElem?_eq_some_iff.1 hb
 exact List.pairwise_iff_getElem.1 J _ _ h1 h2 I
noncomputable def U9 : Code:=gr [1,1,0,0,0] ((Tryz.f150.body).getD .skip)
theorem IY {bv sv:V}{n:Nat}(hn:n<18446744073709551616)(I:μ.Ok)(s:Sat h (pt q (.cells 6 (PO p μ.base bv sv μ.forced μ.check) false)::aP bv μ.b::.arr 1 sv (cx μ.cf)::S)): ∀(fuel lo hi:Nat) (E:List (Nat×V)) (Q:Ex→List (Nat×V)→H→Prop),hi-lo≤fuel→lo≤hi→hi≤μ.cf.length →
  (∀(j s:Nat),j<lo→μ.cf[j]?=some s→μ.base+s<n)→(∀(j s:Nat),hi≤j→μ.cf[j]?=some s→n≤μ.base+s) →
  Has E [(0,.ptr q 0),(1,.int .u64 (n:Int)),(5,.int .i64 (lo:Int)),(6,.int .i64 (hi:Int))]→(∀E' i,Split μ n i→look E' 5=some (.int .i64 (i:Int))→Q (.exit 0) E' h)→WP ⟨Tryz.prog,told⟩ 39 (.loop U9) E h Q:=by
 have Mt:=I.many
 have GO:=I.size
 intro fuel
 induction fuel with
 | zero =>
  intro lo hi E Q hf h1 h2 h3 h4 hE hq
  refine WP.loop (WP.has hE (zK 5 rfl (zh rfl (ag rfl rfl bf) (by simp; omega) ?_)))
  refine zk 2 rfl (WP.exit ?_)
  have e:lo=hi:=by omega
  exact hq _ lo ⟨by omega,h3,by rw [e]; exact h4⟩ rfl
 | succ fuel ih =>
  intro lo hi E Q hf h1 h2 h3 h4 hE hq
  by_cases bk:lo<hi
  ·skip
   refine WP.loop (WP.has hE (zK 5 rfl (zt rfl (ag rfl rfl bf) (by simp; omega) ?_)))
   refine zk 3 rfl (WP.block (zK 4 rfl (zb rfl (by exact bB (aC (by omega) (by omega))) ?_)))
   refine zb rfl (Rp (by omega)) ?_
   refine zk 3 rfl ?_
   generalize hm:(lo+hi)/2=m
   have wH:lo≤m:=by omega
   have LY:m<hi:=by omega
   obtain ⟨st,J⟩:∃st,μ.cf[m]?=some st:=⟨_,aY (by omega)⟩
   have KK:=I.low st (bh J)
   have hlen:=I.len
   have hc:(cx μ.cf)[m]?=some (.int .i64 (st:Int)):=by simp [cx,J]
   obtain ⟨id,off,e1,e2⟩:=jK (P:=Tryz.prog) s (k:=2) rfl hc dx mh
   refine WP.drawn [ak,ak,ak,ak,ak,ak,ak,ak,ak,ak,ak,ak,ak,ak,ak] rfl (by kernel_rfl) (by kernel_rfl) ?_
   refine zM rfl (zN rfl (zF rfl (r9 _ _) (zL rfl (s.ld (k:=0) rfl mN rfl) (zM rfl (zN rfl (zF rfl (nD _ _) (zL rfl (s.ld (k:=0) rfl lS rfl) (zM rfl (zO rfl (dm (r:=.ptr id off) rfl rfl e1) (zL rfl (e2 _ eM) (aB.op rfl rfl rfl (by simp only [isEff,cZ]) (cH rfl (by exact jQ bN cZ (fX (by omega) (by omega)))) ?_)))))))))))
   refine zO rfl (ag rfl rfl (by exact bB (fX (by omega) (by omega)))) ?_
   refine zM rfl ?_
   by_cases m5:μ.base+st<n
   ·skip
    refine aB.yq rfl rfl rfl rfl (ag rfl rfl bf) (by simp; omega) ?_
    refine aB.nil ⟨⟨aa,aa,aa,aa,aa,aa,aa,aa,aa,aa,aa,aa,aa,aa,aa,aa⟩,?_⟩
    refine zK 3 rfl (zb rfl (by exact bB (aC (by omega) (by omega))) ?_)
    refine za rfl (zv ?_)
    refine ih (m+1) hi _ Q (by omega) (by omega) h2 (fun j s hj hs => ?_) h4 ⟨rfl,rfl,rfl,rfl,aa⟩ hq
    by_cases PR:j=m
    ·subst PR; rw [J] at hs; injection hs with hs; omega
    ·have:=AI I.AG (show j<m by omega) hs J; omega
   ·skip
    refine aB.tD rfl rfl rfl rfl (ag rfl rfl bf) (by simp; omega) ?_
    refine aB.nil ⟨⟨aa,aa,aa,aa,aa,aa,aa,aa,aa,aa,aa,aa,aa,aa,aa,aa⟩,?_⟩
    refine zj rfl (zr rfl (zk 2 rfl (zv ?_)))
    refine ih lo m _ Q (by omega) wH (by omega) h3 (fun j s hj hs => ?_) ⟨rfl,rfl,rfl,rfl,aa⟩ hq
    by_cases PR:j=m
    ·subst PR; rw [J] at hs; injection hs with hs; omega
    ·have:=AI I.AG (show m<j by omega) J hs; omega
  ·skip
   refine WP.loop (WP.has hE (zK 5 rfl (zh rfl (ag rfl rfl bf) (by simp; omega) ?_)))
   refine zk 2 rfl (WP.exit ?_)
   have e:lo=hi:=by omega
   exact hq _ lo ⟨by omega,h3,by rw [e]; exact h4⟩ rfl
theorem Ny (hT:W told){n:Nat}(s:Sat h (bW q p μ::S))(I:μ.Ok)(hn:n<18446744073709551616): Call ⟨Tryz.prog,told⟩ 150 [.ptr q 0,.int .u64 (n:Int)] h fun v h'=>h'=h∧∃i,Split μ n i∧v=.int .i64 (i:Int):=by
 obtain ⟨bv,sv,s⟩:=fG.1 s
 refine Call.of_wp (hT.free _ rfl) Tryz.func150 rfl rfl (zK 5 rfl (WP.drawn [ak,ak,ak,ak,ak,ak,ak] rfl (by kernel_rfl) (by kernel_rfl) ?_))
 refine zM rfl (zN rfl (zF rfl (nD _ _) (zL rfl (s.ld (k:=0) rfl lS rfl) (zO rfl (aV rfl rfl rfl (s.iL (n:=μ.cf.length) (j:=2) rfl (by rw [iy,c6]) (by decide) dx)) ?_))))
 refine zA rfl (zA rfl ?_)
 refine aB.nil ⟨⟨aa,aa,aa,aa,aa,aa,aa,aa⟩,?_⟩
 refine zw (WP.block ?_)
 refine IY hn I s μ.cf.length 0 μ.cf.length _ _ (by omega) (by omega) (by omega) (fun j s hj _=>by omega) (fun j s hj hs => ?_) ⟨rfl,rfl,rfl,rfl,aa⟩ (fun E' i hi J => ?_)
 ·rw [oS (by omega)] at hs; cases hs
 ·skip
  exact WP.has (F:=[(5,.int .i64 (i:Int))]) ⟨J,aa⟩ (zK 5 rfl (WP.ret ⟨aa,_,rfl,rfl,i,hi,rfl⟩))
def Lg.hasB (μ:Lg)(n:Nat): Bool:=μ.cf.any fun s=>decide (μ.base+s=n)
theorem Split.has {n i:Nat}(hs:Split μ n i)(hr:μ.cf.Pairwise (· < ·)): μ.hasB n=true↔∃s,μ.cf[i]?=some s∧μ.base+s=n:=by
 rw [Lg.hasB,List.any_eq_true]
 constructor
 ·rintro ⟨s,h1,I⟩
  have I:μ.base+s=n:=by simpa using I
  obtain ⟨j,J⟩:=vh h1
  have wk:i≤j:=by
   rcases gZ j i with h | h
   ·have:=hs.2.1 j s h J; omega
   ·exact h
  by_cases he:i=j
  ·subst he; exact ⟨s,J,I⟩
  ·have Sc:=(List.getElem?_eq_some_iff.1 J).1
   have hi:μ.cf[i]?=some (μ.cf[i]'(by omega)):=aY _
   have h3:=hs.2.2 i _ (aD _) hi
   have h4:=AI hr (show i<j by omega) hi J
   omega
 ·rintro ⟨s,h1,I⟩
  exact ⟨s,bh h1,by simpa using I⟩
theorem IZ {i st:Nat}(I:μ.cf[i]?=some st): (cx μ.cf)[i]?=some (.int .i64 (st:Int)):=by simp [cx,I]
theorem Nz (hT:W told){n:Nat}(s:Sat h (bW q p μ::S))(I:μ.Ok)(hn:n<18446744073709551616): Call ⟨Tryz.prog,told⟩ 136 [.ptr q 0,.int .u64 (n:Int)] h fun v h'=>h'=h∧v=.bool (μ.hasB n):=by
 have s0:=s
 obtain ⟨bv,sv,s⟩:=fG.1 s
 have Mt:=I.many
 have GO:=I.size
 refine Call.of_wp (hT.free _ rfl) Tryz.func136 rfl rfl (zK 8 rfl (zc rfl (Ny hT s0 I hn) ?_))
 rintro v h' ⟨rfl,i,hi,rfl⟩
 have hh:=hi.has I.AG
 refine zk 3 rfl (WP.drawn [ak,ak,ak,ak,ak,ak,ak,ak,ak,ak,ak,ak,ak,ak,ak,ak,ak,ak,ak,ak,ak,ak,ak,ak,ak] rfl (by kernel_rfl) (by kernel_rfl) ?_)
 refine zM rfl (zM rfl (zN rfl (zF rfl (nD _ _) (zL rfl (s.ld (k:=0) rfl lS rfl) (zO rfl (aV rfl rfl rfl (s.iL (n:=μ.cf.length) (j:=2) rfl (by rw [iy,c6]) (by decide) dx)) ?_)))))
 by_cases Mn:i<μ.cf.length
 ·skip
  refine aB.yq rfl rfl rfl rfl (ag rfl rfl bf) (by simp; omega) ?_
  obtain ⟨st,J⟩:∃st,μ.cf[i]?=some st:=⟨_,aY Mn⟩
  have KK:=I.low st (bh J)
  obtain ⟨id,off,e1,e2⟩:=jK (P:=Tryz.prog) s (k:=2) rfl (IZ J) dx mh
  refine zM rfl (zM rfl (zN rfl (zF rfl (r9 _ _) (zL rfl (s.ld (k:=0) rfl mN rfl) (zM rfl (zN rfl (zF rfl (nD _ _) (zL rfl (s.ld (k:=0) rfl lS rfl) (zM rfl (zO rfl (dm (r:=.ptr id off) rfl rfl e1) (zL rfl (e2 _ eM) (aB.op rfl rfl rfl (by simp only [isEff,cZ]) (cH rfl (by exact jQ bN cZ (fX (by omega) (by omega)))) ?_))))))))))))
  refine zO rfl (ag rfl rfl (by exact bB (fX (by omega) (by omega)))) ?_
  refine zM rfl ?_
  by_cases he:μ.base+st=n
  ·skip
   refine aB.yq rfl rfl rfl rfl (ag rfl rfl gC) (by simp; omega) ?_
   refine zO rfl (nu rfl rfl) (zA rfl ?_)
   refine aB.nil ⟨⟨aa,aa,aa,aa,aa,aa,aa,aa,aa,aa,aa,aa,aa,aa,aa,aa,aa,aa,aa,aa,aa,aa,aa,aa,aa,aa⟩,?_⟩
   refine WP.ret ⟨aa,_,rfl,?_⟩
   exact ⟨rfl,by rw [hh.2 ⟨st,J,he⟩]⟩
  ·skip
   refine aB.tD rfl rfl rfl rfl (ag rfl rfl gC) (by simp; omega) ?_
   refine zO rfl (nu rfl rfl) (zA rfl ?_)
   refine aB.nil ⟨⟨aa,aa,aa,aa,aa,aa,aa,aa,aa,aa,aa,aa,aa,aa,aa,aa,aa,aa,aa,aa,aa,aa,aa,aa,aa,aa⟩,?_⟩
   refine WP.ret ⟨aa,_,rfl,?_⟩
   refine ⟨rfl,?_⟩
   cases hb:μ.hasB n with
   | false=>rfl
   | true =>
    obtain ⟨s',h1,h2⟩:=hh.1 hb
    rw [J] at h1; have:=bG h1; omega
 ·skip
  refine aB.tD rfl rfl rfl rfl (ag rfl rfl bf) (by simp; omega) ?_
  refine zM rfl (aB.no (e:=false) rfl rfl rfl rfl (aB.no (e:=false) rfl rfl rfl rfl (aB.no (e:=false) rfl rfl rfl rfl (aB.no (e:=false) rfl rfl rfl rfl (aB.no (e:=false) rfl rfl rfl rfl (aB.no (e:=false) rfl rfl rfl rfl (aB.no (e:=false) rfl rfl rfl rfl (aB.no (e:=false) rfl rfl rfl rfl (aB.no (e:=false) rfl rfl rfl rfl (aB.no (e:=false) rfl rfl rfl rfl (aB.no (e:=false) rfl rfl rfl rfl (aB.no (e:=false) rfl rfl rfl (by simp only [isEff,cZ]) ?_))))))))))))
  refine aB.no (e:=false) rfl rfl rfl rfl (aB.no (e:=false) rfl rfl rfl rfl (aB.no (e:=false) rfl rfl rfl rfl (zO rfl (pH rfl rfl) (zA rfl ?_))))
  refine aB.nil ⟨⟨aa,aa,aa,aa,aa,aa,aa,aa,aa,aa,aa,aa,aa,aa,aa,aa,aa,aa,aa,aa,aa,aa,aa,aa,aa,aa⟩,?_⟩
  refine WP.ret ⟨aa,_,rfl,?_⟩
  refine ⟨rfl,?_⟩
  cases hb:μ.hasB n with
  | false=>rfl
  | true =>
   obtain ⟨s',h1,h2⟩:=hh.1 hb
   have:=(List.getElem?_eq_some_iff.1 h1).1
   omega
theorem I0 (hT:W told){n:Nat}{δ:Dk}(s:Sat h (bW q p μ::bp p δ::S))(I:μ.Ok)(hf:δ.bL<4294967296): Call ⟨Tryz.prog,told⟩ 79 [.ptr q 0,.int .u64 (n:Int)] h fun v h' =>
  (n<μ.base+μ.forced∧v=.int .i64 0∧Sat h' (bW q p μ::bp p δ::S)) ∨
  (μ.base+μ.forced≤n∧δ.dead=true∧v=.int .i64 9∧Sat h' (bW q p μ::bp p δ::S)) ∨
  (μ.base+μ.forced≤n∧δ.dead=false∧δ.bL=0∧v=.int .i64 9∧Sat h' (bW q p μ::bp p δ.die::S)) ∨
  (μ.base+μ.forced≤n∧δ.dead=false∧δ.bL≠0∧v=.int .i64 0∧Sat h' (bW q p { μ with forced:=μ.b.length }::bp p { δ.gq with dW:=δ.log.length }::S)):=by
 have GO:=I.size
 have W5:=I.forced
 have s0:=s
 obtain ⟨bv,sv,s⟩:=fG.1 s
 refine Call.of_wp (hT.free _ rfl) Tryz.func79 rfl rfl (zK 9 rfl (zc rfl (GN hT s0 I.size I.forced) ?_))
 rintro v h' ⟨rfl,rfl⟩
 by_cases bk:n<μ.base+μ.forced
 ·skip
  refine zt rfl (ag rfl rfl bf) (by simp; omega) ?_
  exact zk 6 rfl (WP.ret ⟨aa,_,rfl,.inl ⟨bk,rfl,s0⟩⟩)
 ·have hle:μ.base+μ.forced≤n:=by omega
  refine zh rfl (ag rfl rfl bf) (by simp; omega) ?_
  refine zk 8 rfl (zf rfl (EZ _ _) (zl rfl (s.ld (k:=0) rfl rf rfl) (zc rfl (IS hT (s0.ae [1]) hf) ?_)))
  rintro v h (⟨J,rfl,s⟩ | ⟨J,h0,rfl,s⟩ | ⟨J,h0,rfl,s⟩)
  ·refine az.op rfl rfl rfl (eX rfl) ?_
   exact zk 4 rfl (zt rfl (ag rfl rfl aL) (rfl) (zk 7 rfl (WP.ret ⟨aa,_,rfl,.inr (.inl ⟨hle,J,rfl,s.ae [1]⟩)⟩)))
  ·skip
   exact zk 5 rfl (zt rfl (ag rfl rfl aL) (rfl) (zk 7 rfl (WP.ret ⟨aa,_,rfl,.inr (.inr (.inl ⟨hle,J,h0,rfl,s.ae [1]⟩))⟩)))
  ·skip
   obtain ⟨bv,sv,s⟩:=fG.1 (s.ae [1])
   refine zk 5 rfl (zh rfl (ag rfl rfl aL) (rfl) (zk 8 rfl (zf rfl (jI _ _) (zl rfl (s.ld (k:=0) rfl bK rfl) (zo rfl (aV rfl rfl rfl (aS aI (s.aH (k:=1) rfl (aR _ _)))) (zn rfl (zf rfl (Aw _ _) ?_)))))))
   refine zS rfl (by exact s.iw (k:=0) rfl mh rfl (by decide) rfl rfl) (fun h s => ?_)
   exact zk 5 rfl (WP.ret ⟨aa,_,rfl,.inr (.inr (.inr ⟨hle,J,h0,rfl,fG.2 ⟨bv,sv,s⟩⟩))⟩)
end
end Go.Proofs.YtefepnnfphdkpaaGreat.Am
