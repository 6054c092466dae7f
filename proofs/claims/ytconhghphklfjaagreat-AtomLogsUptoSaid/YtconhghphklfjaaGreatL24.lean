/- After a crash the log has the records of the groups that are there and no others, with their numbers and data; the conditions are those of the given statement, for arguments that a machine can hold. Part 24 of 54. -/
import Derived.Test.YtconhghphklfjaaGreatL22
import Derived.Test.YtconhghphklfjaaGreatL23
import Derived.Test.YtconhghphklfjaaGreatL16
import Derived.Test.YtconhghphklfjaaGreatL19
import Derived.Test.YtconhghphklfjaaGreatL21
namespace Go.Proofs.YtconhghphklfjaaGreat.Am
open Go Go.Maps Go.Sort Go.Shelf Go.RowKit
theorem Pc (m:Nat): AnyZI.SortsIn Tryz.prog Tryz.sorted50_ren Fence.wide m :=
 ⟨fun gL off cap U W hH I J=>callsIn_wide.2 (AnyM.slices_Sort_int Tryz.sort91 gL off cap U W hH I J),
  fun p cap W=>callsIn_wide.2 (AnyM.slices_Sort_int_none Tryz.sort91 p cap W)⟩
theorem wU {g:Nat}(eg:∀args w,(callFunc g args).run Tryz.prog w=.ok (.enter g args) w){Bm:Nat}{U:DataW Unit}{w:World}(kW:Maps.size U≤maxLen)(I:Maps.size U*8≤140737488355328)
 (RP:SeqGives Fence.wide 2 Tryz.prog g #[.pointer (some ⟨Bm,0,none⟩)] encZ (fun J=>J.Perm (intKeys U)) (Maps.size U) w):
  Calls Tryz.prog 50 #[.func (.func g) #[] #[.pointer (some ⟨Bm,0,none⟩)]] w fun e w'=>∃(v:Value) (J:List Int),e=.returned v∧J.Perm (intKeys U) ∧
   w'.ownsRow w.heap.size 3 1 v J.length ((J.mergeSort (fun x y=>decide (x≤y))).map encZ)∧(v=.slice none 0 0↔J=[])∧Below w.heap.size w w' :=
 (callsIn_wide (n:=5)).1 (AnyZI.sorted_in Tryz.sorted50 Fence.wide 5 trivial trivial trivial trivial rfl (by omega) (Pc _) (enters_of Tryz.func91 (by kernel_rfl) rfl) g _ trivial eg _ _ kW I _ RP)
def sR : List Nat:=[92,117,133]
theorem F7 : xL Tryz.prog 50 3 sR:=by
 intro g hg Bm b nn D0 w hB hm J U I
 simp only [sR,List.mem_cons,List.not_mem_nil,or_false] at hg
 rcases hg with rfl | rfl | rfl
 ·exact wU (enters_of Tryz.func92 (by kernel_rfl) rfl) U I (AnyZI.keys_gives (ρ:=Tryz.keys51_ren) { Tryz.keys51 with } Fence.wide _ trivial rfl (by omega) Bm b nn D0 w hB hm J)
 ·exact wU (enters_of Tryz.func117 (by kernel_rfl) rfl) U I (AnyZI.keys_gives (ρ:=Tryz.keys73_ren) { Tryz.keys73 with } Fence.wide _ trivial rfl (by omega) Bm b nn D0 w hB hm J)
 ·exact wU (enters_of Tryz.func133 (by kernel_rfl) rfl) U I (AnyZI.keys_gives (ρ:=Tryz.keys109_ren) { Tryz.keys109 with } Fence.wide _ trivial rfl (by omega) Bm b nn D0 w hB hm J)
end Go.Proofs.YtconhghphklfjaaGreat.Am
namespace Go.Proofs.YtconhghphklfjaaGreat.Am
open Go
def Ah : List Nat:=[67,135,136,121,120,84,100,88]
structure Std (told:Nat→Option (List V→H→Option (V×H))): Prop where
 free:∀f,inL Ah f=true→told f=none
 more:told 119=some toldMore
theorem wrap_u64 {n:Nat}(h:n<18446744073709551616): IntKind.wrap .u64 (n:Int)=(n:Int):=by
 simp only [IntKind.wrap,IntKind.bits,IntKind.signed,Bool.false_and,Bool.false_eq_true,if_false]
 omega
theorem wrap_u8 (n:Nat): IntKind.wrap .u8 (n:Int)=((n%256:Nat):Int):=by
 simp only [IntKind.wrap,IntKind.bits,IntKind.signed,Bool.false_and,Bool.false_eq_true,if_false]
 omega
def digits : Nat→Nat→List Nat
 | 0,n=>[n%128]
 | k+1,n=>if n<128 then [n] else (n%128+128)::digits k (n/128)
set_option maxRecDepth 10000 in
theorem Pd {n:Nat}(h:n<256): Nat.lor n 128=n%128+128:=by
 have:∀m:Fin 256,Nat.lor m.1 128=m.1%128+128:=by decide
 exact this ⟨n,h⟩
theorem DY {n:Nat}(h:n<256): intV .or .u8 (n:Int) 128=some (.int .u8 ((n%128+128:Nat):Int)):=by
 have I:((n:Int)%(2^(IntKind.u8).bits:Int)).toNat=n:=by simp only [IntKind.bits]; omega
 have J:((128:Int)%(2^(IntKind.u8).bits:Int)).toNat=128:=by simp [IntKind.bits]
 simp only [intV,bitsV,I,J,Pd h,wrap_u8]
 congr 2
 omega
theorem RQ {n:Nat}: shiftV .shr .u64 (n:Int) 7=some (.int .u64 ((n/128:Nat):Int)):=by
 simp only [shiftV,IntKind.bits]
 have:(Int.toNat 7)=7:=rfl
 simp [this,Int.fdiv_eq_ediv_of_nonneg]
section
variable {told:Nat→Option (List V→H→Option (V×H))}
noncomputable def Qk : Code:=unloop (unblk (leftC (bH ((Tryz.f135.body).getD .skip))))
theorem oQ {h:H}{n:Nat}: convV Tryz.prog h 35 5 (.int .u64 (n:Int))=some (.int .u8 ((n%256:Nat):Int),h):=by
 simp only [convV,Tryz.underlying35,Tryz.underlying5,wrap_u8]
theorem fY {k n:Nat}(h:n<128): digits k n=[n]:=by
 cases k with
 | zero=>simp [digits,Nat.mod_eq_of_lt h]
 | succ k=>simp [digits,h]
theorem vE {Q:Ex→List (Nat×V)→H→Prop}{E:List (Nat×V)}{h:H}{n:Nat}(U:n<128)(I:look E 1=some (.int .u64 (n:Int)))
 (J:Q (.exit 0) ((6,.bool false)::(5,.int .u64 (n:Int))::E) h): WP ⟨Tryz.prog,told⟩ 20 (.loop Qk) E h Q:=by
 refine WP.loop (WP.seq (WP.seq (WP.region rfl ?_)))
 refine zo rfl (aV I) (zo rfl (af (v:=.int .u64 (n:Int)) (u:=.int .u64 128) (r:=.bool false) rfl rfl (by simp only [binV,ikBeq,cond_true,intV]; congr 2; simp; omega)) ?_)
 exact ae.nil (WP.cond (t:=false) rfl (WP.exit J))
theorem BH : ∀(k n:Nat) (l:List Nat) (s:V) (h:H) (E:List (Nat×V)) (Q:Ex→List (Nat×V)→H→Prop),iC h→f_ h s l→n<128^(k+1)→k≤9→l.length+k+1≤140737488355328 →
  look E 0=some s→look E 1=some (.int .u64 (n:Int)) →
  (∀E' h' s' l' (m:Nat),look E' 0=some s'→look E' 1=some (.int .u64 (m:Int))→m<128→l'++[m]=l++digits k n→f_ h' s' l'→cJ (2*k) (rowIds s) h h'→(∀i∈rowIds s',i∈rowIds s∨h.next≤i)→Q (.exit 0) E' h') →
  WP ⟨Tryz.prog,told⟩ 20 (.loop Qk) E h Q:=by
 intro k
 induction k with
 | zero =>
  intro n l s h E Q hw hs hn _ _ h0 J hq
  have I:n<128:=by simpa using hn
  exact vE I J (hq _ h s l n h0 J I (by rw [fY I]) hs (cJ.refl hw _) (fun i hi=>.inl hi))
 | succ k ih =>
  intro n l s h E Q hw hs hn hk hl h0 J hq
  by_cases I:n<128
  ·exact vE I J (hq _ h s l n h0 J I (by rw [fY I]) hs ((cJ.refl hw _).mono (Nat.zero_le _) (fun _ h=>h)) (fun i hi=>.inl hi))
  ·have hd:n/128<128^(k+1):=by
    rw [Nat.div_lt_iff_lt_mul (by omega)]
    rw [Nat.pow_succ] at hn
    exact hn
   refine WP.loop (WP.seq (WP.seq (WP.region rfl ?_)))
   refine zo rfl (aV J) (zo rfl (af (v:=.int .u64 (n:Int)) (u:=.int .u64 128) (r:=.bool true) rfl rfl (by simp only [binV,ikBeq,cond_true,intV]; congr 2; simp; omega)) ?_)
   refine ae.nil (WP.cond (t:=true) rfl (WP.skip ?_))
   refine WP.block (WP.seq (WP.region rfl ?_))
   refine zo rfl (aV h0) (zo rfl (aV J) (zo rfl (bz (v:=.int .u64 (n:Int)) rfl oQ) (zo rfl (af (v:=.int .u8 ((n%256:Nat):Int)) (u:=.int .u8 128) (r:=.int .u8 ((n%256%128+128:Nat):Int)) rfl rfl (by simp only [binV,ikBeq,cond_true]; exact DY (by omega))) ?_)))
   refine ae.DJ (b:=n%256%128+128) rfl hw rfl rfl rfl rfl rfl rfl (by omega) (fun v h₁ b1 k1 f1 => ?_)
   have xm:f_ h₁ s l:=hs.bX hw k1 (fun i _=>List.not_mem_nil)
   refine ae.app (s:=s) (x:=v) rfl k1.wf rfl rfl rfl rfl rfl rfl rfl xm b1.view (by simp; omega) (fun v2 U b2 k2 f2 => ?_)
   have F8:cJ 2 (rowIds s) h U:=(k1.mono (Nat.le_refl _) (fun i hi=>by simp at hi)).trans k2 (fun i hi=>.inl hi)
   refine za rfl ?_
   refine ae.nil (WP.region rfl ?_)
   refine zo rfl (aV J) (zo rfl (af (v:=.int .u64 (n:Int)) (u:=.int .u64 7) (r:=.int .u64 ((n/128:Nat):Int)) rfl rfl (by simp only [binV]; exact RQ)) ?_)
   refine za rfl (zv ?_)
   refine ih (n/128) (l++[n%256%128+128]) v2 U _ Q F8.wf b2 hd (by omega) (by simp; omega) rfl rfl (fun E' h' s' l' m q1 q2 q3 q4 q5 q6 q7 => ?_)
   refine hq E' h' s' l' m q1 q2 q3 ?_ q5 ?_ (fun i hi => ?_)
   ·rw [q4]
    simp only [digits,if_neg I,List.append_assoc,List.singleton_append]
    congr 2
    omega
   ·exact (F8.trans q6 (fun i hi=>(f2 i hi).imp_right (fun h=>Nat.le_trans k1.le h))).mono (by omega) (fun i hi=>hi)
   ·rcases q7 i hi with h3 | h3
    ·exact (f2 i h3).imp_right (fun h=>Nat.le_trans k1.le h)
    ·exact .inr (Nat.le_trans F8.le h3)
theorem xM (hT:Std told){h:H}{s:V}{l:List Nat}{n k:Nat}(hw:iC h)(hs:f_ h s l)(hn:n<128^(k+1))(hk:k≤9)(hl:l.length+k+1≤140737488355328):
  Call ⟨Tryz.prog,told⟩ 135 [s,.int .u64 (n:Int)] h fun v h'=>f_ h' v (l++digits k n)∧cJ (2*k+2) (rowIds s) h h'∧∀i∈rowIds v,i∈rowIds s∨h.next≤i:=by
 refine Call.of_wp (hT.free _ rfl) Tryz.func135 rfl rfl ?_
 refine WP.seq (WP.region rfl (ae.op rfl rfl rfl (c_ rfl) (ae.nil ?_)))
 refine WP.seq (WP.block ?_)
 refine BH k n l s h _ _ hw hs hn hk hl rfl rfl (fun E' h' s' l' m q1 q2 q3 q4 q5 J q7 => ?_)
 have qH:l'.length=l.length+(digits k n).length-1:=by
  have:=congrArg List.length q4
  simp at this
  omega
 have U:∀(k n:Nat),(digits k n).length≤k+1:=by
  intro k
  induction k with
  | zero=>intro n; simp [digits]
  | succ k ih =>
   intro n
   unfold digits
   split
   ·simp
   ·simp only [List.length_cons]; have:=ih (n/128); omega
 have Vq:=U k n
 refine WP.seq (WP.region rfl ?_)
 refine zo rfl (aV q1) (zo rfl (aV q2) (zo rfl (bz (v:=.int .u64 (m:Int)) rfl oQ) ?_))
 refine ae.DJ (b:=m%256) rfl J.wf rfl rfl rfl rfl rfl rfl (by omega) (fun v h₁ b1 k1 f1 => ?_)
 have xm:f_ h₁ s' l':=q5.bX J.wf k1 (fun i _=>List.not_mem_nil)
 refine ae.app (s:=s') (x:=v) rfl k1.wf rfl rfl rfl rfl rfl rfl rfl xm b1.view (by simp; omega) (fun v2 HP b2 k2 f2 => ?_)
 refine za rfl ?_
 refine ae.nil (WP.ret ?_)
 refine ⟨trivial,v2,rfl,?_,?_,fun i hi => ?_⟩
 ·rw [Nat.mod_eq_of_lt (by omega),q4] at b2; exact b2
 ·refine ((J.trans k1 (fun i hi=>by simp at hi)).trans k2 (fun i hi => ?_)).mono (by omega) (fun i hi=>hi)
  rcases q7 i hi with I | I
  ·exact .inl I
  ·exact .inr I
 ·rcases f2 i hi with I | I
  ·exact q7 i I
  ·exact .inr (by have:=J.le; have:=k1.le; omega)
theorem Ai {h:H}{n:Nat}(I:n<18446744073709551616): convV Tryz.prog h 3 35 (.int .i64 (n:Int))=some (.int .u64 (n:Int),h):=by
 simp only [convV,Tryz.underlying3,Tryz.underlying35,wrap_u64 I]
theorem ey : ∀(k n:Nat),(digits k n).length≤k+1:=by
 intro k
 induction k with
 | zero=>intro n; simp [digits]
 | succ k I =>
  intro n
  unfold digits
  split
  ·simp
  ·simp only [List.length_cons]; have:=I (n/128); omega
theorem Ld (J:Std told){h:H}{s x:V}{l m:List Nat}{k:Nat}(hw:iC h)(hs:f_ h s l)(U:View h x m)(hd:∀i∈rowIds x,i∉rowIds s)(hn:m.length<128^(k+1))(hk:k≤9)(hl:l.length+k+1+m.length≤140737488355328):
  Call ⟨Tryz.prog,told⟩ 136 [s,x] h fun v h'=>f_ h' v (l++digits k m.length++m)∧cJ (2*k+3) (rowIds s) h h'∧∀i∈rowIds v,i∈rowIds s∨h.next≤i:=by
 refine Call.of_wp (J.free _ rfl) Tryz.func136 rfl rfl ?_
 refine WP.seq (WP.region rfl (ae.op rfl rfl rfl (c_ rfl) (ae.nil ?_)))
 refine WP.seq (WP.region rfl ?_)
 refine zm rfl (zm rfl (zo rfl (aL (v:=x) rfl rfl rfl U.len) (zo rfl (bz (v:=.int .i64 (m.length:Int)) rfl (Ai (by omega))) ?_)))
 refine ae.call rfl rfl rfl rfl rfl rfl rfl (xM J (k:=k) hw hs hn hk (by omega)) (fun v h₁ ⟨b1,k1,f1⟩ => ?_)
 refine zm rfl ?_
 have V1:=ey k m.length
 refine ae.app (s:=v) (x:=x) rfl k1.wf rfl rfl rfl rfl rfl rfl rfl b1 (U.bX hw k1 hd) (by simp; omega) (fun v2 HP b2 k2 f2 => ?_)
 refine ae.op rfl rfl rfl (c_ rfl) (ae.nil (WP.ret ?_))
 refine ⟨trivial,v2,rfl,b2,(k1.trans k2 f1).mono (by omega) (fun i hi=>hi),fun i hi => ?_⟩
 rcases f2 i hi with I | I
 ·exact f1 i I
 ·exact .inr (Nat.le_trans k1.le I)
def le : Nat→Nat→List Nat
 | 0,_=>[]
 | k+1,n=>(n%256)::le k (n/256)
theorem cM : ∀(k n:Nat),(le k n).length=k:=by
 intro k
 induction k with
 | zero=>intro n; rfl
 | succ k I=>intro n; simp [le,I]
theorem DZ : ∀(k n:Nat),∀b∈le k n,b<256:=by
 intro k
 induction k with
 | zero=>intro n b I; cases I
 | succ k J =>
  intro n b I
  rcases List.mem_cons.1 I with rfl | I
  ·omega
  ·exact J _ b I
noncomputable def Tr : Code:=unloop (unblk (bH (leftC (bH ((Tryz.f67.body).getD .skip)))))
theorem RR {n i:Nat}(hi:i≤8): shiftV .shr .u64 (n:Int) ((8*i:Nat):Int)=some (.int .u64 ((n/256^i:Nat):Int)):=by
 simp only [shiftV,IntKind.bits,Int.toNat_natCast]
 rw [show min (8*i) 64=8*i by omega,show decide (((8*i:Nat):Int)<0)=false by simp; omega,cond_false]
 congr 2
 rw [Int.fdiv_eq_ediv_of_nonneg _ (Int.pow_nonneg (by omega))]
 rw [show (256:Nat)^i=2^(8*i) by rw [Nat.pow_mul]]
 push_cast
 rfl
theorem Iq {n size:Nat}(ee:size≤8): ∀(j i:Nat) (l:List Nat) (s:V) (h:H) (E:List (Nat×V)) (Q:Ex→List (Nat×V)→H→Prop),iC h→f_ h s l→i+j=size→l.length+j≤140737488355328 →
  look E 0=some s→look E 2=some (.int .u64 (n:Int))→look E 8=some (.int .i64 (size:Int))→look E 9=some (.int .i64 (i:Int)) →
  (∀E' h' s',look E' 0=some s'→f_ h' s' (l++le j (n/256^i))→cJ (2*j) (rowIds s) h h'→(∀i∈rowIds s',i∈rowIds s∨h.next≤i)→Q (.exit 0) E' h') →
  WP ⟨Tryz.prog,told⟩ 22 (.loop Tr) E h Q:=by
 intro j
 induction j with
 | zero =>
  intro i l s h E Q hw hs hi _ h0 h2 h8 U hq
  refine WP.loop (WP.seq (WP.region rfl ?_))
  refine zo rfl (af (v:=.int .i64 (i:Int)) (u:=.int .i64 (size:Int)) (r:=.bool false) U h8 (by simp only [binV,ikBeq,cond_true,intV]; congr 2; simp; omega)) ?_
  refine ae.nil (WP.seq (WP.cond (t:=false) rfl (WP.exit ?_)))
  exact hq _ h s h0 (by simpa [le] using hs) (cJ.refl hw _) (fun i hi=>.inl hi)
 | succ j ih =>
  intro i l s h E Q hw hs hi hl h0 h2 h8 U hq
  refine WP.loop (WP.seq (WP.region rfl ?_))
  refine zo rfl (af (v:=.int .i64 (i:Int)) (u:=.int .i64 (size:Int)) (r:=.bool true) U h8 (by simp only [binV,ikBeq,cond_true,intV]; congr 2; simp; omega)) ?_
  refine ae.nil (WP.seq (WP.cond (t:=true) rfl (WP.skip ?_)))
  refine WP.seq (WP.block (WP.seq (WP.region rfl ?_)))
  refine zo rfl (aV U) ?_
  refine ae.op rfl rfl rfl (c_ rfl) (ae.nil (WP.region rfl ?_))
  refine zo rfl (aV h0) (zo rfl (aV h2) (zm rfl ?_))
  refine ae.op rfl rfl rfl (af (v:=.int .i64 8) (u:=.int .i64 (i:Int)) (r:=.int .i64 ((8*i:Nat):Int)) rfl rfl (by
   simp only [binV,ikBeq,cond_true,intV]
   rw [show (8:Int)*(i:Int)=((8*i:Nat):Int) by push_cast; rfl,wrap_i64 (by omega)])) ?_
  refine zo rfl (af (v:=.int .u64 (n:Int)) (u:=.int .i64 ((8*i:Nat):Int)) (r:=.int .u64 ((n/256^i:Nat):Int)) rfl rfl (by simp only [binV]; exact RR (by omega))) ?_
  refine zo rfl (bz (v:=.int .u64 ((n/256^i:Nat):Int)) rfl oQ) ?_
  refine ae.DJ (b:=n/256^i%256) rfl hw rfl rfl rfl rfl rfl rfl (by omega) (fun v h₁ b1 k1 f1 => ?_)
  have xm:f_ h₁ s l:=hs.bX hw k1 (fun i _=>List.not_mem_nil)
  refine ae.app (s:=s) (x:=v) rfl k1.wf rfl rfl rfl rfl rfl rfl rfl xm b1.view (by simp; omega) (fun v2 I b2 k2 f2 => ?_)
  have J:cJ 2 (rowIds s) h I:=(k1.mono (Nat.le_refl _) (fun i hi=>by simp at hi)).trans k2 (fun i hi=>.inl hi)
  refine ae.op rfl rfl rfl (c_ rfl) (ae.nil (WP.region rfl ?_))
  refine zo rfl (af (v:=.int .i64 (i:Int)) (u:=.int .i64 1) U rfl (by simp only [binV,ikBeq,cond_true]; exact rA (by omega))) ?_
  refine ae.op rfl rfl rfl (aV rfl) (ae.nil ?_)
  refine ih (i+1) (l++[n/256^i%256]) v2 I _ Q J.wf b2 (by omega) (by simp; omega) rfl h2 h8 rfl (fun E' h' s' q1 q2 q3 q4 => ?_)
  refine hq E' h' s' q1 ?_ ?_ (fun i hi => ?_)
  ·have e1:n/256^(i+1)=n/256^i/256:=by rw [Nat.pow_succ,Nat.div_div_eq_div_mul]
   rw [e1] at q2
   simpa [le] using q2
  ·exact (J.trans q3 (fun i hi=>(f2 i hi).imp_right (fun h=>Nat.le_trans k1.le h))).mono (by omega) (fun i hi=>hi)
  ·rcases q4 i hi with h3 | h3
   ·exact (f2 i h3).imp_right (fun h=>Nat.le_trans k1.le h)
   ·exact .inr (Nat.le_trans J.le h3)
theorem F9 (J:Std told){h:H}{s:V}{l:List Nat}{n size:Nat}(hw:iC h)(hs:f_ h s l)(I:size≤8)(U:l.length+size≤140737488355328):
  Call ⟨Tryz.prog,told⟩ 67 [s,.int .i64 (size:Int),.int .u64 (n:Int)] h fun v h'=>f_ h' v (l++le size n)∧cJ (2*size) (rowIds s) h h'∧∀i∈rowIds v,i∈rowIds s∨h.next≤i:=by
 refine Call.of_wp (J.free _ rfl) Tryz.func67 rfl rfl ?_
 refine WP.seq (WP.region rfl (ae.op rfl rfl rfl (c_ rfl) (ae.nil ?_)))
 refine WP.seq (WP.seq (WP.region rfl ?_))
 refine zm rfl ?_
 refine ae.op rfl rfl rfl (aV rfl) (ae.nil (WP.block ?_))
 refine Iq I size 0 l s h _ _ hw hs (by omega) U rfl rfl rfl rfl (fun E' h' s' q1 q2 q3 q4 => ?_)
 refine WP.seq (WP.region rfl ?_)
 refine zo rfl (aV q1) ?_
 refine ae.op rfl rfl rfl (c_ rfl) (ae.nil (WP.ret ?_))
 exact ⟨trivial,s',rfl,by simpa using q2,q3,q4⟩
theorem D1 : ∀(l:List Nat),(∀b∈l,b<256)→bytesIn (ofBytes l)=some l:=by
 intro l
 induction l with
 | nil=>intro _; rfl
 | cons b l I =>
  intro h
  have U:=h b List.mem_cons_self
  have:=I (fun c J=>h c (List.mem_cons_of_mem _ J))
  show bytesIn (.int .u8 (b:Int)::ofBytes l)=_
  simp only [bytesIn,this]
  rw [show (decide ((0:Int)≤(b:Int))&&decide ((b:Int)<256))=true by simp; omega]
  rfl
def uq (s:Nat)(l:List Nat): Nat:=Nat.xor (crcL (Nat.xor s 4294967295) l) 4294967295
theorem wV {s:Nat}{l:List Nat}(hs:s<4294967296)(I:∀b∈l,b<256): uq s l<4294967296:=jV (wI l _ (jV hs (by omega)) I) (by omega)
theorem CO (U:Std told){h:H}{x:V}{l:List Nat}{s:Nat}(J:View h x l)(hl:l.length≤4611686018427387904)(hs:s<4294967296):
  fb ⟨Tryz.prog,told⟩ 119 [.int .u32 (s:Int),x] h (.int .u32 (uq s l:Nat)) h:=by
 refine fb.told U.more Tryz.func119 rfl ?_
 have I:=J
 obtain ⟨hb,I⟩:=I
 rcases I with ⟨rfl | ⟨ea,rfl⟩,rfl⟩ | ⟨id,off,cap,n,cs,st,rfl,hg,h1,h2,h3,h4⟩
 ·simp only [toldMore]
  rw [show (decide ((0:Int)≤(s:Int))&&decide ((s:Int)<4294967296))=true by simp; omega]
  rfl
 ·simp only [toldMore]
  rw [show (decide ((0:Int)≤(s:Int))&&decide ((s:Int)<4294967296))=true by simp; omega]
  rfl
 ·simp only [toldMore]
  rw [show (decide ((0:Int)≤(s:Int))&&decide ((s:Int)<4294967296)&&Nat.ble l.length 4611686018427387904)=true by simp [ay]; omega,cond_true,(View.rdN J).2]
  simp only [D1 l hb]
  rfl
theorem Pe (I:Std told){h:H}{x:V}{l:List Nat}(J:View h x l)(U:l.length≤4611686018427387904):
  Call ⟨Tryz.prog,told⟩ 84 [x] h fun v h'=>v=.int .u32 (uq 0 l:Nat)∧h'=h:=by
 refine Call.of_wp (I.free _ rfl) Tryz.func84 rfl rfl ?_
 refine WP.seq (WP.region rfl (ae.op rfl rfl rfl (c_ rfl) (ae.nil ?_)))
 refine WP.seq (WP.region rfl ?_)
 refine zm rfl ?_
 refine ae.call (tj:=fun v h'=>v=.int .u32 (uq 0 l:Nat)∧h'=h) rfl rfl rfl rfl rfl rfl rfl ⟨_,_,CO (s:=0) I J U (by omega),rfl,rfl⟩ (fun v h₁ ⟨e1,e2⟩ => ?_)
 subst e1; subst e2
 exact ae.op rfl rfl rfl (c_ rfl) (ae.nil (WP.ret ⟨trivial,_,rfl,rfl,rfl⟩))
def mZ (aD:Nat)(l:List Nat): Nat:=uq (uq 0 (le 8 aD)) l
theorem Aj {aD:Nat}{l:List Nat}(I:∀b∈l,b<256): mZ aD l<4294967296:=wV (wV (by omega) (DZ 8 aD)) I
theorem F_ (J:Std told){h:H}{x:V}{l:List Nat}{aD:Nat}(hw:iC h)(hx:View h x l)(hl:l.length≤4611686018427387904):
  Call ⟨Tryz.prog,told⟩ 100 [.int .u64 (aD:Int),x] h fun v h'=>v=.int .u32 (mZ aD l:Nat)∧cJ 16 [] h h':=by
 refine Call.of_wp (J.free _ rfl) Tryz.func100 rfl rfl ?_
 refine WP.seq (WP.region rfl (ae.op rfl rfl rfl (c_ rfl) (ae.nil ?_)))
 refine WP.seq (WP.region rfl ?_)
 refine zm rfl ?_
 refine ae.call rfl rfl rfl rfl rfl rfl rfl (F9 (size:=8) (s:=.aH) (l:=[]) (n:=aD) J hw ⟨by simp,.inl ⟨rfl,rfl⟩⟩ (by omega) (by simp)) (fun v h₁ ⟨U,k1,f1⟩ => ?_)
 rw [List.nil_append] at U
 refine ae.call rfl rfl rfl rfl rfl rfl rfl (Pe J U.view (by rw [cM]; omega)) (fun v2 I ⟨e1,e2⟩ => ?_)
 subst e1; subst e2
 refine zm rfl ?_
 refine ae.call (tj:=fun v h'=>v=.int .u32 (mZ aD l:Nat)∧h'=I) rfl rfl rfl rfl rfl rfl rfl
  ⟨_,_,CO (s:=uq 0 (le 8 aD)) J (hx.bX hw k1 (fun i _ hi=>by simp [rowIds] at hi)) hl (wV (by omega) (DZ 8 aD)),rfl,rfl⟩ (fun v3 Le ⟨e3,e4⟩ => ?_)
 subst e3; subst e4
 exact ae.op rfl rfl rfl (c_ rfl) (ae.nil (WP.ret ⟨trivial,_,rfl,rfl,k1.mono (Nat.le_refl _) (fun i hi=>by simp [rowIds] at hi)⟩))
end
end Go.Proofs.YtconhghphklfjaaGreat.Am
namespace Go.Proofs.YtconhghphklfjaaGreat.Am
open Go
def Ga : List Nat:=[11,119,50,101,75,76]
structure W (told:Nat→Option (List V→H→Option (V×H))): Prop where
 free:∀f,inL Ga f=false→told f=none
 more:told 119=some toldMore
 sorted:told 50=some (toldSorted sR)
theorem W.Kf {told:Nat→Option (List V→H→Option (V×H))}(I:W told): Std told:=by
 refine ⟨fun f J=>I.free f ?_,I.more⟩
 have:∀f∈Ah,inL Ga f=false:=by decide
 exact this f (by rw [E9] at J; simpa using J)
def hO (v:V): Option (List Nat)→ah
 | none=>.pu (v=.aH)
 | some b=>.an (.pu (v≠.aH)) (.bp v b)
theorem aq.hO (v:V)(o:Option (List Nat)): aq (Am.hO v o):=by
 cases o with
 | none=>exact aq.pu _
 | some b=>exact aq.an (aq.pu _) (aq.bp _ _)
def each {α:Type}(f:V→α→ah): List V→List α→ah
 | [],[]=>.pu True
 | v::l,x::m=>.an (f v x) (each f l m)
 | _,_=>.pu False
theorem aq.each {α:Type}{f:V→α→ah}(I:∀v x,aq (f v x)): ∀(l:List V) (m:List α),aq (Am.each f l m):=by
 intro l
 induction l with
 | nil=>intro m; cases m <;> exact aq.pu _
 | cons v l J=>intro m; cases m with
  | nil=>exact aq.pu _
  | cons x m=>exact aq.an (I _ _) (J m)
section
variable {α:Type} {f:V→α→ah} {a b:PM}
theorem nU : ∀ {l:List V} {m:List α},(each f l m).p a b→l.length=m.length:=by
 intro l
 induction l with
 | nil=>intro m h; cases m with
  | nil=>rfl
  | cons x m=>exact h.elim
 | cons v l I=>intro m h; cases m with
  | nil=>exact h.elim
  | cons x m=>simp only [List.length_cons,I h.2]
theorem Ak : ∀ {l:List V} {m:List α} {i:Nat} {v:V} {x:α},(each f l m).p a b→l[i]?=some v→m[i]?=some x→(f v x).p a b:=by
 intro l
 induction l with
 | nil=>intro m i v x h I; simp at I
 | cons u l U=>intro m i v x h I J; cases m with
  | nil=>exact h.elim
  | cons y m =>
   cases i with
   | zero=>simp at I J; subst I; subst J; exact h.1
   | succ i=>simp at I J; exact U h.2 I J
theorem ur : ∀ {l:List V} {m:List α} {i:Nat} {v:V} {x:α},(each f l m).p a b→(f v x).p a b→(each f (l.set i v) (m.set i x)).p a b:=by
 intro l
 induction l with
 | nil=>intro m i v x h I; cases m with
  | nil=>exact h
  | cons x m=>exact h.elim
 | cons u l J=>intro m i v x h I; cases m with
  | nil=>exact h.elim
  | cons y m =>
   cases i with
   | zero=>exact ⟨I,h.2⟩
   | succ i=>exact ⟨h.1,J h.2 I⟩
end
abbrev Wr := Nat×List Nat
structure Dk where
 room:Nat
 aj:List (Option (List Nat))
 waiting:List Wr
 now:List (Int×List Nat)
 log:List Nat
 aT:Nat
 mark:List Nat
 aJ:Int
 dead:Bool
 gQ:Option Wr
 tail:List Nat
def lI (room:Nat)(pg wt I lg:V)(J:Nat)(mk:V)(U ops:Int)(dead:Bool)(tn tl:V): List V :=
 [.int .i64 (room:Int),pg,wt,I,lg,.int .i64 (J:Int),mk,.int .i64 U,.int .i64 ops,.bool dead,tn,tl]
def nV : List V→List Wr→ah
 | [],[]=>.pu True
 | p::v::l,x::m=>.an (.an (.pu (p=.int .i64 (x.1:Int)∧v≠.aH)) (.bp v x.2)) (nV l m)
 | _,_=>.pu False
theorem aq.wr : ∀(m:List Wr) (l:List V),aq (nV l m):=by
 intro m
 induction m with
 | nil=>intro l; cases l with
  | nil=>exact aq.pu _
  | cons v l=>cases l <;> exact aq.pu _
 | cons x m I=>intro l; cases l with
  | nil=>exact aq.pu _
  | cons v l=>cases l with
   | nil=>exact aq.pu _
   | cons u l=>exact aq.an (aq.an (aq.pu _) (aq.bp _ _)) (I l)
theorem Lf {a b:PM}: ∀ {m:List Wr} {l:List V} {x:Wr} {v:V},(nV l m).p a b→v≠.aH→(ah.bp v x.2).p a b→(nV (l++[.int .i64 (x.1:Int),v]) (m++[x])).p a b:=by
 intro m
 induction m with
 | nil=>intro l x v h I J; cases l with
  | nil=>exact ⟨⟨⟨rfl,I⟩,J⟩,trivial⟩
  | cons u l=>cases l <;> exact h.elim
 | cons y m U=>intro l x v h I J; cases l with
  | nil=>exact h.elim
  | cons u l=>cases l with
   | nil=>exact h.elim
   | cons w l=>exact ⟨h.1,U h.2 I J⟩
theorem sS {a b:PM}: ∀ {m:List Wr} {l:List V},(nV l m).p a b→l.length=m.length*2:=by
 intro m
 induction m with
 | nil=>intro l h; cases l with
  | nil=>rfl
  | cons u l=>cases l <;> exact h.elim
 | cons y m I=>intro l h; cases l with
  | nil=>exact h.elim
  | cons u l=>cases l with
   | nil=>exact h.elim
   | cons w l=>have:=I h.2; simp only [List.length_cons]; omega
def j4 (v:V)(m:List (Option (List Nat))): ah:=xs fun id:Nat=>xs fun cs:List V=>star [.pu (v=.sl id 0 m.length (.exact m.length)),pt id (.cells m.length cs false),each hO cs m]
def sU (v:V)(m:List Wr): ah:=xs fun cs:List V=>star [.arr 2 v cs,nV cs m]
def sV (v:V): Option Wr→ah
 | none=>.pu (v=.bI)
 | some x=>xs fun id:Nat=>xs fun u:V=>star [.pu (v=.ptr id 0),pt id (.cells 2 [.int .i64 (x.1:Int),u] false),.bp u x.2]
def az (p:Nat)(δ:Dk): ah:=xs fun pg:V=>xs fun wt:V=>xs fun I:V=>xs fun lg:V=>xs fun mk:V=>xs fun J:V=>xs fun U:V=>xs fun ops:Int =>
 star [pt p (.cells 12 (lI δ.room pg wt I lg δ.aT mk δ.aJ ops δ.dead J U) false),j4 pg δ.aj,sU wt δ.waiting,fE (fun v b=>.bp v b) I δ.now,a_ lg δ.log,tP mk δ.mark,sV J δ.gQ,tP U δ.tail]
section
variable {h:H} {S:List ah} {p:Nat} {δ:Dk}
theorem aQ : Sat h (az p δ::S)↔∃pg wt I lg mk J U ops,Sat h (pt p (.cells 12 (lI δ.room pg wt I lg δ.aT mk δ.aJ ops δ.dead J U) false)::j4 pg δ.aj::sU wt δ.waiting::fE (fun v b=>.bp v b) I δ.now::a_ lg δ.log::tP mk δ.mark::sV J δ.gQ::tP U δ.tail::S):=by
 simp only [az,eA,cG,List.cons_append,List.nil_append]
theorem dP {v:V}{m:List (Option (List Nat))}: Sat h (j4 v m::S)↔∃id cs,v=.sl id 0 m.length (.exact m.length)∧Sat h (pt id (.cells m.length cs false)::each hO cs m::S):=by
 simp only [j4,eA,cG,List.cons_append,List.nil_append,cL]
theorem iM {v:V}{m:List Wr}: Sat h (sU v m::S)↔∃cs,Sat h (.arr 2 v cs::nV cs m::S):=by
 simp only [sU,eA,cG,List.cons_append,List.nil_append]
end
section
variable {told:Nat→Option (List V→H→Option (V×H))} {h:H} {S:List ah} {X:ah} {v:V} {l:List Nat}
def rS (s:Nat)(l:List Nat): Nat:=Nat.xor (crcL (Nat.xor s 4294967295) l) 4294967295
theorem uu {s:Nat}{l:List Nat}(hs:s<4294967296)(I:∀b∈l,b<256): rS s l<4294967296:=jV (wI _ _ (jV hs (by omega)) I) (by omega)
theorem Lh (hT:W told){k s:Nat}(sa:Sat h S)(hk:getA S k=some X)(hX:bU X (bZ v l))(hs:s<4294967296)(hl:l.length≤4611686018427387904):
  Call ⟨Tryz.prog,told⟩ 119 [.int .u32 (s:Int),v] h fun r h'=>r=.int .u32 (rS s l:Nat)∧h'=h:=by
 have J:=sa.ax hk hX
 refine ⟨_,_,fb.told hT.more Tryz.func119 rfl ?_,rfl,rfl⟩
 have I:nL (s:Int) l=.int .u32 (rS s l:Nat):=by simp only [nL,rS,Int.toNat_natCast]
 have U:=J
 rcases U.2 with ⟨rfl | ⟨ea,rfl⟩,rfl⟩ | ⟨id,off,cap,n,cs,st,rfl,_⟩
 ·simp only [toldMore]
  rw [show (decide ((0:Int)≤(s:Int))&&decide ((s:Int)<4294967296))=true by simp; omega,cond_true,I]
 ·simp only [toldMore]
  rw [show (decide ((0:Int)≤(s:Int))&&decide ((s:Int)<4294967296))=true by simp; omega,cond_true,I]
 ·simp only [toldMore]
  rw [show (decide ((0:Int)≤(s:Int))&&decide ((s:Int)<4294967296)&&Nat.ble l.length 4611686018427387904)=true by rw [ay.2 hl]; simp; omega,cond_true,J.rdN.2]
  simp only
  have:∀l:List Nat,(∀b∈l,b<256)→bytesIn (ofBytes l)=some l:=by
   intro l
   induction l with
   | nil=>intro _; rfl
   | cons b l ih =>
    intro hb
    have h1:=ih (fun x hx=>hb x (List.mem_cons_of_mem _ hx))
    simp only [ofBytes,List.map_cons] at h1 ⊢
    simp only [bytesIn,h1]
    have Ci:=hb b List.mem_cons_self
    rw [show (decide (0≤(b:Int))&&decide ((b:Int)<256))=true by simp; omega,cond_true]
    rfl
  rw [this l J.1]
  simp only [I]
end
end Go.Proofs.YtconhghphklfjaaGreat.Am
